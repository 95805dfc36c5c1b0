/-
  The reference's bytes of an item: ItemBytes.
-/
import Derived.Test.YtlgkcpgbmobacaaRefItem
import Derived.Test.YtlgkcpgbmobacaaEvMath2
import Derived.Test.YtlgkcpgbmobacaaFlat
import Derived.Test.YtlgkcpgbmobacaaEvRead3
import Derived.Deep.RegionHeldLaw
import Derived.Deep.DrawnRows
import Derived.Deep.CutBlock
set_option linter.unusedSimpArgs false
set_option linter.unusedVariables false
namespace Go.Proofs.Ytlgkcpgbmobacaa
open Go.RowKit

/-- bytes that were made, apart from the row v that grows -/
structure Res (w : World) (v : Value) (A : Option Addr) (l : List UInt8) : Prop where
  rd : RB w A l
  lt : ∀ ad, A = some ad → ad.block < w.heap.size
  ne : ∀ ad, A = some ad → v.ownBlock ≠ some ad.block
theorem Res.below {w w' : World} {v : Value} {A : Option Addr} {l : List UInt8} (h : Res w v A l) (hb : Below w.heap.size w w') : Res w' v A l := ⟨h.rd.below hb, fun ad e => Nat.lt_of_lt_of_le (h.lt ad e) hb.size, h.ne⟩
/-- what a call made is apart from a row that was there -/
theorem Res.new {w w' : World} {B : Nat} {v u : Value} {e : TypeId} {cs : List Value} {l : List UInt8} (hv : Own w B e v cs) (ho : Own w' w.heap.size 5 u (l.map eb)) : ∃ A c, u = .slice A l.length c ∧ Res w' v A l := by
  have hlt := ho.lt
  have hvl := hv.lt
  obtain ⟨A, c, rfl, hc, hr⟩ := ho.bytes
  refine ⟨A, c, rfl, hr, fun ad e => ?_, fun ad e hk => ?_⟩
  · subst e
    have h1 : (Value.slice (some ad) l.length c).ownBlock = some ad.block := rfl
    exact (hlt _ h1).2
  · subst e
    have h1 : (Value.slice (some ad) l.length c).ownBlock = some ad.block := rfl
    have h2 := (hlt _ h1).1
    have h3 := (hvl _ hk).2
    omega
theorem Own.rebase {w : World} {B B' : Nat} {e : TypeId} {v : Value} {cs : List Value} (h : Own w B e v cs) (hB : ∀ k, v.ownBlock = some k → B' ≤ k) : Own w B' e v cs := by
  obtain ⟨h1, h2⟩ := h
  refine ⟨h1, h2.imp id ?_⟩
  rintro ⟨g, cap, cur, rfl, hg, r⟩
  exact ⟨g, cap, cur, rfl, hB g rfl, r⟩
/-- the row takes such bytes in; others stay apart -/
theorem append_res {w : World} {B : Nat} {v : Value} {a : List UInt8} (hv : Own w B 5 v (a.map eb)) {A : Option Addr} {n : Nat} (c : Nat) {l : List UInt8} (h : Res w v A l) (hn : l.length = n) (hne : 0 < l.length) (hl : a.length + l.length ≤ 140737488355328) (hB : B ≤ w.heap.size) :
    ∃ v' w2, Hid ((Builtin.append_ #[24, 24] 24 #[v, .slice A n c]).run Try.prog w = .ok v' w2) ∧ Own w2 B 5 v' ((a ++ l).map eb) ∧ Below B w w2 ∧ Hid (∀ A2 l2, Res w v A2 l2 → Res w2 v' A2 l2) := by
  obtain ⟨ad, rfl⟩ := h.rd.some_of hne
  · obtain ⟨v', w2, HR, ho, hg, hloc⟩ := append_bytes_at w v a (hv.rebase fun _ _ => Nat.zero_le _) ad n c l hn h.rd hl
    have hvl := hv.lt
    have ho' : Own w2 B 5 v' ((a ++ l).map eb) := ho.rebase fun k hk => by
      rcases hloc with e | e
      · exact (hvl k (e ▸ hk)).1
      · rw [e] at hk; cases hk; exact hB
    refine ⟨v', w2, HR, ho', grown_below hg hv hB, fun A2 l2 h2 => ⟨?_, fun ad2 e => Nat.lt_of_lt_of_le (h2.lt ad2 e) hg.size, fun ad2 e hk => ?_⟩⟩
    · exact h2.rd.kp (kp_grown hg) fun ad2 e => h2.ne ad2 e
    · rcases hloc with e1 | e1
      · exact h2.ne ad2 e (e1 ▸ hk)
      · rw [e1] at hk
        have h3 := h2.lt ad2 e
        have h4 : w.heap.size = ad2.block := Option.some.inj hk
        omega
theorem num_pos (n : Nat) : 0 < (num n).length := by
  unfold num; split <;> simp

/-- the step of an append, the slot written out -/
theorem step_append_dst {P : Program} {w : World} {ops : Array Oper} {o : Oper} {a : Act} {K : Act → World → Prop} {Q : Exit → Act → World → Prop} {E : Prop} {d : Nat} (hgd : o.guard = none) (hd : o.dst = some d) (s x : Operand) (t u : TypeId)
    (ho : o.op = .call { callee := .builtin .append, args := #[s, x], argTypes := #[t, u] }) (v vx v' : Value) (w' : World) (hs : a.eval s = v) (hx : a.eval x = vx)
    (hrun : (Builtin.append_ #[t, u] o.type #[v, vx]).run P w = .ok v' w') (h : K (a.put (some d) v') w') :
    if Region.wanted o (yielded ops a.tmps) = true then Oper.wp P o a w K Q else E := step_append_run hgd s x t u ho v vx v' w' hs hx hrun (by rw [hd]; exact h)
theorem lit_own (W : World) {B : Nat} (hB : B ≤ W.heap.size) (x : UInt8) (n : Int) (hn : (x.toNat : Int) = n) : Own (W.alloc (.cells #[.int .u8 n] 5)) B 5 (.slice (some ⟨W.heap.size, 0, none⟩) 1 1) ([x].map eb) := by
  subst hn
  exact Own.lit W B 5 [eb x] hB (by unfold maxLen; simp)
theorem res_lit {w' : World} {B : Nat} {u : Value} {l : List UInt8} (ho : Own w' B 5 u (l.map eb)) (o : Obj) : ∃ A c, u = .slice A l.length c ∧ Res (w'.alloc o) (.slice (some ⟨w'.heap.size, 0, none⟩) 1 1) A l := by
  have hlt := ho.lt
  obtain ⟨A, c, rfl, hc, hr⟩ := ho.bytes
  have hs : (w'.alloc o).heap.size = w'.heap.size + 1 := by simp
  refine ⟨A, c, rfl, hr.below (bal (Below.refl _ _) _), fun ad e => ?_, fun ad e hk => ?_⟩
  · subst e
    have := (hlt _ (rfl : (Value.slice (some ad) l.length c).ownBlock = some ad.block)).2
    omega
  · subst e
    have := (hlt _ (rfl : (Value.slice (some ad) l.length c).ownBlock = some ad.block)).2
    have h2 : w'.heap.size = ad.block := Option.some.inj hk
    omega

-- PRINTED BY genrefbytes.py FROM HERE

set_option maxRecDepth 100000 in
set_option maxHeartbeats 8000000 in
theorem ref_bytes0 (op : Int) (o1 : 1 ≤ op) (o8 : op ≤ 8) (u5 : op ≠ 5) (u3 : op ≠ 3) (u4 : op ≠ 4) (path to_ : List UInt8) (off size : Int) (data : Nat) (A5 : Option Addr) (c5 : Nat) (A6 : Option Addr) (c6 : Nat) (m6 : Nat) (w : World) (hp : path.length ≤ 64)  :
    Calls Try.prog 45 #[.agg #[.int .i64 op, .string ⟨path.toArray⟩, .string ⟨to_.toArray⟩, .int .i64 off, .int .i64 size, .slice A5 data c5, .slice A6 m6 c6]] w fun e w' => ∃ v, e = .returned v ∧ Own w' w.heap.size 5 v (([UInt8.ofNat op.toNat] ++ (num path.length ++ path)).map eb) ∧ Below w.heap.size w w' := by
  have t5 : (op == 5) = false := beq_eq_false_iff_ne.2 u5
  have t3 : (op == 3) = false := beq_eq_false_iff_ne.2 u3
  have t4 : (op == 4) = false := beq_eq_false_iff_ne.2 u4
  have HT := Lib.hid fun W => ref_text path (by omega) W
  have hln := num_10 path.length (by omega)
  have hby : ((UInt8.ofNat (Int.toNat op)).toNat : Int) = op := by rw [UInt8.toNat_ofNat']; omega
  have HBY := Lib.hid hby
  have hwr : IntKind.u8.wrap op = op := by rw [IntKind.wrap_u8]; omega
  obtain ⟨by_, hby_⟩ : ∃ x, UInt8.ofNat (Int.toNat op) = x := ⟨_, rfl⟩
  rw [hby_] at HBY ⊢
  have hpos := num_pos path.length
  have hTl : (num path.length ++ path).length ≤ 74 := by rw [List.length_append]; omega
  have hTp : 0 < (num path.length ++ path).length := by rw [List.length_append]; omega
  generalize num path.length ++ path = T at *
  clear hby hby_ hpos hln
  go_enter Try.func45, Try.ntmps45
  go_wp2
  have hB := Blk.new w 61 #[.int .i64 op, .string ⟨path.toArray⟩, .string ⟨to_.toArray⟩, .int .i64 off, .int .i64 size, .slice A5 data c5, .slice A6 m6 c6]
  have hb1 : Below w.heap.size w (w.alloc (.cells #[.int .i64 op, .string ⟨path.toArray⟩, .string ⟨to_.toArray⟩, .int .i64 off, .int .i64 size, .slice A5 data c5, .slice A6 m6 c6] 61)) := bal (Below.refl _ _) _
  generalize (w.alloc (.cells #[.int .i64 op, .string ⟨path.toArray⟩, .string ⟨to_.toArray⟩, .int .i64 off, .int .i64 size, .slice A5 data c5, .slice A6 m6 c6] 61)) = W1 at *
  have HXX : Hid (∀ W, Below W1.heap.size W1 W → W.cell? ⟨w.heap.size, 0, none⟩ = some (.int .i64 op) ∧ W.cell? ⟨w.heap.size, 1, none⟩ = some (.string ⟨path.toArray⟩)) := fun W h => ⟨(hB.below h).cell 0, (hB.below h).cell 1⟩
  have HYY : Hid (∀ W, Below W1.heap.size W1 W → W.cell? ⟨w.heap.size, 0, none⟩ = some (.int .i64 op) ∧ W.cell? ⟨w.heap.size, 2, none⟩ = some (.string ⟨to_.toArray⟩) ∧ W.cell? ⟨w.heap.size, 3, none⟩ = some (.int .i64 off) ∧ W.cell? ⟨w.heap.size, 4, none⟩ = some (.int .i64 size) ∧ W.cell? ⟨w.heap.size, 6, none⟩ = some (.slice A6 m6 c6)) := fun W h => ⟨(hB.below h).cell 0, (hB.below h).cell 2, (hB.below h).cell 3, (hB.below h).cell 4, (hB.below h).cell 6⟩
  have hk := bdr (Below.refl W1.heap.size W1)
  have hz : Below W1.heap.size W1 (W1.alloc (.cells #[.int .u8 op] 5)).drew := bdr (bal (Below.refl W1.heap.size W1) _)
  have hzo : Own (W1.alloc (.cells #[.int .u8 op] 5)).drew W1.heap.size 5 (.slice (some ⟨W1.heap.size, 0, none⟩) 1 1) ([by_].map eb) := lit_own W1 (Nat.le_refl _) by_ op HBY.out
  have HHZ := Lib.hid hzo
  clear hB hzo
  go_region_held_law (fun W => Below W1.heap.size W1 W ∧ W.cell? ⟨w.heap.size, 0, none⟩ = some (.int .i64 op) ∧ W.cell? ⟨w.heap.size, 1, none⟩ = some (.string ⟨path.toArray⟩)) (first | exact ⟨hk, HXX.out _ hk⟩ | exact ⟨hz, HXX.out _ hz⟩ | exact ⟨hk2, HXX.out _ hk2⟩ | exact ⟨hz2, HXX.out _ hz2⟩ | exact ⟨hk3, HXX.out _ hk3⟩) (first
    | (refine step_append_dst (by rfl) (by rfl) _ _ 24 24 (by rfl) _ _ _ _ (by rfl) (by rfl) HR.out ?_)
    | (go_at_call 34; (with_reducible refine (HT.out _).mono ?_); rintro e w' ⟨v9, rfl, ho9, hb9⟩; (first
        | (have hk2 := bn hk hb9; obtain ⟨A9, c9, rfl, hres⟩ := res_lit ho9 (.cells #[.int .u8 op] 5); have hz2 := bal hk2 (.cells #[.int .u8 op] 5); obtain ⟨v3, w3, HR, ho3, hb3, _⟩ := append_res (lit_own w' hk2.size by_ op HBY.out) c9 hres rfl hTp (by simp; omega) hz2.size; have hk3 := hz2.trans hb3)
        | (have hk2 := bn hz hb9; obtain ⟨A9, c9, rfl, hres⟩ := Res.new HHZ.out ho9; obtain ⟨v3, w3, HR, ho3, hb3, _⟩ := append_res (HHZ.out.below hb9) c9 hres rfl hTp (by simp; omega) hk2.size; have hk3 := hk2.trans hb3))))
  all_goals
    clear HHZ hz HR HT hres HXX hk2 hb9 ho9 hk
    try clear hz2
    obtain ⟨x0, x2, x3, x4, x6⟩ := HYY.out _ hk3
    go_wp2
    go_ret
    exact ⟨_, rfl, ho3.lower hb1.size, hb1.trans (hk3.mono hb1.size)⟩

set_option maxRecDepth 100000 in
set_option maxHeartbeats 8000000 in
theorem ref_bytes5  (path to_ : List UInt8) (off size : Int) (data : Nat) (A5 : Option Addr) (c5 : Nat) (A6 : Option Addr) (c6 : Nat) (m6 : Nat) (w : World) (hp : path.length ≤ 64) (hto : to_.length ≤ 64) :
    Calls Try.prog 45 #[.agg #[.int .i64 5, .string ⟨path.toArray⟩, .string ⟨to_.toArray⟩, .int .i64 off, .int .i64 size, .slice A5 data c5, .slice A6 m6 c6]] w fun e w' => ∃ v, e = .returned v ∧ Own w' w.heap.size 5 v ((([UInt8.ofNat (Int.toNat 5)] ++ (num path.length ++ path)) ++ (num to_.length ++ to_)).map eb) ∧ Below w.heap.size w w' := by
  have HT2 := Lib.hid fun W => ref_text to_ (by omega) W
  have hln2 := num_10 to_.length (by omega)
  have hpos2 := num_pos to_.length
  have hTl2 : (num to_.length ++ to_).length ≤ 74 := by rw [List.length_append]; omega
  have hTp2 : 0 < (num to_.length ++ to_).length := by rw [List.length_append]; omega
  generalize num to_.length ++ to_ = T2 at *
  clear hln2 hpos2
  have HT := Lib.hid fun W => ref_text path (by omega) W
  have hln := num_10 path.length (by omega)
  have hby : ((UInt8.ofNat (Int.toNat 5)).toNat : Int) = 5 := by rw [UInt8.toNat_ofNat']; omega
  have HBY := Lib.hid hby
  have hwr : IntKind.u8.wrap 5 = 5 := by rw [IntKind.wrap_u8]; omega
  obtain ⟨by_, hby_⟩ : ∃ x, UInt8.ofNat (Int.toNat 5) = x := ⟨_, rfl⟩
  rw [hby_] at HBY ⊢
  have hpos := num_pos path.length
  have hTl : (num path.length ++ path).length ≤ 74 := by rw [List.length_append]; omega
  have hTp : 0 < (num path.length ++ path).length := by rw [List.length_append]; omega
  generalize num path.length ++ path = T at *
  clear hby hby_ hpos hln
  go_enter Try.func45, Try.ntmps45
  go_wp2
  have hB := Blk.new w 61 #[.int .i64 5, .string ⟨path.toArray⟩, .string ⟨to_.toArray⟩, .int .i64 off, .int .i64 size, .slice A5 data c5, .slice A6 m6 c6]
  have hb1 : Below w.heap.size w (w.alloc (.cells #[.int .i64 5, .string ⟨path.toArray⟩, .string ⟨to_.toArray⟩, .int .i64 off, .int .i64 size, .slice A5 data c5, .slice A6 m6 c6] 61)) := bal (Below.refl _ _) _
  generalize (w.alloc (.cells #[.int .i64 5, .string ⟨path.toArray⟩, .string ⟨to_.toArray⟩, .int .i64 off, .int .i64 size, .slice A5 data c5, .slice A6 m6 c6] 61)) = W1 at *
  have HXX : Hid (∀ W, Below W1.heap.size W1 W → W.cell? ⟨w.heap.size, 0, none⟩ = some (.int .i64 5) ∧ W.cell? ⟨w.heap.size, 1, none⟩ = some (.string ⟨path.toArray⟩)) := fun W h => ⟨(hB.below h).cell 0, (hB.below h).cell 1⟩
  have HYY : Hid (∀ W, Below W1.heap.size W1 W → W.cell? ⟨w.heap.size, 0, none⟩ = some (.int .i64 5) ∧ W.cell? ⟨w.heap.size, 2, none⟩ = some (.string ⟨to_.toArray⟩) ∧ W.cell? ⟨w.heap.size, 3, none⟩ = some (.int .i64 off) ∧ W.cell? ⟨w.heap.size, 4, none⟩ = some (.int .i64 size) ∧ W.cell? ⟨w.heap.size, 6, none⟩ = some (.slice A6 m6 c6)) := fun W h => ⟨(hB.below h).cell 0, (hB.below h).cell 2, (hB.below h).cell 3, (hB.below h).cell 4, (hB.below h).cell 6⟩
  have hk := bdr (Below.refl W1.heap.size W1)
  have hz : Below W1.heap.size W1 (W1.alloc (.cells #[.int .u8 5] 5)).drew := bdr (bal (Below.refl W1.heap.size W1) _)
  have hzo : Own (W1.alloc (.cells #[.int .u8 5] 5)).drew W1.heap.size 5 (.slice (some ⟨W1.heap.size, 0, none⟩) 1 1) ([by_].map eb) := lit_own W1 (Nat.le_refl _) by_ 5 HBY.out
  have HHZ := Lib.hid hzo
  clear hB hzo
  go_region_held_law (fun W => Below W1.heap.size W1 W ∧ W.cell? ⟨w.heap.size, 0, none⟩ = some (.int .i64 5) ∧ W.cell? ⟨w.heap.size, 1, none⟩ = some (.string ⟨path.toArray⟩)) (first | exact ⟨hk, HXX.out _ hk⟩ | exact ⟨hz, HXX.out _ hz⟩ | exact ⟨hk2, HXX.out _ hk2⟩ | exact ⟨hz2, HXX.out _ hz2⟩ | exact ⟨hk3, HXX.out _ hk3⟩) (first
    | (refine step_append_dst (by rfl) (by rfl) _ _ 24 24 (by rfl) _ _ _ _ (by rfl) (by rfl) HR.out ?_)
    | (go_at_call 34; (with_reducible refine (HT.out _).mono ?_); rintro e w' ⟨v9, rfl, ho9, hb9⟩; (first
        | (have hk2 := bn hk hb9; obtain ⟨A9, c9, rfl, hres⟩ := res_lit ho9 (.cells #[.int .u8 5] 5); have hz2 := bal hk2 (.cells #[.int .u8 5] 5); obtain ⟨v3, w3, HR, ho3, hb3, _⟩ := append_res (lit_own w' hk2.size by_ 5 HBY.out) c9 hres rfl hTp (by simp; omega) hz2.size; have hk3 := hz2.trans hb3)
        | (have hk2 := bn hz hb9; obtain ⟨A9, c9, rfl, hres⟩ := Res.new HHZ.out ho9; obtain ⟨v3, w3, HR, ho3, hb3, _⟩ := append_res (HHZ.out.below hb9) c9 hres rfl hTp (by simp; omega) hk2.size; have hk3 := hk2.trans hb3))))
  all_goals
    clear HHZ hz HR HT hres HXX hk2 hb9 ho9 hk
    try clear hz2
    obtain ⟨x0, x2, x3, x4, x6⟩ := HYY.out _ hk3
    go_wp2_with fail
    (with_reducible refine (HT2.out _).mono ?_)
    rintro e w4 ⟨v4, rfl, ho4, hb4⟩
    obtain ⟨A4, c4, rfl, hres4⟩ := Res.new ho3 ho4
    have hk4 := bn hk3 hb4
    obtain ⟨v5, w5, HR5, ho5, hb5, _⟩ := append_res (ho3.below hb4) c4 hres4 rfl hTp2 (by simp; omega) hk4.size
    have hk5 := hk4.trans hb5
    clear x0 x2 x3 x4 x6 hres4 ho4 ho3
    go_wp2_with (at_builtin; refine wpList_append_run rfl _ _ 24 24 rfl _ _ _ _ rfl rfl HR5.out ?_)
    go_ret
    exact ⟨_, rfl, ho5.lower hb1.size, hb1.trans (hk5.mono hb1.size)⟩

set_option maxRecDepth 100000 in
set_option maxHeartbeats 8000000 in
theorem ref_bytes4  (path to_ : List UInt8) (off size : Int) (data : Nat) (A5 : Option Addr) (c5 : Nat) (A6 : Option Addr) (c6 : Nat) (m6 : Nat) (w : World) (hp : path.length ≤ 64) (hs0 : 0 ≤ size) (hs1 : size ≤ 1099511627776) :
    Calls Try.prog 45 #[.agg #[.int .i64 4, .string ⟨path.toArray⟩, .string ⟨to_.toArray⟩, .int .i64 off, .int .i64 size, .slice A5 data c5, .slice A6 m6 c6]] w fun e w' => ∃ v, e = .returned v ∧ Own w' w.heap.size 5 v ((([UInt8.ofNat (Int.toNat 4)] ++ (num path.length ++ path)) ++ num size.toNat).map eb) ∧ Below w.heap.size w w' := by
  have HT2 := Lib.hid fun W => ref_num size (by omega) (by omega) W
  have hTl2 := num_10 size.toNat (by omega)
  have hTp2 := num_pos size.toNat
  generalize num size.toNat = T2 at *
  have HT := Lib.hid fun W => ref_text path (by omega) W
  have hln := num_10 path.length (by omega)
  have hby : ((UInt8.ofNat (Int.toNat 4)).toNat : Int) = 4 := by rw [UInt8.toNat_ofNat']; omega
  have HBY := Lib.hid hby
  have hwr : IntKind.u8.wrap 4 = 4 := by rw [IntKind.wrap_u8]; omega
  obtain ⟨by_, hby_⟩ : ∃ x, UInt8.ofNat (Int.toNat 4) = x := ⟨_, rfl⟩
  rw [hby_] at HBY ⊢
  have hpos := num_pos path.length
  have hTl : (num path.length ++ path).length ≤ 74 := by rw [List.length_append]; omega
  have hTp : 0 < (num path.length ++ path).length := by rw [List.length_append]; omega
  generalize num path.length ++ path = T at *
  clear hby hby_ hpos hln
  go_enter Try.func45, Try.ntmps45
  go_wp2
  have hB := Blk.new w 61 #[.int .i64 4, .string ⟨path.toArray⟩, .string ⟨to_.toArray⟩, .int .i64 off, .int .i64 size, .slice A5 data c5, .slice A6 m6 c6]
  have hb1 : Below w.heap.size w (w.alloc (.cells #[.int .i64 4, .string ⟨path.toArray⟩, .string ⟨to_.toArray⟩, .int .i64 off, .int .i64 size, .slice A5 data c5, .slice A6 m6 c6] 61)) := bal (Below.refl _ _) _
  generalize (w.alloc (.cells #[.int .i64 4, .string ⟨path.toArray⟩, .string ⟨to_.toArray⟩, .int .i64 off, .int .i64 size, .slice A5 data c5, .slice A6 m6 c6] 61)) = W1 at *
  have HXX : Hid (∀ W, Below W1.heap.size W1 W → W.cell? ⟨w.heap.size, 0, none⟩ = some (.int .i64 4) ∧ W.cell? ⟨w.heap.size, 1, none⟩ = some (.string ⟨path.toArray⟩)) := fun W h => ⟨(hB.below h).cell 0, (hB.below h).cell 1⟩
  have HYY : Hid (∀ W, Below W1.heap.size W1 W → W.cell? ⟨w.heap.size, 0, none⟩ = some (.int .i64 4) ∧ W.cell? ⟨w.heap.size, 2, none⟩ = some (.string ⟨to_.toArray⟩) ∧ W.cell? ⟨w.heap.size, 3, none⟩ = some (.int .i64 off) ∧ W.cell? ⟨w.heap.size, 4, none⟩ = some (.int .i64 size) ∧ W.cell? ⟨w.heap.size, 6, none⟩ = some (.slice A6 m6 c6)) := fun W h => ⟨(hB.below h).cell 0, (hB.below h).cell 2, (hB.below h).cell 3, (hB.below h).cell 4, (hB.below h).cell 6⟩
  have hk := bdr (Below.refl W1.heap.size W1)
  have hz : Below W1.heap.size W1 (W1.alloc (.cells #[.int .u8 4] 5)).drew := bdr (bal (Below.refl W1.heap.size W1) _)
  have hzo : Own (W1.alloc (.cells #[.int .u8 4] 5)).drew W1.heap.size 5 (.slice (some ⟨W1.heap.size, 0, none⟩) 1 1) ([by_].map eb) := lit_own W1 (Nat.le_refl _) by_ 4 HBY.out
  have HHZ := Lib.hid hzo
  clear hB hzo
  go_region_held_law (fun W => Below W1.heap.size W1 W ∧ W.cell? ⟨w.heap.size, 0, none⟩ = some (.int .i64 4) ∧ W.cell? ⟨w.heap.size, 1, none⟩ = some (.string ⟨path.toArray⟩)) (first | exact ⟨hk, HXX.out _ hk⟩ | exact ⟨hz, HXX.out _ hz⟩ | exact ⟨hk2, HXX.out _ hk2⟩ | exact ⟨hz2, HXX.out _ hz2⟩ | exact ⟨hk3, HXX.out _ hk3⟩) (first
    | (refine step_append_dst (by rfl) (by rfl) _ _ 24 24 (by rfl) _ _ _ _ (by rfl) (by rfl) HR.out ?_)
    | (go_at_call 34; (with_reducible refine (HT.out _).mono ?_); rintro e w' ⟨v9, rfl, ho9, hb9⟩; (first
        | (have hk2 := bn hk hb9; obtain ⟨A9, c9, rfl, hres⟩ := res_lit ho9 (.cells #[.int .u8 4] 5); have hz2 := bal hk2 (.cells #[.int .u8 4] 5); obtain ⟨v3, w3, HR, ho3, hb3, _⟩ := append_res (lit_own w' hk2.size by_ 4 HBY.out) c9 hres rfl hTp (by simp; omega) hz2.size; have hk3 := hz2.trans hb3)
        | (have hk2 := bn hz hb9; obtain ⟨A9, c9, rfl, hres⟩ := Res.new HHZ.out ho9; obtain ⟨v3, w3, HR, ho3, hb3, _⟩ := append_res (HHZ.out.below hb9) c9 hres rfl hTp (by simp; omega) hk2.size; have hk3 := hk2.trans hb3))))
  all_goals
    clear HHZ hz HR HT hres HXX hk2 hb9 ho9 hk
    try clear hz2
    obtain ⟨x0, x2, x3, x4, x6⟩ := HYY.out _ hk3
    go_wp2_with fail
    (with_reducible refine (HT2.out _).mono ?_)
    rintro e w4 ⟨v4, rfl, ho4, hb4⟩
    obtain ⟨A4, c4, rfl, hres4⟩ := Res.new ho3 ho4
    have hk4 := bn hk3 hb4
    obtain ⟨v5, w5, HR5, ho5, hb5, _⟩ := append_res (ho3.below hb4) c4 hres4 rfl hTp2 (by simp; omega) hk4.size
    have hk5 := hk4.trans hb5
    clear x0 x2 x3 x4 x6 hres4 ho4 ho3
    go_wp2_with (at_builtin; refine wpList_append_run rfl _ _ 24 24 rfl _ _ _ _ rfl rfl HR5.out ?_)
    go_ret
    exact ⟨_, rfl, ho5.lower hb1.size, hb1.trans (hk5.mono hb1.size)⟩

set_option maxRecDepth 100000 in
set_option maxHeartbeats 8000000 in
theorem ref_bytes3  (path to_ : List UInt8) (off size : Int) (data : Nat) (A5 : Option Addr) (c5 : Nat) (A6 : Option Addr) (c6 : Nat) (ps : List Part) (w : World) (hp : path.length ≤ 64) (hs0 : 0 ≤ off) (hs1 : off ≤ 1099511627776) (hr : Rd w A6 (pcs ps)) (hl : ps.length ≤ 1000) (hq : ∀ p ∈ ps, p.off = 0 ∧ 1 ≤ p.len ∧ p.len ≤ 64 ∧ 1 ≤ p.chunk ∧ p.chunk ≤ 4611686018427387904 ∧ 0 ≤ p.at_ ∧ p.at_ ≤ 64 - p.len) :
    Calls Try.prog 45 #[.agg #[.int .i64 3, .string ⟨path.toArray⟩, .string ⟨to_.toArray⟩, .int .i64 off, .int .i64 size, .slice A5 data c5, .slice A6 ps.length c6]] w fun e w' => ∃ v, e = .returned v ∧ Own w' w.heap.size 5 v (((([UInt8.ofNat (Int.toNat 3)] ++ (num path.length ++ path)) ++ num off.toNat ++ num ps.length) ++ encParts ps).map eb) ∧ Below w.heap.size w w' := by
  have HN1 := Lib.hid fun W => ref_num off (by omega) (by omega) W
  have hl1 := num_10 off.toNat (by omega)
  have hp1 := num_pos off.toNat
  generalize num off.toNat = N1 at *
  have HN2 := Lib.hid fun W => ref_num (ps.length : Int) (by omega) (by omega) W
  rw [show ((ps.length : Nat) : Int).toNat = ps.length by omega] at HN2
  have hl2 := num_10 ps.length (by omega)
  have hp2 := num_pos ps.length
  generalize num ps.length = N2 at *
  have HRD := Lib.hid hr
  have HQ := Lib.hid hq
  clear hr hq
  have HT := Lib.hid fun W => ref_text path (by omega) W
  have hln := num_10 path.length (by omega)
  have hby : ((UInt8.ofNat (Int.toNat 3)).toNat : Int) = 3 := by rw [UInt8.toNat_ofNat']; omega
  have HBY := Lib.hid hby
  have hwr : IntKind.u8.wrap 3 = 3 := by rw [IntKind.wrap_u8]; omega
  obtain ⟨by_, hby_⟩ : ∃ x, UInt8.ofNat (Int.toNat 3) = x := ⟨_, rfl⟩
  rw [hby_] at HBY ⊢
  have hpos := num_pos path.length
  have hTl : (num path.length ++ path).length ≤ 74 := by rw [List.length_append]; omega
  have hTp : 0 < (num path.length ++ path).length := by rw [List.length_append]; omega
  generalize num path.length ++ path = T at *
  clear hby hby_ hpos hln
  go_enter Try.func45, Try.ntmps45
  go_wp2
  have hB := Blk.new w 61 #[.int .i64 3, .string ⟨path.toArray⟩, .string ⟨to_.toArray⟩, .int .i64 off, .int .i64 size, .slice A5 data c5, .slice A6 ps.length c6]
  have hb1 : Below w.heap.size w (w.alloc (.cells #[.int .i64 3, .string ⟨path.toArray⟩, .string ⟨to_.toArray⟩, .int .i64 off, .int .i64 size, .slice A5 data c5, .slice A6 ps.length c6] 61)) := bal (Below.refl _ _) _
  generalize (w.alloc (.cells #[.int .i64 3, .string ⟨path.toArray⟩, .string ⟨to_.toArray⟩, .int .i64 off, .int .i64 size, .slice A5 data c5, .slice A6 ps.length c6] 61)) = W1 at *
  have HXX : Hid (∀ W, Below W1.heap.size W1 W → W.cell? ⟨w.heap.size, 0, none⟩ = some (.int .i64 3) ∧ W.cell? ⟨w.heap.size, 1, none⟩ = some (.string ⟨path.toArray⟩)) := fun W h => ⟨(hB.below h).cell 0, (hB.below h).cell 1⟩
  have HYY : Hid (∀ W, Below W1.heap.size W1 W → W.cell? ⟨w.heap.size, 0, none⟩ = some (.int .i64 3) ∧ W.cell? ⟨w.heap.size, 2, none⟩ = some (.string ⟨to_.toArray⟩) ∧ W.cell? ⟨w.heap.size, 3, none⟩ = some (.int .i64 off) ∧ W.cell? ⟨w.heap.size, 4, none⟩ = some (.int .i64 size) ∧ W.cell? ⟨w.heap.size, 6, none⟩ = some (.slice A6 ps.length c6)) := fun W h => ⟨(hB.below h).cell 0, (hB.below h).cell 2, (hB.below h).cell 3, (hB.below h).cell 4, (hB.below h).cell 6⟩
  have hk := bdr (Below.refl W1.heap.size W1)
  have hz : Below W1.heap.size W1 (W1.alloc (.cells #[.int .u8 3] 5)).drew := bdr (bal (Below.refl W1.heap.size W1) _)
  have hzo : Own (W1.alloc (.cells #[.int .u8 3] 5)).drew W1.heap.size 5 (.slice (some ⟨W1.heap.size, 0, none⟩) 1 1) ([by_].map eb) := lit_own W1 (Nat.le_refl _) by_ 3 HBY.out
  have HHZ := Lib.hid hzo
  clear hB hzo
  go_region_held_law (fun W => Below W1.heap.size W1 W ∧ W.cell? ⟨w.heap.size, 0, none⟩ = some (.int .i64 3) ∧ W.cell? ⟨w.heap.size, 1, none⟩ = some (.string ⟨path.toArray⟩)) (first | exact ⟨hk, HXX.out _ hk⟩ | exact ⟨hz, HXX.out _ hz⟩ | exact ⟨hk2, HXX.out _ hk2⟩ | exact ⟨hz2, HXX.out _ hz2⟩ | exact ⟨hk3, HXX.out _ hk3⟩) (first
    | (refine step_append_dst (by rfl) (by rfl) _ _ 24 24 (by rfl) _ _ _ _ (by rfl) (by rfl) HR.out ?_)
    | (go_at_call 34; (with_reducible refine (HT.out _).mono ?_); rintro e w' ⟨v9, rfl, ho9, hb9⟩; (first
        | (have hk2 := bn hk hb9; obtain ⟨A9, c9, rfl, hres⟩ := res_lit ho9 (.cells #[.int .u8 3] 5); have hz2 := bal hk2 (.cells #[.int .u8 3] 5); obtain ⟨v3, w3, HR, ho3, hb3, _⟩ := append_res (lit_own w' hk2.size by_ 3 HBY.out) c9 hres rfl hTp (by simp; omega) hz2.size; have hk3 := hz2.trans hb3)
        | (have hk2 := bn hz hb9; obtain ⟨A9, c9, rfl, hres⟩ := Res.new HHZ.out ho9; obtain ⟨v3, w3, HR, ho3, hb3, _⟩ := append_res (HHZ.out.below hb9) c9 hres rfl hTp (by simp; omega) hk2.size; have hk3 := hk2.trans hb3))))
  all_goals
    clear HHZ hz HR HT hres HXX hk2 hb9 ho9 hk
    try clear hz2
    obtain ⟨x0, x2, x3, x4, x6⟩ := HYY.out _ hk3
    clear x0 x2 x4
    have hv0 : Own w3 W1.heap.size 5 v3 (([by_] ++ T).map eb) := ho3
    have hk0 := hk3
    clear ho3 hb3 hk3 hTp HBY
    have HSS : Hid (∀ W, Below W1.heap.size W1 W → W.cell? ⟨w.heap.size, 3, none⟩ = some (.int .i64 off) ∧ W.cell? ⟨w.heap.size, 6, none⟩ = some (.slice A6 ps.length c6)) := fun W h => by
      obtain ⟨x0, x2, x3, x4, x6⟩ := HYY.out _ h
      exact ⟨x3, x6⟩
    go_upto_region 8 with (fail)
    go_cut [3] (fun s3 wx => ∃ v, s3 = v ∧ Own wx W1.heap.size 5 v ((([by_] ++ T) ++ N1 ++ N2).map eb) ∧ Below W1.heap.size W1 wx)
    case first =>
      have hv : Own w3.drew W1.heap.size 5 v3 (([by_] ++ T).map eb) := hv0
      have hk : Below W1.heap.size W1 w3.drew := bdr hk0
      clear x3 x6 hv0 hk0
      go_region_held_law (fun W => Below W1.heap.size W1 W ∧ W.cell? ⟨w.heap.size, 3, none⟩ = some (.int .i64 off) ∧ W.cell? ⟨w.heap.size, 6, none⟩ = some (.slice A6 ps.length c6)) (exact ⟨hk, HSS.out _ hk⟩) (first
    | (go_at_call 32; (with_reducible refine (HN1.out _).mono ?_); rintro e w' ⟨vv, rfl, hoo, hbb⟩; obtain ⟨B1, d1, rfl, g1⟩ := Res.new hv hoo; replace hv := hv.below hbb; (try replace g2 := g2.below hbb); replace hk := bn hk hbb; clear hoo hbb)
    | (go_at_call 32; (with_reducible refine (HN2.out _).mono ?_); rintro e w' ⟨vv, rfl, hoo, hbb⟩; obtain ⟨B2, d2, rfl, g2⟩ := Res.new hv hoo; replace hv := hv.below hbb; (try replace g1 := g1.below hbb); replace hk := bn hk hbb; clear hoo hbb)
    | (obtain ⟨v5, w5, HR5, ho5, hb5, hmv⟩ := append_res hv d1 g1 rfl hp1 (by first | omega | (simp; omega)) hk.size; refine step_append_dst (by rfl) (by rfl) _ _ 24 24 (by rfl) _ _ _ _ (by rfl) (by rfl) HR5.out ?_; replace hk := hk.trans hb5; (try replace g2 := hmv.out _ _ g2); replace hv := ho5; clear g1 HR5 hb5 ho5 hmv)
    | (obtain ⟨v5, w5, HR5, ho5, hb5, hmv⟩ := append_res hv d2 g2 rfl hp2 (by first | omega | (simp; omega)) hk.size; refine step_append_dst (by rfl) (by rfl) _ _ 24 24 (by rfl) _ _ _ _ (by rfl) (by rfl) HR5.out ?_; replace hk := hk.trans hb5; replace hv := ho5; clear g2 HR5 hb5 ho5 hmv))
      all_goals (go_wp2_with fail; go_meet; exact ⟨_, rfl, hv, hk⟩)
    case rest =>
      clear x3 x6 hv0 hk0 HN1 HN2
      obtain ⟨v, rfl, hv, hk⟩ := hcut
      have hP0 : (([by_] ++ T) ++ N1 ++ N2).length ≤ 95 := by simp; omega
      obtain ⟨P0, hPE⟩ : ∃ x, ([by_] ++ T) ++ N1 ++ N2 = x := ⟨_, rfl⟩
      rw [hPE] at hP0 hv
      have HPE := Lib.hid hPE
      clear hPE
      go_wp2
      go_loopw [3, 4] (fun s i wr => ∃ (k : Nat), k ≤ ps.length ∧ i = .int .i64 (k : Int) ∧ Own wr W1.heap.size 5 s ((P0 ++ encParts (ps.take k)).map eb) ∧ Below W1.heap.size W1 wr) (fun _ i _ => ps.length - (intOf i).toNat)
      case atStart => exact ⟨0, Nat.zero_le _, rfl, by rw [List.take_zero, show encParts [] = [] from rfl, List.append_nil]; exact hv, hk⟩
      case round =>
        clear hv hk
        obtain ⟨k, hkl, rfl, hv, hk⟩ := hrel
        obtain ⟨x3, x6⟩ := HSS.out _ hk
        by_cases hlt : k < ps.length
        · obtain ⟨b, o6, rfl, y0, y1, y2, y3⟩ := parts_at (HRD.out.below hb1) k hlt
          have hblt : b < W1.heap.size := block_lt_of_cell (a := ⟨b, o6 + k * 4, none⟩) y0
          have i0 : (0 : Int) ≤ (k : Int) := by omega
          have i1 : (k : Int) < (ps.length : Int) := by omega
          have hqk := HQ.out _ (List.getElem_mem hlt)
          have hst : ps.take (k + 1) = ps.take k ++ [ps[k]] := List.take_succ_eq_append_getElem hlt
          have hel := encParts_length (ps.take k) fun p hp => HQ.out p (List.mem_of_mem_take hp)
          rw [List.length_take, Nat.min_eq_left (Nat.le_of_lt hlt)] at hel
          have hPL : (P0 ++ encParts (ps.take k)).length ≤ 40000 := by rw [List.length_append]; omega
          have hnx : P0 ++ encParts (ps.take (k + 1)) = (P0 ++ encParts (ps.take k)) ++ num ps[k].len.toNat ++ num ps[k].chunk.toNat ++ num ps[k].at_.toNat := by
            rw [hst]
            unfold encParts
            rw [List.map_append, List.flatten_append]
            simp [List.append_assoc, encPart]
          have HNX := Lib.hid hnx
          clear hst hel hnx
          generalize ps[k] = q at *
          obtain ⟨qo, ql, qc, qa⟩ := q
          obtain ⟨q0, q1, q2, q3, q4, q5, q6⟩ := hqk
          simp only at q0 q1 q2 q3 q4 q5 q6 y0 y1 y2 y3 HNX
          have HN1 := Lib.hid fun W => ref_num ql (by omega) (by omega) W
          have HN2 := Lib.hid fun W => ref_num qc (by omega) (by omega) W
          have HN3 := Lib.hid fun W => ref_num qa (by omega) (by omega) W
          have hl1 := num_10 ql.toNat (by omega)
          have hl2 := num_10 qc.toNat (by omega)
          have hl3 := num_10 qa.toNat (by omega)
          have hp1 := num_pos ql.toNat
          have hp2 := num_pos qc.toNat
          have hp3 := num_pos qa.toNat
          generalize num ql.toNat = N1 at *
          generalize num qc.toNat = N2 at *
          generalize num qa.toNat = N3 at *
          generalize P0 ++ encParts (ps.take k) = P at *
          have HCC : Hid (∀ W, Below W1.heap.size W1 W → W.cell? ⟨w.heap.size, 6, none⟩ = some (.slice (some ⟨b, o6, none⟩) ps.length c6) ∧ W.cell? ⟨b, o6 + k * 4 + 1, none⟩ = some (.int .i64 ql) ∧ W.cell? ⟨b, o6 + k * 4 + 2, none⟩ = some (.int .i64 qc) ∧ W.cell? ⟨b, o6 + k * 4 + 3, none⟩ = some (.int .i64 qa)) :=
            fun W h => ⟨(HSS.out W h).2, (h.cell (p := ⟨b, o6 + k * 4 + 1, none⟩) hblt).trans y1, (h.cell (p := ⟨b, o6 + k * 4 + 2, none⟩) hblt).trans y2, (h.cell (p := ⟨b, o6 + k * 4 + 3, none⟩) hblt).trans y3⟩
          clear y0 y1 y2 y3 q0 q1 q2 q3 q4 q5 q6 HRD
          go_wp2
          · have hv : Own wr.drew W1.heap.size 5 _ (P.map eb) := hv
            have hk : Below W1.heap.size W1 wr.drew := bdr hk
            clear x3 x6
            go_region_held_law (fun W => Below W1.heap.size W1 W ∧ W.cell? ⟨w.heap.size, 6, none⟩ = some (.slice (some ⟨b, o6, none⟩) ps.length c6) ∧ W.cell? ⟨b, o6 + k * 4 + 1, none⟩ = some (.int .i64 ql) ∧ W.cell? ⟨b, o6 + k * 4 + 2, none⟩ = some (.int .i64 qc) ∧ W.cell? ⟨b, o6 + k * 4 + 3, none⟩ = some (.int .i64 qa)) (exact ⟨hk, HCC.out _ hk⟩) (first
    | (go_at_call 32; (with_reducible refine (HN1.out _).mono ?_); rintro e w' ⟨vv, rfl, hoo, hbb⟩; obtain ⟨B1, d1, rfl, g1⟩ := Res.new hv hoo; replace hv := hv.below hbb; (try replace g2 := g2.below hbb); (try replace g3 := g3.below hbb); replace hk := bn hk hbb; clear hoo hbb)
    | (go_at_call 32; (with_reducible refine (HN2.out _).mono ?_); rintro e w' ⟨vv, rfl, hoo, hbb⟩; obtain ⟨B2, d2, rfl, g2⟩ := Res.new hv hoo; replace hv := hv.below hbb; (try replace g1 := g1.below hbb); (try replace g3 := g3.below hbb); replace hk := bn hk hbb; clear hoo hbb)
    | (go_at_call 32; (with_reducible refine (HN3.out _).mono ?_); rintro e w' ⟨vv, rfl, hoo, hbb⟩; obtain ⟨B3, d3, rfl, g3⟩ := Res.new hv hoo; replace hv := hv.below hbb; (try replace g1 := g1.below hbb); (try replace g2 := g2.below hbb); replace hk := bn hk hbb; clear hoo hbb)
    | (obtain ⟨v5, w5, HR5, ho5, hb5, hmv⟩ := append_res hv d1 g1 rfl hp1 (by first | omega | (simp; omega)) hk.size; refine step_append_dst (by rfl) (by rfl) _ _ 24 24 (by rfl) _ _ _ _ (by rfl) (by rfl) HR5.out ?_; replace hk := hk.trans hb5; (try replace g2 := hmv.out _ _ g2); (try replace g3 := hmv.out _ _ g3); replace hv := ho5; clear g1 HR5 hb5 ho5 hmv)
    | (obtain ⟨v5, w5, HR5, ho5, hb5, hmv⟩ := append_res hv d2 g2 rfl hp2 (by first | omega | (simp; omega)) hk.size; refine step_append_dst (by rfl) (by rfl) _ _ 24 24 (by rfl) _ _ _ _ (by rfl) (by rfl) HR5.out ?_; replace hk := hk.trans hb5; (try replace g3 := hmv.out _ _ g3); replace hv := ho5; clear g2 HR5 hb5 ho5 hmv)
    | (obtain ⟨v5, w5, HR5, ho5, hb5, hmv⟩ := append_res hv d3 g3 rfl hp3 (by first | omega | (simp; omega)) hk.size; refine step_append_dst (by rfl) (by rfl) _ _ 24 24 (by rfl) _ _ _ _ (by rfl) (by rfl) HR5.out ?_; replace hk := hk.trans hb5; replace hv := ho5; clear g3 HR5 hb5 ho5 hmv))
            all_goals
              rw [← HNX.out] at hv
              go_wp2
              go_roundw
              case rel => exact ⟨k + 1, by omega, by go_num, hv, hk⟩
              case measure => simp [intOf]; try omega
        · obtain rfl : k = ps.length := by omega
          rw [List.take_length] at hv
          go_wp2
          go_ret
          exact ⟨_, rfl, by have hz := hv.lower hb1.size; rw [← HPE.out] at hz; simpa using hz, hb1.trans (hk.mono hb1.size)⟩

theorem ref_item_bytes (i : Item) (A5 : Option Addr) (c5 : Nat) (A6 : Option Addr) (c6 : Nat) (w : World) (hm : may i = true) (hr : Rd w A6 (pcs i.parts)) (hl : i.parts.length ≤ 1000) :
    Calls Try.prog 45 #[iv i A5 c5 A6 c6] w fun e w' => ∃ v, e = .returned v ∧ Own w' w.heap.size 5 v ((enc i).map eb) ∧ Below w.heap.size w w' := by
  obtain ⟨⟨a1, a2, a3, a4, a5, a6, a7, a8⟩, ⟨b1, b2⟩, ⟨c1, c2⟩, d, e⟩ := (may_iff _).1 hm
  obtain ⟨op, path, to_, off, size, data, ps⟩ := i
  simp only at a1 a2 a3 a4 a5 a6 a7 a8 b1 b2 c1 c2 d e hr hl
  rw [iv_eq]
  unfold enc
  simp only
  by_cases h3 : op = 3
  · subst h3
    refine (ref_bytes3 path to_ off size data A5 c5 A6 c6 ps w a3 b1 b2 hr hl d).mono ?_
    rintro e w' ⟨v, rfl, ho, hb⟩
    exact ⟨v, rfl, by simpa using ho, hb⟩
  · by_cases h5 : op = 5
    · subst h5
      refine (ref_bytes5 path to_ off size data A5 c5 A6 c6 ps.length w a3 a4).mono ?_
      rintro e w' ⟨v, rfl, ho, hb⟩
      exact ⟨v, rfl, by simpa using ho, hb⟩
    · by_cases h4 : op = 4
      · subst h4
        refine (ref_bytes4 path to_ off size data A5 c5 A6 c6 ps.length w a3 c1 c2).mono ?_
        rintro e w' ⟨v, rfl, ho, hb⟩
        exact ⟨v, rfl, by simpa using ho, hb⟩
      · refine (ref_bytes0 op a1 a2 h5 h3 h4 path to_ off size data A5 c5 A6 c6 ps.length w a3).mono ?_
        rintro e w' ⟨v, rfl, ho, hb⟩
        exact ⟨v, rfl, by simpa [h3, h4, h5] using ho, hb⟩
end Go.Proofs.Ytlgkcpgbmobacaa
