/-
  What BodyReads calls and gives.
-/
import Derived.Test.YtpnfgnddlfkfaaaLawBTwice
import Derived.Test.YtpnfgnddlfkfaaaReadsMath
import Derived.Test.YtpnfgnddlfkfaaaOpenB
import Derived.Lib.MinMax
set_option linter.unusedSimpArgs false
set_option linter.unusedVariables false
namespace Go.Proofs.Ytpnfgnddlfkfaaa
open Go.RowKit Go.Maps

theorem texts_atC {w : World} {A : Option Addr} {vs : List Value} {ls : List (List UInt8)} (hv : Rd w A vs) (hl : AreB w vs ls) (h0 : 0 < ls.length) :
    ∃ bb ob, A = some ⟨bb, ob, none⟩ ∧ bb < w.heap.size ∧ ∀ i, i < ls.length → ∃ Ai ci, (ls.getD i []).length ≤ ci ∧ (∀ ad, Ai = some ad → 0 < (ls.getD i []).length → ad.block < w.heap.size) ∧ ∀ W, Below w.heap.size w W → W.cell? ⟨bb, ob + i, none⟩ = some (.slice Ai (ls.getD i []).length ci) ∧ RB W Ai (ls.getD i []) := by
  have hlen : vs.length = ls.length := hl.1
  obtain ⟨bb, ob, e, hlt, hcell⟩ := hv.lit_of 0 (by omega)
  refine ⟨bb, ob, e, hlt, fun i hi => ?_⟩
  obtain ⟨Ai, ci, hvi, hcap, hr⟩ := hl.2 i (by omega) hi
  have hc := hcell i (by omega)
  have hg : ls.getD i [] = ls[i] := by rw [List.getD_eq_getElem?_getD, List.getElem?_eq_getElem hi]; rfl
  rw [hvi] at hc
  rw [hg]
  exact ⟨Ai, ci, hcap, fun ad e hp => Rd.lt hr e (by intro h0; rw [List.map_eq_nil_iff] at h0; rw [h0] at hp; simp at hp), fun W hb => ⟨(hb.cell (p := ⟨bb, ob + i, none⟩) hlt).trans hc, hr.below hb⟩⟩
def pr2 (p : Nat × Nat) : List Value := [.int .u16 (p.1 : Int), .int .u16 (p.2 : Int)]
theorem pr2_len (p : Nat × Nat) : (pr2 p).length = 2 := rfl
/-- a row of bytes that has grown: where it lies -/
def GrownB (w : World) (v : Value) (l : List UInt8) (v' : Value) (w' : World) : Prop :=
  ∃ A c, v' = .slice A l.length c ∧ Own w' 0 5 (.slice A l.length c) (l.map eb) ∧ Kp (fun k => v.ownBlock = some k) w w' ∧ ∀ k, (Value.slice A l.length c).ownBlock = some k → v.ownBlock = some k ∨ w.heap.size ≤ k
theorem grown_of {w w1 w2 : World} {v v' : Value} {l : List UInt8} (hb : Below w.heap.size w w1) (ho : Own w2 0 5 v' (l.map eb)) (hg : w1.grownBy w2 v.ownBlock) (hat : v'.ownBlock = v.ownBlock ∨ v'.ownBlock = some w1.heap.size) : GrownB w v l v' w2 := by
  obtain ⟨A, c, rfl, _, _⟩ := ho.bytes
  refine ⟨A, c, rfl, ho, (Kp.of hb).trans (kp_grown hg) fun _ _ h => h, fun k hk => ?_⟩
  rcases hat with e | e
  · exact .inl (e ▸ hk)
  · right
    have := hk.symm.trans e
    have h2 := hb.size
    cases this
    exact h2
theorem grow_zero (w : World) (v : Value) (a : List UInt8) (hown : Own w 0 5 v (a.map eb)) (hl : a.length ≤ 100000) (n : Nat) (hn : w.heap.size = n) :
    ∃ v' w2, (Builtin.append_ #[23, 23] 23 #[v, .slice (some ⟨n, 0, none⟩) 1 1]).run Try.prog (w.alloc (.cells #[.int .u8 0] 5)) = .ok v' w2 ∧ GrownB w v (a ++ [0]) v' w2 := by
  subst hn
  have hb := bal (Below.refl w.heap.size w) (.cells #[.int .u8 0] 5)
  obtain ⟨v', w2, HR, ho, hg, hat⟩ := append_bytes_at (w.alloc (.cells #[.int .u8 0] 5)) v a (hown.below hb) ⟨w.heap.size, 0, none⟩ 1 1 [0] rfl (RB.lit _ _ _ [0] _ rfl) (by simp; omega)
  exact ⟨v', w2, HR.out, grown_of hb ho hg hat⟩
theorem cut_ownR (g n cap a : Nat) (ha : a ≤ n) (hn : n ≤ cap) :
    ∃ A' : Option Addr, (∀ W : World, (Instr.slice 23 (.slice (some ⟨g, 0, none⟩) n cap) (some (.int .i64 (a : Int))) none none).run Try.prog W = .ok (.slice A' (n - a) (cap - a)) W) ∧ (a < n → A' = some ⟨g, a, none⟩) := by
  refine ⟨if cap = a then some ⟨g, 0, none⟩ else some ⟨g, a, none⟩, fun W => ?_, fun h => by rw [if_neg (by omega)]⟩
  have hel : Try.prog.elem 23 = 5 := by simp [Program.elem, Try.underlying23]
  have hu : Try.prog.underlying 23 = some (.slice (Try.prog.elem 23)) := by rw [hel]; exact Try.underlying23
  rw [run_slice_l W 23 (some ⟨g, 0, none⟩) n cap hu .i64 (a : Int) (by omega) (by omega), hel]
  have hsz := size_u8
  cases hi : Try.prog.info? 5 with
  | none => simp [hi] at hsz
  | some i =>
    have h1 : i.size = 1 := by simpa [hi] using hsz
    by_cases e : cap = a
    · simp [sizeOf, typeInfo, hi, h1, sliced, Result.andThen, e]
    · simp [sizeOf, typeInfo, hi, h1, sliced, Result.andThen, e, Addr.add]
      by_cases e0 : a = 0 <;> simp [e0]
/-- a copy in a region that draws its order -/
theorem step_copy_ex {P : Program} {w : World} {ops : Array Oper} {o : Oper} {a : Act} {K : Act → World → Prop} {Q : Exit → Act → World → Prop} {E : Prop} (hgd : o.guard = none) (s x : Operand) (t u : TypeId)
    (ho : o.op = .call { callee := .builtin .copy, args := #[s, x], argTypes := #[t, u] }) (v vx : Value) (hs : a.eval s = v) (hx : a.eval x = vx) {R : World → Prop} (n : Nat)
    (hrun : ∃ w', (Builtin.copy_ #[t, u] o.type #[v, vx]).run P w = .ok (goInt n) w' ∧ R w') (h : ∀ w', R w' → K (a.put o.dst (goInt n)) w') :
    if Region.wanted o (yielded ops a.tmps) = true then Oper.wp P o a w K Q else E := by
  obtain ⟨w', hr, h1⟩ := hrun
  have hw : Region.wanted o (yielded ops a.tmps) = true := by simp [Region.wanted, hgd]
  rw [if_pos hw]
  unfold Oper.wp execOp
  simp only [ho, resolve, invoke, builtin, Sem.run_bind, Sem.run_pure, Result.andThen_ok, List.map_toArray, List.map_cons, List.map_nil, hs, hx, hr]
  exact h w' h1
/-- a row of pieces that has grown: where it lies -/
def GrownP (w : World) (v : Value) (l : List Part) (v' : Value) (w' : World) : Prop :=
  ∃ A c, v' = .slice A l.length c ∧ PRow w' 0 (.slice A l.length c) l ∧ Kp (fun k => v.ownBlock = some k) w w' ∧ ∀ k, (Value.slice A l.length c).ownBlock = some k → v.ownBlock = some k ∨ w.heap.size ≤ k
theorem grow_piece (w : World) (v : Value) (l : List Part) (o le ch at_ : Int) (ho : PRow w 0 v l) (hl : l.length < 1000000) (n : Nat) (hn : w.heap.size = n) :
    ∃ v' w', (Builtin.append_ #[44, 44] 44 #[v, .slice (some ⟨n, 0, none⟩) 1 1]).run Try.prog (w.alloc (.cells #[.int .i64 o, .int .i64 le, .int .i64 ch, .int .i64 at_] 50)) = .ok v' w' ∧ GrownP w v (l ++ [⟨o, le, ch, at_⟩]) v' w' := by
  subst hn
  obtain ⟨i, hii, hz, hsize, hbyt⟩ := info_parts info_part
  have hb := bal (Below.refl w.heap.size w) (.cells #[.int .i64 o, .int .i64 le, .int .i64 ch, .int .i64 at_] 50)
  have h' : PRow (w.alloc (.cells #[.int .i64 o, .int .i64 le, .int .i64 ch, .int .i64 at_] 50)) 0 v l := ORow.below ho hb
  have hnew : ∀ j u, (pc ⟨o, le, ch, at_⟩)[j]? = some u → (w.alloc (.cells #[.int .i64 o, .int .i64 le, .int .i64 ch, .int .i64 at_] 50)).cell? ((⟨w.heap.size, 0, none⟩ : Addr).add j) = some u := by
    intro j u hj
    obtain ⟨ad, e, hc⟩ := Rd.lit w 50 (0, 0) (pc ⟨o, le, ch, at_⟩) j u hj
    cases e
    exact hc
  have hmul : (l.length + 1) * 32 ≤ 1000000 * 100000 := Nat.mul_le_mul (by omega) (by omega)
  obtain ⟨v', w', h2, h3, h4, _, hat⟩ := run_append_own_at (P := Try.prog) (w.alloc (.cells #[.int .i64 o, .int .i64 le, .int .i64 ch, .int .i64 at_] 50)) 0 44 44 50 i _ 4 32 Try.underlying44 hii hz hsize hbyt rfl (by omega) v l.length (flat pc l) h' ⟨w.heap.size, 0, none⟩ 1 1 (pc ⟨o, le, ch, at_⟩) (by rw [pc_len]) hnew (pc_one _) (by unfold maxLen; omega) (by omega) (Nat.zero_le _)
  have ho2 : PRow w' 0 v' (l ++ [⟨o, le, ch, at_⟩]) := by
    unfold PRow ORow
    rw [List.length_append, flat_snoc]
    exact h3
  obtain ⟨A, c, rfl, _⟩ := ORow.read ho2
  refine ⟨_, w', h2, A, c, rfl, ho2, (Kp.of hb).trans (kp_grown h4) fun _ _ h => h, fun k hk => ?_⟩
  rcases hat with e | e
  · exact .inl (e ▸ hk)
  · right
    have := hk.symm.trans e
    cases this
    rw [size_more']
    omega
theorem make_zeros (w : World) (k : Nat) (hk : k ≤ 100000) : Own (w.alloc (.cells (Array.replicate k (.int .u8 0)) 5)) 0 5 (.slice (some ⟨w.heap.size, 0, none⟩) k k) ((List.replicate k (0 : UInt8)).map eb) := by
  have hz : (Array.replicate k (Value.int .u8 0)) = ((List.replicate k (0 : UInt8)).map eb).toArray := by rw [List.map_replicate, List.toArray_replicate]; rfl
  have h1 := Blk.new w 5 (Array.replicate k (.int .u8 0))
  rw [hz] at h1 ⊢
  have := Blk.own (B := 0) (cs := (List.replicate k (0 : UInt8)).map eb) (cap := k) h1 (Nat.zero_le _) (by rw [List.length_map, List.length_replicate]; omega) (by rw [List.size_toArray, List.length_map, List.length_replicate]) (by unfold maxLen; omega) (by rw [List.toList_toArray]; exact List.take_of_length_le (Nat.le_refl _))
  rw [List.length_map, List.length_replicate] at this
  exact this
theorem Rd.kp_ne {F : Nat → Prop} {w w' : World} {A : Option Addr} {ps : List Part} (h : Rd w A (pcs ps)) (hk : Kp F w w') (hF : ps ≠ [] → ∀ ad, A = some ad → ¬ F ad.block) : Rd w' A (pcs ps) := by
  cases ps with
  | nil => exact Rd.nil _ _
  | cons p l => exact h.kp hk (hF (by simp))
def lenOf : Value → Nat
  | .slice _ n _ => n
  | _ => 0
set_option maxRecDepth 100000 in
set_option maxHeartbeats 8000000 in
theorem reads_walk (A : Option Addr) (m cap : Nat) (vs : List Value) (ls : List (List UInt8)) (hm : ls.length = m) (A1 : Option Addr) (m1 c1 : Nat) (ns : List (Nat × Nat)) (hm1 : ns.length = m1) (x0 x1 : Nat) (w : World) (hmm : m ≤ 9223372036854775807) (hm1m : m1 ≤ 9223372036854775807) (hv : Rd w A vs) (hl : AreB w vs ls) (hlen : ∀ b ∈ ls, b.length ≤ 9223372036854775807) (hr1 : Rd w A1 (flat pr2 ns)) (hns : ∀ p ∈ ns, p.1 < 65536 ∧ p.2 < 65536) (hx0 : x0 < 65536) (hx1 : x1 < 65536) :
    Calls Try.prog 6 #[.slice A m cap, .slice A1 m1 c1, .agg #[.int .u16 (x0 : Int), .int .u16 (x1 : Int)]] w fun e w' => e = .returned (.bool true) ∧ Below w.heap.size w w' := by
  subst hm hm1
  have hP0 := Blk.new w 55 #[.int .u16 (x0 : Int), .int .u16 (x1 : Int)]
  have hb0 := bal (Below.refl w.heap.size w) (.cells #[.int .u16 (x0 : Int), .int .u16 (x1 : Int)] 55)
  by_cases c60 : 40 < ls.length ∨ ns.length < ls.length
  · rcases (show 40 < ls.length ∨ ls.length ≤ 40 ∧ ns.length < ls.length by omega) with h | ⟨h, h'⟩
    all_goals
      go_enter Try.func6, Try.ntmps6
      go_wp2_with fail
      (with_reducible refine (law12_awake _).mono ?_)
      rintro e w1 ⟨rfl, hb1⟩
      go_wp2
      go_ret
      exact ⟨rfl, bn hb0 hb1⟩
  have hl40 : ls.length ≤ 40 := by omega
  have hln : ls.length ≤ ns.length := by omega
  clear c60
  have HV := Lib.hid hv
  have HL := Lib.hid hl
  have HLEN := Lib.hid hlen
  have HR1 := Lib.hid hr1
  have HNS := Lib.hid hns
  clear hv hl hlen hr1 hns
  go_enter Try.func6, Try.ntmps6
  go_wp2_with fail
  (with_reducible refine (law12_awake _).mono ?_)
  rintro e w1 ⟨rfl, hb1⟩
  have hb2 := bn hb0 hb1
  have hP1 := hP0.below hb1
  have hz1 := hb1.size
  rw [size_more'] at hz1
  clear hb0 hb1 hP0
  go_wp2_with fail
  (with_reducible refine (chunk_new _).mono ?_)
  rintro e w2 ⟨g, rfl, hc2, hb3⟩
  have hz2 := hb3.size
  have hb4 := bal (bn hb2 hb3) (.cells #[.int .i64 0, .slice none 0 0] 46)
  have hP2 := (hP1.below hb3).alloc (.cells #[.int .i64 0, .slice none 0 0] 46)
  have hX2 := Blk.new w2 46 #[.int .i64 0, .slice none 0 0]
  have hc3 := hc2.below (bal (Below.refl _ _) (.cells #[.int .i64 0, .slice none 0 0] 46))
  clear hb2 hb3 hP1 hc2
  go_wp2
  obtain ⟨R, hRe⟩ : ∃ R, w2.heap.size = R := ⟨_, rfl⟩
  have hPP : ∀ j, (w1.heap.size ≤ j ∧ j < w2.heap.size) → w.heap.size + 1 ≤ j ∧ j ≠ R := fun j hj => by omega
  have hRlow : w.heap.size + 1 ≤ R := by omega
  rw [hRe] at hX2 ⊢
  generalize hw3 : (w2.alloc (.cells #[.int .i64 0, .slice none 0 0] 46)) = W3 at *
  have HP3 := Lib.hid hP2
  have HC3 := Lib.hid hc3
  have HB4 := Lib.hid hb4
  have HPP := Lib.hid hPP
  have HX3 := Lib.hid hX2
  clear hw3 hP2 hc3 hb4 hPP hX2
  go_loopw [9, 10] (fun u i wr => ∃ (k n : Nat) (s : CSt) (P : Nat → Prop) (S : Int) (ps : List Part) (Ab : Option Addr) (cb : Nat) (v : Value) (ms : List UInt8), k ≤ ls.length ∧ n ≤ 40 * k ∧ i = .int .i64 (k : Int) ∧ u = v ∧ Chunks wr g P n s ∧ Hid (∀ j, P j → w.heap.size + 1 ≤ j ∧ j ≠ R ∧ (∀ ad, Ab = some ad → ad.block ≠ j) ∧ v.ownBlock ≠ some j) ∧ Blk wr R 46 #[.int .i64 S, .slice Ab ps.length cb] ∧ Rd wr Ab (pcs ps) ∧ Own wr 0 5 v (ms.map eb) ∧ Hid (∀ j, v.ownBlock = some j → w.heap.size + 1 ≤ j ∧ j ≠ R ∧ (ps ≠ [] → ∀ ad, Ab = some ad → ad.block ≠ j)) ∧ Hid (COk n s ∧ CInv s ∧ s.next ≤ 20 * (k : Int) + 1) ∧ Hid (MOk s S ps ms ∧ ms.length ≤ 700) ∧ Below (w.heap.size + 1) W3 wr) (fun _ i _ => ls.length - (intOf i).toNat)
  case atStart => exact ⟨0, 0, CSt.empty, _, 0, [], none, 0, _, [], Nat.zero_le _, Nat.le_refl _, rfl, rfl, HC3.out, Lib.hid fun j hj => ⟨(HPP.out j hj).1, (HPP.out j hj).2, (fun _ h => by cases h), by simp [Value.ownBlock]⟩, HX3.out, Rd.nil _ _, Own.nil _ _ _, Lib.hid (fun j h => by simp [Value.ownBlock] at h), Lib.hid ⟨COk.empty, CInv.empty, by decide⟩, Lib.hid ⟨MOk.empty _, by simp⟩, Below.refl _ _⟩
  case round =>
    obtain ⟨k, n, s, P, S, ps, Ab, cb, v, ms, hk, hnk, rfl, rfl, hc, hP, hX, hrp, hom, hvB, hinv, hmok, hb⟩ := hrel
    obtain ⟨Am, cm, rfl, hcm, hrm⟩ := hom.bytes
    by_cases hlt : k < ls.length
    · have hbw := HB4.out.trans (hb.mono (Nat.le_succ _))
      obtain ⟨bb, ob, rfl, hbblt, HT0⟩ := texts_atC HV.out HL.out (by omega)
      obtain ⟨Ai, ci, hcapi, hAlt, hti⟩ := HT0 k hlt
      have hbl := HLEN.out (ls.getD k []) (by rw [List.getD_eq_getElem?_getD, List.getElem?_eq_getElem hlt]; exact List.getElem_mem hlt)
      have HR1' := HR1
      obtain ⟨a1b, a1o, rfl, ha1c⟩ := flat_at pr2_len (by omega) (HR1.out.below hbw) k (by omega)
      obtain ⟨na, nb, hnab⟩ : ∃ na nb, ns[k]'(by omega) = (na, nb) := ⟨_, _, rfl⟩
      have hnb : na < 65536 ∧ nb < 65536 := by have := HNS.out _ (List.getElem_mem (l := ns) (n := k) (by omega)); rw [hnab] at this; exact this
      have y0 := ha1c 0 _ (by rw [hnab]; rfl)
      have y1 := ha1c 1 _ (by rw [hnab]; rfl)
      rw [Nat.add_zero] at y0
      have HY : Hid (∀ W, Below w.heap.size w W → W.cell? ⟨a1b, a1o + k * 2 + 1, none⟩ = some (.int .u16 (nb : Int))) := Lib.hid fun W hW => by
        obtain ⟨b', o', e, hc'⟩ := flat_at pr2_len (by omega) (HR1'.out.below hW) k (by omega)
        cases e
        exact hc' 1 _ (by rw [hnab]; rfl)
      have HT := Lib.hid hti
      have hcell1 := (hti wr hbw).1
      have i0 : (0 : Int) ≤ (k : Int) := by omega
      have i1 : (k : Int) < (ls.length : Int) := by omega
      have i2 : (k : Int) < (ns.length : Int) := by omega
      clear HT0 hti ha1c hnab
      generalize ls.getD k [] = bt at *
      by_cases h400 : (400 : Int) < (bt.length : Int)
      · go_wp2
        go_ret
        exact ⟨rfl, hbw⟩
      obtain ⟨off, hoff⟩ : ∃ off : Nat, na % 300 = off := ⟨_, rfl⟩
      have hof : off < 300 := by omega
      have hwo : IntKind.i64.wrap (na : Int) = (na : Int) := IntWalk.i64_in _ (by omega)
      have hrem : Int.tmod (na : Int) 300 = (off : Int) := by rw [Int.tmod_eq_emod_of_nonneg (by omega)]; omega
      clear hoff
      have hvlt := Lib.hid (fun j hj => (hom.lt j hj).2)
      have hPlt := Lib.hid hc.lt
      have x0 : wr.cell? ⟨R, 0, none⟩ = some (.int .i64 S) := hX.cell 0
      have x1 : wr.cell? ⟨R, 1, none⟩ = some (.slice Ab ps.length cb) := hX.cell 1
      have hpl : ps.length ≤ 700 := by have := may_len hmok.out.1.good.may; have := hmok.out.1.len; have := hmok.out.2; omega
      have hRlt := hX.lt
      cases hcond : (bits BinOp.and IntKind.u16 (nb : Int) 3 == 0) with
      | true =>
        obtain ⟨ps', htr, hmk2⟩ := hmok.out.1.trunc off (by omega)
        have HTR := body_truncF S Ab ps.length cb ps (off : Int) wr rfl (by omega) hrp
        rw [htr] at HTR
        try unfold bv at HTR
        replace HTR := Lib.hid HTR
        have HMK := Lib.hid hmk2
        have HML := Lib.hid hmok.out.2
        clear htr hmk2 hmok
        go_wp2_with fail
        (with_reducible refine HTR.out.mono ?_)
        rintro e w4 ⟨A4, c4, rfl, hr4, hf4, hb4⟩
        unfold bv
        have hba := bal hb4 (.cells #[.int .i64 (off : Int), .slice A4 ps'.length c4] 46)
        have hZ := Blk.new w4 46 #[.int .i64 (off : Int), .slice A4 ps'.length c4]
        have hz4 := hb4.size
        obtain ⟨Z, hZe⟩ : ∃ Z, w4.heap.size = Z := ⟨_, rfl⟩
        have hr5 := hr4.below (bal (Below.refl _ _) (.cells #[.int .i64 (off : Int), .slice A4 ps'.length c4] 46))
        have hAl : Hid (∀ ad, A4 = some ad → wr.heap.size ≤ ad.block) := Lib.hid hf4
        have hA4l : Hid (ps' ≠ [] → ∀ ad, A4 = some ad → ad.block < w4.heap.size) := Lib.hid fun hne ad e => hr4.lt e (fun h => hne (List.eq_nil_of_length_eq_zero (by have h3 : (pcs ps').length = 0 := by { rw [h]; rfl }; have h2 : (pcs ps').length = ps'.length * 4 := flat_length pc_len ps'; omega)))
        have hX5 := hX.below hba
        have hc5 := hc.below hba
        have hom5 := hom.below hba
        have hb5 := hb.trans (hba.mono (by have := hb.size; have := HB4.out.size; have := HX3.out.lt; omega))
        have hsz5 : (w4.alloc (.cells #[.int .i64 (off : Int), .slice A4 ps'.length c4] 46)).heap.size = w4.heap.size + 1 := size_more' _ _
        clear hX hc hom hb hr4 hb4 hba hrp hrm hf4 x0 x1 HTR
        go_upto_region 18 with (fail)
        rw [hZe] at hZ
        try rw [hZe]
        generalize (w4.alloc (.cells #[.int .i64 (off : Int), .slice A4 ps'.length c4] 46)) = w5 at *
        have z0 : w5.cell? ⟨Z, 0, none⟩ = some (.int .i64 (off : Int)) := hZ.cell 0
        have z1 : w5.cell? ⟨Z, 1, none⟩ = some (.slice A4 ps'.length c4) := hZ.cell 1
        have q0 : w5.cell? ⟨R, 0, none⟩ = some (.int .i64 S) := hX5.cell 0
        have q1 : w5.cell? ⟨R, 1, none⟩ = some (.slice Ab ps.length cb) := hX5.cell 1
        have f0 := hX5.frozen 0
        have f1 := hX5.frozen 1
        have hX6 := blk_set2 (v0 := .int .i64 (off : Int)) (v1 := .slice A4 ps'.length c4) hX5
        have hk6 := kp_set2 w5 R (.int .i64 (off : Int)) (.slice A4 ps'.length c4)
        have hc6 := hc5.kp hk6 (fun j hj e => (hP.out j hj).2.1 e)
        have hom6 := hom5.kp hk6 (fun j hj e => (hvB.out j hj).2.1 e)
        have hr6 := hr5.kp hk6 (fun ad e f => by have := hAl.out ad e; omega)
        have hb6 : Below (w.heap.size + 1) W3 ((w5.setCell ⟨R, 0, none⟩ (.int .i64 (off : Int))).setCell ⟨R, 1, none⟩ (.slice A4 ps'.length c4)) := (hb5.setCell (by simp only; omega) _).setCell (by simp only; omega) _
        clear hX5 hc5 hom5 hr5 hb5 hZ
        go_upto_region 21 with (fail)
        clear z0 z1 q0 q1 f0 f1
        have hsz6 := hk6.size
        generalize ((w5.setCell ⟨R, 0, none⟩ (.int .i64 (off : Int))).setCell ⟨R, 1, none⟩ (.slice A4 ps'.length c4)) = w6 at *
        clear hk6
        have hvl6 : Hid (∀ j, (Value.slice Am ms.length cm).ownBlock = some j → j < Z) := Lib.hid fun j hj => by have := hvlt.out j hj; omega
        have HB6 := Lib.hid hb6
        clear hb6
        obtain ⟨wo, hwo⟩ : ∃ wo : World, wo = w6 := ⟨_, rfl⟩
        subst hwo
        go_loopw [9] (fun u wx => ∃ (kk : Nat) (v' : Value), ms.length ≤ kk ∧ kk ≤ max ms.length off ∧ u = v' ∧ Own wx 0 5 v' ((ms ++ List.replicate (kk - ms.length) 0).map eb) ∧ Kp (fun j => (Value.slice Am ms.length cm).ownBlock = some j) wo wx ∧ Hid (∀ j, v'.ownBlock = some j → (Value.slice Am ms.length cm).ownBlock = some j ∨ wo.heap.size ≤ j)) (fun u _ => off - lenOf u)
        case atStart => exact ⟨ms.length, _, Nat.le_refl _, by omega, rfl, by rw [Nat.sub_self]; simpa using hom6, Kp.refl _ _, Lib.hid fun j hj => .inl hj⟩
        case round =>
          obtain ⟨kk, v', hkk, hkm, rfl, ho', hk', hv'⟩ := hrel
          have hLlen : (ms ++ List.replicate (kk - ms.length) (0 : UInt8)).length = kk := by rw [List.length_append, List.length_replicate]; omega
          by_cases hlo : kk < off
          · have hst := fillTo_step ms off kk hkk hlo
            obtain ⟨L, hL⟩ : ∃ L, ms ++ List.replicate (kk - ms.length) (0 : UInt8) = L := ⟨_, rfl⟩
            rw [hL] at ho' hLlen hst
            have hst' := Lib.hid hst
            obtain ⟨A', c', rfl, _, _⟩ := ho'.bytes
            have HG := Lib.hid (grow_zero _ _ L ho' (by omega) _ rfl)
            have hlL : (L.length : Int) < (off : Int) := by omega
            have HLL := Lib.hid hLlen
            have hsx := hk'.size
            clear hst hL hLlen ho'
            go_wp2_with (at_builtin; refine wpList_append_ex rfl _ _ 23 23 rfl _ _ rfl rfl HG.out ?_; rintro v9 w9 ⟨A9, c9, rfl, ho9, hk9, hv9⟩)
            rw [List.length_append, List.length_singleton] at ho9 hv9
            go_roundw
            case rel =>
              refine ⟨kk + 1, _, by omega, by omega, rfl, by rw [← hst'.out]; exact ho9, hk'.trans hk9 (fun j hj e => ?_), Lib.hid fun j hj => ?_⟩
              · rcases hv'.out j e with h | h
                · exact h
                · omega
              · rcases hv9 j hj with h | h
                · exact hv'.out j h
                · exact .inr (by omega)
            case measure => simp only [lenOf, List.length_append, List.length_singleton]; have := HLL.out; omega
          · obtain rfl : kk = max ms.length off := by omega
            have hft : ms ++ List.replicate (max ms.length off - ms.length) (0 : UInt8) = fillTo ms off := by unfold fillTo; rw [show max ms.length off - ms.length = off - ms.length by omega]
            rw [hft] at ho' hLlen
            obtain ⟨L, hL⟩ : ∃ L, fillTo ms off = L := ⟨_, rfl⟩
            rw [hL] at ho' hLlen HMK
            obtain ⟨A', c', rfl, hc', hr'⟩ := ho'.bytes
            have hcut := cut_to (P := Try.prog) 23 5 Try.underlying23 size_u8 A' L.length c' (off : Int) (by omega) (by omega)
            rw [show ((off : Int)).toNat = off by omega] at hcut
            obtain ⟨v9, w9, hrun, ho9, hb9⟩ := append_fresh _ A' off c' (L.take off) (by rw [List.length_take]; omega) (hr'.take off) (by rw [List.length_take]; omega)
            have hlL : ¬ (L.length : Int) < (off : Int) := by omega
            have HRUN := hrun
            obtain ⟨A9, c9, rfl, _, _⟩ := ho9.bytes
            have hrun' := HRUN.out
            clear hLlen hft hr' hc' hL
            go_wp2_with (at_builtin; refine wpList_append_run rfl _ _ 23 23 rfl _ _ _ _ rfl rfl HRUN.out ?_)
            rw [List.length_take] at ho9
            have hc9 := (hc6.kp hk' (fun j hj e => (hP.out j hj).2.2.2 e)).below hb9
            have hX9 := (hX6.kp hk' (fun e => (hvB.out R e).2.1 rfl)).below hb9
            have hr9 := (hr6.kp hk' (fun ad e f => by have := hAl.out ad e; have := hvlt.out _ f; omega)).below hb9
            have hbb9 := HB6.out.trans ((hk'.below (by have := HB6.out.size; have := HX3.out.lt; omega) fun j hj => (hvB.out j hj).1).trans (hb9.mono (by have := hk'.size; omega)))
            have hP9 : Hid (∀ j, P j → w.heap.size + 1 ≤ j ∧ j ≠ R ∧ (∀ ad, A4 = some ad → ad.block ≠ j) ∧ (Value.slice A9 (min off L.length) c9).ownBlock ≠ some j) := Lib.hid fun j hj => ⟨(hP.out j hj).1, (hP.out j hj).2.1, fun ad e f => by have := hAl.out ad e; have := hPlt.out j hj; omega, fun e => by have := (ho9.lt j e).1; have := hPlt.out j hj; have := hk'.size; omega⟩
            have hv9 : Hid (∀ j, (Value.slice A9 (min off L.length) c9).ownBlock = some j → w.heap.size + 1 ≤ j ∧ j ≠ R ∧ (ps' ≠ [] → ∀ ad, A4 = some ad → ad.block ≠ j)) := Lib.hid fun j hj => by
              have h1 := (ho9.lt j hj).1
              have h2 := hk'.size
              refine ⟨by omega, by omega, fun hne ad e f => ?_⟩
              have := hA4l.out hne ad e
              omega
            have hin9 : Hid (COk n s ∧ CInv s ∧ s.next ≤ 20 * ((k + 1 : Nat) : Int) + 1) := Lib.hid ⟨hinv.out.1, hinv.out.2.1, by have := hinv.out.2.2; omega⟩
            have hm9 : Hid (MOk s (off : Int) ps' (L.take off) ∧ (L.take off).length ≤ 700) := Lib.hid ⟨HMK.out, by rw [List.length_take]; omega⟩
            have ho10 := ho9.lower (Nat.zero_le _)
            go_roundw
            case rel => exact ⟨k + 1, n, s, P, (off : Int), ps', A4, c4, _, L.take off, by omega, by omega, by go_num, rfl, hc9, hP9, hX9, hr9, ho10, hv9, hin9, hm9, hbb9⟩
            case measure => simp [intOf]; try omega
      | false =>
        obtain ⟨S1, hS1⟩ : ∃ x, s.next = x := ⟨_, rfl⟩
        have HIN := Lib.hid (show COk n s ∧ CInv s ∧ s.next ≤ 20 * (k : Int) + 1 from hinv.out)
        obtain ⟨wo, hwo⟩ : ∃ wo : World, wo = wr := ⟨_, rfl⟩
        subst hwo
        have HPl := hPlt
        go_wp2_with fail
        go_loopw [14, 15] (fun u i wx => ∃ (j n' : Nat) (s' : CSt) (P' : Nat → Prop) (vp : Value) (lp : List Part), 20 * j ≤ bt.length + 19 ∧ i = .int .i64 ((20 * j : Nat) : Int) ∧ u = vp ∧ Chunks wx g P' n' s' ∧ Hid (n' ≤ n + 2 * j ∧ COk n' s' ∧ CInv s' ∧ s'.next ≤ s.next + (j : Int) ∧ moreC s s') ∧ Hid (lp.length = j ∧ lp.all fits = true ∧ (∀ p ∈ lp, hasP s' p) ∧ joinP s' lp = bt.take (20 * j)) ∧ PRow wx 0 vp lp ∧ Kp P wo wx ∧ Hid (∀ x, P' x → P x ∨ wo.heap.size ≤ x) ∧ Hid (∀ x, vp.ownBlock = some x → wo.heap.size ≤ x ∧ ¬ P' x)) (fun _ i _ => bt.length + 20 - (intOf i).toNat)
        case atStart => exact ⟨0, n, s, P, _, [], by omega, rfl, rfl, hc, Lib.hid ⟨by omega, HIN.out.1, HIN.out.2.1, by omega, fun _ _ h => h⟩, Lib.hid ⟨rfl, rfl, (fun p (hp : p ∈ []) => by cases hp), by simp [joinP]⟩, ORow.nil _ _ _, Kp.refl _ _, Lib.hid fun x hx => .inl hx, Lib.hid fun x hx => by simp [Value.ownBlock] at hx⟩
        case round =>
          obtain ⟨j, n', s', P', vp, lp, hj, rfl, rfl, hc', hst, hlp, hvp, hk', hP', hvpB⟩ := hrel
          obtain ⟨Ap, cp, rfl, _, hrlp, _⟩ := ORow.read hvp
          have hbx : Below w.heap.size w wr := hbw.trans (hk'.below (by have := hbw.size; omega) fun x hx => by have := (hP.out x hx).1; omega)
          have hcell2 := (HT.out wr hbx).1
          have y2 := HY.out wr hbx
          obtain ⟨kk, hkk⟩ : ∃ kk, 20 * j = kk := ⟨_, rfl⟩
          rw [hkk]
          by_cases hlt2 : kk < bt.length
          · have hlt3 : (kk : Int) < (bt.length : Int) := by omega
            obtain ⟨dl, hdl⟩ : ∃ dl : Nat, min (kk + 20) bt.length = kk + dl := ⟨min (kk + 20) bt.length - kk, by omega⟩
            have hdl1 : 1 ≤ dl ∧ dl ≤ 20 ∧ kk + dl ≤ bt.length := by omega
            have hmin : min ((kk : Int) + 20) (bt.length : Int) = (kk : Int) + (dl : Int) := by omega
            have hwk : IntKind.i64.wrap ((kk : Int) + 20) = (kk : Int) + 20 := IntWalk.i64_in _ (by omega)
            obtain ⟨A', hcm, hcr, -⟩ := cut_mid (P := Try.prog) 23 5 Try.underlying23 size_u8 Ai bt.length ci (kk : Int) ((kk : Int) + (dl : Int)) (by omega) (by omega) (by omega)
            rw [show ((kk : Int) + (dl : Int)).toNat - ((kk : Int)).toNat = dl by omega, show ((kk : Int)).toNat = kk by omega] at hcm
            rw [show ((kk : Int)).toNat = kk by omega] at hcr
            have hrd := hcr wr _ (by rw [List.length_map]; exact hcapi) (HT.out wr hbx).2
            rw [← List.map_drop] at hrd
            have hrd2 : RB wr A' ((bt.drop kk).take dl) := RB.take hrd dl
            have hdlen : ((bt.drop kk).take dl).length = dl := by rw [List.length_take, List.length_drop]; omega
            have HDL := Lib.hid hdl
            clear hcr hrd hdl
            go_wp2_with fail
            go_region_held (fun W => W.cell? ⟨bb, ob + k, none⟩ = some (.slice Ai bt.length ci)) (exact hcell2) (fail)
            obtain ⟨kz, hkz⟩ : ∃ kz : Nat, nb / 4 % 3 = kz := ⟨_, rfl⟩
            have hkz3 : kz < 3 := by omega
            have hzi : (nb : Int) / 4 % 3 = (kz : Int) := by omega
            have hmk0 := fun W : World => make_run (P := Try.prog) 23 5 (.int .u8 0) 1 Try.underlying23 info_u8 rfl (kz : Int) (by omega) (by omega) (by omega) W
            simp only [Int.toNat_natCast] at hmk0
            obtain ⟨ad, rfl⟩ := hrd2.some_of (by omega)
            have hW1 := bal (bdr (Below.refl wr.heap.size wr)) (.cells (Array.replicate kz (.int .u8 0)) 5)
            obtain ⟨v9, w9, HRUN, ho9, hg9, hat9⟩ := append_bytes_at (wr.drew.alloc (.cells (Array.replicate kz (.int .u8 0)) 5)) (.slice (some ⟨wr.heap.size, 0, none⟩) kz kz) (List.replicate kz 0) (make_zeros wr.drew kz (by omega)) ad dl (ci - kk) ((bt.drop kk).take dl) hdlen (hrd2.below hW1) (by rw [List.length_replicate, hdlen]; omega)
            have hb9 : Below wr.heap.size wr w9 := hW1.grown hg9 (by rw [size_more']; exact Nat.le_succ _) (fun x hx => by cases hx; exact Nat.le_refl _)
            have hz9 : wr.heap.size ≤ w9.heap.size := hb9.size
            have hblen : (List.replicate kz (0 : UInt8) ++ (bt.drop kk).take dl).length = kz + dl := by rw [List.length_append, List.length_replicate, hdlen]
            have hA9 : ∀ x, v9.ownBlock = some x → wr.heap.size ≤ x := fun x hx => by
              rcases hat9 with e | e
              · have := hx.symm.trans e
                cases this
                exact Nat.le_refl _
              · have := hx.symm.trans e
                cases this
                rw [size_more']
                exact Nat.le_succ _
            obtain ⟨gA, c9, _, rfl, _, _, _, _, _⟩ := ho9.blk (by rw [List.length_map, hblen]; omega)
            rw [List.length_map, hblen] at HRUN hA9 ho9
            have hr9 := ho9.bytes_at
            have hgA : wr.heap.size ≤ gA := hA9 gA rfl
            obtain ⟨h1, h2, h3, h4, h5⟩ := hst.out
            obtain ⟨l1, l2, l3, l4⟩ := hlp.out
            have hc9 := hc'.below hb9
            have hlt' := Lib.hid hc'.lt
            have hokl : okLen (List.replicate kz (0 : UInt8) ++ (bt.drop kk).take dl) := by unfold okLen; rw [hblen]; omega
            have HPUT := Lib.hid (chunk_put g P' n' s' (some ⟨gA, 0, none⟩) (kz + dl) c9 (List.replicate kz (0 : UInt8) ++ (bt.drop kk).take dl) w9 hblen hr9 (by rw [hblen]; omega) (fun ad' e f => by cases e; have := hlt'.out _ f; simp only at this; omega) hc9 h2 h3 (by have := hnk; omega) (by have := HIN.out.2.2; omega))
            obtain ⟨r0, r1, r2, r3, r4⟩ := putR_says h2 h3 hokl
            obtain ⟨ok4, inv4, hnx4⟩ := putR_ok h2 h3 (by have := hnk; omega) (by have := HIN.out.2.2; omega) (List.replicate kz (0 : UInt8) ++ (bt.drop kk).take dl)
            obtain ⟨d, hd⟩ : ∃ d, (bt.drop kk).take dl = d := ⟨_, rfl⟩
            rw [hd] at hdlen r0 r1 r2 r3 r4 ok4 inv4 hnx4 HPUT
            generalize putR s' (List.replicate kz (0 : UInt8) ++ d) = pr at *
            obtain ⟨id, fresh, er, s4⟩ := pr
            simp only at r0 r1 r2 r3 r4 ok4 inv4 hnx4
            subst r0
            have hpc := one_piece (s := s4) (id := id) (z := List.replicate kz (0 : UInt8)) (b := d) r1 (by omega) (by rw [List.length_replicate]; omega) r3 (by have := HIN.out.2.2; omega)
            rw [List.length_replicate, hdlen] at hpc
            obtain ⟨p1, p2, p3⟩ := hpc
            have hLP : Hid ((lp ++ [(⟨0, (dl : Int), id, (kz : Int)⟩ : Part)]).length = j + 1 ∧ (lp ++ [(⟨0, (dl : Int), id, (kz : Int)⟩ : Part)]).all fits = true ∧ (∀ p ∈ lp ++ [(⟨0, (dl : Int), id, (kz : Int)⟩ : Part)], hasP s4 p) ∧ joinP s4 (lp ++ [(⟨0, (dl : Int), id, (kz : Int)⟩ : Part)]) = bt.take (20 * (j + 1))) := Lib.hid ⟨by rw [List.length_append, l1]; rfl, all_fits_snoc l2 p1, fun p hp => by
              rcases List.mem_append.1 hp with h | h
              · exact (hasP_more r2 (l3 p h)).1
              · rw [List.mem_singleton] at h; rw [h]; exact p2, by
              rw [joinP_snoc, p3, joinP_more r2 lp l3, l4, hkk, ← hd]
              have e1 : bt.take kk ++ (bt.drop kk).take dl = bt.take (kk + dl) := by rw [List.take_add]
              rw [e1]
              have e2 := HDL.out
              by_cases c20 : kk + 20 ≤ bt.length
              · rw [show kk + dl = 20 * (j + 1) by omega]
              · rw [List.take_of_length_le (by omega), List.take_of_length_le (by omega)]⟩
            have HST : Hid (n' + 2 ≤ n + 2 * (j + 1) ∧ COk (n' + 2) s4 ∧ CInv s4 ∧ s4.next ≤ s.next + ((j + 1 : Nat) : Int) ∧ moreC s s4) := Lib.hid ⟨by omega, ok4, inv4, by omega, fun i b h => r2 i b (h5 i b h)⟩
            have hlpl : lp.length < 1000000 := by omega
            have hvplt := Lib.hid (fun x hx => (hvp.lt x hx).2)
            have hvp9 := ORow.below hvp hb9
            have HB9 := Lib.hid hb9
            clear hc9 hc' h1 h2 h3 h4 h5 l1 l2 l3 l4 r1 r2 r3 r4 ok4 inv4 hnx4 p1 p2 p3 hokl hr9 ho9 hg9 hat9 hA9 hst hlp hblen hrd2 hvp hb9
            go_upto_region 30 with (fail)
            try rw [hzi]
            go_wp2_with (at_builtin; refine wpList_append_run rfl _ _ 23 23 rfl _ _ _ _ rfl rfl HRUN.out ?_)
            (with_reducible refine HPUT.out.mono ?_)
            rintro e w10 ⟨rfl, hk10, hc10⟩
            simp only at hc10
            have hvp10 := ORow.kp hvp9 hk10 (fun x hx f => (hvpB.out x hx).2 f)
            have HG := Lib.hid (grow_piece w10 _ lp 0 (dl : Int) id (kz : Int) hvp10 hlpl _ rfl)
            have hs10 := hk10.size
            have hkA : Kp P wo w10 := (hk'.trans (kp_of HB9.out) (fun x hx f => by have := hk'.size; omega)).trans hk10 (fun x hx f => by
              rcases hP'.out x f with h | h
              · exact h
              · omega)
            clear hvp9 hvp10 hk10 HRUN HPUT hW1
            go_wp2_with (at_builtin; refine wpList_append_ex rfl _ _ 44 44 rfl _ _ rfl rfl HG.out ?_; rintro v11 w11 ⟨A11, c11, rfl, ho11, hk11, hv11⟩)
            rw [List.length_append, List.length_singleton] at ho11 hv11
            have hc11 := hc10.kp hk11 (fun x hx e => by
              have h8 := hvpB.out x e
              rcases hx with hx | hx
              · exact h8.2 hx
              · have := hvplt.out x e; omega)
            go_roundw
            case rel =>
              refine ⟨j + 1, n' + 2, s4, _, _, lp ++ [⟨0, (dl : Int), id, (kz : Int)⟩], by omega, by go_num, rfl, hc11, HST, hLP, ho11, hkA.trans hk11 (fun x hx e => by have := (hvpB.out x e).1; omega), Lib.hid fun x hx => ?_, Lib.hid fun x hx => ?_⟩
              · rcases hx with hx | hx
                · exact hP'.out x hx
                · exact .inr (by have := hk'.size; omega)
              · rcases hv11 x hx with h | h
                · refine ⟨(hvpB.out x h).1, fun f => ?_⟩
                  rcases f with f | f
                  · exact (hvpB.out x h).2 f
                  · have := hvplt.out x h; omega
                · refine ⟨by have := hk'.size; omega, fun f => ?_⟩
                  rcases f with f | f
                  · have := hlt'.out x f; omega
                  · omega
            case measure => simp [intOf]; try omega
          · have hge : ¬ (kk : Int) < (bt.length : Int) := by omega
            obtain ⟨h1, h2, h3, h4, h5⟩ := hst.out
            obtain ⟨l1, l2, l3, l4⟩ := hlp.out
            have hjb : joinP s' lp = bt := by rw [l4]; exact List.take_of_length_le (by omega)
            have hMs := hmok.out.1.more h5
            obtain ⟨S', ps', hwr, hmk0, hmk1⟩ : ∃ S' ps', writeR S ps (off : Int) lp = (S', ps', 0) ∧ (bt.length = 0 → MOk s' S' ps' ms) ∧ (0 < bt.length → MOk s' S' ps' (lay (fillTo ms (off + bt.length)) off bt)) := by
              by_cases h0 : bt.length = 0
              · have hj0 : lp = [] := List.eq_nil_of_length_eq_zero (by omega)
                subst hj0
                exact ⟨S, ps, hMs.write_nil off (by omega), fun _ => hMs, fun f => by omega⟩
              · obtain ⟨S', ps', e, hm⟩ := hMs.write l2 l3 off hjb (fun e => by rw [e] at hjb; rw [← hjb] at h0; exact h0 rfl) (by omega) (by omega)
                exact ⟨S', ps', e, fun f => by omega, fun _ => hm⟩
            have hXr := hX.kp hk' (fun e => (hP.out R e).2.1 rfl)
            have homr := hom.kp hk' (fun x hx f => (hP.out x f).2.2.2 hx)
            have hrpr := hrp.kp hk' (fun ad e f => (hP.out _ f).2.2.1 ad e rfl)
            have hbr : Below (w.heap.size + 1) W3 wr := hb.trans (hk'.below (by have := hb.size; have := HX3.out.lt; omega) fun x hx => (hP.out x hx).1)
            have hPP' : Hid (∀ x, P' x → w.heap.size + 1 ≤ x ∧ x ≠ R ∧ (Value.slice Am ms.length cm).ownBlock ≠ some x) := Lib.hid fun x hx => by
              rcases hP'.out x hx with h | h
              · exact ⟨(hP.out x h).1, (hP.out x h).2.1, (hP.out x h).2.2.2⟩
              · exact ⟨by omega, by omega, fun e => by have := hvlt.out x e; omega⟩
            have HWF := body_writeF S Ab ps.length cb ps (off : Int) Ap lp.length cp lp wr rfl (by omega) hrpr rfl (by omega) hrlp
            rw [hwr] at HWF
            try unfold bv at HWF
            replace HWF := Lib.hid HWF
            have HM0 := Lib.hid hmk0
            have HM1 := Lib.hid hmk1
            have HML := Lib.hid hmok.out.2
            have HIN' : Hid (n' ≤ 40 * (k + 1) ∧ COk n' s' ∧ CInv s' ∧ s'.next ≤ 20 * ((k + 1 : Nat) : Int) + 1) := Lib.hid ⟨by omega, h2, h3, by have := HIN.out.2.2; omega⟩
            have hPl' := Lib.hid hc'.lt
            have hkws := hk'.size
            have t0 : wr.cell? ⟨R, 0, none⟩ = some (.int .i64 S) := hXr.cell 0
            have t1 : wr.cell? ⟨R, 1, none⟩ = some (.slice Ab ps.length cb) := hXr.cell 1
            clear hwr hmk0 hmk1 h1 h2 h3 h4 h5 l1 l2 l3 l4 hjb hMs hst hlp hvp hrlp hkk
            go_wp2_with fail
            (with_reducible refine HWF.out.mono ?_)
            rintro e w4 ⟨A4, c4, rfl, hr4, hf4, hb4⟩
            unfold bv
            have hba := bal hb4 (.cells #[.int .i64 S', .slice A4 ps'.length c4] 46)
            have hZ := Blk.new w4 46 #[.int .i64 S', .slice A4 ps'.length c4]
            have hz4 := hb4.size
            obtain ⟨Z, hZe⟩ : ∃ Z, w4.heap.size = Z := ⟨_, rfl⟩
            have hr5 := hr4.below (bal (Below.refl _ _) (.cells #[.int .i64 S', .slice A4 ps'.length c4] 46))
            have hAl2 : Hid (∀ ad, A4 = some ad → wr.heap.size ≤ ad.block) := Lib.hid hf4
            have hAl : Hid (∀ ad, A4 = some ad → wo.heap.size ≤ ad.block) := Lib.hid fun ad e => Nat.le_trans hk'.size (hf4 ad e)
            have hA4l : Hid (ps' ≠ [] → ∀ ad, A4 = some ad → ad.block < w4.heap.size) := Lib.hid fun hne ad e => hr4.lt e (fun h => hne (List.eq_nil_of_length_eq_zero (by have h3 : (pcs ps').length = 0 := by { rw [h]; rfl }; have h2 : (pcs ps').length = ps'.length * 4 := flat_length pc_len ps'; omega)))
            have hX5 := hXr.below hba
            have hc5 := hc'.below hba
            have hom5 := homr.below hba
            have hb5 := hbr.trans (hba.mono (by have := hbr.size; have := HB4.out.size; have := HX3.out.lt; omega))
            have hsz5 : (w4.alloc (.cells #[.int .i64 S', .slice A4 ps'.length c4] 46)).heap.size = w4.heap.size + 1 := size_more' _ _
            clear hXr hc' homr hbr hr4 hb4 hba hrpr hrm hf4 t0 t1 HWF
            go_upto_region 35 with (fail)
            rw [hZe] at hZ
            try rw [hZe]
            generalize (w4.alloc (.cells #[.int .i64 S', .slice A4 ps'.length c4] 46)) = w5 at *
            have z0 : w5.cell? ⟨Z, 0, none⟩ = some (.int .i64 S') := hZ.cell 0
            have z1 : w5.cell? ⟨Z, 1, none⟩ = some (.slice A4 ps'.length c4) := hZ.cell 1
            have q0 : w5.cell? ⟨R, 0, none⟩ = some (.int .i64 S) := hX5.cell 0
            have q1 : w5.cell? ⟨R, 1, none⟩ = some (.slice Ab ps.length cb) := hX5.cell 1
            have f0 := hX5.frozen 0
            have f1 := hX5.frozen 1
            have hX6 := blk_set2 (v0 := .int .i64 S') (v1 := .slice A4 ps'.length c4) hX5
            have hk6 := kp_set2 w5 R (.int .i64 S') (.slice A4 ps'.length c4)
            have hc6 := hc5.kp hk6 (fun j hj e => (hPP'.out j hj).2.1 e)
            have hom6 := hom5.kp hk6 (fun j hj e => (hvB.out j hj).2.1 e)
            have hr6 := hr5.kp hk6 (fun ad e f => by have := hAl.out ad e; omega)
            have hb6 : Below (w.heap.size + 1) W3 ((w5.setCell ⟨R, 0, none⟩ (.int .i64 S')).setCell ⟨R, 1, none⟩ (.slice A4 ps'.length c4)) := (hb5.setCell (by simp only; omega) _).setCell (by simp only; omega) _
            clear hX5 hc5 hom5 hr5 hb5 hZ
            go_upto_region 38 with (fail)
            clear z0 z1 q0 q1 f0 f1
            have hsz6 := hk6.size
            generalize ((w5.setCell ⟨R, 0, none⟩ (.int .i64 S')).setCell ⟨R, 1, none⟩ (.slice A4 ps'.length c4)) = w6 at *
            clear hk6
            have hcell6 := (HT.out w6 (HB4.out.trans (hb6.mono (Nat.le_succ _)))).1
            by_cases hb0 : bt.length = 0
            · have hb00 : ¬ (0 : Int) < (bt.length : Int) := by omega
              have hv9 : Hid (∀ j, (Value.slice Am ms.length cm).ownBlock = some j → w.heap.size + 1 ≤ j ∧ j ≠ R ∧ (ps' ≠ [] → ∀ ad, A4 = some ad → ad.block ≠ j)) := Lib.hid fun j hj => ⟨(hvB.out j hj).1, (hvB.out j hj).2.1, fun _ ad e f => by have := hAl.out ad e; have := hvlt.out j hj; omega⟩
              have hP9 : Hid (∀ j, P' j → w.heap.size + 1 ≤ j ∧ j ≠ R ∧ (∀ ad, A4 = some ad → ad.block ≠ j) ∧ (Value.slice Am ms.length cm).ownBlock ≠ some j) := Lib.hid fun j hj => ⟨(hPP'.out j hj).1, (hPP'.out j hj).2.1, fun ad e f => by have := hAl2.out ad e; have := hPl'.out j hj; omega, (hPP'.out j hj).2.2⟩
              have hm9 : Hid (MOk s' S' ps' ms ∧ ms.length ≤ 700) := Lib.hid ⟨HM0.out hb0, HML.out⟩
              go_wp2
              go_roundw
              case rel => exact ⟨k + 1, n', s', P', S', ps', A4, c4, _, ms, by omega, HIN'.out.1, by go_num, rfl, hc6, hP9, hX6, hr6, hom6, hv9, Lib.hid HIN'.out.2, hm9, hb6⟩
              case measure => simp [intOf]; try omega
            · have hb00 : (0 : Int) < (bt.length : Int) := by omega
              have hm9 := Lib.hid (HM1.out (by omega))
              obtain ⟨TT, hTT⟩ : ∃ TT, off + bt.length = TT := ⟨_, rfl⟩
              have hTI : (off : Int) + (bt.length : Int) = (TT : Int) := by omega
              rw [hTT] at hm9
              have HTT := Lib.hid hTT
              have HTI := Lib.hid hTI
              clear hTI
              have hTTb : TT ≤ 700 := by omega
              have hTTn : off + bt.length ≤ TT := by omega
              clear hTT
              have HB6 := Lib.hid hb6
              clear hb6
              have hbN : 0 < bt.length := by omega
              go_wp2_with fail
              clear hb0 hb00 hcell6 hge
              obtain ⟨wz, hwz⟩ : ∃ wz : World, wz = w6 := ⟨_, rfl⟩
              subst hwz
              go_loopw [9] (fun u wx => ∃ (kk : Nat) (v' : Value), ms.length ≤ kk ∧ kk ≤ max ms.length TT ∧ u = v' ∧ Own wx 0 5 v' ((ms ++ List.replicate (kk - ms.length) 0).map eb) ∧ Kp (fun j => (Value.slice Am ms.length cm).ownBlock = some j) wz wx ∧ Hid (∀ j, v'.ownBlock = some j → (Value.slice Am ms.length cm).ownBlock = some j ∨ wz.heap.size ≤ j)) (fun u _ => TT - lenOf u)
              case atStart => exact ⟨ms.length, _, Nat.le_refl _, by omega, rfl, by rw [Nat.sub_self]; simpa using hom6, Kp.refl _ _, Lib.hid fun j hj => .inl hj⟩
              case round =>
                obtain ⟨kk, v', hkk, hkm, rfl, ho', hk', hv'⟩ := hrel
                have hbq : Below w.heap.size w wr := (HB4.out.trans (HB6.out.mono (Nat.le_succ _))).trans (hk'.below (by have := HB6.out.size; have := HX3.out.lt; omega) fun j hj => by have := (hvB.out j hj).1; omega)
                have hcell7 := (HT.out wr hbq).1
                have hLlen : (ms ++ List.replicate (kk - ms.length) (0 : UInt8)).length = kk := by rw [List.length_append, List.length_replicate]; omega
                by_cases hlo : kk < TT
                · have hst := fillTo_step ms TT kk hkk hlo
                  obtain ⟨L, hL⟩ : ∃ L, ms ++ List.replicate (kk - ms.length) (0 : UInt8) = L := ⟨_, rfl⟩
                  rw [hL] at ho' hLlen hst
                  have hst' := Lib.hid hst
                  obtain ⟨A', c', rfl, _, _⟩ := ho'.bytes
                  have HG := Lib.hid (grow_zero _ _ L ho' (by omega) _ rfl)
                  have hlL : (L.length : Int) < (off : Int) + (bt.length : Int) := by have := HTI.out; omega
                  have HLL := Lib.hid hLlen
                  have hsx := hk'.size
                  clear hst hL hLlen ho'
                  go_wp2_with (at_builtin; refine wpList_append_ex rfl _ _ 23 23 rfl _ _ rfl rfl HG.out ?_; rintro v9 w9 ⟨A9, c9, rfl, ho9, hk9, hv9⟩)
                  rw [List.length_append, List.length_singleton] at ho9 hv9
                  go_roundw
                  case rel =>
                    refine ⟨kk + 1, _, by omega, by omega, rfl, by rw [← hst'.out]; exact ho9, hk'.trans hk9 (fun j hj e => ?_), Lib.hid fun j hj => ?_⟩
                    · rcases hv'.out j e with h | h
                      · exact h
                      · omega
                    · rcases hv9 j hj with h | h
                      · exact hv'.out j h
                      · exact .inr (by omega)
                  case measure => simp only [lenOf, List.length_append, List.length_singleton]; have := HLL.out; omega
                · obtain rfl : kk = max ms.length TT := by omega
                  have hft : ms ++ List.replicate (max ms.length TT - ms.length) (0 : UInt8) = fillTo ms TT := by unfold fillTo; rw [show max ms.length TT - ms.length = TT - ms.length by omega]
                  rw [hft] at ho' hLlen
                  obtain ⟨L, hL⟩ : ∃ L, fillTo ms TT = L := ⟨_, rfl⟩
                  rw [hL] at ho' hLlen hm9
                  have hL0 : 0 < L.length := by omega
                  obtain ⟨gm, cM, _, rfl, _, _, hcM, _, _⟩ := ho'.blk (by rw [List.length_map]; exact hL0)
                  rw [List.length_map] at ho' hcM hv' ⊢
                  have hlL : ¬ (L.length : Int) < (off : Int) + (bt.length : Int) := by have := HTI.out; omega
                  obtain ⟨A', hcut, hA'⟩ := cut_ownR gm L.length cM off (by omega) hcM
                  have hrT := (HT.out wr hbq).2.below (bdr (Below.refl _ _))
                  have HCP := Lib.hid (copy_own (ho'.below (bdr (Below.refl _ _))) off A' Ai (L.length - off) (cM - off) bt.length ci bt (by show bt.length = min bt.length (L.length - off); omega) hrT (fun h0 => ⟨gm, rfl, hA' (by omega)⟩) (by omega) 3)
                  have hgm : (Value.slice Am ms.length cm).ownBlock = some gm ∨ wz.heap.size ≤ gm := hv'.out gm rfl
                  have hlen9 : (lay L off bt).length = L.length := lay_length _ _ _ (by omega)
                  have hszw := hk'.size
                  have hsX := hX6.lt
                  have hdw : wr.drew.heap.size = wr.heap.size := rfl
                  have hcz := (hc6.kp hk' (fun j hj e => (hPP'.out j hj).2.2 e)).below (bdr (Below.refl _ _))
                  have hXz := (hX6.kp hk' (fun e => (hvB.out R e).2.1 rfl)).below (bdr (Below.refl _ _))
                  have hrz := (hr6.kp hk' (fun ad e f => by have := hAl.out ad e; have := hvlt.out _ f; omega)).below (bdr (Below.refl _ _))
                  have hbz := HB6.out.trans ((hk'.below (by have := HB6.out.size; have := HX3.out.lt; omega) fun j hj => (hvB.out j hj).1).trans ((bdr (Below.refl wr.heap.size wr)).mono (by have := HB6.out.size; have := HX3.out.lt; omega)))
                  have hgw : w.heap.size ≤ gm := by
                    rcases hgm with h | h
                    · have := (hvB.out gm h).1; omega
                    · have := HB6.out.size; have := HX3.out.lt; omega
                  have HC10 := Lib.hid fun (V : World) (hk : Kp (fun j => (Value.slice (some ⟨gm, 0, none⟩) L.length cM).ownBlock = some j) wr.drew V) => (HT.out V ((bdr hbq).trans (hk.below (bdr hbq).size fun j hj => by cases hj; exact hgw))).1
                  have HLL := Lib.hid hLlen
                  clear hft hL ho' hrT hcM hc6 hX6 hr6 hom6 hLlen hL0
                  have hcut2 := hcut wr.drew
                  go_upto_region 41 with (fail)
                  go_region_held_law (fun W => W.cell? ⟨bb, ob + k, none⟩ = some (.slice Ai bt.length ci)) (first | exact hcell7 | exact HC10.out _ hk10) (first | (refine step_copy_ex (by rfl) _ _ 23 23 (by rfl) _ _ (by rfl) (by rfl) bt.length HCP.out ?_; rintro w10 ⟨ho10, hk10, hz10⟩))
                  have hc10 := hcz.kp hk10 (fun j hj e => by
                    have e' : gm = j := Option.some.inj e
                    rcases hgm with h | h
                    · exact (hPP'.out j hj).2.2 (e' ▸ h)
                    · have := hPl'.out j hj; omega)
                  have hX10 := hXz.kp hk10 (fun e => by
                    have e' : gm = R := Option.some.inj e
                    rcases hgm with h | h
                    · exact (hvB.out _ h).2.1 e'
                    · omega)
                  have hr10 := Rd.kp_ne hrz hk10 (fun hne ad e f => by
                    have e' : gm = ad.block := Option.some.inj f
                    have h7 := hAl.out ad e
                    have h8 := hA4l.out hne ad e
                    rcases hgm with h | h
                    · have := hvlt.out _ h; omega
                    · omega)
                  have hb10 := hbz.trans (hk10.below (by have := HB6.out.size; have := HX3.out.lt; omega) fun j hj => by
                    have e' : gm = j := Option.some.inj hj
                    rcases hgm with h | h
                    · have := (hvB.out _ h).1; omega
                    · have := HB6.out.size; have := HX3.out.lt; omega)
                  have hP9 : Hid (∀ j, P' j → w.heap.size + 1 ≤ j ∧ j ≠ R ∧ (∀ ad, A4 = some ad → ad.block ≠ j) ∧ (Value.slice (some ⟨gm, 0, none⟩) L.length cM).ownBlock ≠ some j) := Lib.hid fun j hj => ⟨(hPP'.out j hj).1, (hPP'.out j hj).2.1, fun ad e f => by have := hAl2.out ad e; have := hPl'.out j hj; omega, fun e => by
                    have e' : gm = j := Option.some.inj e
                    rcases hgm with h | h
                    · exact (hPP'.out _ hj).2.2 (e' ▸ h)
                    · have := hPl'.out _ hj; omega⟩
                  have hv9 : Hid (∀ j, (Value.slice (some ⟨gm, 0, none⟩) L.length cM).ownBlock = some j → w.heap.size + 1 ≤ j ∧ j ≠ R ∧ (ps' ≠ [] → ∀ ad, A4 = some ad → ad.block ≠ j)) := Lib.hid fun j hj => by
                    have e' : gm = j := Option.some.inj hj
                    rcases hgm with h | h
                    · have h2 := hvB.out _ h
                      exact ⟨by omega, by omega, fun _ ad e f => by have := hAl.out ad e; have := hvlt.out _ h; omega⟩
                    · exact ⟨by have := HB6.out.size; have := HX3.out.lt; omega, by omega, fun hne ad e f => by have := hA4l.out hne ad e; omega⟩
                  have hm10 : Hid (MOk s' S' ps' (lay L off bt) ∧ (lay L off bt).length ≤ 700) := Lib.hid ⟨hm9.out, by have := HLL.out; have := HML.out; rw [hlen9]; omega⟩
                  go_wp2
                  go_roundw
                  case rel => exact ⟨k + 1, n', s', P', S', ps', A4, c4, _, lay L off bt, by omega, HIN'.out.1, by go_num, rfl, hc10, hP9, hX10, hr10, ho10, hv9, Lib.hid HIN'.out.2, hm10, hb10⟩
                  case measure => simp [intOf]; try omega
    · obtain rfl : k = ls.length := by omega
      have a0 : wr.cell? ⟨w.heap.size, 0, none⟩ = some (.int .u16 (x0 : Int)) := (hb.cell (p := ⟨w.heap.size, 0, none⟩) (by simp only; omega)).trans (HP3.out.cell 0)
      have a1 : wr.cell? ⟨w.heap.size, 1, none⟩ = some (.int .u16 (x1 : Int)) := (hb.cell (p := ⟨w.heap.size, 1, none⟩) (by simp only; omega)).trans (HP3.out.cell 1)
      obtain ⟨f, hf⟩ : ∃ f : Nat, x0 % 400 = f := ⟨_, rfl⟩
      obtain ⟨q, hq⟩ : ∃ q : Nat, x1 % 600 = q := ⟨_, rfl⟩
      have hf1 : f < 400 := by omega
      have hq1 : q < 600 := by omega
      have hw0 : IntKind.i64.wrap (x0 : Int) = (x0 : Int) := IntWalk.i64_in _ (by omega)
      have hw1 : IntKind.i64.wrap (x1 : Int) = (x1 : Int) := IntWalk.i64_in _ (by omega)
      have hm0 : Int.tmod (x0 : Int) 400 = (f : Int) := by rw [Int.tmod_eq_emod_of_nonneg (by omega)]; omega
      have hm1 : Int.tmod (x1 : Int) 600 = (q : Int) := by rw [Int.tmod_eq_emod_of_nonneg (by omega)]; omega
      have hm0' : (x0 : Int) % 400 = (f : Int) := by omega
      have hm1' : (x1 : Int) % 600 = (q : Int) := by omega
      obtain ⟨ok, inv, _⟩ := hinv.out
      obtain ⟨g1, g2⟩ := hmok.out
      have hpl : ps.length ≤ 700 := by have := may_len g1.good.may; have := g1.len; omega
      have hSl : S = (ms.length : Int) := g1.len
      have hsl : ∀ id b, s.l id = some b → b.length ≤ 1000 := fun id b h => by have := ok.len id b h; omega
      have hbw := HB4.out.trans (hb.mono (Nat.le_succ _))
      have HRD := body_read g P n s S Ab ps.length cb ps (f : Int) (q : Int) wr.drew rfl (by omega) (hrp.below (bdr (Below.refl _ _))) (hc.below (bdr (Below.refl _ _))) hsl (by omega) (by omega) (by omega) (by omega)
      rw [g1.read f q (by omega)] at HRD
      unfold bv at HRD
      replace HRD := Lib.hid HRD
      have q0 : wr.cell? ⟨R, 0, none⟩ = some (.int .i64 S) := hX.cell 0
      have q1' : wr.cell? ⟨R, 1, none⟩ = some (.slice Ab ps.length cb) := hX.cell 1
      have ts : (S != (ms.length : Int)) = false := by rw [hSl]; simp
      have hX1 : Blk wr.drew R 46 #[.int .i64 S, .slice Ab ps.length cb] := hX
      have z0 : wr.drew.cell? ⟨R, 0, none⟩ = some (.int .i64 S) := hX1.cell 0
      have z1 : wr.drew.cell? ⟨R, 1, none⟩ = some (.slice Ab ps.length cb) := hX1.cell 1
      have hms1 := hrm.below (bdr (Below.refl wr.heap.size wr))
      have hbw1 := bdr hbw
      have HSL := Lib.hid hSl
      clear hSl hf hq ok inv g1 hsl hinv hmok hX hrp hc hom hb hbw hrm
      go_upto_region 44 with (fail)
      clear q0 q1'
      go_region_held (fun W => W.cell? ⟨w.heap.size, 0, none⟩ = some (.int .u16 (x0 : Int)) ∧ W.cell? ⟨w.heap.size, 1, none⟩ = some (.int .u16 (x1 : Int))) (exact ⟨a0, a1⟩) (fail)
      go_wp2_with fail
      (with_reducible refine HRD.out.mono ?_)
      rintro e w5 ⟨A5, c5, rfl, hr5, hb5⟩
      have hms5 := hms1.below hb5
      have hbw5 := bn hbw1 hb5
      simp only at hr5 ⊢
      obtain ⟨X, hX⟩ : ∃ X, (ms.drop f).take q = X := ⟨_, rfl⟩
      rw [hX] at hr5 ⊢
      have hXl : X.length = min q (ms.length - f) := by rw [← hX, List.length_take, List.length_drop]
      have hX7 : X.length ≤ 700 := by omega
      have tX := run_str_try w5 A5 c5 _ X rfl hr5
      clear z0 z1 hX1 HRD hr5 hb5 hms1 hbw1 a0 a1 hw0 hw1 hm0 hm1 hm0' hm1'
      by_cases hlf : f < ms.length
      · have hlf' : (f : Int) < (ms.length : Int) := by omega
        obtain ⟨e2, he2⟩ : ∃ e2 : Nat, min ms.length (f + q) = e2 := ⟨_, rfl⟩
        have hmin : min (ms.length : Int) ((f : Int) + (q : Int)) = (e2 : Int) := by omega
        obtain ⟨A', hcm', hcr, -⟩ := cut_mid (P := Try.prog) 23 5 Try.underlying23 size_u8 Am ms.length cm (f : Int) (e2 : Int) (by omega) (by omega) (by omega)
        have hrd := hcr w5 _ (by rw [List.length_map]; exact hcm) hms5
        rw [← List.map_drop, show ((f : Int)).toNat = f by omega] at hrd
        have hrd2 : RB w5 A' X := by
          have h := RB.take hrd q
          rw [hX] at h
          exact h
        rw [show ((e2 : Int)).toNat - ((f : Int)).toNat = X.length by omega, show ((f : Int)).toNat = f by omega] at hcm'
        have tY := run_str_try w5 A' (cm - f) _ X rfl hrd2
        clear he2 hcr hrd hrd2 hX hXl
        go_wp2_with fail
        go_ret
        exact ⟨rfl, hbw5⟩
      · have hlf' : ¬ (f : Int) < (ms.length : Int) := by omega
        obtain rfl : X = [] := List.eq_nil_of_length_eq_zero (by omega)
        clear hX hXl
        simp only [List.length_nil] at tX
        go_wp2_with fail
        go_ret
        exact ⟨rfl, hbw5⟩

section
open Go.ChangeShapes Go.WideShapes Go.ChangeAt Go.Deep
variable {H : Type} {enc : TypeId × Value → H} {w : World} {base fuel : Nat} {held : Bool} {cs : List Value} {x : DataW H × List MemPlace}
theorem trod_pair16 (h : DataW.trod enc Try.prog w base (fun _ => true) held fuel 55 cs = some x) : ∃ p : Nat × Nat, cs = pr2 p ∧ p.1 < 65536 ∧ p.2 < 65536 := by
  obtain ⟨xs, n, _, _, hl, hxn, hel⟩ := DataW.trod_array Try.underlying55 h
  have hc1 : Try.prog.cellsOf 42 = 1 := by kernel_rfl
  have hl2 : cs.length = 2 := hl.trans (by kernel_rfl)
  have key : ∀ i, i < 2 → ∃ z : Nat, cs[i]? = some (.int .u16 (z : Int)) ∧ z < 65536 := by
    intro i hi
    have h1 := hel i hi
    rw [hc1, Nat.mul_one, List.getElem?_eq_getElem (by omega : i < xs.length)] at h1
    obtain ⟨z, e, _, hw⟩ := DataW.trod_int Try.underlying42 h1
    obtain ⟨c, rfl, hc⟩ := u16_of hw
    have := congrArg (fun l : List Value => l[0]?) e
    exact ⟨c, by simpa [List.getElem?_take, List.getElem?_drop] using this, hc⟩
  obtain ⟨z0, e0, b0⟩ := key 0 (by omega)
  obtain ⟨z1, e1, b1⟩ := key 1 (by omega)
  match cs, hl2, e0, e1 with
  | [a, b], _, e0, e1 =>
    obtain rfl : a = .int .u16 (z0 : Int) := Option.some.inj e0
    obtain rfl : b = .int .u16 (z1 : Int) := Option.some.inj e1
    exact ⟨(z0, z1), rfl, b0, b1⟩
theorem open_u16cs (h : DataW.trod enc Try.prog w base (fun _ => true) held fuel 54 cs = some x) : ∃ (A : Option Addr) (ps : List (Nat × Nat)) (c : Nat), cs = [.slice A ps.length c] ∧ ps.length ≤ c ∧ c ≤ maxLen ∧ Rd w A (flat pr2 ps) ∧ ∀ p ∈ ps, p.1 < 65536 ∧ p.2 < 65536 := by
  rcases open_slice Try.underlying54 h with ⟨rfl, _⟩ | ⟨a, len, cap, m, n, D, Pl, rfl, _, hl, hm, hmm, rfl, hx⟩
  · exact ⟨none, [], 0, rfl, Nat.le_refl _, by simp, Rd.nil _ _, fun _ h => by cases h⟩
  · simp only [if_true] at hmm
    subst hmm
    have hc : Try.prog.cellsOf 55 = 2 := by kernel_rfl
    rw [hc] at hx
    obtain ⟨F, hF⟩ := choose_lt (α := Nat × Nat) (p := fun i q => (∀ k, k < 2 → w.cell? ((a.add (i * 2)).add k) = (pr2 q)[k]?) ∧ q.1 < 65536 ∧ q.2 < 65536) (n := m) (fun i hi => by
      obtain ⟨cs', h1, h2⟩ := hx i hi
      obtain ⟨q, rfl, hq⟩ := trod_pair16 h2
      exact ⟨q, (World.cells?_some h1).2.2, hq⟩)
    refine ⟨some a, (List.range len).map F, m, by simp, by simpa using hl, hm, Rd.of_flat pr2_len fun i hi k hk => (hF i (by omega)).1 k hk, fun q hq => ?_⟩
    obtain ⟨i, hi, rfl⟩ := List.mem_map.1 hq
    exact (hF i (by have := List.mem_range.1 hi; omega)).2
theorem open_u16p {A : Option Addr} {m c : Nat} {d : DataW H} {p : List MemPlace} (h : DataW.Trod enc Try.prog w base (fun _ => true) held 54 (.slice A m c) d p) :
    ∃ ps : List (Nat × Nat), ps.length = m ∧ m ≤ c ∧ c ≤ maxLen ∧ Rd w A (flat pr2 ps) ∧ ∀ p ∈ ps, p.1 < 65536 ∧ p.2 < 65536 := by
  obtain ⟨fuel, hf⟩ := h
  obtain ⟨A', ps, c', e, h1, h2, h3, h4⟩ := open_u16cs hf
  have e2 : Value.slice A m c = .slice A' ps.length c' := by simpa [Value.cells] using e
  cases e2
  exact ⟨ps, rfl, h1, h2, h3, h4⟩
end
end Go.Proofs.Ytpnfgnddlfkfaaa
