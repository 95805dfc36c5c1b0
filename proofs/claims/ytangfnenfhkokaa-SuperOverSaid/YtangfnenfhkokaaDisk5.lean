/-
  The disk: after, Spoil.
-/
import Derived.Test.YtangfnenfhkokaaDisk4
import Derived.Test.YtangfnenfhkokaaCopy
set_option linter.unusedSimpArgs false
set_option linter.unusedVariables false
namespace Go.Proofs.Ytangfnenfhkokaa
open Go.RowKit Go.Maps

/-- a sector behind a crash, as a byte chooses -/
def afterB (old b : List UInt8) (c : Nat) : List UInt8 := if c % 4 = 1 then b else if c % 4 = 3 then lay old 0 (b.take (c / 4)) else old
theorem afterB_len {old b : List UInt8} (h0 : old.length = 64) (h1 : b.length = 64) (c : Nat) (hc : c < 256) : (afterB old b c).length = 64 := by
  unfold afterB
  split
  · exact h1
  · split
    · rw [lay_length _ _ _ (by rw [List.length_take]; omega)]; exact h0
    · exact h0
set_option maxRecDepth 100000 in
set_option maxHeartbeats 2000000 in
theorem disk_after (A0 A1 : Option Addr) (c0 c1 : Nat) (old b : List UInt8) (c : Nat) (hc : c < 256) (w : World) (h0 : old.length = 64) (h1 : b.length = 64) (hcap : 64 ≤ c1) (hr0 : RB w A0 old) (hr1 : RB w A1 b) :
    Calls Try.prog 63 #[.slice A0 64 c0, .slice A1 64 c1, .int .u8 (c : Int)] w fun e w' => ∃ v, e = .returned v ∧ Own w' w.heap.size 5 v ((afterB old b c).map eb) ∧ Below w.heap.size w w' := by
  have HCL := Lib.hid (bytes_clone A0 64 c0 old w h0 (by omega) hr0)
  have HR1 := Lib.hid fun W (hb : Below w.heap.size w W) => hr1.below hb
  have H0 := Lib.hid h0
  have H1 := Lib.hid h1
  have hm : (c : Int) % 4 = ((c % 4 : Nat) : Int) := by omega
  have hq : (c : Int) / 4 = ((c / 4 : Nat) : Int) := by omega
  obtain ⟨r, hr⟩ : ∃ r, c % 4 = r := ⟨_, rfl⟩
  obtain ⟨d, hd⟩ : ∃ d, c / 4 = d := ⟨_, rfl⟩
  have hd64 : d ≤ 63 := by omega
  have hr4 : r < 4 := by omega
  unfold afterB
  rw [hr, hd]
  rw [hr] at hm
  rw [hd] at hq
  have HQ := Lib.hid hq
  clear h0 h1 hr hd hr0 hr1
  by_cases r1 : r = 1
  · subst r1
    rw [if_pos rfl]
    have hm1 : (c : Int) % 4 = 1 := by omega
    clear hm hq HQ
    go_enter Try.func63, Try.ntmps63
    go_wp2_with fail
    (with_reducible refine HCL.out.mono ?_)
    rintro e w1 ⟨v, rfl, ho, hb⟩
    obtain ⟨g, cap, _, rfl, hg, _⟩ := ho.blk (by rw [List.length_map, H0.out]; omega)
    rw [List.length_map, H0.out] at ho ⊢
    have HC := Lib.hid (copy_own ho 0 (some ⟨g, 0, none⟩) A1 64 cap 64 c1 b (by rw [H1.out]; rfl) (HR1.out _ hb) (fun _ => ⟨g, rfl, rfl⟩) (by rw [H0.out, H1.out]; omega))
    rw [H1.out] at HC
    clear ho
    go_wp2_with (refine wpList_copy_ex rfl (.tmp 14) (.tmp 15) 42 42 rfl _ _ rfl rfl 64 (HC.out _) ?_; rintro w2 ⟨ho2, hk2, hz2⟩)
    go_ret
    rw [lay_all _ _ (H0.out.trans H1.out.symm)] at ho2
    exact ⟨_, rfl, ho2, hb.trans (hk2.below hb.size fun j e => by have : g = j := Option.some.inj e; omega)⟩
  · rw [if_neg r1]
    by_cases r3 : r = 3
    · subst r3
      rw [if_pos rfl]
      have hm3 : (c : Int) % 4 = 3 := by omega
      clear hm
      have hl : (b.take d).length = d := by rw [List.length_take, H1.out]; omega
      have HL := Lib.hid hl
      clear hl
      go_enter Try.func63, Try.ntmps63
      go_wp2_with fail
      (with_reducible refine HCL.out.mono ?_)
      rintro e w1 ⟨v, rfl, ho, hb⟩
      obtain ⟨g, cap, _, rfl, hg, _⟩ := ho.blk (by rw [List.length_map, H0.out]; omega)
      rw [List.length_map, H0.out] at ho ⊢
      have HC := Lib.hid (copy_own ho 0 (some ⟨g, 0, none⟩) A1 64 cap d c1 (b.take d) (by rw [HL.out]; show d = min d 64; omega) ((HR1.out _ hb).take d) (fun _ => ⟨g, rfl, rfl⟩) (by rw [H0.out, HL.out]; omega))
      rw [HL.out] at HC
      clear ho
      go_wp2_with (refine wpList_copy_ex rfl (.tmp 19) (.tmp 23) 42 42 rfl _ _ rfl rfl d (HC.out _) ?_; rintro w2 ⟨ho2, hk2, hz2⟩)
      go_ret
      exact ⟨_, rfl, ho2, hb.trans (hk2.below hb.size fun j e => by have : g = j := Option.some.inj e; omega)⟩
    · rw [if_neg r3]
      have hm1 : ((c : Int) % 4 == 1) = false := beq_eq_false_iff_ne.2 (by omega)
      have hm3 : ((c : Int) % 4 == 3) = false := beq_eq_false_iff_ne.2 (by omega)
      clear hm hq
      go_enter Try.func63, Try.ntmps63
      go_wp2_with fail
      (with_reducible refine HCL.out.mono ?_)
      rintro e w1 ⟨v, rfl, ho, hb⟩
      go_wp2_with fail
      go_ret
      exact ⟨_, rfl, ho, hb⟩

/-- 's[a:]' of a row of the call's own -/
theorem cut_own (g n cap a : Nat) (ha : a ≤ n) (hn : n ≤ cap) :
    ∃ A' : Option Addr, (∀ W : World, (Instr.slice 42 (.slice (some ⟨g, 0, none⟩) n cap) (some (.int .i64 (a : Int))) none none).run Try.prog W = .ok (.slice A' (n - a) (cap - a)) W) ∧ (a < n → A' = some ⟨g, a, none⟩) := by
  refine ⟨if cap = a then some ⟨g, 0, none⟩ else some ⟨g, a, none⟩, fun W => ?_, fun h => by rw [if_neg (by omega)]⟩
  have hel : Try.prog.elem 42 = 5 := by simp [Program.elem, Try.underlying42]
  have hu : Try.prog.underlying 42 = some (.slice (Try.prog.elem 42)) := by rw [hel]; exact Try.underlying42
  rw [run_slice_l W 42 (some ⟨g, 0, none⟩) n cap hu .i64 (a : Int) (by omega) (by omega), hel]
  have hsz := size_u8
  cases hi : Try.prog.info? 5 with
  | none => simp [hi] at hsz
  | some i =>
    have h1 : i.size = 1 := by simpa [hi] using hsz
    by_cases e : cap = a
    · simp [sizeOf, typeInfo, hi, h1, sliced, Result.andThen, e]
    · simp [sizeOf, typeInfo, hi, h1, sliced, Result.andThen, e, Addr.add]
      by_cases e0 : a = 0 <;> simp [e0]
def spoilD (s : DSt) (k at_ : Int) (b : List UInt8) : Bool × DSt :=
  if thereB s.fl.length k && decide (0 ≤ at_ ∧ at_ ≤ 64 ∧ (b.length : Int) ≤ 64 - at_) then
    (true, ⟨s.fl.set k.toNat (lay (s.fl.getD k.toNat []) at_.toNat b), fun y => if y = k then (s.ca k).map (fun c => lay c at_.toNat b) else s.ca y, s.fuse, s.dead, s.ops⟩)
  else (false, s)
theorem set_getD (l : List (List UInt8)) (k i : Nat) (x : List UInt8) (hk : k < l.length) : (l.set k x).getD i [] = if i = k then x else l.getD i [] := by
  by_cases e : i = k
  · subst e; simp [List.getD_eq_getElem?_getD, List.getElem?_set, hk]
  · simp [List.getD_eq_getElem?_getD, List.getElem?_set, e, Ne.symm e]
theorem DOk.spoil {s : DSt} (h : DOk s) (k at_ : Int) (b : List UInt8) : DOk (spoilD s k at_ b).2 := by
  unfold spoilD
  split
  · rename_i hc
    simp only [Bool.and_eq_true, decide_eq_true_eq, thereB] at hc
    have hk : k.toNat < s.fl.length := by omega
    have hl : ∀ l : List UInt8, l.length = 64 → (lay l at_.toNat b).length = 64 := fun l hl => by rw [lay_length _ _ _ (by omega)]; exact hl
    refine ⟨by simpa using h.len, fun i hi => ?_, fun x c hx => ?_, h.fuse0, h.fuse1, h.ops0, h.ops1⟩
    · have hi' : i < s.fl.length := by simpa using hi
      simp only
      rw [set_getD _ _ _ _ hk]
      split
      · exact hl _ (h.sec _ hk)
      · exact h.sec i hi'
    · simp only at hx ⊢
      rw [List.length_set]
      by_cases e : x = k
      · rw [if_pos e] at hx
        cases hc2 : s.ca k with
        | none => rw [hc2] at hx; cases hx
        | some c2 =>
          rw [hc2] at hx
          cases hx
          have := h.cs k c2 hc2
          exact ⟨hl _ this.1, by omega, by omega⟩
      · rw [if_neg e] at hx
        exact h.cs x c hx
  · exact h
/-- a sector's bytes are written -/
theorem DiskAt.sec_write {w w' : World} {g : Nat} {P : Nat → Prop} {n : Nat} {s : DSt} {L M : Nat} {fv : List Value} {fc : Int → Option Value} (h : DiskAt w g P n s L M fv fc) {k : Nat} (hk : k < s.fl.length) {l : List UInt8} (hl : l.length = (s.fl.getD k []).length) (ho : Own w' 0 5 (fv.getD k nilS) (l.map eb)) (hkp : Kp (fun j => (fv.getD k nilS).ownBlock = some j) w w') (hz : w'.heap.size = w.heap.size) :
    DiskAt w' g P n ⟨s.fl.set k l, s.ca, s.fuse, s.dead, s.ops⟩ L M fv fc := by
  have hs := (h.sec k hk).1
  refine ⟨by have := h.blk.kp hkp (hs.no_blk h.blk (by decide)); simpa using this, h.rows.kp hkp (hs.no_blk h.rows (by decide)), h.map.kp hkp (hs.no_map h.map), by simpa using h.fll, fun i hi => ?_, h.none_, fun x b hb => ?_, fun i m j hi hm => h.ap1 i m j (by simpa using hi) (by simpa using hm), fun i x v j hi => h.ap2 i x v j (by simpa using hi), h.ap3, h.pg, h.pl, h.pm, fun j hj => by rw [hz]; exact h.lt j hj⟩
  · have hi' : i < s.fl.length := by simpa using hi
    simp only
    rw [set_getD _ _ _ _ hk]
    by_cases e : i = k
    · rw [if_pos e, e]; exact ⟨ho, (h.sec k hk).2⟩
    · rw [if_neg e]
      exact ⟨(h.sec i hi').1.kp hkp fun j e1 f => h.ap1 i k j hi' hk e e1 f, (h.sec i hi').2⟩
  · obtain ⟨v, h1, h2, h3⟩ := h.some_ x b hb
    exact ⟨v, h1, h2.kp hkp fun j e1 f => h.ap2 k x v j hk f h1 e1, h3⟩
/-- a cached sector's bytes are written -/
theorem DiskAt.ca_write {w w' : World} {g : Nat} {P : Nat → Prop} {n : Nat} {s : DSt} {L M : Nat} {fv : List Value} {fc : Int → Option Value} (h : DiskAt w g P n s L M fv fc) {k : Int} {v : Value} {c : List UInt8} (hc : s.ca k = some c) (hf : fc k = some v) {l : List UInt8} (ho0 : Own w 0 5 v (c.map eb)) (ho : Own w' 0 5 v (l.map eb)) (hkp : Kp (fun j => v.ownBlock = some j) w w') (hz : w'.heap.size = w.heap.size) :
    DiskAt w' g P n ⟨s.fl, fun y => if y = k then some l else s.ca y, s.fuse, s.dead, s.ops⟩ L M fv fc := by
  refine ⟨h.blk.kp hkp (ho0.no_blk h.blk (by decide)), h.rows.kp hkp (ho0.no_blk h.rows (by decide)), h.map.kp hkp (ho0.no_map h.map), h.fll, fun i hi => ⟨(h.sec i hi).1.kp hkp fun j e1 f => h.ap2 i k v j hi e1 hf f, (h.sec i hi).2⟩, fun x hx => ?_, fun x b hb => ?_, h.ap1, h.ap2, h.ap3, h.pg, h.pl, h.pm, fun j hj => by rw [hz]; exact h.lt j hj⟩
  · simp only at hx
    by_cases e : x = k
    · rw [if_pos e] at hx; cases hx
    · rw [if_neg e] at hx; exact h.none_ x hx
  · simp only at hb
    by_cases e : x = k
    · rw [if_pos e] at hb
      cases hb
      obtain ⟨u, h1, h2, h3⟩ := h.some_ k c hc
      rw [hf] at h1
      cases h1
      exact ⟨v, by rw [e]; exact hf, ho, h3⟩
    · rw [if_neg e] at hb
      obtain ⟨u, h1, h2, h3⟩ := h.some_ x b hb
      exact ⟨u, h1, h2.kp hkp fun j e1 f => h.ap3 x k u v j e h1 hf e1 f, h3⟩
def SpoilPost (w : World) (g : Nat) (P : Nat → Prop) (n : Nat) (r : Bool × DSt) (e : Ending) (w' : World) : Prop :=
  e = .returned (.bool r.1) ∧ Kp P w w' ∧ Disk w' g P n r.2 ∧ w'.heap.size = w.heap.size
set_option maxRecDepth 100000 in
set_option maxHeartbeats 4000000 in
theorem disk_spoil (g : Nat) (P : Nat → Prop) (n : Nat) (s : DSt) (k at_ : Int) (A : Option Addr) (m c : Nat) (b : List UInt8) (w : World) (hat0 : -9223372036854775808 ≤ at_) (hat1 : at_ ≤ 9223372036854775807) (hm : b.length = m) (hr : RB w A b) (hl : b.length ≤ 9223372036854775807) (hA : ∀ ad, A = some ad → ¬ P ad.block) (h : Disk w g P n s) (ok : DOk s) :
    Calls Try.prog 25 #[.pointer (some ⟨g, 0, none⟩), .int .i64 k, .int .i64 at_, .slice A m c] w (SpoilPost w g P n (spoilD s k at_ b)) := by
  subst hm
  have HG := Lib.hid h
  obtain ⟨L, M, fv, fc, h⟩ := h
  have x0 : w.cell? ⟨g, 0, none⟩ = some (.slice (some ⟨L, 0, none⟩) s.fl.length s.fl.length) := h.blk.cell 0
  have HTH := Lib.hid (disk_there g _ _ _ k w x0)
  have hlen := ok.len
  cases ht : thereB s.fl.length k with
  | false =>
    have hr : spoilD s k at_ b = (false, s) := by unfold spoilD; rw [ht]; rfl
    rw [hr]
    rw [ht] at HTH
    clear hr ht h ok x0
    go_enter Try.func25, Try.ntmps25
    go_wp2_with fail
    (with_reducible refine HTH.out.mono ?_)
    rintro e _ ⟨rfl, rfl⟩
    go_wp2
    go_ret
    exact ⟨rfl, Kp.refl _ _, HG.out, rfl⟩
  | true =>
    rw [ht] at HTH
    by_cases hv : 0 ≤ at_ ∧ at_ ≤ 64 ∧ (b.length : Int) ≤ 64 - at_
    rotate_left
    · have hr : spoilD s k at_ b = (false, s) := by unfold spoilD; rw [ht, decide_eq_false hv]; rfl
      rw [hr]
      clear hr ht h ok x0
      rcases (show at_ < 0 ∨ (0 ≤ at_ ∧ 64 < at_) ∨ (0 ≤ at_ ∧ at_ ≤ 64 ∧ 64 - at_ < (b.length : Int)) by omega) with q | ⟨q, q2⟩ | ⟨q, q2, q3⟩
      all_goals
        clear hv
        go_enter Try.func25, Try.ntmps25
        go_wp2_with fail
        (with_reducible refine HTH.out.mono ?_)
        rintro e _ ⟨rfl, rfl⟩
        go_wp2
        go_ret
        exact ⟨rfl, Kp.refl _ _, HG.out, rfl⟩
    have hk' : 0 ≤ k ∧ k < (s.fl.length : Int) := by simpa [thereB] using ht
    obtain ⟨q, rfl⟩ := Int.eq_ofNat_of_zero_le hk'.1
    obtain ⟨a, rfl⟩ := Int.eq_ofNat_of_zero_le hv.1
    have hq : q < s.fl.length := by omega
    have ha : a ≤ 64 := by omega
    have hab : a + b.length ≤ 64 := by omega
    have hrr : spoilD s (q : Int) (a : Int) b = (true, ⟨s.fl.set q (lay (s.fl.getD q []) a b), fun y => if y = (q : Int) then (s.ca (q : Int)).map (fun c => lay c a b) else s.ca y, s.fuse, s.dead, s.ops⟩) := by
      unfold spoilD; rw [ht, decide_eq_true hv]; rfl
    rw [hrr]
    have hb64 := ok.sec q hq
    have hso := h.sec q hq
    obtain ⟨gs, cap, _, hvs, _, _, hcap, _⟩ := hso.1.blk (by rw [List.length_map, hb64]; omega)
    rw [List.length_map, hb64] at hvs hcap
    obtain ⟨A', hcut, hA'⟩ := cut_own gs 64 cap a ha hcap
    have hcell : w.cell? ⟨L, q, none⟩ = some (.slice (some ⟨gs, 0, none⟩) 64 cap) := by
      rw [h.rows.cell q, ← hvs]
      have : q < fv.length := by rw [h.fll]; exact hq
      simp [List.getD_eq_getElem?_getD, List.getElem?_eq_getElem this]
    obtain ⟨w2, hrun2, ho2, hk2, hz2⟩ := copy_own hso.1 a A' A (64 - a) (cap - a) b.length c b (by show b.length = min b.length (64 - a); omega) hr (fun h0 => ⟨gs, by rw [hvs]; rfl, hA' (by omega)⟩) (by rw [hb64]; exact hab) 0
    have h2 := h.sec_write hq (l := lay (s.fl.getD q []) a b) (by rw [lay_length _ _ _ (by rw [hb64]; exact hab)]) ho2 hk2 hz2
    have hk2P : Kp P w w2 := hk2.mono fun j _ e => hso.2 j e
    have hr2 := hr.kp hk2P hA
    have HX : ∃ w', (Builtin.copy_ #[42, 42] 3 #[.slice A' (64 - a) (cap - a), .slice A b.length c]).run Try.prog w = .ok (goInt b.length) w' ∧ w' = w2 := ⟨w2, hrun2, rfl⟩
    have HX := Lib.hid HX
    have i0 : (0 : Int) ≤ (q : Int) := by omega
    have i1 : (q : Int) < (s.fl.length : Int) := by omega
    have a0 : (0 : Int) ≤ (a : Int) := by omega
    have a1 : (a : Int) ≤ 64 := by omega
    have b1 : (b.length : Int) ≤ 64 - (a : Int) := by omega
    have y1 : w2.cell? ⟨g, 1, none⟩ = some (.map (some M)) := h2.blk.cell 1
    have hlk := look_c2 h2.map (id := (q : Int)) (by omega) (by omega)
    have HH2 := Lib.hid h2
    have HK2 := Lib.hid hk2P
    have HZ2 := Lib.hid hz2
    have hgl : g ≠ gs := fun e => hso.1.no_blk h.blk (by decide) (by rw [hvs, e]; rfl)
    cases hc : s.ca (q : Int) with
    | none =>
      rw [h.none_ _ hc] at hlk
      simp only [Option.getD_none, Option.isSome_none] at hlk
      have hfin : Disk w2 g P n ⟨s.fl.set q (lay (s.fl.getD q []) a b), fun y => if y = (q : Int) then Option.map (fun c => lay c a b) none else s.ca y, s.fuse, s.dead, s.ops⟩ := by
        have e1 : (fun y => if y = (q : Int) then Option.map (fun c => lay c a b) none else s.ca y) = s.ca := by
          funext y
          by_cases e : y = (q : Int)
          · rw [if_pos e, e, hc]; rfl
          · rw [if_neg e]
        rw [e1]
        exact ⟨L, M, fv, fc, HH2.out⟩
      have HFIN := Lib.hid hfin
      clear hfin hc hrr ht h ok h2 hk2P hz2 ho2 hk2 hrun2 hso hvs hb64 hA' hk' hr hA hr2 hv
      go_enter Try.func25, Try.ntmps25
      go_wp2_with fail
      (with_reducible refine HTH.out.mono ?_)
      rintro e _ ⟨rfl, rfl⟩
      go_wp2_with (refine wpList_copy_ex rfl (.tmp 42) (.tmp 43) 42 42 rfl _ _ rfl rfl b.length HX.out ?_; rintro _ rfl)
      go_ret
      exact ⟨rfl, HK2.out, HFIN.out, HZ2.out⟩
    | some cb =>
      obtain ⟨v, hv1, ho1, hp1⟩ := h2.some_ _ _ hc
      have hcb := (ok.cs _ _ hc).1
      rw [hv1] at hlk
      obtain ⟨gc, capc, _, rfl, _, _, hcapc, _⟩ := ho1.blk (by rw [List.length_map, hcb]; omega)
      rw [List.length_map, hcb] at hcapc hlk
      simp only [Option.getD_some, Option.isSome_some] at hlk
      obtain ⟨A'', hcut2, hA''⟩ := cut_own gc 64 capc a ha hcapc
      obtain ⟨w3, hrun3, ho3, hk3, hz3⟩ := copy_own ho1 a A'' A (64 - a) (capc - a) b.length c b (by show b.length = min b.length (64 - a); omega) hr2 (fun h0 => ⟨gc, rfl, hA'' (by omega)⟩) (by rw [hcb]; exact hab) 0
      have h3 := h2.ca_write hc hv1 ho1 ho3 hk3 hz3
      have HX3 : ∃ w', (Builtin.copy_ #[42, 42] 3 #[.slice A'' (64 - a) (capc - a), .slice A b.length c]).run Try.prog w2 = .ok (goInt b.length) w' ∧ w' = w3 := ⟨w3, hrun3, rfl⟩
      have HX3 := Lib.hid HX3
      have HFIN : Hid (Kp P w w3 ∧ Disk w3 g P n ⟨s.fl.set q (lay (s.fl.getD q []) a b), fun y => if y = (q : Int) then Option.map (fun c => lay c a b) (some cb) else s.ca y, s.fuse, s.dead, s.ops⟩ ∧ w3.heap.size = w.heap.size) := Lib.hid ⟨HK2.out.trans (hk3.mono fun j _ e => hp1 j e) fun _ _ p => p, ⟨L, M, fv, fc, h3⟩, hz3.trans HZ2.out⟩
      clear hc hrr ht h ok h2 hk2P hz2 ho2 hk2 hrun2 hso hvs hb64 hA' hk' hr hA hr2 hv hv1 ho1 hp1 hcb hA'' hrun3 ho3 hk3 hz3 h3
      go_enter Try.func25, Try.ntmps25
      go_wp2_with fail
      (with_reducible refine HTH.out.mono ?_)
      rintro e _ ⟨rfl, rfl⟩
      go_wp2_with (first | (refine wpList_copy_ex rfl (.tmp 42) (.tmp 43) 42 42 rfl _ _ rfl rfl b.length HX.out ?_; rintro _ rfl) | (refine wpList_copy_ex rfl (.tmp 57) (.tmp 58) 42 42 rfl _ _ rfl rfl b.length HX3.out ?_; rintro _ rfl))
      go_ret
      exact ⟨rfl, HFIN.out⟩
end Go.Proofs.Ytangfnenfhkokaa
