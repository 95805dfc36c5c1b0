/-
  Bodies: Uses; the reference's Insert.
-/
import Derived.Test.YtpnfgnddlfkfaaaIter
import Derived.Test.YtpnfgnddlfkfaaaBodyT
set_option linter.unusedSimpArgs false
set_option linter.unusedVariables false
namespace Go.Proofs.Ytpnfgnddlfkfaaa
open Go.RowKit Go.Maps

/-- a row that is read, its address taken apart -/
theorem Rd.lit_of' {w : World} {A : Option Addr} {cs : List Value} (h : Rd w A cs) (i : Nat) (hi : i < cs.length) : ∃ b off, A = some ⟨b, off, none⟩ ∧ b < w.heap.size ∧ ∀ j (hj : j < cs.length), w.cell? ⟨b, off + j, none⟩ = some cs[j] := by
  obtain ⟨ad, e, hc⟩ := h 0 (cs[0]'(by omega)) (by simp)
  obtain ⟨b, off, spot⟩ := ad
  have hs : spot = none := by simpa [Addr.add] using World.cell?_spot hc
  subst hs
  have hlt := block_lt_of_cell hc
  refine ⟨b, off, e, by simpa [Addr.add] using hlt, fun j hj => ?_⟩
  obtain ⟨ad2, e2, hc2⟩ := h j cs[j] (by simp [hj])
  rw [e] at e2
  cases e2
  have e1 : (⟨b, off, none⟩ : Addr).add j = ⟨b, off + j, none⟩ := by unfold Addr.add; split <;> simp_all
  rwa [e1] at hc2
set_option maxRecDepth 100000 in
set_option maxHeartbeats 2000000 in
theorem body_uses (size : Int) (A : Option Addr) (n c : Nat) (ps : List Part) (w : World) (hn : ps.length = n) (hl : n ≤ 100000) (hr : Rd w A (pcs ps)) (hok : ∀ p ∈ ps, okP p) :
    Calls Try.prog 39 #[bv size A n c] w fun e w' => ∃ (v : Value) (ks : List Int), e = .returned v ∧ Own w' w.heap.size 3 v (ks.map (Value.int .i64)) ∧ Rising ks ∧ (∀ x, x ∈ ks ↔ ∃ p ∈ ps, p.chunk = x) ∧ Below w.heap.size w w' := by
  subst hn
  unfold bv
  have hmm := @run_makeMap Try.prog
  have HR := Lib.hid hr
  have HOK := Lib.hid hok
  clear hr hok
  have hB0 := (Blk.new w 46 #[.int .i64 size, .slice A ps.length c]).alloc (.map #[] 0)
  have hM0 := MapF.made (P := Try.prog) (k := 3) (q := .i64) (w.alloc (.cells #[.int .i64 size, .slice A ps.length c] 46))
  rw [size_more'] at hM0
  have hb0 := bal (bal (Below.refl w.heap.size w) (.cells #[.int .i64 size, .slice A ps.length c] 46)) (.map #[] 0)
  go_enter Try.func39, Try.ntmps39
  go_wp2
  generalize hW0 : ((w.alloc (.cells #[.int .i64 size, .slice A ps.length c] 46)).alloc (.map #[] 0)) = W0 at *
  have HB0 := Lib.hid hB0
  have HBB := Lib.hid hb0
  have HM0 := Lib.hid hM0
  clear hW0 hB0 hb0 hM0 hmm
  go_loopw [10] (fun i wr => ∃ (k m : Nat) (f : Int → Option Value), k ≤ ps.length ∧ m ≤ k ∧ i = .int .i64 (k : Int) ∧ MapF Try.prog 3 .i64 wr (w.heap.size + 1) m f ∧ Hid (∀ x, (f x).isSome = true ↔ ∃ p ∈ ps.take k, p.chunk = x) ∧ Below w.heap.size w wr) (fun i _ => ps.length - (intOf i).toNat)
  case atStart => exact ⟨0, 0, _, Nat.zero_le _, Nat.le_refl _, rfl, HM0.out, Lib.hid fun x => by simp, HBB.out⟩
  case round =>
    obtain ⟨k, m, f, hk, hmk, rfl, hM, hf, hb⟩ := hrel
    by_cases hlt : k < ps.length
    · obtain ⟨b, o, rfl, hblt, hcell⟩ := part_at HR.out k hlt
      obtain ⟨q0, q1, q2, q3⟩ := hcell wr hb
      have hokp := HOK.out _ (List.getElem_mem hlt)
      have hst : ps.take (k + 1) = ps.take k ++ [ps[k]] := List.take_succ_eq_append_getElem hlt
      have HF : Hid (∀ x, ((fun y => if y = ps[k].chunk then some (Value.bool true) else f y) x).isSome = true ↔ ∃ p ∈ ps.take (k + 1), p.chunk = x) := Lib.hid fun x => by
        rw [hst]
        simp only [List.mem_append, List.mem_singleton]
        by_cases hx : x = ps[k].chunk
        · rw [if_pos hx]
          exact ⟨fun _ => ⟨_, .inr rfl, hx.symm⟩, fun _ => rfl⟩
        · rw [if_neg hx, hf.out x]
          constructor
          · rintro ⟨p, hp, e⟩
            exact ⟨p, .inl hp, e⟩
          · rintro ⟨p, hp | hp, e⟩
            · exact ⟨p, hp, e⟩
            · subst hp
              exact absurd e.symm hx
      clear hst hcell
      generalize ps[k] = p at *
      obtain ⟨po, pl, pch, pat⟩ := p
      obtain ⟨_, _, hc1, _⟩ := hokp
      simp only at q0 q1 q2 q3 hc1 HF
      have i0 : (0 : Int) ≤ (k : Int) := by omega
      have i1 : (k : Int) < (ps.length : Int) := by omega
      have hM1 := hM.below (bal (Below.refl _ _) (.cells #[.int .i64 po, .int .i64 pl, .int .i64 pch, .int .i64 pat] 50))
      obtain ⟨w3, hrun, hM3, hk3, hz3⟩ := hM1.store Try.underlying3 Try.underlying120 (by unfold maxLen; omega) (WalkArith.wf_i64 hc1) (.bool true)
      have hb3 := (bal hb (.cells #[.int .i64 po, .int .i64 pl, .int .i64 pch, .int .i64 pat] 50)).trans (hk3.below (by have := hb.size; simp; omega) fun j hj => by omega)
      clear hM hf hb hM1 hk3 hz3 hc1
      go_wp2
      go_roundw
      case rel => exact ⟨k + 1, m + 1, _, by omega, by omega, by go_num, hM3, HF, hb3⟩
      case measure => simp [intOf]; try omega
    · obtain rfl : k = ps.length := by omega
      rw [List.take_length] at hf
      have HK := Lib.hid (keys_o (some (w.heap.size + 1)) wr)
      have HS := Lib.hid (sorted_o _ m f wr hM (by omega))
      go_wp2_with fail
      (with_reducible refine HK.out.mono ?_)
      rintro e w4 ⟨rfl, rfl⟩
      go_wp2_with fail
      (with_reducible refine HS.out.mono ?_)
      rintro e w5 ⟨v, ks, rfl, hv, hri, hmem, hb5⟩
      have hb6 := bn (bal hb _) hb5
      have hsz := hb.size
      rw [size_more'] at hv
      go_wp2
      go_ret
      refine ⟨v, ks, rfl, hv.lower (by omega), hri, fun x => ?_, hb6⟩
      rw [hmem x, hf.out x]
      constructor
      · exact fun h => h.2
      · rintro ⟨p, hp, e⟩
        exact ⟨by have := (HOK.out p hp).2.2.1; rw [e] at this; exact this, p, hp, e⟩

/-- a number in a rising row, once -/
def insertR (l : List Int) (x : Int) : List Int := if x ∈ l then l else l.takeWhile (fun y => decide (y < x)) ++ [x] ++ l.dropWhile (fun y => decide (y < x))
theorem rising_get {l : List Int} (h : Rising l) {i j : Nat} (hi : i < j) (hj : j < l.length) : l[i]'(by omega) < l[j] := List.pairwise_iff_getElem.1 h i j (by omega) hj hi
theorem insertR_at {l : List Int} {x : Int} {k : Nat} (h : Rising l) (hk : k ≤ l.length) (hlow : ∀ y ∈ l.take k, y < x) (hup : l.length ≤ k ∨ ∃ h : k < l.length, x ≤ l[k]) :
    (x ∈ l ↔ ∃ h : k < l.length, l[k] = x) ∧ l.takeWhile (fun y => decide (y < x)) = l.take k ∧ l.dropWhile (fun y => decide (y < x)) = l.drop k := by
  have hall : ∀ y ∈ l.drop k, x ≤ y := fun y hy => by
    obtain ⟨j, hj, rfl⟩ := List.getElem_of_mem hy
    rw [List.length_drop] at hj
    rw [List.getElem_drop]
    rcases hup with hup | ⟨h1, hup⟩
    · omega
    · rcases Nat.eq_zero_or_pos j with rfl | hj0
      · simpa using hup
      · have := rising_get h (i := k) (j := k + j) (by omega) (by omega)
        omega
  refine ⟨⟨fun hx => ?_, fun ⟨h1, e⟩ => e ▸ List.getElem_mem h1⟩, ?_, ?_⟩
  · rw [← List.take_append_drop k l, List.mem_append] at hx
    rcases hx with hx | hx
    · have := hlow x hx; omega
    · obtain ⟨j, hj, e⟩ := List.getElem_of_mem hx
      rw [List.length_drop] at hj
      rw [List.getElem_drop] at e
      rcases hup with hup | ⟨h1, hup⟩
      · omega
      · rcases Nat.eq_zero_or_pos j with rfl | hj0
        · exact ⟨h1, by simpa using e⟩
        · have := rising_get h (i := k) (j := k + j) (by omega) (by omega)
          omega
  · conv => lhs; rw [← List.take_append_drop k l]
    rw [List.takeWhile_append_of_pos (fun y hy => by simpa using hlow y hy)]
    cases hd : l.drop k with
    | nil => simp
    | cons a r =>
      have := hall a (by rw [hd]; exact List.mem_cons_self ..)
      rw [List.takeWhile_cons, if_neg (by simp only [decide_eq_true_eq]; omega), List.append_nil]
  · conv => lhs; rw [← List.take_append_drop k l]
    rw [List.dropWhile_append_of_pos (fun y hy => by simpa using hlow y hy)]
    cases hd : l.drop k with
    | nil => simp
    | cons a r =>
      have := hall a (by rw [hd]; exact List.mem_cons_self ..)
      rw [List.dropWhile_cons, if_neg (by simp only [decide_eq_true_eq]; omega)]
theorem takeWhile_mem {l : List Int} {x y : Int} (h : y ∈ l.takeWhile (fun y => decide (y < x))) : y < x := by
  have := List.all_takeWhile (p := fun y => decide (y < x)) (l := l)
  rw [List.all_eq_true] at this
  simpa using this y h
theorem dropWhile_mem {l : List Int} (hl : Rising l) {x y : Int} (hx : x ∉ l) (h : y ∈ l.dropWhile (fun y => decide (y < x))) : x < y := by
  induction l with
  | nil => simp at h
  | cons a l ih =>
    rw [List.dropWhile_cons] at h
    split at h
    · exact ih (List.Pairwise.of_cons hl) (fun e => hx (List.mem_cons_of_mem _ e)) h
    · rename_i hax
      simp only [decide_eq_true_eq] at hax
      have hne : x ≠ a := fun e => hx (e ▸ List.mem_cons_self ..)
      rcases List.mem_cons.1 h with rfl | hm
      · omega
      · have := (List.pairwise_cons.1 hl).1 y hm
        omega
theorem insertR_rising {l : List Int} (h : Rising l) (x : Int) : Rising (insertR l x) ∧ ∀ y, y ∈ insertR l x ↔ (y ∈ l ∨ y = x) := by
  unfold insertR
  by_cases hx : x ∈ l
  · rw [if_pos hx]
    exact ⟨h, fun y => ⟨.inl, fun hy => hy.elim id fun e => e ▸ hx⟩⟩
  · rw [if_neg hx]
    have e := List.takeWhile_append_dropWhile (p := fun y => decide (y < x)) (l := l)
    constructor
    · rw [← e] at h
      obtain ⟨h1, h2, h3⟩ := List.pairwise_append.1 h
      refine List.pairwise_append.2 ⟨List.pairwise_append.2 ⟨h1, List.pairwise_singleton _ _, fun a ha b hb => ?_⟩, h2, fun a ha b hb => ?_⟩
      · rw [List.mem_singleton] at hb
        subst hb
        exact takeWhile_mem ha
      · rw [e] at h
        have hb2 := dropWhile_mem h hx hb
        rcases List.mem_append.1 ha with ha | ha
        · have := takeWhile_mem ha
          omega
        · rw [List.mem_singleton] at ha
          subst ha
          exact hb2
    · intro y
      rw [List.mem_append, List.mem_append, List.mem_singleton]
      conv => rhs; rw [← e]
      rw [List.mem_append]
      constructor
      · rintro ((h | h) | h)
        · exact .inl (.inl h)
        · exact .inr h
        · exact .inl (.inr h)
      · rintro ((h | h) | h)
        · exact .inl (.inl h)
        · exact .inr h
        · exact .inl (.inr h)
theorem insertR_len (l : List Int) (x : Int) : (insertR l x).length ≤ l.length + 1 := by
  unfold insertR
  split
  · omega
  · have := congrArg List.length (List.takeWhile_append_dropWhile (p := fun y => decide (y < x)) (l := l))
    simp only [List.length_append, List.length_singleton] at this ⊢
    omega

def AppI (w : World) (B : Nat) (v : Value) (cs : List Value) (v' : Value) (w' : World) : Prop := Own w' B 3 v' cs ∧ Below B w w' ∧ Kp (fun j => v.ownBlock = some j) w w'
theorem info_int' : (Try.prog.info? 3).map (fun i => (i.zero, i.size, i.bytes)) = some (some (.int .i64 0), 1, 8) := by kernel_rfl
theorem app_ints (w : World) (B : Nat) (v : Value) (xs : List Value) (A : Option Addr) (m c : Nat) (ys : List Int) (hown : Own w B 3 v xs) (hl : ys.length = m) (hr : Rd w A (ys.map (Value.int .i64))) (hb : xs.length + ys.length ≤ 1000000) (hB : B ≤ w.heap.size) :
    ∃ v' w', (Builtin.append_ #[27, 27] 27 #[v, .slice A m c]).run Try.prog w = .ok v' w' ∧ AppI w B v (xs ++ ys.map (Value.int .i64)) v' w' := by
  obtain ⟨v', w', h1, h2, h3, h4⟩ := append_run (P := Try.prog) w B 27 27 3 (.int .i64 0) 8 Try.underlying27 info_int' rfl v xs hown A m c (ys.map (Value.int .i64)) (by simpa using hl) hr (fun u hu => by obtain ⟨x, _, rfl⟩ := List.mem_map.1 hu; rfl) (by rw [List.length_map]; unfold maxLen; omega) (by rw [List.length_map]; omega) hB
  exact ⟨v', w', h1, h2, h4, kp_grown h3⟩
theorem lit_i (w : World) (x : Int) (n : Nat) (hn : w.heap.size = n) : Rd (w.alloc (.cells #[.int .i64 x] 3)) (some ⟨n, 0, none⟩) ([x].map (Value.int .i64)) := by subst hn; exact Rd.lit w 3 (0, 0) [.int .i64 x]
theorem lit_id (w : World) (x : Int) (n : Nat) (hn : w.heap.size = n) : Rd (w.alloc (.cells #[.int .i64 x] 3)).drew (some ⟨n, 0, none⟩) ([x].map (Value.int .i64)) := lit_i w x n hn
theorem size_int : (Try.prog.info? 3).map (·.size) = some 1 := by kernel_rfl

set_option maxRecDepth 100000 in
set_option maxHeartbeats 8000000 in
theorem ref_insert (A : Option Addr) (n c : Nat) (l : List Int) (x : Int) (w : World) (hn : l.length = n) (hl : n ≤ 1000) (hc : n ≤ c) (hcm : c ≤ maxLen) (hr : Rd w A (l.map (Value.int .i64))) (hri : Rising l) (hx : okInt x) :
    Calls Try.prog 38 #[.slice A n c, .int .i64 x] w fun e w' => ∃ A' c', e = .returned (.slice A' (insertR l x).length c') ∧ Rd w' A' ((insertR l x).map (Value.int .i64)) ∧ (insertR l x).length ≤ c' ∧ c' ≤ maxLen ∧ Below w.heap.size w w' := by
  subst hn
  obtain ⟨hx0, hx1⟩ := hx
  have HR := Lib.hid hr
  have HRI := Lib.hid hri
  clear hr hri
  go_enter Try.func38, Try.ntmps38
  go_wp2
  go_loopw [5] (fun i wr => ∃ k : Nat, k ≤ l.length ∧ i = .int .i64 (k : Int) ∧ Hid (∀ y ∈ l.take k, y < x) ∧ Below w.heap.size w wr) (fun i _ => l.length - (intOf i).toNat)
  case atStart => exact ⟨0, Nat.zero_le _, rfl, Lib.hid (by simp), Below.refl _ _⟩
  case round =>
    obtain ⟨k, hk, rfl, hlow, hb⟩ := hrel
    have hr := HR.out.below hb
    by_cases hgo : ∃ h : k < l.length, l[k] < x
    · obtain ⟨hlt, hlx⟩ := hgo
      obtain ⟨b, o, rfl, _, hcell⟩ := Rd.lit_of' hr k (by rw [List.length_map]; exact hlt)
      have q := hcell k (by rw [List.length_map]; exact hlt)
      rw [List.getElem_map] at q
      have HLOW : Hid (∀ y ∈ l.take (k + 1), y < x) := Lib.hid fun y hy => by
        rw [List.take_succ_eq_append_getElem hlt, List.mem_append, List.mem_singleton] at hy
        rcases hy with hy | rfl
        · exact hlow.out y hy
        · exact hlx
      have i0 : (0 : Int) ≤ (k : Int) := by omega
      have i1 : (k : Int) < (l.length : Int) := by omega
      clear hcell hr hlow
      generalize l[k] = y at *
      go_wp2
      go_roundw
      case rel => exact ⟨k + 1, by omega, by go_num, HLOW, hb⟩
      case measure => simp [intOf]; try omega
    · have hup : l.length ≤ k ∨ ∃ h : k < l.length, x ≤ l[k] := by
        by_cases h : k < l.length
        · exact .inr ⟨h, Int.not_lt.1 fun hh => hgo ⟨h, hh⟩⟩
        · exact .inl (by omega)
      obtain ⟨hm, htw, hdw⟩ := insertR_at HRI.out hk hlow.out hup
      have hlen := insertR_len l x
      clear hgo hlow
      by_cases hin : x ∈ l
      · have hI : insertR l x = l := by unfold insertR; rw [if_pos hin]
        obtain ⟨hlt, he⟩ := hm.1 hin
        obtain ⟨b, o, rfl, _, hcell⟩ := Rd.lit_of' hr k (by rw [List.length_map]; exact hlt)
        have q := hcell k (by rw [List.length_map]; exact hlt)
        rw [List.getElem_map, he] at q
        have HI := Lib.hid hI
        have HRR := Lib.hid hr
        have i0 : (0 : Int) ≤ (k : Int) := by omega
        have i1 : (k : Int) < (l.length : Int) := by omega
        clear hcell hr hm htw hdw hI hup hlen he
        go_wp2
        go_ret
        rw [HI.out]
        exact ⟨_, _, rfl, HRR.out, hc, hcm, hb⟩
      · have hI : insertR l x = l.take k ++ [x] ++ l.drop k := by unfold insertR; rw [if_neg hin, htw, hdw]
        have HI := Lib.hid hI
        have hup2 : l.length ≤ k ∨ ∃ h : k < l.length, x < l[k] := by
          rcases hup with h | ⟨h, hh⟩
          · exact .inl h
          · refine .inr ⟨h, ?_⟩
            rcases Int.lt_or_eq_of_le hh with h1 | h1
            · exact h1
            · exact absurd (hm.2 ⟨h, h1.symm⟩) hin
        clear hm htw hdw hI hup hin
        have hto := cut_to (P := Try.prog) 27 3 Try.underlying27 size_int A l.length c (k : Int) (by omega) (by omega)
        obtain ⟨A', hfr, hfr2, _⟩ := cut_from (P := Try.prog) 27 3 Try.underlying27 size_int A l.length c (k : Int) (by omega) (by omega)
        simp only [Int.toNat_natCast] at hto hfr hfr2
        have hkg := Grw.refl (B := wr.heap.size) (W := wr) (Nat.le_refl _)
        have HTK : Hid (∀ W, Grw wr.heap.size wr W → Rd W A ((l.take k).map (Value.int .i64))) := Lib.hid fun W h => by rw [List.map_take]; exact (hr.below h.bel).take k
        have HDR : Hid (∀ W, Grw wr.heap.size wr W → Rd W A' ((l.drop k).map (Value.int .i64))) := Lib.hid fun W h => by rw [List.map_drop]; exact hfr2 W _ (by rw [List.length_map]; exact hc) (hr.below h.bel)
        have hqq : ∀ h : k < l.length, ∃ b o, A = some ⟨b, o, none⟩ ∧ wr.cell? ⟨b, o + k, none⟩ = some (.int .i64 l[k]) := fun h => by
          obtain ⟨b, o, e, _, hcell⟩ := Rd.lit_of' hr k (by rw [List.length_map]; exact h)
          have q := hcell k (by rw [List.length_map]; exact h)
          rw [List.getElem_map] at q
          exact ⟨b, o, e, q⟩
        have hkl1 : (l.take k).length = k := by rw [List.length_take]; omega
        have hkl2 : (l.drop k).length = l.length - k := List.length_drop ..
        have HK1 := Lib.hid hkl1
        have HK2 := Lib.hid hkl2
        clear hr hfr2 hkl1 hkl2
        rcases hup2 with hup | ⟨hup, hgt⟩
        · have hnk : ¬ k < l.length := by omega
          clear hqq
          go_wp2_with fail
          go_region_law (first | (refine step_app_ex (by rfl) (by rfl) _ _ 27 27 (by rfl) _ _ (by rfl) (by rfl) (app_ints _ wr.heap.size _ [] _ _ _ (l.take k) (Own.nil _ _ _) HK1.out (HTK.out _ (by repeat (first | (with_reducible exact hkg) | (with_reducible refine Grw.drew ?_) | (with_reducible refine Grw.alloc ?_ _)))) (by simp only [List.length_nil, List.length_append, List.length_map, List.length_take, List.length_drop, List.length_singleton]; omega) (Grw.le (W0 := wr) (by repeat (first | (with_reducible exact hkg) | (with_reducible refine Grw.drew ?_) | (with_reducible refine Grw.alloc ?_ _))))) ?_; rintro v7 w7 ⟨hv7, hb7, hk7⟩; have hkg : Grw wr.heap.size wr w7 := Grw.app (by repeat (first | (with_reducible exact hkg) | (with_reducible refine Grw.drew ?_) | (with_reducible refine Grw.alloc ?_ _))) hb7; (first | (have hlit := Rd.kp (lit_id _ x _ rfl) hk7 (fun ad e f => by cases f)) | (have hlit := Rd.kp (lit_i _ x _ rfl) hk7 (fun ad e f => by cases f)) | skip); rw [List.nil_append] at hv7; obtain ⟨A7, c7, rfl, _⟩ := hv7.read; simp only [List.length_map, HK1.out] at hv7 ⊢) | (refine step_app_ex (by rfl) (by rfl) _ _ 27 27 (by rfl) (.slice A7 k c7) _ (by rfl) (by rfl) (app_ints _ wr.heap.size _ ((l.take k).map (Value.int .i64)) _ _ _ [x] (by first | (with_reducible exact hv7) | (with_reducible exact hv7.below (bal (Below.refl _ _) _))) rfl (by first | exact hlit | (with_reducible exact lit_i _ x _ (by simp))) (by simp only [List.length_nil, List.length_append, List.length_map, List.length_take, List.length_drop, List.length_singleton]; omega) (Grw.le (W0 := wr) (by repeat (first | (with_reducible exact hkg) | (with_reducible refine Grw.drew ?_) | (with_reducible refine Grw.alloc ?_ _))))) ?_; rintro v8 w8 ⟨hv8, hb8, _⟩; have hkg : Grw wr.heap.size wr w8 := Grw.app (by repeat (first | (with_reducible exact hkg) | (with_reducible refine Grw.drew ?_) | (with_reducible refine Grw.alloc ?_ _))) hb8; obtain ⟨A8, c8, rfl, _⟩ := hv8.read; simp only [List.length_append, List.length_map, HK1.out, List.length_singleton] at hv8 ⊢) | (refine step_app_ex (by rfl) (by rfl) _ _ 27 27 (by rfl) (.slice A8 (k + 1) c8) _ (by rfl) (by rfl) (app_ints _ wr.heap.size _ ((l.take k).map (Value.int .i64) ++ [x].map (Value.int .i64)) _ _ _ (l.drop k) hv8 (by rw [List.length_drop] <;> omega) (HDR.out _ (by repeat (first | (with_reducible exact hkg) | (with_reducible refine Grw.drew ?_) | (with_reducible refine Grw.alloc ?_ _)))) (by simp only [List.length_nil, List.length_append, List.length_map, List.length_take, List.length_drop, List.length_singleton]; omega) (Grw.le (W0 := wr) (by repeat (first | (with_reducible exact hkg) | (with_reducible refine Grw.drew ?_) | (with_reducible refine Grw.alloc ?_ _))))) ?_; rintro v9 w9 ⟨hv9, hb9, _⟩; have hkg : Grw wr.heap.size wr w9 := Grw.app (by repeat (first | (with_reducible exact hkg) | (with_reducible refine Grw.drew ?_) | (with_reducible refine Grw.alloc ?_ _))) hb9))
          all_goals
            obtain ⟨A9, c9, rfl, hc9, hr9, _⟩ := hv9.read
            have hcm9 : c9 ≤ maxLen := by
              rcases hv9.2 with ⟨e, _⟩ | ⟨_, cap, _, e, _, _, _, h2, _⟩
              · injection e with _ _ e3
                rw [e3]; unfold maxLen; omega
              · injection e with _ _ e3
                rw [e3]; exact h2
            have hlen9 : ((l.take k).map (Value.int .i64) ++ [x].map (Value.int .i64) ++ (l.drop k).map (Value.int .i64)).length = (insertR l x).length := by rw [HI.out]; simp
            have hmap9 : (l.take k).map (Value.int .i64) ++ [x].map (Value.int .i64) ++ (l.drop k).map (Value.int .i64) = (insertR l x).map (Value.int .i64) := by rw [HI.out]; simp
            rw [hlen9] at hc9 ⊢
            rw [hmap9] at hr9
            have HFIN := Lib.hid hr9
            have hbf := hb.trans (hkg.bel.mono hb.size)
            clear hv9 hr9 hlen9 hmap9 hv8 hv7 hb7 hb8 hb9 hk7 hkg
            go_wp2
            go_ret
            exact ⟨_, _, rfl, HFIN.out, hc9, hcm9, hbf⟩
        · obtain ⟨b, o, rfl, q⟩ := hqq hup
          have i0 : (0 : Int) ≤ (k : Int) := by omega
          have i1 : (k : Int) < (l.length : Int) := by omega
          have hne : (l[k] == x) = false := by rw [beq_eq_false_iff_ne]; omega
          clear hqq
          go_wp2_with fail
          go_region_law (first | (refine step_app_ex (by rfl) (by rfl) _ _ 27 27 (by rfl) _ _ (by rfl) (by rfl) (app_ints _ wr.heap.size _ [] _ _ _ (l.take k) (Own.nil _ _ _) HK1.out (HTK.out _ (by repeat (first | (with_reducible exact hkg) | (with_reducible refine Grw.drew ?_) | (with_reducible refine Grw.alloc ?_ _)))) (by simp only [List.length_nil, List.length_append, List.length_map, List.length_take, List.length_drop, List.length_singleton]; omega) (Grw.le (W0 := wr) (by repeat (first | (with_reducible exact hkg) | (with_reducible refine Grw.drew ?_) | (with_reducible refine Grw.alloc ?_ _))))) ?_; rintro v7 w7 ⟨hv7, hb7, hk7⟩; have hkg : Grw wr.heap.size wr w7 := Grw.app (by repeat (first | (with_reducible exact hkg) | (with_reducible refine Grw.drew ?_) | (with_reducible refine Grw.alloc ?_ _))) hb7; (first | (have hlit := Rd.kp (lit_id _ x _ rfl) hk7 (fun ad e f => by cases f)) | (have hlit := Rd.kp (lit_i _ x _ rfl) hk7 (fun ad e f => by cases f)) | skip); rw [List.nil_append] at hv7; obtain ⟨A7, c7, rfl, _⟩ := hv7.read; simp only [List.length_map, HK1.out] at hv7 ⊢) | (refine step_app_ex (by rfl) (by rfl) _ _ 27 27 (by rfl) (.slice A7 k c7) _ (by rfl) (by rfl) (app_ints _ wr.heap.size _ ((l.take k).map (Value.int .i64)) _ _ _ [x] (by first | (with_reducible exact hv7) | (with_reducible exact hv7.below (bal (Below.refl _ _) _))) rfl (by first | exact hlit | (with_reducible exact lit_i _ x _ (by simp))) (by simp only [List.length_nil, List.length_append, List.length_map, List.length_take, List.length_drop, List.length_singleton]; omega) (Grw.le (W0 := wr) (by repeat (first | (with_reducible exact hkg) | (with_reducible refine Grw.drew ?_) | (with_reducible refine Grw.alloc ?_ _))))) ?_; rintro v8 w8 ⟨hv8, hb8, _⟩; have hkg : Grw wr.heap.size wr w8 := Grw.app (by repeat (first | (with_reducible exact hkg) | (with_reducible refine Grw.drew ?_) | (with_reducible refine Grw.alloc ?_ _))) hb8; obtain ⟨A8, c8, rfl, _⟩ := hv8.read; simp only [List.length_append, List.length_map, HK1.out, List.length_singleton] at hv8 ⊢) | (refine step_app_ex (by rfl) (by rfl) _ _ 27 27 (by rfl) (.slice A8 (k + 1) c8) _ (by rfl) (by rfl) (app_ints _ wr.heap.size _ ((l.take k).map (Value.int .i64) ++ [x].map (Value.int .i64)) _ _ _ (l.drop k) hv8 (by rw [List.length_drop] <;> omega) (HDR.out _ (by repeat (first | (with_reducible exact hkg) | (with_reducible refine Grw.drew ?_) | (with_reducible refine Grw.alloc ?_ _)))) (by simp only [List.length_nil, List.length_append, List.length_map, List.length_take, List.length_drop, List.length_singleton]; omega) (Grw.le (W0 := wr) (by repeat (first | (with_reducible exact hkg) | (with_reducible refine Grw.drew ?_) | (with_reducible refine Grw.alloc ?_ _))))) ?_; rintro v9 w9 ⟨hv9, hb9, _⟩; have hkg : Grw wr.heap.size wr w9 := Grw.app (by repeat (first | (with_reducible exact hkg) | (with_reducible refine Grw.drew ?_) | (with_reducible refine Grw.alloc ?_ _))) hb9))
          all_goals
            obtain ⟨A9, c9, rfl, hc9, hr9, _⟩ := hv9.read
            have hcm9 : c9 ≤ maxLen := by
              rcases hv9.2 with ⟨e, _⟩ | ⟨_, cap, _, e, _, _, _, h2, _⟩
              · injection e with _ _ e3
                rw [e3]; unfold maxLen; omega
              · injection e with _ _ e3
                rw [e3]; exact h2
            have hlen9 : ((l.take k).map (Value.int .i64) ++ [x].map (Value.int .i64) ++ (l.drop k).map (Value.int .i64)).length = (insertR l x).length := by rw [HI.out]; simp
            have hmap9 : (l.take k).map (Value.int .i64) ++ [x].map (Value.int .i64) ++ (l.drop k).map (Value.int .i64) = (insertR l x).map (Value.int .i64) := by rw [HI.out]; simp
            rw [hlen9] at hc9 ⊢
            rw [hmap9] at hr9
            have HFIN := Lib.hid hr9
            have hbf := hb.trans (hkg.bel.mono hb.size)
            clear hv9 hr9 hlen9 hmap9 hv8 hv7 hb7 hb8 hb9 hk7 hkg
            go_wp2
            go_ret
            exact ⟨_, _, rfl, HFIN.out, hc9, hcm9, hbf⟩
end Go.Proofs.Ytpnfgnddlfkfaaa
