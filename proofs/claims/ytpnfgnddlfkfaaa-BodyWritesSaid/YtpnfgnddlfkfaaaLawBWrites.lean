/-
  What BodyWrites calls and gives. (printed by genbwrites.py)
-/
import Derived.Test.YtpnfgnddlfkfaaaLawBRanges
import Derived.Test.YtpnfgnddlfkfaaaUses
set_option linter.unusedSimpArgs false
set_option linter.unusedVariables false
namespace Go.Proofs.Ytpnfgnddlfkfaaa
open Go.RowKit Go.Maps

theorem truncR_may {size : Int} {ps : List Part} {x U : Int} {us : List Part} (h : truncR size ps x = (U, us, 0)) : bodyMay U us = true := by
  unfold truncR at h
  split at h
  · rename_i hm
    split at h
    · rename_i hx
      cases h
      exact trunc_may hm hx.1 hx.2
    · cases h
  · cases h
theorem truncR_len (size : Int) (ps : List Part) (x : Int) : (truncR size ps x).2.1.length ≤ ps.length := by
  unfold truncR
  split
  · split
    · exact List.length_filterMap_le _ _
    · simp
  · simp
theorem insert_all {ps : List Part} {k : Nat} (hk : k < ps.length) {W : List Int} (hr : Rising W) (hm : ∀ x, x ∈ W ↔ ∃ p ∈ ps.take k, p.chunk = x) : Rising (insertR W ps[k].chunk) ∧ ∀ x, x ∈ insertR W ps[k].chunk ↔ ∃ p ∈ ps.take (k + 1), p.chunk = x := by
  obtain ⟨h1, h2⟩ := insertR_rising hr ps[k].chunk
  refine ⟨h1, fun x => ?_⟩
  rw [h2 x, hm x, List.take_succ_eq_append_getElem hk]
  simp only [List.mem_append, List.mem_singleton]
  constructor
  · rintro (⟨p, hp, e⟩ | e)
    · exact ⟨p, .inl hp, e⟩
    · exact ⟨_, .inr rfl, e.symm⟩
  · rintro ⟨p, hp | hp, e⟩
    · exact .inl ⟨p, hp, e⟩
    · subst hp; exact .inr e.symm
theorem rising_eq {a b : List Int} (ha : Rising a) (hb : Rising b) (h : ∀ x, x ∈ a ↔ x ∈ b) : a = b := by
  have p : a.Perm b := (List.perm_ext_iff_of_nodup (ha.imp fun h => Int.ne_of_lt h) (hb.imp fun h => Int.ne_of_lt h)).2 h
  exact p.eq_of_pairwise (le := fun x y => x < y) (fun x y _ _ h1 h2 => by omega) ha hb

set_option maxRecDepth 100000 in
set_option maxHeartbeats 8000000 in
theorem writes_walk (size : Int) (A : Option Addr) (n c : Nat) (ps : List Part) (Al : Option Addr) (nl cl : Nat) (l : List Part) (off x : Int) (w : World) (hn : ps.length = n) (hnm : n ≤ 9223372036854775807) (hr : Rd w A (pcs ps)) (hok : ∀ p ∈ ps, okP p) (hnl : l.length = nl) (hnlm : nl ≤ 9223372036854775807) (hrl : Rd w Al (pcs l)) (ho : okInt off) (hx : okInt x) :
    Calls Try.prog 13 #[bv size A n c, .slice Al nl cl, .agg #[.int .i64 off, .int .i64 x]] w fun e w' => e = .returned (.bool true) ∧ Below w.heap.size w w' := by
  subst hn hnl
  have HR := Lib.hid hr
  have HRL := Lib.hid hrl
  have HOK := Lib.hid hok
  clear hr hrl hok
  obtain ⟨ho0, ho1⟩ := ho
  obtain ⟨hx0, hx1⟩ := hx
  have hB0 := (Blk.new w 61 #[.int .i64 size, .slice A ps.length c]).alloc (.cells #[.int .i64 off, .int .i64 x] 82)
  have hP0 := Blk.new (w.alloc (.cells #[.int .i64 size, .slice A ps.length c] 61)) 82 #[.int .i64 off, .int .i64 x]
  rw [size_more'] at hP0
  have hb0 := bal (bal (Below.refl w.heap.size w) (.cells #[.int .i64 size, .slice A ps.length c] 61)) (.cells #[.int .i64 off, .int .i64 x] 82)
  by_cases h1 : 100 < ps.length ∨ 100 < l.length
  · unfold bv
    rcases (show 100 < ps.length ∨ (ps.length ≤ 100 ∧ 100 < l.length) by omega) with h1 | ⟨h1, h2⟩
    all_goals
      go_enter Try.func13, Try.ntmps13
      go_wp2_with fail
      (with_reducible refine (law12_awake _).mono ?_)
      rintro e w1 ⟨rfl, hb1⟩
      have hb2 := bn hb0 hb1
      have x1 : w1.cell? ⟨w.heap.size, 1, none⟩ = some (.slice A ps.length c) := (hB0.below hb1).cell 1
      go_wp2
      go_ret
      exact ⟨rfl, hb2⟩
  have hp1 : ps.length ≤ 100 := by omega
  have hl1 : l.length ≤ 100 := by omega
  clear h1
  have HMD := Lib.hid fun W (h : Below w.heap.size w W) => law12_made size A ps.length c ps W rfl (by omega) (HR.out.below h)
  have HPT := Lib.hid fun W (h : Below w.heap.size w W) => law12_parts Al l.length cl l W rfl (by omega) (HRL.out.below h)
  have HRW := Lib.hid fun W (h : Below w.heap.size w W) => ref_write size A ps.length c ps off Al l.length cl l W rfl (by omega) (HR.out.below h) rfl (by omega) (HRL.out.below h)
  have HRT := Lib.hid fun W (h : Below w.heap.size w W) => ref_trunc size A ps.length c ps x W rfl (by omega) (HR.out.below h)
  have HRM := Lib.hid fun W (h : Below w.heap.size w W) => ref_body_may size A ps.length c ps W rfl (by omega) (HR.out.below h)
  have HMM := Lib.hid fun W A' c' (h : Rd W A' (pcs ps)) => body_may size A' ps.length c' ps W rfl (by omega) h
  have HW1 := Lib.hid fun W A' c' Al' cl' (h : Rd W A' (pcs ps)) (h2 : Rd W Al' (pcs l)) => body_write size A' ps.length c' ps off Al' l.length cl' l W rfl (by omega) h rfl (by omega) h2
  have HT1 := Lib.hid fun W A' c' (h : Rd W A' (pcs ps)) => body_trunc size A' ps.length c' ps x W rfl (by omega) h
  have HUS := Lib.hid fun W A' c' (h : Rd W A' (pcs ps)) => body_uses size A' ps.length c' ps W rfl (by omega) h HOK.out
  have hlen := writeR_len size ps off l
  have hlenu := truncR_len size ps x
  obtain ⟨S, xs, er, hw⟩ : ∃ S xs er, writeR size ps off l = (S, xs, er) := ⟨_, _, _, rfl⟩
  obtain ⟨U, us, eu, hu⟩ : ∃ U us eu, truncR size ps x = (U, us, eu) := ⟨_, _, _, rfl⟩
  have HMX : Hid (er = 0 → bodyMay S xs = true) := Lib.hid fun h => by
    have := (writeR_may (size := size) (ps := ps) (off := off) (l := l) (by rw [hw]; exact h)).1
    rw [hw] at this
    exact this
  have HMXU : Hid (eu = 0 → bodyMay U us = true) := Lib.hid fun h => truncR_may (by rw [hu, h])
  rw [hw] at HRW HW1 hlen
  rw [hu] at HRT HT1 hlenu
  simp only at hlen hlenu
  have HSX := Lib.hid fun W A' c' A2 c2 (h : Rd W A' (pcs xs)) (h2 : Rd W A2 (pcs xs)) => law12_same S xs A' c' A2 c2 xs.length W rfl (by omega) h h2
  have HSU := Lib.hid fun W A' c' A2 c2 (h : Rd W A' (pcs us)) (h2 : Rd W A2 (pcs us)) => law12_same U us A' c' A2 c2 us.length W rfl (by omega) h h2
  have HMYX := Lib.hid fun W A' c' (h : Rd W A' (pcs xs)) => body_may S A' xs.length c' xs W rfl (by omega) h
  have HMYU := Lib.hid fun W A' c' (h : Rd W A' (pcs us)) => body_may U A' us.length c' us W rfl (by omega) h
  unfold bv at HMD HRW HRT HRM HMM HW1 HT1 HSX HSU HMYX HMYU HUS ⊢
  clear hw hu
  generalize hm : xs.length = m at *
  generalize hmu : us.length = mu at *
  have HM := Lib.hid hm
  have HMU := Lib.hid hmu
  clear hm hmu
  go_enter Try.func13, Try.ntmps13
  go_wp2_with fail
  (with_reducible refine (law12_awake _).mono ?_)
  rintro e w1 ⟨rfl, hb1⟩
  have hB1 := hB0.below hb1
  have hP1 := hP0.below hb1
  have hbw := bn hb0 hb1
  have x1 : w1.cell? ⟨w.heap.size, 1, none⟩ = some (.slice A ps.length c) := hB1.cell 1
  clear hB0 hP0 hb0 hb1
  go_wp2_with fail
  clear x1
  have HBP : Hid (∀ W, Below w1.heap.size w1 W → (W.cell? ⟨w.heap.size, 0, none⟩ = some (.int .i64 size) ∧ W.cell? ⟨w.heap.size, 1, none⟩ = some (.slice A ps.length c) ∧ W.cell? ⟨w.heap.size + 1, 0, none⟩ = some (.int .i64 off) ∧ W.cell? ⟨w.heap.size + 1, 1, none⟩ = some (.int .i64 x)) ∧ Below w.heap.size w W) := Lib.hid fun W h => ⟨⟨(hB1.below h).cell 0, (hB1.below h).cell 1, (hP1.below h).cell 0, (hP1.below h).cell 1⟩, bn hbw h⟩
  clear hB1 hP1 hbw
  go_cut [7, 8] (fun s7 s8 wx => ∃ X A' c', s7 = .pointer (some ⟨X, 0, none⟩) ∧ s8 = .int .i64 er ∧ Blk wx X 46 #[.int .i64 S, .slice A' m c'] ∧ Rd wx A' (pcs xs) ∧ Below w1.heap.size w1 wx)
  case first =>
    have HCL : Hid (∀ W : World, Grw w1.heap.size w1 W → (W.cell? ⟨w.heap.size, 0, none⟩ = some (.int .i64 size) ∧ W.cell? ⟨w.heap.size, 1, none⟩ = some (.slice A ps.length c) ∧ W.cell? ⟨w.heap.size + 1, 0, none⟩ = some (.int .i64 off)) ∧ Below w.heap.size w W) := Lib.hid fun W h => ⟨⟨(HBP.out W h.bel).1.1, (HBP.out W h.bel).1.2.1, (HBP.out W h.bel).1.2.2.1⟩, (HBP.out W h.bel).2⟩
    have hkg := Grw.refl (B := w1.heap.size) (W := w1) (Nat.le_refl _)
    go_region_held (fun W => W.cell? ⟨w.heap.size, 0, none⟩ = some (.int .i64 size) ∧ W.cell? ⟨w.heap.size, 1, none⟩ = some (.slice A ps.length c) ∧ W.cell? ⟨w.heap.size + 1, 0, none⟩ = some (.int .i64 off)) (exact (HCL.out _ (by repeat (first | (with_reducible exact hkg) | (with_reducible exact hk2) | (with_reducible exact hk3) | (with_reducible refine Grw.drew ?_) | (with_reducible refine Grw.alloc ?_ _) | (with_reducible refine Grw.setCell ?_ (by omega) _ _)))).1) ((first | (go_at_call 28; (with_reducible refine (HMD.out _ (HCL.out _ (by repeat (first | (with_reducible exact hkg) | (with_reducible exact hk2) | (with_reducible exact hk3) | (with_reducible refine Grw.drew ?_) | (with_reducible refine Grw.alloc ?_ _) | (with_reducible refine Grw.setCell ?_ (by omega) _ _)))).2).mono ?_); rintro e w2 ⟨A2, c2, rfl, hr2, hb2⟩; have hkg : Grw w1.heap.size w1 w2 := Grw.call (by repeat (first | (with_reducible exact hkg) | (with_reducible exact hk2) | (with_reducible exact hk3) | (with_reducible refine Grw.drew ?_) | (with_reducible refine Grw.alloc ?_ _) | (with_reducible refine Grw.setCell ?_ (by omega) _ _))) hb2; have hlew2 := hkg.le; (first | (have hxx := hk3; have hk3 : Grw w3.heap.size w3 w2 := Grw.call (by repeat (first | (with_reducible exact hkg) | (with_reducible exact hk2) | (with_reducible exact hk3) | (with_reducible refine Grw.drew ?_) | (with_reducible refine Grw.alloc ?_ _) | (with_reducible refine Grw.setCell ?_ (by omega) _ _))) hb2) | skip); have hk2 := Grw.refl (B := w2.heap.size) (W := w2) (Nat.le_refl _); (first | (with_reducible (have hZ := Blk.below (Blk.drew' (Blk.new _ 46 #[.int .i64 0, .slice none 0 0])) hb2; try simp only [World.size_alloc, World.size_drew] at hZ)) | (with_reducible (have hZ := Blk.below (Blk.new _ 46 #[.int .i64 0, .slice none 0 0]) hb2; try simp only [World.size_alloc, World.size_drew] at hZ)) | (have hZ := Blk.below hZ hb2) | skip)) | (go_at_call 29; (with_reducible refine (HPT.out _ (HCL.out _ (by repeat (first | (with_reducible exact hkg) | (with_reducible exact hk2) | (with_reducible exact hk3) | (with_reducible refine Grw.drew ?_) | (with_reducible refine Grw.alloc ?_ _) | (with_reducible refine Grw.setCell ?_ (by omega) _ _)))).2).mono ?_); rintro e w3 ⟨A3, c3, rfl, hv3, hb3⟩; have hr3 : Rd w3 A3 (pcs l) := ORow.rd hv3; have hkg : Grw w1.heap.size w1 w3 := Grw.call (by repeat (first | (with_reducible exact hkg) | (with_reducible exact hk2) | (with_reducible exact hk3) | (with_reducible refine Grw.drew ?_) | (with_reducible refine Grw.alloc ?_ _) | (with_reducible refine Grw.setCell ?_ (by omega) _ _))) hb3; have hlew3 := hkg.le; (first | (have hxx := hk2; have hk2 : Grw w2.heap.size w2 w3 := Grw.call (by repeat (first | (with_reducible exact hkg) | (with_reducible exact hk2) | (with_reducible exact hk3) | (with_reducible refine Grw.drew ?_) | (with_reducible refine Grw.alloc ?_ _) | (with_reducible refine Grw.setCell ?_ (by omega) _ _))) hb3) | skip); have hk3 := Grw.refl (B := w3.heap.size) (W := w3) (Nat.le_refl _); (first | (with_reducible (have hZ := Blk.below (Blk.drew' (Blk.new _ 46 #[.int .i64 0, .slice none 0 0])) hb3; try simp only [World.size_alloc, World.size_drew] at hZ)) | (with_reducible (have hZ := Blk.below (Blk.new _ 46 #[.int .i64 0, .slice none 0 0]) hb3; try simp only [World.size_alloc, World.size_drew] at hZ)) | (have hZ := Blk.below hZ hb3) | skip)) | (go_at_call 24; (with_reducible refine (HW1.out _ _ _ _ _ (hr2.below (Grw.bel (B := w2.heap.size) (W0 := w2) (by repeat (first | (with_reducible exact hkg) | (with_reducible exact hk2) | (with_reducible exact hk3) | (with_reducible refine Grw.drew ?_) | (with_reducible refine Grw.alloc ?_ _) | (with_reducible refine Grw.setCell ?_ (by omega) _ _))))) (hr3.below (Grw.bel (B := w3.heap.size) (W0 := w3) (by repeat (first | (with_reducible exact hkg) | (with_reducible exact hk2) | (with_reducible exact hk3) | (with_reducible refine Grw.drew ?_) | (with_reducible refine Grw.alloc ?_ _) | (with_reducible refine Grw.setCell ?_ (by omega) _ _)))))).mono ?_); rintro e w9 ⟨A9, c9, rfl, hr9, hb9⟩; simp only [HM.out, bv]; have hkg : Grw w1.heap.size w1 w9 := Grw.call (by repeat (first | (with_reducible exact hkg) | (with_reducible exact hk2) | (with_reducible exact hk3) | (with_reducible refine Grw.drew ?_) | (with_reducible refine Grw.alloc ?_ _) | (with_reducible refine Grw.setCell ?_ (by omega) _ _))) hb9; (first | (with_reducible (have hZ := Blk.below (Blk.drew' (Blk.new _ 46 #[.int .i64 0, .slice none 0 0])) hb9; try simp only [World.size_alloc, World.size_drew] at hZ)) | (with_reducible (have hZ := Blk.below (Blk.new _ 46 #[.int .i64 0, .slice none 0 0]) hb9; try simp only [World.size_alloc, World.size_drew] at hZ)) | (have hZ := Blk.below hZ hb9) | skip); (first | (have t0 : w9.cell? ⟨_, 0, none⟩ = some (.int .i64 0) := hZ.cell 0; have t1 : w9.cell? ⟨_, 1, none⟩ = some (.slice none 0 0) := hZ.cell 1; have u0 := hZ.frozen 0; have u1 := hZ.frozen 1; have hr9z := rd_set2 hr9 hZ (.int .i64 S) (.slice A9 m c9)) | skip))))
    all_goals (go_wp2_with fail; go_meet)
    all_goals first
      | exact ⟨_, A9, c9, rfl, rfl, Blk.new w9 46 #[.int .i64 S, .slice A9 m c9], hr9.below (bal (Below.refl _ _) _), (hkg.alloc _).bel⟩
      | exact ⟨_, A9, c9, rfl, rfl, blk_set2 hZ, hr9z, ((hkg.setCell (by omega) 0 _).setCell (by omega) 1 _).bel⟩
  case rest =>
    obtain ⟨X, A5, c5, rfl, rfl, hX5, hr5, hb5⟩ := hcut
    obtain ⟨⟨b0, b1, b2, _⟩, hbw⟩ := HBP.out wc hb5
    go_wp2_with fail
    (with_reducible refine (HRW.out _ hbw).mono ?_)
    rintro e w6 ⟨A6, c6, rfl, hr6, hb6⟩
    simp only [HM.out, bv]
    have hM6 := Blk.new w6 61 #[.int .i64 S, .slice A6 m c6]
    have hX6 := (hX5.below hb6).alloc (.cells #[.int .i64 S, .slice A6 m c6] 61)
    have hr56 := (hr5.below hb6).below (bal (Below.refl _ _) (.cells #[.int .i64 S, .slice A6 m c6] 61))
    have hr66 := hr6.below (bal (Below.refl _ _) (.cells #[.int .i64 S, .slice A6 m c6] 61))
    have hb7 := bal (bn hb5 hb6) (.cells #[.int .i64 S, .slice A6 m c6] 61)
    clear b0 b1 b2 hbw hX5 hr5 hb5 hb6 hr6
    go_wp2_with fail
    generalize hw7 : (w6.alloc (.cells #[.int .i64 S, .slice A6 m c6] 61)) = w7 at *
    clear hw7
    have HX7 := Lib.hid hX6
    have HM7 := Lib.hid hM6
    have HR57 := Lib.hid hr56
    have HR67 := Lib.hid hr66
    have HB7 := Lib.hid hb7
    clear hX6 hM6 hr56 hr66 hb7
    go_cut [11, 12] (fun s7 s8 wx => ∃ Y A' c', s7 = .pointer (some ⟨Y, 0, none⟩) ∧ s8 = .int .i64 eu ∧ Blk wx Y 46 #[.int .i64 U, .slice A' mu c'] ∧ Rd wx A' (pcs us) ∧ Below w7.heap.size w7 wx)
    case first =>
      have HCL : Hid (∀ W : World, Grw w7.heap.size w7 W → (W.cell? ⟨w.heap.size, 0, none⟩ = some (.int .i64 size) ∧ W.cell? ⟨w.heap.size, 1, none⟩ = some (.slice A ps.length c) ∧ W.cell? ⟨w.heap.size + 1, 1, none⟩ = some (.int .i64 x)) ∧ Below w.heap.size w W) := Lib.hid fun W h => ⟨⟨(HBP.out W (bn HB7.out h.bel)).1.1, (HBP.out W (bn HB7.out h.bel)).1.2.1, (HBP.out W (bn HB7.out h.bel)).1.2.2.2⟩, (HBP.out W (bn HB7.out h.bel)).2⟩
      have hkg := Grw.refl (B := w7.heap.size) (W := w7) (Nat.le_refl _)
      go_region_held (fun W => W.cell? ⟨w.heap.size, 0, none⟩ = some (.int .i64 size) ∧ W.cell? ⟨w.heap.size, 1, none⟩ = some (.slice A ps.length c) ∧ W.cell? ⟨w.heap.size + 1, 1, none⟩ = some (.int .i64 x)) (exact (HCL.out _ (by repeat (first | (with_reducible exact hkg) | (with_reducible exact hk2) | (with_reducible exact hk3) | (with_reducible refine Grw.drew ?_) | (with_reducible refine Grw.alloc ?_ _) | (with_reducible refine Grw.setCell ?_ (by omega) _ _)))).1) ((first | (go_at_call 28; (with_reducible refine (HMD.out _ (HCL.out _ (by repeat (first | (with_reducible exact hkg) | (with_reducible exact hk2) | (with_reducible exact hk3) | (with_reducible refine Grw.drew ?_) | (with_reducible refine Grw.alloc ?_ _) | (with_reducible refine Grw.setCell ?_ (by omega) _ _)))).2).mono ?_); rintro e w2 ⟨A2, c2, rfl, hr2, hb2⟩; have hkg : Grw w7.heap.size w7 w2 := Grw.call (by repeat (first | (with_reducible exact hkg) | (with_reducible exact hk2) | (with_reducible exact hk3) | (with_reducible refine Grw.drew ?_) | (with_reducible refine Grw.alloc ?_ _) | (with_reducible refine Grw.setCell ?_ (by omega) _ _))) hb2; have hlew2 := hkg.le; (first | (have hxx := hk3; have hk3 : Grw w3.heap.size w3 w2 := Grw.call (by repeat (first | (with_reducible exact hkg) | (with_reducible exact hk2) | (with_reducible exact hk3) | (with_reducible refine Grw.drew ?_) | (with_reducible refine Grw.alloc ?_ _) | (with_reducible refine Grw.setCell ?_ (by omega) _ _))) hb2) | skip); have hk2 := Grw.refl (B := w2.heap.size) (W := w2) (Nat.le_refl _); (first | (with_reducible (have hZ := Blk.below (Blk.drew' (Blk.new _ 46 #[.int .i64 0, .slice none 0 0])) hb2; try simp only [World.size_alloc, World.size_drew] at hZ)) | (with_reducible (have hZ := Blk.below (Blk.new _ 46 #[.int .i64 0, .slice none 0 0]) hb2; try simp only [World.size_alloc, World.size_drew] at hZ)) | (have hZ := Blk.below hZ hb2) | skip)) | (go_at_call 26; (with_reducible refine (HT1.out _ _ _ (hr2.below (Grw.bel (B := w2.heap.size) (W0 := w2) (by repeat (first | (with_reducible exact hkg) | (with_reducible exact hk2) | (with_reducible exact hk3) | (with_reducible refine Grw.drew ?_) | (with_reducible refine Grw.alloc ?_ _) | (with_reducible refine Grw.setCell ?_ (by omega) _ _)))))).mono ?_); rintro e w9 ⟨A9, c9, rfl, hr9, hb9⟩; simp only [HMU.out, bv]; have hkg : Grw w7.heap.size w7 w9 := Grw.call (by repeat (first | (with_reducible exact hkg) | (with_reducible exact hk2) | (with_reducible exact hk3) | (with_reducible refine Grw.drew ?_) | (with_reducible refine Grw.alloc ?_ _) | (with_reducible refine Grw.setCell ?_ (by omega) _ _))) hb9; (first | (with_reducible (have hZ := Blk.below (Blk.drew' (Blk.new _ 46 #[.int .i64 0, .slice none 0 0])) hb9; try simp only [World.size_alloc, World.size_drew] at hZ)) | (with_reducible (have hZ := Blk.below (Blk.new _ 46 #[.int .i64 0, .slice none 0 0]) hb9; try simp only [World.size_alloc, World.size_drew] at hZ)) | (have hZ := Blk.below hZ hb9) | skip); (first | (have t0 : w9.cell? ⟨_, 0, none⟩ = some (.int .i64 0) := hZ.cell 0; have t1 : w9.cell? ⟨_, 1, none⟩ = some (.slice none 0 0) := hZ.cell 1; have u0 := hZ.frozen 0; have u1 := hZ.frozen 1; have hr9z := rd_set2 hr9 hZ (.int .i64 U) (.slice A9 mu c9)) | skip))))
      all_goals (go_wp2_with fail; go_meet)
      all_goals first
        | exact ⟨_, A9, c9, rfl, rfl, Blk.new w9 46 #[.int .i64 U, .slice A9 mu c9], hr9.below (bal (Below.refl _ _) _), (hkg.alloc _).bel⟩
        | exact ⟨_, A9, c9, rfl, rfl, blk_set2 hZ, hr9z, ((hkg.setCell (by omega) 0 _).setCell (by omega) 1 _).bel⟩
    case rest =>
      obtain ⟨Y, A8, c8, rfl, rfl, hY8, hr8, hb8⟩ := hcut
      have hb81 := bn HB7.out hb8
      obtain ⟨⟨b0, b1, _, b3⟩, hbw⟩ := HBP.out wc hb81
      have hX8 := HX7.out.below hb8
      have hM8 := HM7.out.below hb8
      have hr58 := HR57.out.below hb8
      have hr68 := HR67.out.below hb8
      go_wp2_with fail
      (with_reducible refine (HRT.out _ hbw).mono ?_)
      rintro e w9 ⟨A9, c9, rfl, hr9, hb9⟩
      simp only [HMU.out, bv]
      have hN10 := Lib.hid (Blk.new w9 61 #[.int .i64 U, .slice A9 mu c9])
      have hX10 := Lib.hid ((hX8.below hb9).alloc (.cells #[.int .i64 U, .slice A9 mu c9] 61))
      have hM10 := Lib.hid ((hM8.below hb9).alloc (.cells #[.int .i64 U, .slice A9 mu c9] 61))
      have hY10 := Lib.hid ((hY8.below hb9).alloc (.cells #[.int .i64 U, .slice A9 mu c9] 61))
      have hr510 := Lib.hid ((hr58.below hb9).below (bal (Below.refl _ _) (.cells #[.int .i64 U, .slice A9 mu c9] 61)))
      have hr610 := Lib.hid ((hr68.below hb9).below (bal (Below.refl _ _) (.cells #[.int .i64 U, .slice A9 mu c9] 61)))
      have hr810 := Lib.hid ((hr8.below hb9).below (bal (Below.refl _ _) (.cells #[.int .i64 U, .slice A9 mu c9] 61)))
      have hr910 := Lib.hid (hr9.below (bal (Below.refl _ _) (.cells #[.int .i64 U, .slice A9 mu c9] 61)))
      have hb10 := Lib.hid (bal (bn hb81 hb9) (.cells #[.int .i64 U, .slice A9 mu c9] 61))
      clear b0 b1 b3 hbw hX8 hM8 hr58 hr68 hY8 hr8 hb8 hb81 hr9 hb9
      go_wp2_with fail
      generalize hw10 : (w9.alloc (.cells #[.int .i64 U, .slice A9 mu c9] 61)) = w10 at *
      clear hw10 HX7 HM7 HR57 HR67 HB7
      go_cut [90] (fun s90 wx => s90 = .bool false ∧ Below w10.heap.size w10 wx)
      case first =>
        have HCL : Hid (∀ W : World, Grw w10.heap.size w10 W → (W.cell? ⟨w.heap.size, 0, none⟩ = some (.int .i64 size) ∧ W.cell? ⟨w.heap.size, 1, none⟩ = some (.slice A ps.length c) ∧ W.cell? ⟨X, 0, none⟩ = some (.int .i64 S) ∧ W.cell? ⟨X, 1, none⟩ = some (.slice A5 m c5) ∧ W.cell? ⟨w6.heap.size, 0, none⟩ = some (.int .i64 S) ∧ W.cell? ⟨w6.heap.size, 1, none⟩ = some (.slice A6 m c6) ∧ W.cell? ⟨Y, 0, none⟩ = some (.int .i64 U) ∧ W.cell? ⟨Y, 1, none⟩ = some (.slice A8 mu c8) ∧ W.cell? ⟨w9.heap.size, 0, none⟩ = some (.int .i64 U) ∧ W.cell? ⟨w9.heap.size, 1, none⟩ = some (.slice A9 mu c9)) ∧ Below w.heap.size w W) := Lib.hid fun W h =>
          ⟨⟨(HBP.out W (bn hb10.out h.bel)).1.1, (HBP.out W (bn hb10.out h.bel)).1.2.1, (hX10.out.below h.bel).cell 0, (hX10.out.below h.bel).cell 1, (hM10.out.below h.bel).cell 0, (hM10.out.below h.bel).cell 1, (hY10.out.below h.bel).cell 0, (hY10.out.below h.bel).cell 1, (hN10.out.below h.bel).cell 0, (hN10.out.below h.bel).cell 1⟩, (HBP.out W (bn hb10.out h.bel)).2⟩
        have hkg := Grw.refl (B := w10.heap.size) (W := w10) (Nat.le_refl _)
        go_region_held (fun W => W.cell? ⟨w.heap.size, 0, none⟩ = some (.int .i64 size) ∧ W.cell? ⟨w.heap.size, 1, none⟩ = some (.slice A ps.length c) ∧ W.cell? ⟨X, 0, none⟩ = some (.int .i64 S) ∧ W.cell? ⟨X, 1, none⟩ = some (.slice A5 m c5) ∧ W.cell? ⟨w6.heap.size, 0, none⟩ = some (.int .i64 S) ∧ W.cell? ⟨w6.heap.size, 1, none⟩ = some (.slice A6 m c6) ∧ W.cell? ⟨Y, 0, none⟩ = some (.int .i64 U) ∧ W.cell? ⟨Y, 1, none⟩ = some (.slice A8 mu c8) ∧ W.cell? ⟨w9.heap.size, 0, none⟩ = some (.int .i64 U) ∧ W.cell? ⟨w9.heap.size, 1, none⟩ = some (.slice A9 mu c9)) (exact (HCL.out _ (by repeat (first | (with_reducible exact hkg) | (with_reducible exact hk2) | (with_reducible exact hk3) | (with_reducible refine Grw.drew ?_) | (with_reducible refine Grw.alloc ?_ _) | (with_reducible refine Grw.setCell ?_ (by omega) _ _)))).1) ((first
          | (go_at_call 28; (with_reducible refine (HMD.out _ (HCL.out _ (by repeat (first | (with_reducible exact hkg) | (with_reducible exact hk2) | (with_reducible exact hk3) | (with_reducible refine Grw.drew ?_) | (with_reducible refine Grw.alloc ?_ _) | (with_reducible refine Grw.setCell ?_ (by omega) _ _)))).2).mono ?_); rintro e w2 ⟨A2, c2, rfl, hr2, hb2⟩; have hkg : Grw w10.heap.size w10 w2 := Grw.call (by repeat (first | (with_reducible exact hkg) | (with_reducible exact hk2) | (with_reducible exact hk3) | (with_reducible refine Grw.drew ?_) | (with_reducible refine Grw.alloc ?_ _) | (with_reducible refine Grw.setCell ?_ (by omega) _ _))) hb2; have hlew2 := hkg.le; (first | (have hxx := hk3; have hk3 : Grw w3.heap.size w3 w2 := Grw.call (by repeat (first | (with_reducible exact hkg) | (with_reducible exact hk2) | (with_reducible exact hk3) | (with_reducible refine Grw.drew ?_) | (with_reducible refine Grw.alloc ?_ _) | (with_reducible refine Grw.setCell ?_ (by omega) _ _))) hb2) | skip); have hk2 := Grw.refl (B := w2.heap.size) (W := w2) (Nat.le_refl _); (first | (with_reducible (have hZ := Blk.below (Blk.drew' (Blk.new _ 46 #[.int .i64 0, .slice none 0 0])) hb2; try simp only [World.size_alloc, World.size_drew] at hZ)) | (with_reducible (have hZ := Blk.below (Blk.new _ 46 #[.int .i64 0, .slice none 0 0]) hb2; try simp only [World.size_alloc, World.size_drew] at hZ)) | (have hZ := Blk.below hZ hb2) | skip))
          | (go_at_call 32; (with_reducible refine (HMM.out _ _ _ (hr2.below (Grw.bel (B := w2.heap.size) (W0 := w2) (by repeat (first | (with_reducible exact hkg) | (with_reducible exact hk2) | (with_reducible exact hk3) | (with_reducible refine Grw.drew ?_) | (with_reducible refine Grw.alloc ?_ _) | (with_reducible refine Grw.setCell ?_ (by omega) _ _)))))).mono ?_); rintro e w3 ⟨rfl, hb3⟩; have hkg : Grw w10.heap.size w10 w3 := Grw.call (by repeat (first | (with_reducible exact hkg) | (with_reducible exact hk2) | (with_reducible exact hk3) | (with_reducible refine Grw.drew ?_) | (with_reducible refine Grw.alloc ?_ _) | (with_reducible refine Grw.setCell ?_ (by omega) _ _))) hb3; clear hk2 hr2)
          | (go_at_call 27; (with_reducible refine (HRM.out _ (HCL.out _ (by repeat (first | (with_reducible exact hkg) | (with_reducible exact hk2) | (with_reducible exact hk3) | (with_reducible refine Grw.drew ?_) | (with_reducible refine Grw.alloc ?_ _) | (with_reducible refine Grw.setCell ?_ (by omega) _ _)))).2).mono ?_); rintro e w4 ⟨rfl, hb4⟩; have hkg : Grw w10.heap.size w10 w4 := Grw.call (by repeat (first | (with_reducible exact hkg) | (with_reducible exact hk2) | (with_reducible exact hk3) | (with_reducible refine Grw.drew ?_) | (with_reducible refine Grw.alloc ?_ _) | (with_reducible refine Grw.setCell ?_ (by omega) _ _))) hb4; (first | (have hxx := hk2; have hk2 : Grw w2.heap.size w2 w4 := Grw.call (by repeat (first | (with_reducible exact hkg) | (with_reducible exact hk2) | (with_reducible exact hk3) | (with_reducible refine Grw.drew ?_) | (with_reducible refine Grw.alloc ?_ _) | (with_reducible refine Grw.setCell ?_ (by omega) _ _))) hb4) | skip))
          | (go_at_call 31; (with_reducible refine (HSX.out _ _ _ _ _ (hr510.out.below (Grw.bel (B := w10.heap.size) (W0 := w10) (by repeat (first | (with_reducible exact hkg) | (with_reducible exact hk2) | (with_reducible exact hk3) | (with_reducible refine Grw.drew ?_) | (with_reducible refine Grw.alloc ?_ _) | (with_reducible refine Grw.setCell ?_ (by omega) _ _))))) (hr610.out.below (Grw.bel (B := w10.heap.size) (W0 := w10) (by repeat (first | (with_reducible exact hkg) | (with_reducible exact hk2) | (with_reducible exact hk3) | (with_reducible refine Grw.drew ?_) | (with_reducible refine Grw.alloc ?_ _) | (with_reducible refine Grw.setCell ?_ (by omega) _ _)))))).mono ?_); rintro e w5 ⟨rfl, hb5⟩; have hkg : Grw w10.heap.size w10 w5 := Grw.call (by repeat (first | (with_reducible exact hkg) | (with_reducible exact hk2) | (with_reducible exact hk3) | (with_reducible refine Grw.drew ?_) | (with_reducible refine Grw.alloc ?_ _) | (with_reducible refine Grw.setCell ?_ (by omega) _ _))) hb5)
          | (go_at_call 31; (with_reducible refine (HSU.out _ _ _ _ _ (hr810.out.below (Grw.bel (B := w10.heap.size) (W0 := w10) (by repeat (first | (with_reducible exact hkg) | (with_reducible exact hk2) | (with_reducible exact hk3) | (with_reducible refine Grw.drew ?_) | (with_reducible refine Grw.alloc ?_ _) | (with_reducible refine Grw.setCell ?_ (by omega) _ _))))) (hr910.out.below (Grw.bel (B := w10.heap.size) (W0 := w10) (by repeat (first | (with_reducible exact hkg) | (with_reducible exact hk2) | (with_reducible exact hk3) | (with_reducible refine Grw.drew ?_) | (with_reducible refine Grw.alloc ?_ _) | (with_reducible refine Grw.setCell ?_ (by omega) _ _)))))).mono ?_); rintro e w5 ⟨rfl, hb5⟩; have hkg : Grw w10.heap.size w10 w5 := Grw.call (by repeat (first | (with_reducible exact hkg) | (with_reducible exact hk2) | (with_reducible exact hk3) | (with_reducible refine Grw.drew ?_) | (with_reducible refine Grw.alloc ?_ _) | (with_reducible refine Grw.setCell ?_ (by omega) _ _))) hb5)))
        all_goals (go_wp2_with fail; go_meet)
        all_goals exact ⟨rfl, hkg.bel⟩
      case rest =>
        obtain ⟨rfl, hb11⟩ := hcut
        have hb12 := bn hb10.out hb11
        have hX11 := hX10.out.below hb11
        have hY11 := hY10.out.below hb11
        have hr511 := hr510.out.below hb11
        have hr811 := hr810.out.below hb11
        have x0 : wc.cell? ⟨X, 0, none⟩ = some (.int .i64 S) := hX11.cell 0
        have x1 : wc.cell? ⟨X, 1, none⟩ = some (.slice A5 m c5) := hX11.cell 1
        have y0 : wc.cell? ⟨Y, 0, none⟩ = some (.int .i64 U) := hY11.cell 0
        have y1 : wc.cell? ⟨Y, 1, none⟩ = some (.slice A8 mu c8) := hY11.cell 1
        clear hX10 hM10 hY10 hN10 hr510 hr610 hr810 hr910 hb10 hb11
        have HM1 := Lib.hid (HMYX.out _ _ c5 hr511)
        have HM2 := Lib.hid fun W hb => HMYU.out W _ c8 (hr811.below (w' := W) hb)
        by_cases he : er = 0
        · subst he
          rw [HMX.out rfl] at HM1
          by_cases hu : eu = 0
          · subst hu
            rw [HMXU.out rfl] at HM2
            go_wp2_with fail
            (with_reducible refine HM1.out.mono ?_)
            rintro e w12 ⟨rfl, hb13⟩
            have hY12 := hY11.below hb13
            clear x0 x1 y0 y1
            have y0 : w12.cell? ⟨Y, 0, none⟩ = some (.int .i64 U) := hY12.cell 0
            have y1 : w12.cell? ⟨Y, 1, none⟩ = some (.slice A8 mu c8) := hY12.cell 1
            go_wp2_with fail
            (with_reducible refine (HM2.out _ hb13).mono ?_)
            rintro e w13 ⟨rfl, hb14⟩
            have hbz := bn (bn hb12 hb13) hb14
            clear y0 y1 hb12 hb13 hb14 hX11 hY11 hY12 hr511 hr811 HM1 HM2
            generalize w13 = wz at *
            go_wp2
            go_loopw [15, 16] (fun v i wr => ∃ (k : Nat) (W : List Int) (Aw : Option Addr) (cw : Nat), k ≤ ps.length ∧ W.length ≤ k ∧ v = .slice Aw W.length cw ∧ i = .int .i64 (k : Int) ∧ W.length ≤ cw ∧ cw ≤ maxLen ∧ Rd wr Aw (W.map (Value.int .i64)) ∧ Hid (Rising W ∧ ∀ x, x ∈ W ↔ ∃ p ∈ ps.take k, p.chunk = x) ∧ Below wz.heap.size wz wr) (fun _ i _ => ps.length - (intOf i).toNat)
            case atStart => exact ⟨0, [], none, 0, Nat.zero_le _, Nat.le_refl _, rfl, rfl, Nat.le_refl _, by unfold maxLen; omega, Rd.nil _ _, Lib.hid ⟨List.Pairwise.nil, fun x => by simp⟩, Below.refl _ _⟩
            case round =>
              obtain ⟨k, W, Aw, cw, hk, hWk, rfl, rfl, hcw, hcm, hrw, hW, hb⟩ := hrel
              have hbz2 := bn hbz hb
              obtain ⟨⟨b0, b1, _, _⟩, hbw⟩ := HBP.out wr hbz2
              by_cases hlt : k < ps.length
              · obtain ⟨b, o, rfl, _, hcell⟩ := part_at HR.out k hlt
                obtain ⟨_, _, q2, _⟩ := hcell wr hbw
                have HINS := Lib.hid (insert_all hlt hW.out.1 hW.out.2)
                have hil := insertR_len W ps[k].chunk
                have HI := Lib.hid (ref_insert Aw W.length cw W ps[k].chunk wr rfl (by omega) hcw hcm hrw hW.out.1 (HOK.out _ (List.getElem_mem hlt)).2.2.1)
                have i0 : (0 : Int) ≤ (k : Int) := by omega
                have i1 : (k : Int) < (ps.length : Int) := by omega
                clear hcell hW hrw
                generalize ps[k].chunk = pch at *
                go_wp2_with fail
                (with_reducible refine HI.out.mono ?_)
                rintro e w15 ⟨A15, c15, rfl, hr15, hc15, hcm15, hb15⟩
                have hb16 := bn hb hb15
                clear hb hb15 hbz2 b0 b1 hbw q2
                go_wp2
                go_roundw
                case rel => exact ⟨k + 1, insertR W pch, A15, c15, by omega, by omega, rfl, by go_num, hc15, hcm15, hr15, HINS, hb16⟩
                case measure => simp [intOf]; try omega
              · obtain rfl : k = ps.length := by omega
                go_wp2_with fail
                (with_reducible refine (HMD.out _ hbw).mono ?_)
                rintro e w15 ⟨A15, c15, rfl, hr15, hb15⟩
                go_wp2_with fail
                (with_reducible refine (HUS.out _ _ _ hr15).mono ?_)
                rintro e w16 ⟨v16, ks, rfl, ho16, hri, hmem, hb16⟩
                have heq : ks = W := rising_eq hri hW.out.1 fun x => by rw [hmem x, hW.out.2 x, List.take_length]
                subst heq
                obtain ⟨A16, c16, rfl, _, hr16, _⟩ := ho16.read
                rw [List.length_map]
                have hrw16 := hrw.below (bn hb15 hb16)
                have hb17 := bn (bn hbw hb15) hb16
                have HRA := Lib.hid hr16
                have HRB := Lib.hid hrw16
                have HB17 := Lib.hid hb17
                clear b0 b1 hbw hr15 hb15 hb16 hri hmem hr16 hrw16 hb17 hrw hW ho16 hb hbz2
                go_wp2
                go_loopw [18] (fun i wr => ∃ j : Nat, j ≤ ks.length ∧ i = .int .i64 (j : Int) ∧ Below w16.heap.size w16 wr) (fun i _ => ks.length - (intOf i).toNat)
                case atStart => exact ⟨0, Nat.zero_le _, rfl, Below.refl _ _⟩
                case round =>
                  obtain ⟨j, hj, rfl, hb⟩ := hrel
                  by_cases hlt : j < ks.length
                  · obtain ⟨ba, oa, rfl, _, hca⟩ := Rd.lit_of' (HRA.out.below hb) j (by rw [List.length_map]; exact hlt)
                    obtain ⟨bb, ob, rfl, _, hcb⟩ := Rd.lit_of' (HRB.out.below hb) j (by rw [List.length_map]; exact hlt)
                    have qa := hca j (by rw [List.length_map]; exact hlt)
                    have qb := hcb j (by rw [List.length_map]; exact hlt)
                    rw [List.getElem_map] at qa qb
                    have j0 : (0 : Int) ≤ (j : Int) := by omega
                    have j1 : (j : Int) < (ks.length : Int) := by omega
                    have hbd := bdr hb
                    clear hca hcb hb
                    generalize ks[j] = y at *
                    go_wp2_with fail
                    go_region_held (fun W => W.cell? ⟨ba, oa + j, none⟩ = some (.int .i64 y) ∧ W.cell? ⟨bb, ob + j, none⟩ = some (.int .i64 y)) (exact ⟨qa, qb⟩) (fail)
                    go_wp2
                    go_roundw
                    case rel => exact ⟨j + 1, by omega, by go_num, hbd⟩
                    case measure => simp [intOf]; try omega
                  · obtain rfl : j = ks.length := by omega
                    go_wp2
                    go_ret
                    exact ⟨rfl, bn HB17.out hb⟩
          · have hub : (eu == 0) = false := by simpa using hu
            go_wp2_with fail
            (with_reducible refine HM1.out.mono ?_)
            rintro e w12 ⟨rfl, hb13⟩
            have hbz := bn hb12 hb13
            clear x0 x1 y0 y1 hb12 hb13 hX11 hY11 hr511 hr811 HM1 HM2
            generalize w12 = wz at *
            go_wp2
            go_loopw [15, 16] (fun v i wr => ∃ (k : Nat) (W : List Int) (Aw : Option Addr) (cw : Nat), k ≤ ps.length ∧ W.length ≤ k ∧ v = .slice Aw W.length cw ∧ i = .int .i64 (k : Int) ∧ W.length ≤ cw ∧ cw ≤ maxLen ∧ Rd wr Aw (W.map (Value.int .i64)) ∧ Hid (Rising W ∧ ∀ x, x ∈ W ↔ ∃ p ∈ ps.take k, p.chunk = x) ∧ Below wz.heap.size wz wr) (fun _ i _ => ps.length - (intOf i).toNat)
            case atStart => exact ⟨0, [], none, 0, Nat.zero_le _, Nat.le_refl _, rfl, rfl, Nat.le_refl _, by unfold maxLen; omega, Rd.nil _ _, Lib.hid ⟨List.Pairwise.nil, fun x => by simp⟩, Below.refl _ _⟩
            case round =>
              obtain ⟨k, W, Aw, cw, hk, hWk, rfl, rfl, hcw, hcm, hrw, hW, hb⟩ := hrel
              have hbz2 := bn hbz hb
              obtain ⟨⟨b0, b1, _, _⟩, hbw⟩ := HBP.out wr hbz2
              by_cases hlt : k < ps.length
              · obtain ⟨b, o, rfl, _, hcell⟩ := part_at HR.out k hlt
                obtain ⟨_, _, q2, _⟩ := hcell wr hbw
                have HINS := Lib.hid (insert_all hlt hW.out.1 hW.out.2)
                have hil := insertR_len W ps[k].chunk
                have HI := Lib.hid (ref_insert Aw W.length cw W ps[k].chunk wr rfl (by omega) hcw hcm hrw hW.out.1 (HOK.out _ (List.getElem_mem hlt)).2.2.1)
                have i0 : (0 : Int) ≤ (k : Int) := by omega
                have i1 : (k : Int) < (ps.length : Int) := by omega
                clear hcell hW hrw
                generalize ps[k].chunk = pch at *
                go_wp2_with fail
                (with_reducible refine HI.out.mono ?_)
                rintro e w15 ⟨A15, c15, rfl, hr15, hc15, hcm15, hb15⟩
                have hb16 := bn hb hb15
                clear hb hb15 hbz2 b0 b1 hbw q2
                go_wp2
                go_roundw
                case rel => exact ⟨k + 1, insertR W pch, A15, c15, by omega, by omega, rfl, by go_num, hc15, hcm15, hr15, HINS, hb16⟩
                case measure => simp [intOf]; try omega
              · obtain rfl : k = ps.length := by omega
                go_wp2_with fail
                (with_reducible refine (HMD.out _ hbw).mono ?_)
                rintro e w15 ⟨A15, c15, rfl, hr15, hb15⟩
                go_wp2_with fail
                (with_reducible refine (HUS.out _ _ _ hr15).mono ?_)
                rintro e w16 ⟨v16, ks, rfl, ho16, hri, hmem, hb16⟩
                have heq : ks = W := rising_eq hri hW.out.1 fun x => by rw [hmem x, hW.out.2 x, List.take_length]
                subst heq
                obtain ⟨A16, c16, rfl, _, hr16, _⟩ := ho16.read
                rw [List.length_map]
                have hrw16 := hrw.below (bn hb15 hb16)
                have hb17 := bn (bn hbw hb15) hb16
                have HRA := Lib.hid hr16
                have HRB := Lib.hid hrw16
                have HB17 := Lib.hid hb17
                clear b0 b1 hbw hr15 hb15 hb16 hri hmem hr16 hrw16 hb17 hrw hW ho16 hb hbz2
                go_wp2
                go_loopw [18] (fun i wr => ∃ j : Nat, j ≤ ks.length ∧ i = .int .i64 (j : Int) ∧ Below w16.heap.size w16 wr) (fun i _ => ks.length - (intOf i).toNat)
                case atStart => exact ⟨0, Nat.zero_le _, rfl, Below.refl _ _⟩
                case round =>
                  obtain ⟨j, hj, rfl, hb⟩ := hrel
                  by_cases hlt : j < ks.length
                  · obtain ⟨ba, oa, rfl, _, hca⟩ := Rd.lit_of' (HRA.out.below hb) j (by rw [List.length_map]; exact hlt)
                    obtain ⟨bb, ob, rfl, _, hcb⟩ := Rd.lit_of' (HRB.out.below hb) j (by rw [List.length_map]; exact hlt)
                    have qa := hca j (by rw [List.length_map]; exact hlt)
                    have qb := hcb j (by rw [List.length_map]; exact hlt)
                    rw [List.getElem_map] at qa qb
                    have j0 : (0 : Int) ≤ (j : Int) := by omega
                    have j1 : (j : Int) < (ks.length : Int) := by omega
                    have hbd := bdr hb
                    clear hca hcb hb
                    generalize ks[j] = y at *
                    go_wp2_with fail
                    go_region_held (fun W => W.cell? ⟨ba, oa + j, none⟩ = some (.int .i64 y) ∧ W.cell? ⟨bb, ob + j, none⟩ = some (.int .i64 y)) (exact ⟨qa, qb⟩) (fail)
                    go_wp2
                    go_roundw
                    case rel => exact ⟨j + 1, by omega, by go_num, hbd⟩
                    case measure => simp [intOf]; try omega
                  · obtain rfl : j = ks.length := by omega
                    go_wp2
                    go_ret
                    exact ⟨rfl, bn HB17.out hb⟩
        · have heb : (er == 0) = false := by simpa using he
          by_cases hu : eu = 0
          · subst hu
            rw [HMXU.out rfl] at HM2
            go_wp2_with fail
            (with_reducible refine (HM2.out _ (Below.refl _ _)).mono ?_)
            rintro e w12 ⟨rfl, hb13⟩
            have hbz := bn hb12 hb13
            clear x0 x1 y0 y1 hb12 hb13 hX11 hY11 hr511 hr811 HM1 HM2
            generalize w12 = wz at *
            go_wp2
            go_loopw [15, 16] (fun v i wr => ∃ (k : Nat) (W : List Int) (Aw : Option Addr) (cw : Nat), k ≤ ps.length ∧ W.length ≤ k ∧ v = .slice Aw W.length cw ∧ i = .int .i64 (k : Int) ∧ W.length ≤ cw ∧ cw ≤ maxLen ∧ Rd wr Aw (W.map (Value.int .i64)) ∧ Hid (Rising W ∧ ∀ x, x ∈ W ↔ ∃ p ∈ ps.take k, p.chunk = x) ∧ Below wz.heap.size wz wr) (fun _ i _ => ps.length - (intOf i).toNat)
            case atStart => exact ⟨0, [], none, 0, Nat.zero_le _, Nat.le_refl _, rfl, rfl, Nat.le_refl _, by unfold maxLen; omega, Rd.nil _ _, Lib.hid ⟨List.Pairwise.nil, fun x => by simp⟩, Below.refl _ _⟩
            case round =>
              obtain ⟨k, W, Aw, cw, hk, hWk, rfl, rfl, hcw, hcm, hrw, hW, hb⟩ := hrel
              have hbz2 := bn hbz hb
              obtain ⟨⟨b0, b1, _, _⟩, hbw⟩ := HBP.out wr hbz2
              by_cases hlt : k < ps.length
              · obtain ⟨b, o, rfl, _, hcell⟩ := part_at HR.out k hlt
                obtain ⟨_, _, q2, _⟩ := hcell wr hbw
                have HINS := Lib.hid (insert_all hlt hW.out.1 hW.out.2)
                have hil := insertR_len W ps[k].chunk
                have HI := Lib.hid (ref_insert Aw W.length cw W ps[k].chunk wr rfl (by omega) hcw hcm hrw hW.out.1 (HOK.out _ (List.getElem_mem hlt)).2.2.1)
                have i0 : (0 : Int) ≤ (k : Int) := by omega
                have i1 : (k : Int) < (ps.length : Int) := by omega
                clear hcell hW hrw
                generalize ps[k].chunk = pch at *
                go_wp2_with fail
                (with_reducible refine HI.out.mono ?_)
                rintro e w15 ⟨A15, c15, rfl, hr15, hc15, hcm15, hb15⟩
                have hb16 := bn hb hb15
                clear hb hb15 hbz2 b0 b1 hbw q2
                go_wp2
                go_roundw
                case rel => exact ⟨k + 1, insertR W pch, A15, c15, by omega, by omega, rfl, by go_num, hc15, hcm15, hr15, HINS, hb16⟩
                case measure => simp [intOf]; try omega
              · obtain rfl : k = ps.length := by omega
                go_wp2_with fail
                (with_reducible refine (HMD.out _ hbw).mono ?_)
                rintro e w15 ⟨A15, c15, rfl, hr15, hb15⟩
                go_wp2_with fail
                (with_reducible refine (HUS.out _ _ _ hr15).mono ?_)
                rintro e w16 ⟨v16, ks, rfl, ho16, hri, hmem, hb16⟩
                have heq : ks = W := rising_eq hri hW.out.1 fun x => by rw [hmem x, hW.out.2 x, List.take_length]
                subst heq
                obtain ⟨A16, c16, rfl, _, hr16, _⟩ := ho16.read
                rw [List.length_map]
                have hrw16 := hrw.below (bn hb15 hb16)
                have hb17 := bn (bn hbw hb15) hb16
                have HRA := Lib.hid hr16
                have HRB := Lib.hid hrw16
                have HB17 := Lib.hid hb17
                clear b0 b1 hbw hr15 hb15 hb16 hri hmem hr16 hrw16 hb17 hrw hW ho16 hb hbz2
                go_wp2
                go_loopw [18] (fun i wr => ∃ j : Nat, j ≤ ks.length ∧ i = .int .i64 (j : Int) ∧ Below w16.heap.size w16 wr) (fun i _ => ks.length - (intOf i).toNat)
                case atStart => exact ⟨0, Nat.zero_le _, rfl, Below.refl _ _⟩
                case round =>
                  obtain ⟨j, hj, rfl, hb⟩ := hrel
                  by_cases hlt : j < ks.length
                  · obtain ⟨ba, oa, rfl, _, hca⟩ := Rd.lit_of' (HRA.out.below hb) j (by rw [List.length_map]; exact hlt)
                    obtain ⟨bb, ob, rfl, _, hcb⟩ := Rd.lit_of' (HRB.out.below hb) j (by rw [List.length_map]; exact hlt)
                    have qa := hca j (by rw [List.length_map]; exact hlt)
                    have qb := hcb j (by rw [List.length_map]; exact hlt)
                    rw [List.getElem_map] at qa qb
                    have j0 : (0 : Int) ≤ (j : Int) := by omega
                    have j1 : (j : Int) < (ks.length : Int) := by omega
                    have hbd := bdr hb
                    clear hca hcb hb
                    generalize ks[j] = y at *
                    go_wp2_with fail
                    go_region_held (fun W => W.cell? ⟨ba, oa + j, none⟩ = some (.int .i64 y) ∧ W.cell? ⟨bb, ob + j, none⟩ = some (.int .i64 y)) (exact ⟨qa, qb⟩) (fail)
                    go_wp2
                    go_roundw
                    case rel => exact ⟨j + 1, by omega, by go_num, hbd⟩
                    case measure => simp [intOf]; try omega
                  · obtain rfl : j = ks.length := by omega
                    go_wp2
                    go_ret
                    exact ⟨rfl, bn HB17.out hb⟩
          · have hub : (eu == 0) = false := by simpa using hu
            have hbz := hb12
            clear x0 x1 y0 y1 hb12 hX11 hY11 hr511 hr811 HM1 HM2
            generalize wc = wz at *
            go_wp2
            go_loopw [15, 16] (fun v i wr => ∃ (k : Nat) (W : List Int) (Aw : Option Addr) (cw : Nat), k ≤ ps.length ∧ W.length ≤ k ∧ v = .slice Aw W.length cw ∧ i = .int .i64 (k : Int) ∧ W.length ≤ cw ∧ cw ≤ maxLen ∧ Rd wr Aw (W.map (Value.int .i64)) ∧ Hid (Rising W ∧ ∀ x, x ∈ W ↔ ∃ p ∈ ps.take k, p.chunk = x) ∧ Below wz.heap.size wz wr) (fun _ i _ => ps.length - (intOf i).toNat)
            case atStart => exact ⟨0, [], none, 0, Nat.zero_le _, Nat.le_refl _, rfl, rfl, Nat.le_refl _, by unfold maxLen; omega, Rd.nil _ _, Lib.hid ⟨List.Pairwise.nil, fun x => by simp⟩, Below.refl _ _⟩
            case round =>
              obtain ⟨k, W, Aw, cw, hk, hWk, rfl, rfl, hcw, hcm, hrw, hW, hb⟩ := hrel
              have hbz2 := bn hbz hb
              obtain ⟨⟨b0, b1, _, _⟩, hbw⟩ := HBP.out wr hbz2
              by_cases hlt : k < ps.length
              · obtain ⟨b, o, rfl, _, hcell⟩ := part_at HR.out k hlt
                obtain ⟨_, _, q2, _⟩ := hcell wr hbw
                have HINS := Lib.hid (insert_all hlt hW.out.1 hW.out.2)
                have hil := insertR_len W ps[k].chunk
                have HI := Lib.hid (ref_insert Aw W.length cw W ps[k].chunk wr rfl (by omega) hcw hcm hrw hW.out.1 (HOK.out _ (List.getElem_mem hlt)).2.2.1)
                have i0 : (0 : Int) ≤ (k : Int) := by omega
                have i1 : (k : Int) < (ps.length : Int) := by omega
                clear hcell hW hrw
                generalize ps[k].chunk = pch at *
                go_wp2_with fail
                (with_reducible refine HI.out.mono ?_)
                rintro e w15 ⟨A15, c15, rfl, hr15, hc15, hcm15, hb15⟩
                have hb16 := bn hb hb15
                clear hb hb15 hbz2 b0 b1 hbw q2
                go_wp2
                go_roundw
                case rel => exact ⟨k + 1, insertR W pch, A15, c15, by omega, by omega, rfl, by go_num, hc15, hcm15, hr15, HINS, hb16⟩
                case measure => simp [intOf]; try omega
              · obtain rfl : k = ps.length := by omega
                go_wp2_with fail
                (with_reducible refine (HMD.out _ hbw).mono ?_)
                rintro e w15 ⟨A15, c15, rfl, hr15, hb15⟩
                go_wp2_with fail
                (with_reducible refine (HUS.out _ _ _ hr15).mono ?_)
                rintro e w16 ⟨v16, ks, rfl, ho16, hri, hmem, hb16⟩
                have heq : ks = W := rising_eq hri hW.out.1 fun x => by rw [hmem x, hW.out.2 x, List.take_length]
                subst heq
                obtain ⟨A16, c16, rfl, _, hr16, _⟩ := ho16.read
                rw [List.length_map]
                have hrw16 := hrw.below (bn hb15 hb16)
                have hb17 := bn (bn hbw hb15) hb16
                have HRA := Lib.hid hr16
                have HRB := Lib.hid hrw16
                have HB17 := Lib.hid hb17
                clear b0 b1 hbw hr15 hb15 hb16 hri hmem hr16 hrw16 hb17 hrw hW ho16 hb hbz2
                go_wp2
                go_loopw [18] (fun i wr => ∃ j : Nat, j ≤ ks.length ∧ i = .int .i64 (j : Int) ∧ Below w16.heap.size w16 wr) (fun i _ => ks.length - (intOf i).toNat)
                case atStart => exact ⟨0, Nat.zero_le _, rfl, Below.refl _ _⟩
                case round =>
                  obtain ⟨j, hj, rfl, hb⟩ := hrel
                  by_cases hlt : j < ks.length
                  · obtain ⟨ba, oa, rfl, _, hca⟩ := Rd.lit_of' (HRA.out.below hb) j (by rw [List.length_map]; exact hlt)
                    obtain ⟨bb, ob, rfl, _, hcb⟩ := Rd.lit_of' (HRB.out.below hb) j (by rw [List.length_map]; exact hlt)
                    have qa := hca j (by rw [List.length_map]; exact hlt)
                    have qb := hcb j (by rw [List.length_map]; exact hlt)
                    rw [List.getElem_map] at qa qb
                    have j0 : (0 : Int) ≤ (j : Int) := by omega
                    have j1 : (j : Int) < (ks.length : Int) := by omega
                    have hbd := bdr hb
                    clear hca hcb hb
                    generalize ks[j] = y at *
                    go_wp2_with fail
                    go_region_held (fun W => W.cell? ⟨ba, oa + j, none⟩ = some (.int .i64 y) ∧ W.cell? ⟨bb, ob + j, none⟩ = some (.int .i64 y)) (exact ⟨qa, qb⟩) (fail)
                    go_wp2
                    go_roundw
                    case rel => exact ⟨j + 1, by omega, by go_num, hbd⟩
                    case measure => simp [intOf]; try omega
                  · obtain rfl : j = ks.length := by omega
                    go_wp2
                    go_ret
                    exact ⟨rfl, bn HB17.out hb⟩
end Go.Proofs.Ytpnfgnddlfkfaaa
