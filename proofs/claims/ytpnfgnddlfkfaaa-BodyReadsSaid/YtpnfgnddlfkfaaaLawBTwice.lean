/-
  What BodyTwice calls and gives.
-/
import Derived.Test.YtpnfgnddlfkfaaaLaw12A
set_option linter.unusedSimpArgs false
set_option linter.unusedVariables false
namespace Go.Proofs.Ytpnfgnddlfkfaaa
open Go.RowKit Go.Maps

theorem writeR_len (size : Int) (ps : List Part) (off : Int) (l : List Part) : (writeR size ps off l).2.1.length ≤ 2 * ps.length + l.length := by
  unfold writeR
  split
  · split
    · split
      · simp only; omega
      · simp only [List.length_append, placed_length]
        have h1 := List.length_filterMap_le (fun p => aheadP p off) ps
        have h2 := List.length_filterMap_le (fun p => behindP p (off + sumLen l)) ps
        omega
    · simp
  · simp
theorem write_twice {size : Int} {ps : List Part} {off : Int} {l : List Part} {S : Int} {xs : List Part} (h : writeR size ps off l = (S, xs, 0)) : writeR S xs off l = (S, xs, 0) ∧ truncR S xs S = (S, xs, 0) ∧ bodyMay S xs = true := by
  obtain ⟨h1, h2, h3, h4, h5⟩ := writeR_may (size := size) (ps := ps) (off := off) (l := l) (by rw [h])
  have h1' : bodyMay S xs = true := by rw [h] at h1; exact h1
  obtain ⟨⟨g1, g2⟩, g3⟩ := bodyMay_chain.1 h1'
  refine ⟨?_, ?_, h1'⟩
  · rw [writeR_ok h2 h3 h4 h5] at h
    rw [writeR_ok h1' h3 h4 h5]
    by_cases hl : l = []
    · rw [if_pos hl]
    · rw [if_neg hl] at h ⊢
      obtain ⟨rfl, h6⟩ := Prod.mk.inj h
      obtain ⟨rfl, _⟩ := Prod.mk.inj h6
      rw [written_twice h2 h3 h4]
      congr 1
      omega
  · rw [truncR_ok h1' g1 g2, ahead_all g3 (Int.le_refl _)]

set_option maxRecDepth 100000 in
set_option maxHeartbeats 4000000 in
theorem twice_walk (size : Int) (A : Option Addr) (n c : Nat) (ps : List Part) (Al : Option Addr) (nl cl : Nat) (l : List Part) (off : Nat) (w : World) (hn : ps.length = n) (hnm : n ≤ 9223372036854775807) (hr : Rd w A (pcs ps)) (hnl : l.length = nl) (hnlm : nl ≤ 9223372036854775807) (hrl : Rd w Al (pcs l)) (hoff : off < 65536) :
    Calls Try.prog 9 #[bv size A n c, .slice Al nl cl, .int .u16 (off : Int)] w fun e w' => e = .returned (.bool true) ∧ Below w.heap.size w w' := by
  subst hn hnl
  have HR := Lib.hid hr
  have HRL := Lib.hid hrl
  clear hr hrl
  have hB0 := Blk.new w 61 #[.int .i64 size, .slice A ps.length c]
  have hb0 := bal (Below.refl w.heap.size w) (.cells #[.int .i64 size, .slice A ps.length c] 61)
  by_cases h1 : 100 < ps.length ∨ 60 < l.length
  · unfold bv
    rcases (show 100 < ps.length ∨ (ps.length ≤ 100 ∧ 60 < l.length) by omega) with h1 | ⟨h1, h2⟩
    all_goals
      go_enter Try.func9, Try.ntmps9
      go_wp2_with fail
      (with_reducible refine (law12_awake _).mono ?_)
      rintro e w1 ⟨rfl, hb1⟩
      have hb2 := bn hb0 hb1
      have x1 : w1.cell? ⟨w.heap.size, 1, none⟩ = some (.slice A ps.length c) := (hB0.below hb1).cell 1
      go_wp2
      go_ret
      exact ⟨rfl, hb2⟩
  have hp1 : ps.length ≤ 100 := by omega
  have hl1 : l.length ≤ 60 := by omega
  clear h1
  have HMD := Lib.hid fun W (h : Below w.heap.size w W) => law12_made size A ps.length c ps W rfl (by omega) (HR.out.below h)
  have HPT := Lib.hid fun W (h : Below w.heap.size w W) => law12_parts Al l.length cl l W rfl (by omega) (HRL.out.below h)
  have HRW := Lib.hid fun W (h : Below w.heap.size w W) => ref_write size A ps.length c ps (off : Int) Al l.length cl l W rfl (by omega) (HR.out.below h) rfl (by omega) (HRL.out.below h)
  have HW1 := Lib.hid fun W A' c' Al' cl' (h : Rd W A' (pcs ps)) (h2 : Rd W Al' (pcs l)) => body_write size A' ps.length c' ps (off : Int) Al' l.length cl' l W rfl (by omega) h rfl (by omega) h2
  have hlen := writeR_len size ps off l
  obtain ⟨S, xs, er, hw⟩ : ∃ S xs er, writeR size ps (off : Int) l = (S, xs, er) := ⟨_, _, _, rfl⟩
  rw [hw] at HRW HW1 hlen
  simp only at hlen
  unfold bv at HMD HW1 HRW ⊢
  by_cases he : er = 0
  · subst he
    obtain ⟨e1, e2, e3⟩ := write_twice hw
    have HW2 := Lib.hid fun W A' c' Al' cl' (h : Rd W A' (pcs xs)) (h2 : Rd W Al' (pcs l)) => body_write S A' xs.length c' xs (off : Int) Al' l.length cl' l W rfl (by omega) h rfl (by omega) h2
    have HTR := Lib.hid fun W A' c' (h : Rd W A' (pcs xs)) => body_trunc S A' xs.length c' xs S W rfl (by omega) h
    have HMY := Lib.hid fun W A' c' (h : Rd W A' (pcs xs)) => body_may S A' xs.length c' xs W rfl (by omega) h
    have HSM := Lib.hid fun W A' c' A2 c2 (h : Rd W A' (pcs xs)) (h2 : Rd W A2 (pcs xs)) => law12_same S xs A' c' A2 c2 xs.length W rfl (by omega) h h2
    rw [e1] at HW2
    rw [e2] at HTR
    rw [e3] at HMY
    unfold bv at HW2 HTR HMY HSM
    clear e1 e2 e3 hw
    generalize hm : xs.length = m at *
    have HM := Lib.hid hm
    clear hm
    go_enter Try.func9, Try.ntmps9
    go_wp2_with fail
    (with_reducible refine (law12_awake _).mono ?_)
    rintro e w1 ⟨rfl, hb1⟩
    have hb2 := bn hb0 hb1
    have hB1 := hB0.below hb1
    have x0 : w1.cell? ⟨w.heap.size, 0, none⟩ = some (.int .i64 size) := hB1.cell 0
    have x1 : w1.cell? ⟨w.heap.size, 1, none⟩ = some (.slice A ps.length c) := hB1.cell 1
    clear hb0 hb1 hB0
    go_wp2_with fail
    (with_reducible refine (HMD.out _ hb2).mono ?_)
    rintro e w2 ⟨A2, c2, rfl, hr2, hb3⟩
    have hb4 := bn hb2 hb3
    have hB2 := hB1.below hb3
    clear x0 x1 hb2 hb3 hB1
    go_wp2_with fail
    (with_reducible refine (HPT.out _ hb4).mono ?_)
    rintro e w3 ⟨A3, c3, rfl, hv3, hb5⟩
    obtain ⟨A3', c3', e3, _, hr3, _⟩ := ORow.read hv3
    cases e3
    have hb6 := bn hb4 hb5
    have hB3 := hB2.below hb5
    have hr23 := hr2.below hb5
    clear hb4 hB2 hr2 hv3 hb5
    go_wp2_with fail
    (with_reducible refine (HW1.out _ _ _ _ _ hr23 hr3).mono ?_)
    rintro e w4 ⟨A4, c4, rfl, hr4, hb7⟩
    have hb8 := bn hb6 hb7
    have hB4 := hB3.below hb7
    simp only [HM.out, bv]
    have hX5 := Blk.new w4 46 #[.int .i64 S, .slice A4 m c4]
    have hb9 := bal hb8 (.cells #[.int .i64 S, .slice A4 m c4] 46)
    have hr5 := hr4.below (bal (Below.refl _ _) (.cells #[.int .i64 S, .slice A4 m c4] 46))
    have hB5 := hB4.alloc (.cells #[.int .i64 S, .slice A4 m c4] 46)
    clear hb6 hb7 hb8 hB3 hB4 hr23 hr3 hr4
    go_wp2_with fail
    have hb10 := bdr hb9
    go_cut [9, 10] (fun s9 s10 wx => ∃ Z A' c', s9 = .pointer (some ⟨Z, 0, none⟩) ∧ s10 = .int .i64 0 ∧ Blk wx Z 46 #[.int .i64 S, .slice A' m c'] ∧ Rd wx A' (pcs xs) ∧ Below (w4.heap.size + 1) (w4.alloc (.cells #[.int .i64 S, .slice A4 m c4] 46)) wx)
    case first =>
      have hx1 : w4.heap.size < w4.heap.size + 1 := by omega
      have HCL : Hid (∀ W : World, Grw (w4.heap.size + 1) (w4.alloc (.cells #[.int .i64 S, .slice A4 m c4] 46)) W → (W.cell? ⟨w4.heap.size, 0, none⟩ = some (.int .i64 S) ∧ W.cell? ⟨w4.heap.size, 1, none⟩ = some (.slice A4 m c4)) ∧ Rd W A4 (pcs xs) ∧ Below w.heap.size w W) := fun W h => by
        have h' : Below (w4.alloc (.cells #[.int .i64 S, .slice A4 m c4] 46)).heap.size (w4.alloc (.cells #[.int .i64 S, .slice A4 m c4] 46)) W := by rw [size_more']; exact h.bel
        exact ⟨⟨(hX5.below h').cell 0, (hX5.below h').cell 1⟩, hr5.below h', bn hb9 h'⟩
      clear hX5 hr5 hB5 hb9 hb10
      have hk := Grw.refl (B := w4.heap.size + 1) (W := (w4.alloc (.cells #[.int .i64 S, .slice A4 m c4] 46))) (by simp)
      have hwo : IntKind.i64.wrap (off : Int) = (off : Int) := IntWalk.i64_in _ (by omega)
      go_region_held (fun W => W.cell? ⟨w4.heap.size, 0, none⟩ = some (.int .i64 S) ∧ W.cell? ⟨w4.heap.size, 1, none⟩ = some (.slice A4 m c4)) (exact (HCL.out _ (by repeat (first | (with_reducible exact hk) | (with_reducible refine Grw.drew ?_) | (with_reducible refine Grw.alloc ?_ _) | (with_reducible refine Grw.setCell ?_ (by omega) _ _)))).1) ((first
        | (go_at_call 29; (with_reducible refine (HPT.out _ (HCL.out _ (by repeat (first | (with_reducible exact hk) | (with_reducible refine Grw.drew ?_) | (with_reducible refine Grw.alloc ?_ _) | (with_reducible refine Grw.setCell ?_ (by omega) _ _)))).2.2).mono ?_); rintro e w8 ⟨A8, c8, rfl, hv8, hb8⟩; have hk : Grw (w4.heap.size + 1) (w4.alloc (Obj.cells #[.int .i64 S, .slice A4 m c4] 46)) w8 := Grw.call (by repeat (first | (with_reducible exact hk) | (with_reducible refine Grw.drew ?_) | (with_reducible refine Grw.alloc ?_ _) | (with_reducible refine Grw.setCell ?_ (by omega) _ _))) hb8; (first | (with_reducible (have hZ := Blk.below (Blk.drew' (Blk.new _ 46 #[.int .i64 0, .slice none 0 0])) hb8; try simp only [World.size_alloc, World.size_drew] at hZ)) | (with_reducible (have hZ := Blk.below (Blk.new _ 46 #[.int .i64 0, .slice none 0 0]) hb8; try simp only [World.size_alloc, World.size_drew] at hZ)) | (have hZ := Blk.below hZ hb8) | skip); have hl8 := hk.le; have hr8 : Rd w8 A8 (pcs l) := ORow.rd hv8)
        | (go_at_call 24; (with_reducible refine (HW2.out _ _ _ _ _ (HCL.out _ (by repeat (first | (with_reducible exact hk) | (with_reducible refine Grw.drew ?_) | (with_reducible refine Grw.alloc ?_ _) | (with_reducible refine Grw.setCell ?_ (by omega) _ _)))).2.1 (by first | (with_reducible exact hr8) | (with_reducible exact Rd.below hr8 (bal (Below.refl _ _) _)))).mono ?_); rintro e w9 ⟨A9, c9, rfl, hr9, hb9⟩; simp only [HM.out, bv]; have hk : Grw (w4.heap.size + 1) (w4.alloc (Obj.cells #[.int .i64 S, .slice A4 m c4] 46)) w9 := Grw.call (by repeat (first | (with_reducible exact hk) | (with_reducible refine Grw.drew ?_) | (with_reducible refine Grw.alloc ?_ _) | (with_reducible refine Grw.setCell ?_ (by omega) _ _))) hb9; (first | (with_reducible (have hZ := Blk.below (Blk.drew' (Blk.new _ 46 #[.int .i64 0, .slice none 0 0])) hb9; try simp only [World.size_alloc, World.size_drew] at hZ)) | (with_reducible (have hZ := Blk.below (Blk.new _ 46 #[.int .i64 0, .slice none 0 0]) hb9; try simp only [World.size_alloc, World.size_drew] at hZ)) | (have hZ := Blk.below hZ hb9) | skip); (first | (have t0 : w9.cell? ⟨_, 0, none⟩ = some (.int .i64 0) := hZ.cell 0; have t1 : w9.cell? ⟨_, 1, none⟩ = some (.slice none 0 0) := hZ.cell 1; have u0 := hZ.frozen 0; have u1 := hZ.frozen 1; have hr9z := rd_set2 hr9 hZ (.int .i64 S) (.slice A9 m c9)) | skip))))
      all_goals (go_wp2_with fail; go_meet)
      · exact ⟨_, A9, c9, rfl, rfl, Blk.new w9 46 #[.int .i64 S, .slice A9 m c9], hr9.below (bal (Below.refl _ _) _), (hk.alloc _).bel⟩
      · exact ⟨_, A9, c9, rfl, rfl, blk_set2 hZ, hr9z, ((hk.setCell (by omega) 0 _).setCell (by omega) 1 _).bel⟩
      · exact ⟨_, A9, c9, rfl, rfl, blk_set2 hZ, hr9z, ((hk.setCell (by omega) 0 _).setCell (by omega) 1 _).bel⟩
    case rest =>
      obtain ⟨Z, A6, c6, rfl, rfl, hZ6, hr6, hb11⟩ := hcut
      have hb11' : Below (w4.alloc (Obj.cells #[.int .i64 S, .slice A4 m c4] 46)).heap.size (w4.alloc (Obj.cells #[.int .i64 S, .slice A4 m c4] 46)) wc := by rw [size_more']; exact hb11
      have hX6 := hX5.below hb11'
      have hB6 := hB5.below hb11'
      have hr56 := hr5.below hb11'
      have hb12 := bn hb9 hb11'
      clear hX5 hB5 hr5 hb9 hb10 hb11 hb11'
      have x0 : wc.cell? ⟨w4.heap.size, 0, none⟩ = some (.int .i64 S) := hX6.cell 0
      have x1 : wc.cell? ⟨w4.heap.size, 1, none⟩ = some (.slice A4 m c4) := hX6.cell 1
      go_wp2_with fail
      (with_reducible refine (HTR.out _ _ _ hr56).mono ?_)
      rintro e w7 ⟨A7, c7, rfl, hr7, hb13⟩
      simp only [HM.out, bv]
      have hb14 := bal (bn hb12 hb13) (.cells #[.int .i64 S, .slice A7 m c7] 46)
      have hU8 := Blk.new w7 46 #[.int .i64 S, .slice A7 m c7]
      have hX8 := (hX6.below hb13).alloc (.cells #[.int .i64 S, .slice A7 m c7] 46)
      have hB8 := (hB6.below hb13).alloc (.cells #[.int .i64 S, .slice A7 m c7] 46)
      have hZ8 := (hZ6.below hb13).alloc (.cells #[.int .i64 S, .slice A7 m c7] 46)
      have hr58 := (hr56.below hb13).below (bal (Below.refl _ _) (.cells #[.int .i64 S, .slice A7 m c7] 46))
      have hr68 := (hr6.below hb13).below (bal (Below.refl _ _) (.cells #[.int .i64 S, .slice A7 m c7] 46))
      have hr78 := hr7.below (bal (Below.refl _ _) (.cells #[.int .i64 S, .slice A7 m c7] 46))
      clear x0 x1 hX6 hB6 hZ6 hr56 hr6 hb12 hb13 hr7
      have y0 : (w7.alloc (.cells #[.int .i64 S, .slice A7 m c7] 46)).cell? ⟨w.heap.size, 0, none⟩ = some (.int .i64 size) := hB8.cell 0
      have y1 : (w7.alloc (.cells #[.int .i64 S, .slice A7 m c7] 46)).cell? ⟨w.heap.size, 1, none⟩ = some (.slice A ps.length c) := hB8.cell 1
      go_wp2_with fail
      (with_reducible refine (HRW.out _ hb14).mono ?_)
      rintro e w10 ⟨A10, c10, rfl, hr10, hb15⟩
      simp only [HM.out, bv]
      have hb16 := bal (bn hb14 hb15) (.cells #[.int .i64 S, .slice A10 m c10] 61)
      have hM9 := Blk.new w10 61 #[.int .i64 S, .slice A10 m c10]
      have hU9 := (hU8.below hb15).alloc (.cells #[.int .i64 S, .slice A10 m c10] 61)
      have hX9 := (hX8.below hb15).alloc (.cells #[.int .i64 S, .slice A10 m c10] 61)
      have hZ9 := (hZ8.below hb15).alloc (.cells #[.int .i64 S, .slice A10 m c10] 61)
      have hr59 := (hr58.below hb15).below (bal (Below.refl _ _) (.cells #[.int .i64 S, .slice A10 m c10] 61))
      have hr69 := (hr68.below hb15).below (bal (Below.refl _ _) (.cells #[.int .i64 S, .slice A10 m c10] 61))
      have hr79 := (hr78.below hb15).below (bal (Below.refl _ _) (.cells #[.int .i64 S, .slice A10 m c10] 61))
      have hr109 := hr10.below (bal (Below.refl _ _) (.cells #[.int .i64 S, .slice A10 m c10] 61))
      clear y0 y1 hU8 hX8 hB8 hZ8 hr58 hr68 hr78 hr10 hb14 hb15
      have z0 : (w10.alloc (.cells #[.int .i64 S, .slice A10 m c10] 61)).cell? ⟨Z, 0, none⟩ = some (.int .i64 S) := hZ9.cell 0
      have z1 : (w10.alloc (.cells #[.int .i64 S, .slice A10 m c10] 61)).cell? ⟨Z, 1, none⟩ = some (.slice A6 m c6) := hZ9.cell 1
      have m0 : (w10.alloc (.cells #[.int .i64 S, .slice A10 m c10] 61)).cell? ⟨w10.heap.size, 0, none⟩ = some (.int .i64 S) := hM9.cell 0
      have m1 : (w10.alloc (.cells #[.int .i64 S, .slice A10 m c10] 61)).cell? ⟨w10.heap.size, 1, none⟩ = some (.slice A10 m c10) := hM9.cell 1
      go_wp2_with fail
      (with_reducible refine (HSM.out _ _ _ _ _ hr69 hr109).mono ?_)
      rintro e w11 ⟨rfl, hb17⟩
      have hM11 := hM9.below hb17
      have hU11 := hU9.below hb17
      have hX11 := hX9.below hb17
      have hb18 := bn hb16 hb17
      have hr711 := hr79.below hb17
      have hr1011 := hr109.below hb17
      have hr511 := hr59.below hb17
      clear z0 z1 m0 m1 hM9 hU9 hX9 hZ9 hr59 hr69 hr79 hr109 hb16 hb17
      have u0 : w11.cell? ⟨w7.heap.size, 0, none⟩ = some (.int .i64 S) := hU11.cell 0
      have u1 : w11.cell? ⟨w7.heap.size, 1, none⟩ = some (.slice A7 m c7) := hU11.cell 1
      have m0 : w11.cell? ⟨w10.heap.size, 0, none⟩ = some (.int .i64 S) := hM11.cell 0
      have m1 : w11.cell? ⟨w10.heap.size, 1, none⟩ = some (.slice A10 m c10) := hM11.cell 1
      go_wp2_with fail
      (with_reducible refine (HSM.out _ _ _ _ _ hr711 hr1011).mono ?_)
      rintro e w12 ⟨rfl, hb19⟩
      have hX12 := hX11.below hb19
      have hb20 := bn hb18 hb19
      have hr512 := hr511.below hb19
      clear u0 u1 m0 m1 hM11 hU11 hX11 hr711 hr1011 hr511 hb18 hb19
      have x0 : w12.cell? ⟨w4.heap.size, 0, none⟩ = some (.int .i64 S) := hX12.cell 0
      have x1 : w12.cell? ⟨w4.heap.size, 1, none⟩ = some (.slice A4 m c4) := hX12.cell 1
      go_wp2_with fail
      (with_reducible refine (HMY.out _ _ _ hr512).mono ?_)
      rintro e w13 ⟨rfl, hb21⟩
      go_wp2
      go_ret
      exact ⟨rfl, bn hb20 hb21⟩
  · clear HRW
    go_enter Try.func9, Try.ntmps9
    go_wp2_with fail
    (with_reducible refine (law12_awake _).mono ?_)
    rintro e w1 ⟨rfl, hb1⟩
    have hb2 := bn hb0 hb1
    have hB1 := hB0.below hb1
    have x0 : w1.cell? ⟨w.heap.size, 0, none⟩ = some (.int .i64 size) := hB1.cell 0
    have x1 : w1.cell? ⟨w.heap.size, 1, none⟩ = some (.slice A ps.length c) := hB1.cell 1
    clear hb0 hb1 hB0
    go_wp2_with fail
    (with_reducible refine (HMD.out _ hb2).mono ?_)
    rintro e w2 ⟨A2, c2, rfl, hr2, hb3⟩
    have hb4 := bn hb2 hb3
    clear x0 x1 hb2 hb3 hB1
    go_wp2_with fail
    (with_reducible refine (HPT.out _ hb4).mono ?_)
    rintro e w3 ⟨A3, c3, rfl, hv3, hb5⟩
    obtain ⟨A3', c3', e3, _, hr3, _⟩ := ORow.read hv3
    cases e3
    have hb6 := bn hb4 hb5
    have hr23 := hr2.below hb5
    clear hb4 hr2 hv3 hb5
    go_wp2_with fail
    (with_reducible refine (HW1.out _ _ _ _ _ hr23 hr3).mono ?_)
    rintro e w4 ⟨A4, c4, rfl, hr4, hb7⟩
    have hb8 := bal (bn hb6 hb7) (.cells #[.int .i64 S, .slice A4 xs.length c4] 46)
    simp only [bv]
    have hne : (er == 0) = false := by simpa using he
    clear hb6 hb7 hr23 hr3 hr4 HW1 hw
    go_wp2
    go_ret
    exact ⟨rfl, hb8⟩
end Go.Proofs.Ytpnfgnddlfkfaaa
