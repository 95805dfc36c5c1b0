/-
  What BodyCovers calls and gives.
-/
import Derived.Test.YtpnfgnddlfkfaaaLawBTwice
set_option linter.unusedSimpArgs false
set_option linter.unusedVariables false
namespace Go.Proofs.Ytpnfgnddlfkfaaa
open Go.RowKit Go.Maps

theorem covers_math {size : Int} {ps : List Part} {off k : Int} {S : Int} {xs : List Part} (hm : bodyMay size ps = true) (h0 : 0 ≤ off) (h1 : off < 65536) (hk0 : 1 ≤ k) (hk1 : k ≤ 64) (hw : writeR size ps off [⟨0, k, 77777, 0⟩] = (S, xs, 0)) :
    bodyMay S xs = true ∧ ∀ p ∈ xs, p.chunk ≠ 77777 → off + k ≤ p.off ∨ p.off + p.len ≤ off := by
  have hf : [(⟨0, k, 77777, 0⟩ : Part)].all fits = true := by
    simp only [List.all_cons, List.all_nil, Bool.and_true, fits, decide_eq_true_eq]
    omega
  have hs : sumLen [(⟨0, k, 77777, 0⟩ : Part)] = k := by simp [sumLen]
  obtain ⟨_, h4⟩ := bodyMay_chain.1 hm
  have hmay := written_may (off := off) hm hf h0 (by rw [hs]; omega)
  rw [writeR_ok hm hf h0 (by rw [hs]; omega), if_neg (by simp)] at hw
  obtain ⟨rfl, h6⟩ := Prod.mk.inj hw
  obtain ⟨rfl, _⟩ := Prod.mk.inj h6
  refine ⟨hmay, fun p hp hc => ?_⟩
  unfold written at hp
  rw [List.mem_append, List.mem_append] at hp
  rcases hp with (hp | hp) | hp
  · exact .inr (chain_mem (chain_ahead h4 h0) p hp).2.2
  · simp only [placed, List.mem_cons, List.not_mem_nil, or_false] at hp
    subst hp
    exact absurd rfl hc
  · have := (chain_mem (chain_behind (y := off + sumLen [⟨0, k, 77777, 0⟩]) h4) p hp).2.1
    rw [hs] at this
    exact .inl (by omega)
theorem covers_cut {S : Int} {xs : List Part} {x : Int} (hm : bodyMay S xs = true) (h0 : 0 ≤ x) (h1 : x ≤ 1099511627776) :
    ∃ ys, truncR S xs x = (x, ys, 0) ∧ truncR x ys 1099511627776 = (1099511627776, ys, 0) ∧ ys.length ≤ xs.length ∧ ∀ p ∈ ys, p.off + p.len ≤ x ∧ 0 ≤ p.off ∧ 0 ≤ p.len ∧ p.off ≤ 1099511627776 ∧ p.len ≤ 64 := by
  have hy := trunc_may hm h0 h1
  obtain ⟨_, h4⟩ := bodyMay_chain.1 hm
  have hc := chain_ahead h4 h0
  refine ⟨_, truncR_ok hm h0 h1, ?_, List.length_filterMap_le _ _, fun p hp => ?_⟩
  · rw [truncR_ok hy (by omega) (by omega), ahead_all hc h1]
  · obtain ⟨g1, g2, g3⟩ := chain_mem hc p hp
    have := (fits_iff p).1 g1
    omega
theorem writeR_ok1 {size : Int} {ps : List Part} {off k : Int} (hm : bodyMay size ps = true) (h0 : 0 ≤ off) (h1 : off < 65536) (hk0 : 1 ≤ k) (hk1 : k ≤ 64) : (writeR size ps off [⟨0, k, 77777, 0⟩]).2.2 = 0 := by
  have hf : [(⟨0, k, 77777, 0⟩ : Part)].all fits = true := by
    simp only [List.all_cons, List.all_nil, Bool.and_true, fits, decide_eq_true_eq]
    omega
  have hs : sumLen [(⟨0, k, 77777, 0⟩ : Part)] = k := by simp [sumLen]
  rw [writeR_ok hm hf h0 (by rw [hs]; omega), if_neg (by simp)]

set_option maxRecDepth 100000 in
set_option maxHeartbeats 4000000 in
theorem covers_walk (size : Int) (A : Option Addr) (n c : Nat) (ps : List Part) (x0 x1 : Nat) (kn : UInt8) (w : World) (hn : ps.length = n) (hnm : n ≤ 9223372036854775807) (hr : Rd w A (pcs ps)) (hx0 : x0 < 65536) (hx1 : x1 < 65536) :
    Calls Try.prog 8 #[bv size A n c, .agg #[.int .u16 (x0 : Int), .int .u16 (x1 : Int)], .int .u8 (kn.toNat : Int)] w fun e w' => e = .returned (.bool true) ∧ Below w.heap.size w w' := by
  subst hn
  have HR := Lib.hid hr
  clear hr
  have hB0 := (Blk.new w 61 #[.int .i64 size, .slice A ps.length c]).alloc (.cells #[.int .u16 (x0 : Int), .int .u16 (x1 : Int)] 55)
  have hP0 := Blk.new (w.alloc (.cells #[.int .i64 size, .slice A ps.length c] 61)) 55 #[.int .u16 (x0 : Int), .int .u16 (x1 : Int)]
  rw [size_more'] at hP0
  have hb0 := bal (bal (Below.refl w.heap.size w) (.cells #[.int .i64 size, .slice A ps.length c] 61)) (.cells #[.int .u16 (x0 : Int), .int .u16 (x1 : Int)] 55)
  have hkn := kn.toNat_lt
  go_enter Try.func8, Try.ntmps8
  unfold bv
  go_wp2_with fail
  (with_reducible refine (law12_awake _).mono ?_)
  rintro e w1 ⟨rfl, hb1⟩
  have hb2 := bn hb0 hb1
  have hB1 := hB0.below hb1
  have hP1 := hP0.below hb1
  have a0 : w1.cell? ⟨w.heap.size + 1, 0, none⟩ = some (.int .u16 (x0 : Int)) := hP1.cell 0
  have a1 : w1.cell? ⟨w.heap.size + 1, 1, none⟩ = some (.int .u16 (x1 : Int)) := hP1.cell 1
  clear hb0 hb1 hB0 hP0
  go_wp2_with fail
  go_region_held (fun W => W.cell? ⟨w.heap.size + 1, 0, none⟩ = some (.int .u16 (x0 : Int)) ∧ W.cell? ⟨w.heap.size + 1, 1, none⟩ = some (.int .u16 (x1 : Int))) (exact ⟨a0, a1⟩) (fail)
  have hb3 := bdr hb2
  have hB2 : Blk w1.drew w.heap.size 61 _ := hB1
  have b0 : w1.drew.cell? ⟨w.heap.size, 0, none⟩ = some (.int .i64 size) := hB2.cell 0
  have b1 : w1.drew.cell? ⟨w.heap.size, 1, none⟩ = some (.slice A ps.length c) := hB2.cell 1
  clear a0 a1 hP1 hb2
  by_cases h1 : 100 < ps.length
  · go_wp2
    go_ret
    exact ⟨rfl, hb3⟩
  have hp1 : ps.length ≤ 100 := by omega
  have HM := Lib.hid (ref_body_may size A ps.length c ps w1.drew rfl (by omega) (HR.out.below hb3))
  unfold bv at HM
  cases hm : bodyMay size ps with
  | false =>
    rw [hm] at HM
    have HMM := Lib.hid hm
    clear hm
    go_wp2_with fail
    (with_reducible refine HM.out.mono ?_)
    rintro e w3 ⟨rfl, hb4⟩
    go_wp2
    go_ret
    exact ⟨rfl, bn hb3 hb4⟩
  | true =>
    rw [hm] at HM
    obtain ⟨k, hk⟩ : ∃ k : Int, 1 + (kn.toNat : Int) % 64 = k := ⟨_, rfl⟩
    have hk0 : 1 ≤ k := by omega
    have hk1 : k ≤ 64 := by omega
    have hw0 := writeR_ok1 (size := size) (ps := ps) (off := (x0 : Int)) (k := k) hm (by omega) (by omega) hk0 hk1
    obtain ⟨S, xs, er, hw⟩ : ∃ S xs er, writeR size ps (x0 : Int) [⟨0, k, 77777, 0⟩] = (S, xs, er) := ⟨_, _, _, rfl⟩
    have her : er = 0 := by rw [hw] at hw0; exact hw0
    subst her
    have hlen := writeR_len size ps (x0 : Int) [⟨0, k, 77777, 0⟩]
    rw [hw] at hlen
    simp only [List.length_cons, List.length_nil] at hlen
    obtain ⟨hSm, hfar⟩ := covers_math (off := (x0 : Int)) hm (by omega) (by omega) hk0 hk1 hw
    obtain ⟨ys, ht1, ht2, hyl, hin⟩ := covers_cut (x := (x1 : Int)) hSm (by omega) (by omega)
    have hxin : ∀ p ∈ xs, 0 ≤ p.off ∧ p.off ≤ 1099511627776 ∧ 0 ≤ p.len ∧ p.len ≤ 64 := fun p hp => by
      obtain ⟨g0, g1⟩ := bodyMay_chain.1 hSm
      obtain ⟨g2, g3, g4⟩ := chain_mem g1 p hp
      have := (fits_iff p).1 g2
      omega
    have HMD := Lib.hid fun W (h : Below w.heap.size w W) => law12_made size A ps.length c ps W rfl (by omega) (HR.out.below h)
    have HW1 := Lib.hid fun W A' c' Al' (h : Rd W A' (pcs ps)) (h2 : Rd W Al' (pcs [⟨0, k, 77777, 0⟩])) => body_write size A' ps.length c' ps (x0 : Int) Al' 1 1 [⟨0, k, 77777, 0⟩] W rfl (by omega) h rfl (by omega) h2
    have HT1 := Lib.hid fun W A' c' (h : Rd W A' (pcs xs)) => body_trunc S A' xs.length c' xs (x1 : Int) W rfl (by omega) h
    have HT2 := Lib.hid fun W A' c' (h : Rd W A' (pcs ys)) => body_trunc (x1 : Int) A' ys.length c' ys 1099511627776 W rfl (by omega) h
    rw [hw] at HW1
    rw [ht1] at HT1
    rw [ht2] at HT2
    unfold bv at HMD HW1 HT1 HT2
    have HFAR := Lib.hid hfar
    have HIN := Lib.hid hin
    have HXIN := Lib.hid hxin
    have HK := Lib.hid hk
    clear hw hw0 hSm hfar ht1 ht2 hin hm hxin hk
    have hkk : IntKind.i64.wrap (1 + (kn.toNat : Int) % 64) = k := by rw [HK.out]; exact IntWalk.i64_in _ (by omega)
    go_wp2_with fail
    (with_reducible refine HM.out.mono ?_)
    rintro e w3 ⟨rfl, hb4⟩
    have hb5 := bn hb3 hb4
    have hB3 := hB2.below hb4
    have b0 : w3.cell? ⟨w.heap.size, 0, none⟩ = some (.int .i64 size) := hB3.cell 0
    have b1 : w3.cell? ⟨w.heap.size, 1, none⟩ = some (.slice A ps.length c) := hB3.cell 1
    clear hb3 hb4 hB2
    go_wp2_with fail
    (with_reducible refine (HMD.out _ hb5).mono ?_)
    rintro e w4 ⟨A4, c4, rfl, hr4, hb6⟩
    have hb7 := bn hb5 hb6
    clear b0 b1 hb5 hb6 hB3
    have hl4 := Lib.hid (lit_part w4 0 k 77777 0)
    have hr4l := Lib.hid (hr4.below (bal (Below.refl _ _) (.cells #[.int .i64 0, .int .i64 k, .int .i64 77777, .int .i64 0] 50)))
    clear hr4
    go_wp2_with fail
    (with_reducible refine (HW1.out _ _ _ _ hr4l.out hl4.out).mono ?_)
    rintro e w5 ⟨A5, c5, rfl, hr5, hb8⟩
    simp only [bv]
    have hb9 := bal (bn (bal hb7 _) hb8) (.cells #[.int .i64 S, .slice A5 xs.length c5] 46)
    have hX6 := Blk.new w5 46 #[.int .i64 S, .slice A5 xs.length c5]
    have hr6 := hr5.below (bal (Below.refl _ _) (.cells #[.int .i64 S, .slice A5 xs.length c5] 46))
    clear hb7 hb8 hr5 hr4l hl4
    go_wp2
    generalize hw6 : (w5.alloc (.cells #[.int .i64 S, .slice A5 xs.length c5] 46)) = w6 at *
    have HR6 := Lib.hid hr6
    have HX6 := Lib.hid hX6
    have HB9 := Lib.hid hb9
    clear hw6 hr6 hX6 hb9
    go_loopw [12] (fun i wr => ∃ j : Nat, j ≤ xs.length ∧ i = .int .i64 (j : Int) ∧ Below w6.heap.size w6 wr) (fun i _ => xs.length - (intOf i).toNat)
    case atStart => exact ⟨0, Nat.zero_le _, rfl, Below.refl _ _⟩
    case round =>
      obtain ⟨j, hj, rfl, hb⟩ := hrel
      have hX := HX6.out.below hb
      have z0 : wr.cell? ⟨w5.heap.size, 0, none⟩ = some (.int .i64 S) := hX.cell 0
      have z1 : wr.cell? ⟨w5.heap.size, 1, none⟩ = some (.slice A5 xs.length c5) := hX.cell 1
      by_cases hlt : j < xs.length
      · obtain ⟨b, o, rfl, hblt, hcell⟩ := part_at HR6.out j hlt
        obtain ⟨q0, q1, q2, q3⟩ := hcell wr hb
        have hf := HFAR.out _ (List.getElem_mem hlt)
        have hi := HXIN.out _ (List.getElem_mem hlt)
        have i0 : (0 : Int) ≤ (j : Int) := by omega
        have i1 : (j : Int) < (xs.length : Int) := by omega
        clear hcell
        generalize xs[j] = q at *
        obtain ⟨po, pl, pch, pat⟩ := q
        simp only at q0 q1 q2 q3 hf hi
        obtain ⟨p0, p1, p2, p3⟩ := hi
        have hb10 := bal hb (.cells #[.int .i64 po, .int .i64 pl, .int .i64 pch, .int .i64 pat] 50)
        clear hX hb
        by_cases hc : pch = 77777
        · subst hc
          clear hf
          go_wp2
          go_roundw
          case rel => exact ⟨j + 1, by omega, by go_num, hb10⟩
          case measure => simp [intOf]; try omega
        · have hf2 := hf hc
          have hcb : (pch != 77777) = true := by simpa using hc
          clear hf
          by_cases hlo : po < (x0 : Int) + k
          · have hhi : po + pl ≤ (x0 : Int) := by omega
            clear hf2
            go_wp2
            go_roundw
            case rel => exact ⟨j + 1, by omega, by go_num, hb10⟩
            case measure => simp [intOf]; try omega
          · have hlo2 : (x0 : Int) + k ≤ po := by omega
            clear hf2
            go_wp2
            go_roundw
            case rel => exact ⟨j + 1, by omega, by go_num, hb10⟩
            case measure => simp [intOf]; try omega
      · obtain rfl : j = xs.length := by omega
        have hr7 := HR6.out.below hb
        have hb10 := bn HB9.out hb
        clear hb
        go_wp2_with fail
        (with_reducible refine (HT1.out _ _ _ hr7).mono ?_)
        rintro e w7 ⟨A7, c7, rfl, hr8, hb11⟩
        simp only [bv]
        have hb12 := bal (bn hb10 hb11) (.cells #[.int .i64 (x1 : Int), .slice A7 ys.length c7] 46)
        have hY7 := Blk.new w7 46 #[.int .i64 (x1 : Int), .slice A7 ys.length c7]
        have hr9 := hr8.below (bal (Below.refl _ _) (.cells #[.int .i64 (x1 : Int), .slice A7 ys.length c7] 46))
        clear z0 z1 hX hr7 hb10 hb11 hr8
        go_wp2_with fail
        (with_reducible refine (HT2.out _ _ _ hr9).mono ?_)
        rintro e w8 ⟨A8, c8, rfl, hr10, hb13⟩
        simp only [bv]
        have hb14 := bal (bn hb12 hb13) (.cells #[.int .i64 1099511627776, .slice A8 ys.length c8] 46)
        have hY9 := (hY7.below hb13).alloc (.cells #[.int .i64 1099511627776, .slice A8 ys.length c8] 46)
        have hZ9 := Blk.new w8 46 #[.int .i64 1099511627776, .slice A8 ys.length c8]
        have hr11 := hr10.below (bal (Below.refl _ _) (.cells #[.int .i64 1099511627776, .slice A8 ys.length c8] 46))
        have y1 : (w8.alloc (.cells #[.int .i64 1099511627776, .slice A8 ys.length c8] 46)).cell? ⟨w7.heap.size, 1, none⟩ = some (.slice A7 ys.length c7) := hY9.cell 1
        clear hb12 hb13 hY7 hr9 hr10
        go_wp2
        generalize hw9 : (w8.alloc (.cells #[.int .i64 1099511627776, .slice A8 ys.length c8] 46)) = w9 at *
        have HR9 := Lib.hid hr11
        have HZ9 := Lib.hid hZ9
        have HB9' := Lib.hid hb14
        clear hw9 hr11 hZ9 hb14 hY9 y1
        go_loopw [18] (fun i wr => ∃ j : Nat, j ≤ ys.length ∧ i = .int .i64 (j : Int) ∧ Below w9.heap.size w9 wr) (fun i _ => ys.length - (intOf i).toNat)
        case atStart => exact ⟨0, Nat.zero_le _, rfl, Below.refl _ _⟩
        case round =>
          obtain ⟨j, hj, rfl, hb⟩ := hrel
          have hZ := HZ9.out.below hb
          have z1 : wr.cell? ⟨w8.heap.size, 1, none⟩ = some (.slice A8 ys.length c8) := hZ.cell 1
          by_cases hlt : j < ys.length
          · obtain ⟨b, o, rfl, hblt, hcell⟩ := part_at HR9.out j hlt
            obtain ⟨q0, q1, q2, q3⟩ := hcell wr hb
            have hi := HIN.out _ (List.getElem_mem hlt)
            have i0 : (0 : Int) ≤ (j : Int) := by omega
            have i1 : (j : Int) < (ys.length : Int) := by omega
            clear hcell
            generalize ys[j] = q at *
            obtain ⟨po, pl, pch, pat⟩ := q
            simp only at q0 q1 q2 q3 hi
            obtain ⟨p0, p1, p2, p3, p4⟩ := hi
            have hb10 := bdr hb
            have hwp : IntKind.i64.wrap (po + pl) = po + pl := IntWalk.i64_in _ (by omega)
            have hwx : IntKind.i64.wrap (x1 : Int) = (x1 : Int) := IntWalk.i64_in _ (by omega)
            clear hZ hb
            go_wp2_with fail
            go_region_held (fun W => W.cell? ⟨w8.heap.size, 1, none⟩ = some (.slice (some ⟨b, o, none⟩) ys.length c8) ∧ W.cell? ⟨b, o + j * 4, none⟩ = some (.int .i64 po) ∧ W.cell? ⟨b, o + j * 4 + 1, none⟩ = some (.int .i64 pl)) (exact ⟨z1, q0, q1⟩) (fail)
            go_wp2
            go_roundw
            case rel => exact ⟨j + 1, by omega, by go_num, hb10⟩
            case measure => simp [intOf]; try omega
          · obtain rfl : j = ys.length := by omega
            go_wp2
            go_ret
            exact ⟨rfl, bn HB9'.out hb⟩
end Go.Proofs.Ytpnfgnddlfkfaaa
