/-
  The reference's Write.
-/
import Derived.Test.YtpnfgnddlfkfaaaRefWrite
set_option linter.unusedSimpArgs false
set_option linter.unusedVariables false
namespace Go.Proofs.Ytpnfgnddlfkfaaa
open Go.RowKit

theorem all_snoc {l : List Part} {k : Nat} (hk : k < l.length) (h : (l.take k).all fits = true) (hf : fits l[k] = true) : (l.take (k + 1)).all fits = true := by
  rw [List.take_succ_eq_append_getElem hk, List.all_append, h]
  simp [hf]
theorem take_while_of {α : Type} {p : α → Bool} {l : List α} {k : Nat} (h : ∀ a ∈ l.take k, p a = true) (he : l.length ≤ k ∨ ∃ h : k < l.length, p l[k] = false) : l.takeWhile p = l.take k := by
  induction l generalizing k with
  | nil => simp
  | cons a l ih =>
    cases k with
    | zero =>
      rcases he with he | ⟨_, he⟩
      · simp at he
      · have he' : p a = false := he
        simp [List.takeWhile_cons, he']
    | succ k =>
      have ha : p a = true := h a (by simp)
      rw [List.takeWhile_cons, if_pos ha, List.take_succ_cons]
      rw [ih (fun b hb => h b (by rw [List.take_succ_cons]; exact List.mem_cons_of_mem _ hb))]
      rcases he with he | ⟨h1, he⟩
      · exact .inl (by simpa using he)
      · exact .inr ⟨by simpa using h1, by simpa using he⟩
theorem filter_snoc {α : Type} (p : α → Bool) (l : List α) (k : Nat) (hk : k < l.length) : (l.take (k + 1)).filter p = (l.take k).filter p ++ (if p l[k] = true then [l[k]] else []) := by
  rw [List.take_succ_eq_append_getElem hk, List.filter_append]
  congr 1
  cases h : p l[k] <;> simp [h]
theorem row_at {w : World} {A : Option Addr} {ps : List Part} (h : Rd w A (pcs ps)) (k : Nat) (hk : k < ps.length) : ∃ b o, A = some ⟨b, o, none⟩ ∧ b < w.heap.size ∧ ∀ W, Below w.heap.size w W → W.cell? ⟨b, o + k * 4, none⟩ = some (.int .i64 ps[k].off) ∧ W.cell? ⟨b, o + k * 4 + 1, none⟩ = some (.int .i64 ps[k].len) ∧ W.cell? ⟨b, o + k * 4 + 2, none⟩ = some (.int .i64 ps[k].chunk) ∧ W.cell? ⟨b, o + k * 4 + 3, none⟩ = some (.int .i64 ps[k].at_) := part_at h k hk
theorem Rd.kp_old {F : Nat → Prop} {w w5 w6 : World} {A : Option Addr} {cs : List Value} (h : Rd w A cs) (hb : Below w.heap.size w w5) (hk : Kp F w5 w6) (hF : ∀ j, F j → w.heap.size ≤ j) : Rd w6 A cs := by
  by_cases hc : cs = []
  · subst hc
    exact Rd.nil _ _
  · exact (h.below hb).kp hk fun ad e f => by
      have := Rd.lt h e hc
      have := hF _ f
      omega
set_option maxRecDepth 100000 in
set_option maxHeartbeats 8000000 in
theorem ref_write (size : Int) (A : Option Addr) (n c : Nat) (ps : List Part) (off : Int) (Al : Option Addr) (nl cl : Nat) (l : List Part) (w : World) (hn : ps.length = n) (hl : n ≤ 100000) (hr : Rd w A (pcs ps)) (hnl : l.length = nl) (hll : nl ≤ 1000) (hrl : Rd w Al (pcs l)) :
    Calls Try.prog 30 #[bv size A n c, .int .i64 off, .slice Al nl cl] w fun e w' => BodyRes w w' (writeR size ps off l).1 (writeR size ps off l).2.1 (writeR size ps off l).2.2 e := by
  subst hn hnl
  have HR := Lib.hid hr
  have HRL := Lib.hid hrl
  have HM := fun W (h : Below w.heap.size w W) => ref_body_may size A ps.length c ps W rfl (by omega) (hr.below h)
  unfold bv at HM ⊢
  replace HM := Lib.hid HM
  clear hr hrl
  have hB0 := (Blk.new w 61 #[.int .i64 size, .slice A ps.length c]).alloc (.cells #[.int .i64 0, .slice none 0 0] 61)
  have hz0 : (w.alloc (.cells #[.int .i64 size, .slice A ps.length c] 61)).heap.size = w.heap.size + 1 := by simp
  have hT0 := Blk.new (w.alloc (.cells #[.int .i64 size, .slice A ps.length c] 61)) 61 #[.int .i64 0, .slice none 0 0]
  rw [hz0] at hT0
  have hb0 := bal (bal (Below.refl w.heap.size w) (.cells #[.int .i64 size, .slice A ps.length c] 61)) (.cells #[.int .i64 0, .slice none 0 0] 61)
  have hz1 : ((w.alloc (.cells #[.int .i64 size, .slice A ps.length c] 61)).alloc (.cells #[.int .i64 0, .slice none 0 0] 61)).heap.size = w.heap.size + 2 := by simp
  have hst : ∀ W, Below w.heap.size w W → Below w.heap.size w ((W.setCell ⟨w.heap.size + 1, 0, none⟩ (.int .i64 0)).setCell ⟨w.heap.size + 1, 1, none⟩ (.slice none 0 0)) := fun W h => (h.setCell (by simp only; omega) _).setCell (by simp only; omega) _
  have HST := Lib.hid hst
  clear hst
  cases hm : bodyMay size ps with
  | false =>
    have HMM := Lib.hid hm
    have HT : Hid (writeR size ps off l = (0, [], 1)) := Lib.hid (by unfold writeR; rw [hm, if_neg (by simp)])
    clear hm
    rw [HT.out]
    go_enter Try.func30, Try.ntmps30
    go_wp2_with fail
    (with_reducible refine (HM.out _ hb0).mono ?_)
    rintro e w5 ⟨rfl, hb5⟩
    rw [HMM.out]
    have hT := hT0.below hb5
    have hbb := bn hb0 hb5
    have t0 : w5.cell? ⟨w.heap.size + 1, 0, none⟩ = some (.int .i64 0) := hT.cell 0
    have t1 : w5.cell? ⟨w.heap.size + 1, 1, none⟩ = some (.slice none 0 0) := hT.cell 1
    have u0 := hT.frozen 0
    have u1 := hT.frozen 1
    clear hB0 hT0 hb0 hb5
    go_wp2
    refine bodyPost_ret (res_rbody (T := w.heap.size + 1) Try.results30 rfl rfl rfl (blk_set2 hT)) rfl ?_
    exact ⟨none, 0, rfl, Rd.nil _ _, HST.out _ hbb⟩
  | true =>
    have HMM := Lib.hid hm
    obtain ⟨⟨hs0, hs1⟩, hnear⟩ := bodyMay_near hm
    have HNEAR := Lib.hid hnear
    clear hnear
    have HT0 : Hid (writeR size ps off l = if l.all fits = true then (if 0 ≤ off ∧ off ≤ 1099511627776 - sumLen l then (if l = [] then (size, ps, 0) else (max size (off + sumLen l), written ps off l, 0)) else (0, [], 9)) else (0, [], 1)) := Lib.hid (by
      unfold writeR written
      rw [hm]
      simp only [true_and])
    clear hm
    generalize writeR size ps off l = RR at *
    go_enter Try.func30, Try.ntmps30
    go_wp2_with fail
    (with_reducible refine (HM.out _ hb0).mono ?_)
    rintro e w3 ⟨rfl, hb3⟩
    rw [HMM.out]
    have hT3 := Lib.hid (hT0.below hb3)
    have hB3 := Lib.hid (hB0.below hb3)
    have hb03 := Lib.hid (bn hb0 hb3)
    have hz3 := hb3.size
    rw [hz1] at hz3
    clear hT0 hB0 hb0 hb3 hz1 hz0 HM
    simp only [Bool.not_true]
    go_wp2
    go_loopw [8, 9] (fun a i wr => ∃ (k : Nat) (x : Int), k ≤ l.length ∧ i = .int .i64 (k : Int) ∧ a = .int .i64 x ∧ Hid (x = sumLen (l.take k)) ∧ Hid ((l.take k).all fits = true) ∧ Below w3.heap.size w3 wr) (fun _ i _ => l.length - (intOf i).toNat)
    case atStart => exact ⟨0, 0, Nat.zero_le _, rfl, rfl, rfl, rfl, Below.refl _ _⟩
    case round =>
      obtain ⟨k, x, hk, rfl, rfl, hx, hall, hb⟩ := hrel
      have hT := hT3.out.below hb
      have hbb := bn hb03.out hb
      have hsk := sumLen_fits hall.out
      have hkl : (l.take k).length = k := by rw [List.length_take]; omega
      rw [← hx.out, hkl] at hsk
      clear hkl
      obtain ⟨s1, s2⟩ := hsk
      by_cases hlt : k < l.length
      · obtain ⟨b, o, rfl, hblt, hcell⟩ := part_at HRL.out k hlt
        obtain ⟨q0, q1, q2, q3⟩ := hcell wr hbb
        have hst : l.take (k + 1) = l.take k ++ [l[k]] := List.take_succ_eq_append_getElem hlt
        have HP2 : Hid (x + l[k].len = sumLen (l.take (k + 1))) := Lib.hid (by rw [hst, sumLen_append, ← hx.out]; simp [sumLen])
        have HAS := Lib.hid (all_snoc hlt hall.out)
        have HF := fun W => ref_part_may l[k] W
        have HFB : Hid (fits l[k] = false → l.all fits = false) := Lib.hid fun h => by
          cases ha : l.all fits with
          | false => rfl
          | true => rw [List.all_eq_true.1 ha _ (List.getElem_mem hlt)] at h; cases h
        have HCELL := Lib.hid hcell
        clear hst hcell
        generalize l[k] = p at *
        obtain ⟨po, pl, pch, pat⟩ := p
        rw [pv_mk] at HF
        replace HF := Lib.hid HF
        simp only at q0 q1 q2 q3 HP2
        have i0 : (0 : Int) ≤ (k : Int) := by omega
        have i1 : (k : Int) < (l.length : Int) := by omega
        cases hf : fits ⟨po, pl, pch, pat⟩ with
        | false =>
          have HFF := Lib.hid hf
          have HT : Hid (RR = (0, [], 1)) := Lib.hid (by rw [HT0.out, if_neg (by rw [HFB.out hf]; simp)])
          clear hf
          go_wp2_with fail
          (with_reducible refine (HF.out _).mono ?_)
          rintro e w4 ⟨rfl, hb4⟩
          rw [HFF.out]
          have hT4 := hT.below hb4
          have hb5 := bn hbb hb4
          have t0 : w4.cell? ⟨w.heap.size + 1, 0, none⟩ = some (.int .i64 0) := hT4.cell 0
          have t1 : w4.cell? ⟨w.heap.size + 1, 1, none⟩ = some (.slice none 0 0) := hT4.cell 1
          have u0 := hT4.frozen 0
          have u1 := hT4.frozen 1
          clear hT hbb hb hb4 q0 q1 q2 q3
          go_wp2
          refine bodyPost_ret (res_rbody (T := w.heap.size + 1) Try.results30 rfl rfl rfl (blk_set2 hT4)) rfl ?_
          rw [HT.out]
          exact ⟨none, 0, rfl, Rd.nil _ _, HST.out _ hb5⟩
        | true =>
          have HFF := Lib.hid hf
          have hf2 := (fits_iff _).1 hf
          simp only at hf2
          obtain ⟨f1, f2, _⟩ := hf2
          clear hf
          go_wp2_with fail
          (with_reducible refine (HF.out _).mono ?_)
          rintro e w4 ⟨rfl, hb4⟩
          rw [HFF.out]
          have hb5 := bn hbb hb4
          have hb6 := bn hb hb4
          clear q0 q1 q2 q3
          obtain ⟨_, q1, _, _⟩ := HCELL.out w4 hb5
          clear hT hbb hb hb4 hb5
          go_wp2
          go_roundw
          case rel => exact ⟨k + 1, x + pl, by omega, by go_num, rfl, HP2, Lib.hid (HAS.out HFF.out), hb6⟩
          case measure => simp [intOf]; try omega
      · obtain rfl : k = l.length := by omega
        have hxs := hx.out
        have hal := hall.out
        rw [List.take_length] at hxs hal
        have HXS := Lib.hid hxs
        have HAL := Lib.hid hal
        have hz5 := Nat.le_trans hz3 hb.size
        have hsum := sumLen_pos hal
        rw [← hxs] at hsum
        have HT1 : Hid (RR = (if 0 ≤ off ∧ off ≤ 1099511627776 - x then (if l = [] then (size, ps, 0) else (max size (off + x), written ps off l, 0)) else (0, [], 9))) := Lib.hid (by rw [HT0.out, hal, ← hxs]; rfl)
        have HHB := Lib.hid (hB3.out.below hb)
        clear hxs hal HT0 hx hall hb
        generalize wr = w5 at *
        have HHT := Lib.hid hT
        have HBB := Lib.hid hbb
        by_cases hoff : 0 ≤ off ∧ off ≤ 1099511627776 - x
        · obtain ⟨ho0, ho1⟩ := hoff
          by_cases he : l.length = 0
          · have HRR : Hid (RR = (size, ps, 0)) := Lib.hid (by rw [HT1.out, if_pos ⟨ho0, ho1⟩, if_pos (List.length_eq_zero_iff.1 he)])
            have he2 : (l.length : Int) = 0 := by omega
            have x0 : w5.cell? ⟨w.heap.size, 0, none⟩ = some (.int .i64 size) := HHB.out.cell 0
            have x1 : w5.cell? ⟨w.heap.size, 1, none⟩ = some (.slice A ps.length c) := HHB.out.cell 1
            have t0 : w5.cell? ⟨w.heap.size + 1, 0, none⟩ = some (.int .i64 0) := hT.cell 0
            have t1 : w5.cell? ⟨w.heap.size + 1, 1, none⟩ = some (.slice none 0 0) := hT.cell 1
            have u0 := hT.frozen 0
            have u1 := hT.frozen 1
            have HFIN : Hid (Rd ((w5.setCell ⟨w.heap.size + 1, 0, none⟩ (.int .i64 size)).setCell ⟨w.heap.size + 1, 1, none⟩ (.slice A ps.length c)) A (pcs ps)) := Lib.hid (HR.out.kp_old hbb (kp_set2 w5 _ _ _) fun j e => by omega)
            have HBE : Hid (Below w.heap.size w ((w5.setCell ⟨w.heap.size + 1, 0, none⟩ (.int .i64 size)).setCell ⟨w.heap.size + 1, 1, none⟩ (.slice A ps.length c))) := Lib.hid ((hbb.setCell (by simp only; omega) _).setCell (by simp only; omega) _)
            clear hbb
            go_wp2
            refine bodyPost_ret (res_rbody (T := w.heap.size + 1) Try.results30 rfl rfl rfl (blk_set2 hT)) rfl ?_
            rw [HRR.out]
            exact ⟨A, c, rfl, HFIN.out, HBE.out⟩
          · have hne : l ≠ [] := fun e => he (by rw [e]; rfl)
            have he2 : (0 : Int) < (l.length : Int) := by omega
            have HWO := Lib.hid fun W (h : Below w.heap.size w W) => ref_without A ps.length c ps off (off + x) W rfl (by omega) (HR.out.below h) HNEAR.out ho0 (by omega) (by omega) (by omega)
            have HWREF : Hid (((withoutR off (off + x) ps).takeWhile (fun p => decide (p.off < off)) ++ placed off l) ++ (withoutR off (off + x) ps).filter (fun p => decide (off ≤ p.off)) = written ps off l) := Lib.hid (by rw [HXS.out]; exact written_ref HMM.out HAL.out)
            have hwl := without_len off (off + x) ps
            have HRR : Hid (RR = (max size (off + x), written ps off l, 0)) := Lib.hid (by rw [HT1.out, if_pos ⟨ho0, ho1⟩, if_neg hne])
            have x1 : w5.cell? ⟨w.heap.size, 1, none⟩ = some (.slice A ps.length c) := HHB.out.cell 1
            have hHB := HHB.out
            clear hT
            go_wp2_with fail
            (with_reducible refine (HWO.out _ hbb).mono ?_)
            rintro e w6 ⟨A6, c6, rfl, hv6, hb6⟩
            obtain ⟨A6', c6', e6, _, hr6, had6⟩ := ORow.read hv6
            cases e6
            have HR6 := Lib.hid hr6
            have hbb6 := bn hbb hb6
            have HT6 := Lib.hid (HHT.out.below hb6)
            have HB6 := Lib.hid (hHB.below hb6)
            have hz6 := hb6.size
            generalize hLW : withoutR off (off + x) ps = L6 at *
            have HLW := Lib.hid hLW
            clear hLW hr6 had6 hv6 x1 hHB hb6 hbb
            have HBB6 := Lib.hid hbb6
            clear hbb6
            go_wp2
            go_loopw [11, 12] (fun v i wr => ∃ k : Nat, k ≤ L6.length ∧ i = .int .i64 (k : Int) ∧ RRow wr w6.heap.size v (L6.take k) ∧ Hid (∀ p ∈ L6.take k, decide (p.off < off) = true) ∧ Below w6.heap.size w6 wr) (fun _ i _ => L6.length - (intOf i).toNat)
            case atStart => exact ⟨0, Nat.zero_le _, rfl, ORow.nil _ _ _, Lib.hid (by simp), Below.refl _ _⟩
            case round =>
              obtain ⟨k, hk, rfl, hv, hlow, hb⟩ := hrel
              by_cases hgo : ∃ h : k < L6.length, L6[k].off < off
              · obtain ⟨hlt, hof⟩ := hgo
                obtain ⟨b, o, rfl, hblt, hcell⟩ := part_at HR6.out k hlt
                obtain ⟨q0, q1, q2, q3⟩ := hcell wr hb
                have hst : L6.take (k + 1) = L6.take k ++ [L6[k]] := List.take_succ_eq_append_getElem hlt
                have HLOW : Hid (∀ p ∈ L6.take (k + 1), decide (p.off < off) = true) := Lib.hid fun p hp => by
                  rw [hst, List.mem_append] at hp
                  rcases hp with hp | hp
                  · exact hlow.out p hp
                  · rw [List.mem_singleton] at hp; subst hp; simpa using hof
                have hkl : (L6.take k).length = k := by rw [List.length_take]; omega
                have HST2 := Lib.hid hst
                clear hst hcell hlow
                generalize L6[k] = p at *
                generalize L6.take k = L at *
                obtain ⟨po, pl, pch, pat⟩ := p
                simp only at q0 q1 q2 q3 hof
                have i0 : (0 : Int) ≤ (k : Int) := by omega
                have i1 : (k : Int) < (L6.length : Int) := by omega
                obtain ⟨A5, c5, rfl, _⟩ := ORow.read hv
                have HV := Lib.hid hv
                have hkk : L.length < 1000000 := by omega
                have hz7 := hb.size
                have HKL := Lib.hid hkl
                clear hv hkl
                go_wp2_with (at_builtin; refine wpList_append_ex rfl _ _ 59 59 rfl _ _ rfl rfl (grow_rx _ w6.heap.size _ L _ _ _ _ _ (by simp) HV.out (by omega) (by skip; omega)) ?_; rintro v9 w9 ⟨A9, c9, rfl, hv9, hb9, hk9⟩)
                have hb10 := hb.trans hb9
                clear hb9 hk9
                go_roundw
                case rel => exact ⟨k + 1, by omega, by go_num, by rw [HST2.out]; exact hv9, HLOW, hb10⟩
                case measure => simp [intOf]; try omega
              · have htw : L6.takeWhile (fun p => decide (p.off < off)) = L6.take k := take_while_of hlow.out (by
                  by_cases h : k < L6.length
                  · exact .inr ⟨h, by simp only [decide_eq_false_iff_not]; exact fun hh => hgo ⟨h, hh⟩⟩
                  · exact .inl (by omega))
                have hkl : (L6.take k).length ≤ 200000 := by rw [List.length_take]; omega
                have hex : L6.length ≤ k ∨ ∃ h : k < L6.length, off ≤ L6[k].off := by
                  by_cases h : k < L6.length
                  · exact .inr ⟨h, Int.not_lt.1 fun hh => hgo ⟨h, hh⟩⟩
                  · exact .inl (by omega)
                rw [← htw] at hv hkl
                clear htw hgo hlow
                generalize L6.takeWhile (fun p => decide (p.off < off)) = L7 at *
                have hz7 := hb.size
                have hqq : ∀ h : k < L6.length, ∃ b o, A6 = some ⟨b, o, none⟩ ∧ wr.cell? ⟨b, o + k * 4, none⟩ = some (.int .i64 L6[k].off) := fun h => by
                  obtain ⟨b, o, e, _, hcell⟩ := part_at HR6.out k h
                  exact ⟨b, o, e, (hcell wr hb).1⟩
                have HSUM : Hid (∀ k, 0 ≤ sumLen (l.take k) ∧ sumLen (l.take k) ≤ x) := Lib.hid fun k => by
                  have h1 := sumLen_pos (all_take HAL.out k)
                  have h2 := sumLen_pos (l := l.drop k) (by rw [List.all_eq_true]; exact fun p hp => List.all_eq_true.1 HAL.out p (List.mem_of_mem_drop hp))
                  have h3 : x = sumLen (l.take k) + sumLen (l.drop k) := by rw [HXS.out, ← sumLen_append, List.take_append_drop]
                  omega
                generalize hcc : wr = w7 at *
                clear hcc
                rcases hex with hex | ⟨hex, hof⟩
                · have hnk : ¬ k < L6.length := by omega
                  clear hqq hex
                  go_wp2
                  go_loopw [11, 13, 14] (fun v a i wr => ∃ (j : Nat) (y : Int), j ≤ l.length ∧ i = .int .i64 (j : Int) ∧ a = .int .i64 y ∧ Hid (y = off + sumLen (l.take j)) ∧ RRow wr w6.heap.size v (L7 ++ placed off (l.take j)) ∧ Below w6.heap.size w6 wr) (fun _ _ i _ => l.length - (intOf i).toNat)
                  case atStart => exact ⟨0, off, Nat.zero_le _, rfl, rfl, Lib.hid (by simp [sumLen]), by rw [List.take_zero, show placed off [] = [] from rfl, List.append_nil]; exact hv, hb⟩
                  case round =>
                    clear hv hb
                    obtain ⟨j, y, hj, rfl, rfl, hy, hv, hb⟩ := hrel
                    have hbw := HBB6.out.trans (hb.mono HBB6.out.size)
                    have hsk := HSUM.out j
                    rw [show sumLen (l.take j) = y - off by rw [hy.out]; omega] at hsk
                    obtain ⟨s1, s2⟩ := hsk
                    by_cases hlt : j < l.length
                    · obtain ⟨b2, o2, rfl, hblt, hcell⟩ := part_at HRL.out j hlt
                      obtain ⟨p0, p1, p2, p3⟩ := hcell wr hbw
                      have hst : l.take (j + 1) = l.take j ++ [l[j]] := List.take_succ_eq_append_getElem hlt
                      have hfp := (fits_iff _).1 (List.all_eq_true.1 HAL.out _ (List.getElem_mem hlt))
                      have HP2 : Hid (y + l[j].len = off + sumLen (l.take (j + 1))) := Lib.hid (by rw [hst, sumLen_append, hy.out]; simp [sumLen]; omega)
                      have HP3 : Hid (L7 ++ placed off (l.take (j + 1)) = (L7 ++ placed off (l.take j)) ++ [⟨y, l[j].len, l[j].chunk, l[j].at_⟩]) := Lib.hid (by rw [hst, placed_append, ← hy.out, List.append_assoc]; rfl)
                      have hlen : (L7 ++ placed off (l.take j)).length < 1000000 := by rw [List.length_append, placed_length, List.length_take]; omega
                      clear hst hcell
                      generalize l[j] = p at *
                      generalize L7 ++ placed off (l.take j) = L at *
                      obtain ⟨po2, pl, pch, pat⟩ := p
                      simp only at p0 p1 p2 p3 HP2 HP3 hfp
                      obtain ⟨f1, f2, _⟩ := hfp
                      have j0 : (0 : Int) ≤ (j : Int) := by omega
                      have j1 : (j : Int) < (l.length : Int) := by omega
                      obtain ⟨A5, c5, rfl, _⟩ := ORow.read hv
                      have HV := Lib.hid hv
                      have hz8 := hb.size
                      clear hv hbw
                      go_wp2_with (at_builtin; refine wpList_append_ex rfl _ _ 59 59 rfl _ _ rfl rfl (grow_rx _ w6.heap.size _ L _ _ _ _ _ (by simp) (ORow.below HV.out (bal (Below.refl _ _) _)) (by omega) (by simp; omega)) ?_; rintro v9 w9 ⟨A9, c9, rfl, hv9, hb9, hk9⟩)
                      have hb10 := (bal hb _).trans hb9
                      clear hb9 hk9
                      go_roundw
                      case rel => exact ⟨j + 1, y + pl, by omega, by go_num, rfl, HP2, by rw [HP3.out]; exact hv9, hb10⟩
                      case measure => simp [intOf]; try omega
                    · obtain rfl : j = l.length := by omega
                      have hyx : y = off + x := by rw [hy.out, List.take_length, HXS.out]
                      subst hyx
                      rw [List.take_length] at hv
                      have hL8 : (L7 ++ placed off l).length ≤ 300000 := by rw [List.length_append, placed_length]; omega
                      generalize L7 ++ placed off l = L8 at *
                      clear hbw hy s1 s2
                      go_wp2
                      go_loopw [11, 16] (fun v i wr => ∃ j : Nat, j ≤ L6.length ∧ i = .int .i64 (j : Int) ∧ RRow wr w6.heap.size v (L8 ++ (L6.take j).filter (fun p => decide (off ≤ p.off))) ∧ Below w6.heap.size w6 wr) (fun _ i _ => L6.length - (intOf i).toNat)
                      case atStart => exact ⟨0, Nat.zero_le _, rfl, by rw [List.take_zero, List.filter_nil, List.append_nil]; exact hv, hb⟩
                      case round =>
                        clear hv hb
                        obtain ⟨j, hj, rfl, hv, hb⟩ := hrel
                        by_cases hlt : j < L6.length
                        · obtain ⟨b2, o2, ea2, hblt, hcell⟩ := part_at HR6.out j hlt
                          subst ea2
                          obtain ⟨p0, p1, p2, p3⟩ := hcell wr hb
                          have hfs := filter_snoc (fun p => decide (off ≤ p.off)) L6 j hlt
                          have HFS : Hid (L8 ++ (L6.take (j + 1)).filter (fun p => decide (off ≤ p.off)) = (L8 ++ (L6.take j).filter (fun p => decide (off ≤ p.off))) ++ (if decide (off ≤ L6[j].off) = true then [L6[j]] else [])) := Lib.hid (by rw [hfs, List.append_assoc])
                          have hlen : (L8 ++ (L6.take j).filter (fun p => decide (off ≤ p.off))).length < 1000000 := by
                            have := List.length_filter_le (fun p : Part => decide (off ≤ p.off)) (L6.take j)
                            rw [List.length_take] at this
                            rw [List.length_append]
                            omega
                          clear hfs hcell
                          generalize L6[j] = p at *
                          generalize L8 ++ (L6.take j).filter (fun p => decide (off ≤ p.off)) = L at *
                          obtain ⟨po2, pl, pch, pat⟩ := p
                          simp only at p0 p1 p2 p3 HFS
                          have j0 : (0 : Int) ≤ (j : Int) := by omega
                          have j1 : (j : Int) < (L6.length : Int) := by omega
                          obtain ⟨A5, c5, rfl, _⟩ := ORow.read hv
                          have HV := Lib.hid hv
                          have hz8 := hb.size
                          by_cases hge : off ≤ po2
                          · have HFT : Hid (L8 ++ (L6.take (j + 1)).filter (fun p => decide (off ≤ p.off)) = L ++ [⟨po2, pl, pch, pat⟩]) := Lib.hid (by rw [HFS.out, if_pos (decide_eq_true hge)])
                            clear hv HFS
                            go_wp2_with (at_builtin; refine wpList_append_ex rfl _ _ 59 59 rfl _ _ rfl rfl (grow_rx _ w6.heap.size _ L _ _ _ _ _ (by simp) HV.out (by omega) (by skip; omega)) ?_; rintro v9 w9 ⟨A9, c9, rfl, hv9, hb9, hk9⟩)
                            have hb10 := hb.trans hb9
                            clear hb9 hk9
                            go_roundw
                            case rel => exact ⟨j + 1, by omega, by go_num, by rw [HFT.out]; exact hv9, hb10⟩
                            case measure => simp [intOf]; try omega
                          · have HFT : Hid (L8 ++ (L6.take (j + 1)).filter (fun p => decide (off ≤ p.off)) = L) := Lib.hid (by rw [HFS.out, if_neg (by simpa using hge), List.append_nil])
                            have hlt3 : po2 < off := by omega
                            clear hv HFS
                            go_wp2
                            go_roundw
                            case rel => exact ⟨j + 1, by omega, by go_num, by rw [HFT.out]; exact HV.out, hb⟩
                            case measure => simp [intOf]; try omega
                        · obtain rfl : j = L6.length := by omega
                          rw [List.take_length, HWREF.out] at hv
                          obtain ⟨A8, c8, rfl, _, hr8, had8⟩ := ORow.read hv
                          have hT8 := HT6.out.below (hb.mono (Nat.le_refl _))
                          have hB8 := HB6.out.below (hb.mono (Nat.le_refl _))
                          have hbw := HBB6.out.trans (hb.mono HBB6.out.size)
                          have z0 : wr.cell? ⟨w.heap.size, 0, none⟩ = some (.int .i64 size) := hB8.cell 0
                          have t0 : wr.cell? ⟨w.heap.size + 1, 0, none⟩ = some (.int .i64 0) := hT8.cell 0
                          have t1 : wr.cell? ⟨w.heap.size + 1, 1, none⟩ = some (.slice none 0 0) := hT8.cell 1
                          have u0 := hT8.frozen 0
                          have u1 := hT8.frozen 1
                          generalize written ps off l = L9 at *
                          clear hv hB8
                          rcases (show size < off + x ∨ off + x ≤ size by omega) with hcm | hcm
                          · have hme : max size (off + x) = off + x := by omega
                            rw [hme] at HRR
                            have HFIN : Hid (Rd ((wr.setCell ⟨w.heap.size + 1, 0, none⟩ (.int .i64 (off + x))).setCell ⟨w.heap.size + 1, 1, none⟩ (.slice A8 L9.length c8)) A8 (pcs L9)) := Lib.hid (hr8.kp (kp_set2 wr _ _ _) fun ad e f => by have := (had8 ad e).1; omega)
                            have HBE : Hid (Below w.heap.size w ((wr.setCell ⟨w.heap.size + 1, 0, none⟩ (.int .i64 (off + x))).setCell ⟨w.heap.size + 1, 1, none⟩ (.slice A8 L9.length c8))) := Lib.hid ((hbw.setCell (by simp only; omega) _).setCell (by simp only; omega) _)
                            clear hr8 had8 hbw hb hme
                            go_wp2
                            refine bodyPost_ret (res_rbody (T := w.heap.size + 1) Try.results30 rfl rfl rfl (blk_set2 hT8)) rfl ?_
                            rw [HRR.out]
                            exact ⟨A8, c8, rfl, HFIN.out, HBE.out⟩
                          · have hme : max size (off + x) = size := by omega
                            rw [hme] at HRR
                            have HFIN : Hid (Rd ((wr.setCell ⟨w.heap.size + 1, 0, none⟩ (.int .i64 size)).setCell ⟨w.heap.size + 1, 1, none⟩ (.slice A8 L9.length c8)) A8 (pcs L9)) := Lib.hid (hr8.kp (kp_set2 wr _ _ _) fun ad e f => by have := (had8 ad e).1; omega)
                            have HBE : Hid (Below w.heap.size w ((wr.setCell ⟨w.heap.size + 1, 0, none⟩ (.int .i64 size)).setCell ⟨w.heap.size + 1, 1, none⟩ (.slice A8 L9.length c8))) := Lib.hid ((hbw.setCell (by simp only; omega) _).setCell (by simp only; omega) _)
                            clear hr8 had8 hbw hb hme
                            go_wp2
                            refine bodyPost_ret (res_rbody (T := w.heap.size + 1) Try.results30 rfl rfl rfl (blk_set2 hT8)) rfl ?_
                            rw [HRR.out]
                            exact ⟨A8, c8, rfl, HFIN.out, HBE.out⟩
                · obtain ⟨b, o, rfl, q0⟩ := hqq hex
                  clear hqq
                  generalize L6[k].off = po at *
                  have i0 : (0 : Int) ≤ (k : Int) := by omega
                  have i1 : (k : Int) < (L6.length : Int) := by omega
                  go_wp2
                  go_loopw [11, 13, 14] (fun v a i wr => ∃ (j : Nat) (y : Int), j ≤ l.length ∧ i = .int .i64 (j : Int) ∧ a = .int .i64 y ∧ Hid (y = off + sumLen (l.take j)) ∧ RRow wr w6.heap.size v (L7 ++ placed off (l.take j)) ∧ Below w6.heap.size w6 wr) (fun _ _ i _ => l.length - (intOf i).toNat)
                  case atStart => exact ⟨0, off, Nat.zero_le _, rfl, rfl, Lib.hid (by simp [sumLen]), by rw [List.take_zero, show placed off [] = [] from rfl, List.append_nil]; exact hv, hb⟩
                  case round =>
                    clear hv hb
                    obtain ⟨j, y, hj, rfl, rfl, hy, hv, hb⟩ := hrel
                    have hbw := HBB6.out.trans (hb.mono HBB6.out.size)
                    have hsk := HSUM.out j
                    rw [show sumLen (l.take j) = y - off by rw [hy.out]; omega] at hsk
                    obtain ⟨s1, s2⟩ := hsk
                    by_cases hlt : j < l.length
                    · obtain ⟨b2, o2, rfl, hblt, hcell⟩ := part_at HRL.out j hlt
                      obtain ⟨p0, p1, p2, p3⟩ := hcell wr hbw
                      have hst : l.take (j + 1) = l.take j ++ [l[j]] := List.take_succ_eq_append_getElem hlt
                      have hfp := (fits_iff _).1 (List.all_eq_true.1 HAL.out _ (List.getElem_mem hlt))
                      have HP2 : Hid (y + l[j].len = off + sumLen (l.take (j + 1))) := Lib.hid (by rw [hst, sumLen_append, hy.out]; simp [sumLen]; omega)
                      have HP3 : Hid (L7 ++ placed off (l.take (j + 1)) = (L7 ++ placed off (l.take j)) ++ [⟨y, l[j].len, l[j].chunk, l[j].at_⟩]) := Lib.hid (by rw [hst, placed_append, ← hy.out, List.append_assoc]; rfl)
                      have hlen : (L7 ++ placed off (l.take j)).length < 1000000 := by rw [List.length_append, placed_length, List.length_take]; omega
                      clear hst hcell
                      generalize l[j] = p at *
                      generalize L7 ++ placed off (l.take j) = L at *
                      obtain ⟨po2, pl, pch, pat⟩ := p
                      simp only at p0 p1 p2 p3 HP2 HP3 hfp
                      obtain ⟨f1, f2, _⟩ := hfp
                      have j0 : (0 : Int) ≤ (j : Int) := by omega
                      have j1 : (j : Int) < (l.length : Int) := by omega
                      obtain ⟨A5, c5, rfl, _⟩ := ORow.read hv
                      have HV := Lib.hid hv
                      have hz8 := hb.size
                      clear hv hbw
                      go_wp2_with (at_builtin; refine wpList_append_ex rfl _ _ 59 59 rfl _ _ rfl rfl (grow_rx _ w6.heap.size _ L _ _ _ _ _ (by simp) (ORow.below HV.out (bal (Below.refl _ _) _)) (by omega) (by simp; omega)) ?_; rintro v9 w9 ⟨A9, c9, rfl, hv9, hb9, hk9⟩)
                      have hb10 := (bal hb _).trans hb9
                      clear hb9 hk9
                      go_roundw
                      case rel => exact ⟨j + 1, y + pl, by omega, by go_num, rfl, HP2, by rw [HP3.out]; exact hv9, hb10⟩
                      case measure => simp [intOf]; try omega
                    · obtain rfl : j = l.length := by omega
                      have hyx : y = off + x := by rw [hy.out, List.take_length, HXS.out]
                      subst hyx
                      rw [List.take_length] at hv
                      have hL8 : (L7 ++ placed off l).length ≤ 300000 := by rw [List.length_append, placed_length]; omega
                      generalize L7 ++ placed off l = L8 at *
                      clear hbw hy s1 s2
                      go_wp2
                      go_loopw [11, 16] (fun v i wr => ∃ j : Nat, j ≤ L6.length ∧ i = .int .i64 (j : Int) ∧ RRow wr w6.heap.size v (L8 ++ (L6.take j).filter (fun p => decide (off ≤ p.off))) ∧ Below w6.heap.size w6 wr) (fun _ i _ => L6.length - (intOf i).toNat)
                      case atStart => exact ⟨0, Nat.zero_le _, rfl, by rw [List.take_zero, List.filter_nil, List.append_nil]; exact hv, hb⟩
                      case round =>
                        clear hv hb
                        obtain ⟨j, hj, rfl, hv, hb⟩ := hrel
                        by_cases hlt : j < L6.length
                        · obtain ⟨b2, o2, ea2, hblt, hcell⟩ := part_at HR6.out j hlt
                          cases ea2
                          obtain ⟨p0, p1, p2, p3⟩ := hcell wr hb
                          have hfs := filter_snoc (fun p => decide (off ≤ p.off)) L6 j hlt
                          have HFS : Hid (L8 ++ (L6.take (j + 1)).filter (fun p => decide (off ≤ p.off)) = (L8 ++ (L6.take j).filter (fun p => decide (off ≤ p.off))) ++ (if decide (off ≤ L6[j].off) = true then [L6[j]] else [])) := Lib.hid (by rw [hfs, List.append_assoc])
                          have hlen : (L8 ++ (L6.take j).filter (fun p => decide (off ≤ p.off))).length < 1000000 := by
                            have := List.length_filter_le (fun p : Part => decide (off ≤ p.off)) (L6.take j)
                            rw [List.length_take] at this
                            rw [List.length_append]
                            omega
                          clear hfs hcell
                          generalize L6[j] = p at *
                          generalize L8 ++ (L6.take j).filter (fun p => decide (off ≤ p.off)) = L at *
                          obtain ⟨po2, pl, pch, pat⟩ := p
                          simp only at p0 p1 p2 p3 HFS
                          have j0 : (0 : Int) ≤ (j : Int) := by omega
                          have j1 : (j : Int) < (L6.length : Int) := by omega
                          obtain ⟨A5, c5, rfl, _⟩ := ORow.read hv
                          have HV := Lib.hid hv
                          have hz8 := hb.size
                          by_cases hge : off ≤ po2
                          · have HFT : Hid (L8 ++ (L6.take (j + 1)).filter (fun p => decide (off ≤ p.off)) = L ++ [⟨po2, pl, pch, pat⟩]) := Lib.hid (by rw [HFS.out, if_pos (decide_eq_true hge)])
                            clear hv HFS
                            go_wp2_with (at_builtin; refine wpList_append_ex rfl _ _ 59 59 rfl _ _ rfl rfl (grow_rx _ w6.heap.size _ L _ _ _ _ _ (by simp) HV.out (by omega) (by skip; omega)) ?_; rintro v9 w9 ⟨A9, c9, rfl, hv9, hb9, hk9⟩)
                            have hb10 := hb.trans hb9
                            clear hb9 hk9
                            go_roundw
                            case rel => exact ⟨j + 1, by omega, by go_num, by rw [HFT.out]; exact hv9, hb10⟩
                            case measure => simp [intOf]; try omega
                          · have HFT : Hid (L8 ++ (L6.take (j + 1)).filter (fun p => decide (off ≤ p.off)) = L) := Lib.hid (by rw [HFS.out, if_neg (by simpa using hge), List.append_nil])
                            have hlt3 : po2 < off := by omega
                            clear hv HFS
                            go_wp2
                            go_roundw
                            case rel => exact ⟨j + 1, by omega, by go_num, by rw [HFT.out]; exact HV.out, hb⟩
                            case measure => simp [intOf]; try omega
                        · obtain rfl : j = L6.length := by omega
                          rw [List.take_length, HWREF.out] at hv
                          obtain ⟨A8, c8, rfl, _, hr8, had8⟩ := ORow.read hv
                          have hT8 := HT6.out.below (hb.mono (Nat.le_refl _))
                          have hB8 := HB6.out.below (hb.mono (Nat.le_refl _))
                          have hbw := HBB6.out.trans (hb.mono HBB6.out.size)
                          have z0 : wr.cell? ⟨w.heap.size, 0, none⟩ = some (.int .i64 size) := hB8.cell 0
                          have t0 : wr.cell? ⟨w.heap.size + 1, 0, none⟩ = some (.int .i64 0) := hT8.cell 0
                          have t1 : wr.cell? ⟨w.heap.size + 1, 1, none⟩ = some (.slice none 0 0) := hT8.cell 1
                          have u0 := hT8.frozen 0
                          have u1 := hT8.frozen 1
                          generalize written ps off l = L9 at *
                          clear hv hB8
                          rcases (show size < off + x ∨ off + x ≤ size by omega) with hcm | hcm
                          · have hme : max size (off + x) = off + x := by omega
                            rw [hme] at HRR
                            have HFIN : Hid (Rd ((wr.setCell ⟨w.heap.size + 1, 0, none⟩ (.int .i64 (off + x))).setCell ⟨w.heap.size + 1, 1, none⟩ (.slice A8 L9.length c8)) A8 (pcs L9)) := Lib.hid (hr8.kp (kp_set2 wr _ _ _) fun ad e f => by have := (had8 ad e).1; omega)
                            have HBE : Hid (Below w.heap.size w ((wr.setCell ⟨w.heap.size + 1, 0, none⟩ (.int .i64 (off + x))).setCell ⟨w.heap.size + 1, 1, none⟩ (.slice A8 L9.length c8))) := Lib.hid ((hbw.setCell (by simp only; omega) _).setCell (by simp only; omega) _)
                            clear hr8 had8 hbw hb hme
                            go_wp2
                            refine bodyPost_ret (res_rbody (T := w.heap.size + 1) Try.results30 rfl rfl rfl (blk_set2 hT8)) rfl ?_
                            rw [HRR.out]
                            exact ⟨A8, c8, rfl, HFIN.out, HBE.out⟩
                          · have hme : max size (off + x) = size := by omega
                            rw [hme] at HRR
                            have HFIN : Hid (Rd ((wr.setCell ⟨w.heap.size + 1, 0, none⟩ (.int .i64 size)).setCell ⟨w.heap.size + 1, 1, none⟩ (.slice A8 L9.length c8)) A8 (pcs L9)) := Lib.hid (hr8.kp (kp_set2 wr _ _ _) fun ad e f => by have := (had8 ad e).1; omega)
                            have HBE : Hid (Below w.heap.size w ((wr.setCell ⟨w.heap.size + 1, 0, none⟩ (.int .i64 size)).setCell ⟨w.heap.size + 1, 1, none⟩ (.slice A8 L9.length c8))) := Lib.hid ((hbw.setCell (by simp only; omega) _).setCell (by simp only; omega) _)
                            clear hr8 had8 hbw hb hme
                            go_wp2
                            refine bodyPost_ret (res_rbody (T := w.heap.size + 1) Try.results30 rfl rfl rfl (blk_set2 hT8)) rfl ?_
                            rw [HRR.out]
                            exact ⟨A8, c8, rfl, HFIN.out, HBE.out⟩
        · have HT : Hid (RR = (0, [], 9)) := Lib.hid (by rw [HT1.out, if_neg hoff])
          have t0 : w5.cell? ⟨w.heap.size + 1, 0, none⟩ = some (.int .i64 0) := hT.cell 0
          have t1 : w5.cell? ⟨w.heap.size + 1, 1, none⟩ = some (.slice none 0 0) := hT.cell 1
          have u0 := hT.frozen 0
          have u1 := hT.frozen 1
          rcases (show off < 0 ∨ 0 ≤ off ∧ 1099511627776 - x < off by omega) with hx2 | ⟨hx2, hx3⟩
          all_goals
            clear hoff
            go_wp2
            refine bodyPost_ret (res_rbody (T := w.heap.size + 1) Try.results30 rfl rfl rfl (blk_set2 hT)) rfl ?_
            rw [HT.out]
            exact ⟨none, 0, rfl, Rd.nil _ _, HST.out _ HBB.out⟩
end Go.Proofs.Ytpnfgnddlfkfaaa
