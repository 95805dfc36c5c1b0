/-
  What DiskFlushed calls and gives.
-/
import Derived.Test.YtbhhjphgbdaanaaLawHands
import Derived.Test.YtbhhjphgbdaanaaTexts
set_option linter.unusedSimpArgs false
set_option linter.unusedVariables false
namespace Go.Proofs.Ytbhhjphgbdaanaa
open Go.RowKit Go.Maps

theorem flushed_get (fl : List (List UInt8)) (ca : Int → Option (List UInt8)) (i : Nat) (hi : i < fl.length) : ((List.range fl.length).map fun i : Nat => (ca (i : Int)).getD (fl.getD i [])).getD i [] = (ca (i : Int)).getD (fl.getD i []) := by
  simp [List.getD_eq_getElem?_getD, List.getElem?_map, List.getElem?_range, hi]
set_option maxRecDepth 100000 in
set_option maxHeartbeats 16000000 in
theorem flushed_walk (A0 : Option Addr) (m0 c0 : Nat) (vs0 : List Value) (l0 : List (List UInt8)) (hm0 : l0.length = m0) (A1 : Option Addr) (m1 c1 : Nat) (vs1 : List Value) (l1 : List (List UInt8)) (hm1 : l1.length = m1) (A2 : Option Addr) (m2 c2 : Nat) (ch : List UInt8) (hm2 : ch.length = m2) (w : World) (hb0 : m0 ≤ 9223372036854775807) (hb1 : m1 ≤ 9223372036854775807) (hb2 : m2 ≤ 9223372036854775807)
    (hv0 : Rd w A0 vs0) (hl0 : AreB w vs0 l0) (hlen0 : ∀ b ∈ l0, b.length ≤ 9223372036854775807) (hv1 : Rd w A1 vs1) (hl1 : AreB w vs1 l1) (hlen1 : ∀ b ∈ l1, b.length ≤ 9223372036854775807) (hr2 : RB w A2 ch) :
    Calls Try.prog 8 #[.slice A0 m0 c0, .slice A1 m1 c1, .slice A2 m2 c2] w fun e w' => e = .returned (.bool true) ∧ Below w.heap.size w w' := by
  subst hm0 hm1 hm2
  by_cases hc : 20 < l0.length ∨ 20 < l1.length ∨ 100 < ch.length
  · rcases (show 20 < l0.length ∨ (l0.length ≤ 20 ∧ 20 < l1.length) ∨ (l0.length ≤ 20 ∧ l1.length ≤ 20 ∧ 100 < ch.length) by omega) with h | ⟨h, h2⟩ | ⟨h, h2, h3⟩
    all_goals
      clear hc
      go_enter Try.func8, Try.ntmps8
      go_wp2_with fail
      (with_reducible refine (law4_awake _).mono ?_)
      rintro e w1 ⟨rfl, hb1⟩
      go_wp2
      go_ret
      exact ⟨rfl, hb1⟩
  have h0 : l0.length ≤ 20 := by omega
  have h1 : l1.length ≤ 20 := by omega
  have h2 : ch.length ≤ 100 := by omega
  clear hc
  have HV0 := Lib.hid hv0
  have HL0 := Lib.hid hl0
  have HN0 := Lib.hid hlen0
  have HV1 := Lib.hid hv1
  have HL1 := Lib.hid hl1
  have HN1 := Lib.hid hlen1
  have HR2 := Lib.hid hr2
  have HF := Lib.hid fun (A : Option Addr) (c : Nat) (b : List UInt8) (hb : b.length ≤ 9223372036854775807) W (hr : RB W A b) => law4_full A b.length c b W rfl hb hr
  clear hv0 hl0 hlen0 hv1 hl1 hlen1 hr2
  go_enter Try.func8, Try.ntmps8
  go_wp2_with fail
  (with_reducible refine (law4_awake _).mono ?_)
  rintro e w1 ⟨rfl, hbw1⟩
  go_wp2_with fail
  (with_reducible refine (live_new hbw1 20 20 rfl (by omega)).mono ?_)
  rintro e w2 ⟨g, P, rfl, hd2, _, _⟩
  rw [newD_live] at hd2
  have HD2 := Lib.hid hd2
  clear hd2
  go_wp2
  go_loopw [9] (fun i wr => ∃ (k : Nat) (P : Nat → Prop) (n : Nat) (ca : Int → Option (List UInt8)), k ≤ l0.length ∧ i = .int .i64 (k : Int) ∧ n ≤ k ∧ Live w wr g P n (liveD (List.replicate 20 zeros64) ca (k : Int))) (fun i _ => l0.length - (intOf i).toNat)
  case atStart => exact ⟨0, P, 0, _, Nat.zero_le _, rfl, Nat.le_refl _, HD2.out⟩
  case round =>
    clear HD2
    obtain ⟨k, P, n, ca, hk, rfl, hn, hd⟩ := hrel
    by_cases hlt : k < l0.length
    · obtain ⟨bb, ob, rfl, hbblt, HT0⟩ := texts_of HV0.out HL0.out (by omega)
      obtain ⟨Ai, ci, hAlt, hti⟩ := HT0 k hlt
      have hbl := HN0.out (l0.getD k []) (by rw [List.getD_eq_getElem?_getD, List.getElem?_eq_getElem hlt]; exact List.getElem_mem hlt)
      obtain ⟨hcell, hrb⟩ := hti wr hd.bel
      have i0 : (0 : Int) ≤ (k : Int) := by omega
      have i1 : (k : Int) < (l0.length : Int) := by omega
      clear HT0 hti hAlt
      generalize l0.getD k [] = bt at *
      by_cases h100 : (100 : Int) < (bt.length : Int)
      · have HB := Lib.hid hd.bel
        clear hd
        go_wp2
        go_ret
        exact ⟨rfl, HB.out⟩
      · have HFL := Lib.hid (HF.out Ai ci bt hbl wr hrb)
        have hFl := fullB_len bt
        generalize fullB bt = F at *
        have HFl := Lib.hid hFl
        clear hFl hrb
        go_wp2_with fail
        (with_reducible refine HFL.out.mono ?_)
        rintro e w3 ⟨v3, rfl, ho3, hb3⟩
        obtain ⟨A3, c3, rfl, _, hr3⟩ := ho3.bytes
        rw [HFl.out]
        have hd3 := hd.below hb3
        clear hd hb3 ho3 hcell
        go_wp2_with fail
        (with_reducible refine (live_write hd3 (k : Int) A3 64 c3 F HFl.out hr3 (by rw [HFl.out]; omega) (by omega) (by simp only [liveD]; omega) (write_live (k := k) (k : Int) rfl (by simp; omega) HFl.out)).mono ?_)
        rintro e w4 ⟨rfl, hd4, _⟩
        simp only at hd4
        have hd5 : Live w w4 g (Grow P w3 w4) (n + 1) (liveD (List.replicate 20 zeros64) (fun y => if y = (k : Int) then some F else ca y) ((k + 1 : Nat) : Int)) := hd4
        clear hd4 hd3 hr3
        go_wp2
        go_roundw
        case rel => exact ⟨k + 1, _, n + 1, _, by omega, by go_num, by omega, hd5⟩
        case measure => simp [intOf]; try omega
    · obtain rfl : k = l0.length := by omega
      obtain ⟨wo, rfl⟩ : ∃ wo : World, wo = wr := ⟨_, rfl⟩
      go_wp2_with fail
      (with_reducible refine (live_flush hd (by simp only [liveD]; omega) (flush_live _ _ _)).mono ?_)
      rintro e w5 ⟨rfl, hd5, _⟩
      simp only at hd5
      have hfl : ((List.range (List.replicate 20 zeros64).length).map fun i : Nat => (ca (i : Int)).getD ((List.replicate 20 zeros64).getD i [])).length = 20 := by simp
      generalize (List.range (List.replicate 20 zeros64).length).map (fun i : Nat => (ca (i : Int)).getD ((List.replicate 20 zeros64).getD i [])) = fl at *
      have HFLL := Lib.hid hfl
      have HD5 := Lib.hid hd5
      clear hfl hd5 hd hlt hk
      go_wp2
      go_loopw [10] (fun i wr => ∃ (k : Nat) (P : Nat → Prop) (n : Nat) (ca : Int → Option (List UInt8)) (m : Int), k ≤ l1.length ∧ i = .int .i64 (k : Int) ∧ n ≤ 20 + k ∧ 0 ≤ m ∧ m ≤ 21 + (k : Int) ∧ Hid (∀ y : Int, y < 20 - (k : Int) → ca y = none) ∧ Live w wr g P n (liveD fl ca m)) (fun i _ => l1.length - (intOf i).toNat)
      case atStart => exact ⟨0, _, n, _, _, Nat.zero_le _, rfl, by omega, by omega, by omega, Lib.hid fun _ _ => rfl, HD5.out⟩
      case round =>
        clear HD5
        obtain ⟨k, P, n, ca, m, hk, rfl, hn, hm0, hm1, hca, hd⟩ := hrel
        by_cases hlt : k < l1.length
        · obtain ⟨bb, ob, rfl, hbblt, HT0⟩ := texts_of HV1.out HL1.out (by omega)
          obtain ⟨Ai, ci, hAlt, hti⟩ := HT0 k hlt
          have hbl := HN1.out (l1.getD k []) (by rw [List.getD_eq_getElem?_getD, List.getElem?_eq_getElem hlt]; exact List.getElem_mem hlt)
          obtain ⟨hcell, hrb⟩ := hti wr hd.bel
          have i0 : (0 : Int) ≤ (k : Int) := by omega
          have i1 : (k : Int) < (l1.length : Int) := by omega
          clear HT0 hti hAlt
          generalize l1.getD k [] = bt at *
          by_cases h100 : (100 : Int) < (bt.length : Int)
          · have HB := Lib.hid hd.bel
            clear hd
            go_wp2
            go_ret
            exact ⟨rfl, HB.out⟩
          · have HFL := Lib.hid (HF.out Ai ci bt hbl wr hrb)
            have hFl := fullB_len bt
            generalize fullB bt = F at *
            have HFl := Lib.hid hFl
            clear hFl hrb
            go_wp2_with fail
            (with_reducible refine HFL.out.mono ?_)
            rintro e w3 ⟨v3, rfl, ho3, hb3⟩
            obtain ⟨A3, c3, rfl, _, hr3⟩ := ho3.bytes
            rw [HFl.out]
            have hd3 := hd.below hb3
            clear hd hb3 ho3 hcell
            go_wp2_with fail
            (with_reducible refine (live_write hd3 (19 - (k : Int)) A3 64 c3 F HFl.out hr3 (by rw [HFl.out]; omega) (by omega) (by simp only [liveD]; omega) (write_live (k := 19 - k) (19 - (k : Int)) (by omega) (by rw [HFLL.out]; omega) HFl.out)).mono ?_)
            rintro e w4 ⟨rfl, hd4, _⟩
            simp only at hd4
            have hca2 : Hid (∀ y : Int, y < 20 - ((k + 1 : Nat) : Int) → (fun y => if y = 19 - (k : Int) then some F else ca y) y = none) := Lib.hid fun y hy => by
              simp only
              rw [if_neg (by omega)]
              exact hca.out y (by omega)
            clear hd3 hr3
            go_wp2
            go_roundw
            case rel => exact ⟨k + 1, _, n + 1, _, _, by omega, by go_num, by omega, by omega, by omega, hca2, hd4⟩
            case measure => simp [intOf]; try omega
        · obtain rfl : k = l1.length := by omega
          obtain ⟨wp, rfl⟩ : ∃ wp : World, wp = wr := ⟨_, rfl⟩
          have hrc := HR2.out.below hd.bel
          go_wp2_with fail
          (with_reducible refine (live_crash hd A2 ch.length c2 ch rfl (by omega) hrc (by omega)).mono ?_)
          rintro e w6 ⟨g6, ks, P6, rfl, _, _, hx6, hP6, hb6⟩
          have hd6 := hd.below hb6
          have HX6 := Lib.hid hx6
          have HD6 := Lib.hid hd6
          have HRX := Lib.hid fun (i : Nat) (x : Int) (hx : x = (i : Int)) (hi : i < 20) W (hw : Below w6.heap.size w6 W) => live_read (hx6.below hw) x (r := (crashAt (liveD fl ca m) ch ks i, 0)) (readD_crash ch ks x hx (by simp only [liveD]; rw [HFLL.out]; exact hi))
          have HRD := Lib.hid fun (i : Nat) (x : Int) (hx : x = (i : Int)) (hi : i < 20) W (hw : Below w6.heap.size w6 W) => live_read (hd6.below hw) x (r := (curD (liveD fl ca m) x, 0)) (readD_live rfl x hx (by simp only [liveD]; rw [HFLL.out]; exact hi))
          have HEQ : Hid (∀ i : Nat, (i : Int) < 20 - (l1.length : Int) → crashAt (liveD fl ca m) ch ks i = curD (liveD fl ca m) (i : Int)) := Lib.hid fun i hi => by
            have h9 := hca.out (i : Int) hi
            rw [crashAt_none (s := liveD fl ca m) (k := i) h9]
            unfold curD
            rw [show (liveD fl ca m).ca (i : Int) = none from h9]
            simp only [Option.getD_none, Int.toNat_natCast]
          have HLX := Lib.hid fun (i : Nat) (hi : i < 20) => crashAt_len hd.ok ch ks (m := i) (by simp only [liveD]; rw [HFLL.out]; exact hi)
          have HLD := Lib.hid fun (i : Nat) (hi : i < 20) => hd.ok.cur (k := (i : Int)) (by show decide (0 ≤ (i : Int) ∧ (i : Int) < (fl.length : Int)) = true; exact decide_eq_true ⟨by omega, by have := HFLL.out; omega⟩)
          clear hx6 hd6 hd hb6 hrc hlt hk
          go_wp2
          go_loopw [12, 13, 14, 15, 16] (fun i _ _ _ _ wr => ∃ (k : Nat), k ≤ 20 ∧ i = .int .i64 (k : Int) ∧ Below w6.heap.size w6 wr) (fun i _ _ _ _ _ => 20 - (intOf i).toNat)
          case atStart => exact ⟨0, by omega, rfl, Below.refl _ _⟩
          case round =>
            obtain ⟨k, hk, rfl, hb⟩ := hrel
            by_cases hlt : k < 20
            · have i1 : (k : Int) < 20 := by omega
              have i0 : (0 : Int) ≤ (k : Int) := by omega
              have HX := Lib.hid (HRX.out k (k : Int) rfl hlt wr hb)
              have HY := Lib.hid fun W (hw : Below w6.heap.size w6 W) => HRD.out k (k : Int) rfl hlt W hw
              have hlx := HLX.out k hlt
              have hly := HLD.out k hlt
              have heq := HEQ.out k
              generalize crashAt (liveD fl ca m) ch ks k = xs at *
              generalize curD (liveD fl ca m) (k : Int) = ys at *
              have Hlx := Lib.hid hlx
              have Hly := Lib.hid hly
              have Heq := Lib.hid heq
              clear hlx hly heq
              go_wp2_with fail
              (with_reducible refine HX.out.mono ?_)
              rintro e w7 ⟨v7, rfl, ho7, hb7⟩
              obtain ⟨A7, c7, rfl, _, hr7⟩ := ho7.bytes
              have hb7w := bn hb hb7
              rw [Hlx.out]
              clear hb hb7 ho7
              go_wp2_with fail
              (with_reducible refine (HY.out _ hb7w).mono ?_)
              rintro e w8 ⟨v8, rfl, ho8, hb8⟩
              obtain ⟨A8, c8, rfl, _, hr8⟩ := ho8.bytes
              have hb8w := bn hb7w hb8
              have hr78 := hr7.below hb8
              rw [Hly.out]
              clear hb7w hb8 ho8 hr7
              have t1 := run_str_try w8 A7 c7 64 xs Hlx.out hr78
              have t2 := run_str_try w8 A8 c8 64 ys Hly.out hr8
              clear hr78 hr8
              by_cases hge : (l1.length : Int) ≤ 19 - (k : Int)
              · obtain rfl := Heq.out (by omega)
                have hbeq : ((⟨xs.toArray⟩ : ByteArray).toList == (⟨xs.toArray⟩ : ByteArray).toList) = true := beq_iff_eq.2 rfl
                generalize (⟨xs.toArray⟩ : ByteArray) = s1 at *
                go_wp2
                go_roundw
                case rel => exact ⟨k + 1, by omega, by go_num, hb8w⟩
                case measure => simp [intOf]; try omega
              · have hge2 : 19 - (k : Int) < (l1.length : Int) := by omega
                clear t1 t2
                go_wp2
                go_roundw
                case rel => exact ⟨k + 1, by omega, by go_num, hb8w⟩
                case measure => simp [intOf]; try omega
            · obtain rfl : k = 20 := by omega
              have hx := HX6.out.below hb
              rw [crash_live] at hx
              clear hb
              go_wp2_with fail
              (with_reducible refine (live_flush hx (by simp [liveD]) (flush_live _ _ _)).mono ?_)
              rintro e w9 ⟨rfl, hx9, _⟩
              simp only at hx9
              go_wp2_with fail
              (with_reducible refine (live_ops hx9).mono ?_)
              rintro e _ ⟨rfl, rfl⟩
              have HB9 := Lib.hid hx9.bel
              clear hx hx9
              simp only [liveD]
              go_wp2
              go_ret
              exact ⟨rfl, HB9.out⟩
end Go.Proofs.Ytbhhjphgbdaanaa
