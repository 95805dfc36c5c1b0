/-
  What DiskFuses calls and gives.
-/
import Derived.Test.YtbhhjphgbdaanaaLawFlushed
set_option linter.unusedSimpArgs false
set_option linter.unusedVariables false
namespace Go.Proofs.Ytbhhjphgbdaanaa
open Go.RowKit Go.Maps

/-- what is cached behind the first writes -/
def fuseCa (ls : List (List UInt8)) (d : Nat) : Int → Option (List UInt8) := fun y => if 0 ≤ y ∧ y < (d : Int) then some (fullB (ls.getD y.toNat [])) else none
/-- the disk behind i writes with a fuse of k -/
def fuseSt (ls : List (List UInt8)) (k i : Nat) : DSt := ⟨List.replicate 40 zeros64, fuseCa ls (min i k), (k : Int) - (min i k : Nat), decide (k < i), ((min i k : Nat) : Int)⟩
theorem fuseSt_start (ls : List (List UInt8)) (k : Nat) : fuseD (newD 40) (k : Int) = fuseSt ls k 0 := by
  unfold fuseD newD fuseSt fuseCa
  rw [if_neg (by omega)]
  simp
  funext y
  rw [if_neg (by omega)]
theorem fuseCa_step (ls : List (List UInt8)) (i : Nat) : (fun y => if y = (i : Int) then some (fullB (ls.getD i [])) else fuseCa ls i y) = fuseCa ls (i + 1) := by
  funext y
  unfold fuseCa
  by_cases e : y = (i : Int)
  · subst e
    rw [if_pos rfl, if_pos (by omega)]
    simp
  · rw [if_neg e]
    by_cases h : 0 ≤ y ∧ y < (i : Int)
    · rw [if_pos h, if_pos (by omega)]
    · rw [if_neg h, if_neg (by omega)]
theorem fuse_write (ls : List (List UInt8)) (k i : Nat) (hi : i < 40) : writeD (fuseSt ls k i) (i : Int) (fullB (ls.getD i [])) = (if i < k then 0 else 15, fuseSt ls k (i + 1)) := by
  have hth : thereB (fuseSt ls k i).fl.length (i : Int) = true := by simp [fuseSt, thereB]; omega
  unfold writeD
  rcases Nat.lt_trichotomy i k with h | h | h
  · rw [if_neg (by simp [fuseSt]; omega), hth, decide_eq_true (fullB_len _), if_pos (show (true && true) = true from rfl), if_neg (by simp [fuseSt]; omega), if_pos h]
    have hb : (burnD (fuseSt ls k i)).2 = ⟨List.replicate 40 zeros64, fuseCa ls i, (k : Int) - (i : Int) - 1, false, (i : Int) + 1⟩ := by
      unfold burnD fuseSt
      simp only [Nat.min_eq_left (show i ≤ k by omega)]
      rw [if_neg (by omega), if_pos (by omega)]
      simp
      omega
    rw [hb]
    unfold putD fuseSt
    simp only [Nat.min_eq_left (show i + 1 ≤ k by omega)]
    rw [fuseCa_step]
    congr 2
    · simp; omega
    · simp; omega
  · subst h
    rw [if_neg (by simp [fuseSt]), hth, decide_eq_true (fullB_len _), if_pos (show (true && true) = true from rfl), if_pos (by simp [fuseSt]), if_neg (by omega)]
    unfold burnD
    rw [if_pos (by simp [fuseSt])]
    unfold fuseSt
    simp
  · rw [if_pos (by simp [fuseSt]; omega), if_neg (by omega)]
    unfold fuseSt
    rw [Nat.min_eq_right (show k ≤ i by omega), Nat.min_eq_right (show k ≤ i + 1 by omega)]
    congr 2
    simp
    omega
theorem fuse_crash (ls : List (List UInt8)) (k n : Nat) (ks : List Int) (i : Nat) (hi : i < 40) : crashAt (fuseSt ls k n) [1] ks i = if i < min n k then fullB (ls.getD i []) else zeros64 := by
  rw [crashAt_one]
  have hz : (fuseSt ls k n).fl.getD i [] = zeros64 := by
    show (List.replicate 40 zeros64).getD i [] = zeros64
    rw [List.getD_eq_getElem?_getD, List.getElem?_replicate, if_pos hi]
    rfl
  rw [hz]
  have hca : (fuseSt ls k n).ca (i : Int) = if i < min n k then some (fullB (ls.getD i [])) else none := by
    simp only [fuseSt, fuseCa]
    by_cases h : i < min n k
    · rw [if_pos h, if_pos (by omega)]
      simp
    · rw [if_neg h, if_neg (by omega)]
  rw [hca]
  by_cases h : i < min n k
  · rw [if_pos h, if_pos h]
    simp [afterB]
  · rw [if_neg h, if_neg h]
theorem fullB_nil : fullB [] = zeros64 := fillB_nil 64

set_option maxRecDepth 100000 in
set_option maxHeartbeats 16000000 in
theorem fuses_walk (x : UInt8) (A0 : Option Addr) (m0 c0 : Nat) (vs0 : List Value) (l0 : List (List UInt8)) (hm0 : l0.length = m0) (w : World) (hb0 : m0 ≤ 9223372036854775807) (hv0 : Rd w A0 vs0) (hl0 : AreB w vs0 l0) (hlen0 : ∀ b ∈ l0, b.length ≤ 9223372036854775807) :
    Calls Try.prog 11 #[.int .u8 (x.toNat : Int), .slice A0 m0 c0] w fun e w' => e = .returned (.bool true) ∧ Below w.heap.size w w' := by
  subst hm0
  by_cases h40 : 40 < l0.length
  · go_enter Try.func11, Try.ntmps11
    go_wp2_with fail
    (with_reducible refine (law4_awake _).mono ?_)
    rintro e w1 ⟨rfl, hb1⟩
    go_wp2_with fail
    (with_reducible refine (live_new hb1 40 40 rfl (by omega)).mono ?_)
    rintro e w2 ⟨g, P, rfl, hd2, _, _⟩
    have HB2 := Lib.hid hd2.bel
    clear hd2 hb1
    go_wp2
    go_ret
    exact ⟨rfl, HB2.out⟩
  have h0 : l0.length ≤ 40 := by omega
  clear h40
  have HV0 := Lib.hid hv0
  have HL0 := Lib.hid hl0
  have HN0 := Lib.hid hlen0
  have HF := Lib.hid fun (A : Option Addr) (c : Nat) (b : List UInt8) (hb : b.length ≤ 9223372036854775807) W (hr : RB W A b) => law4_full A b.length c b W rfl hb hr
  have HF0 := Lib.hid fun W => law4_full none 0 0 [] W rfl (by simp) (RB.nil _ _)
  clear hv0 hl0 hlen0
  have hx := x.toNat_lt
  generalize x.toNat = n at *
  obtain ⟨k, hk⟩ : ∃ k, n % 20 = k := ⟨_, rfl⟩
  have hk20 : k < 20 := by omega
  have hw0 : IntKind.i64.wrap (n : Int) = (n : Int) := IntWalk.i64_in _ (by omega)
  have hrem : Int.tmod (n : Int) 20 = (k : Int) := by rw [Int.tmod_eq_emod_of_nonneg (by omega)]; omega
  have hrem2 : (n : Int) % 20 = (k : Int) := by omega
  have HST := Lib.hid (fuseSt_start l0 k)
  clear hk
  go_enter Try.func11, Try.ntmps11
  go_wp2_with fail
  (with_reducible refine (law4_awake _).mono ?_)
  rintro e w1 ⟨rfl, hbw1⟩
  go_wp2_with fail
  (with_reducible refine (live_new hbw1 40 40 rfl (by omega)).mono ?_)
  rintro e w2 ⟨g, P, rfl, hd2, _, _⟩
  go_wp2_with fail
  (with_reducible refine (live_fuse hd2 (k : Int) (by omega) (by omega)).mono ?_)
  rintro e w3 ⟨rfl, hd3, _⟩
  rw [HST.out] at hd3
  have HD3 := Lib.hid hd3
  clear hd2 hd3 hbw1 hrem hrem2 hw0 HST
  go_wp2
  go_loopw [8, 9, 10] (fun dn i _ wr => ∃ (q : Nat) (P : Nat → Prop) (nn : Nat), q ≤ l0.length ∧ i = .int .i64 (q : Int) ∧ dn = .int .i64 ((min q k : Nat) : Int) ∧ nn ≤ q ∧ Live w wr g P nn (fuseSt l0 k q)) (fun _ i _ _ => l0.length - (intOf i).toNat)
  case atStart => exact ⟨0, P, 0, Nat.zero_le _, rfl, by rw [Nat.zero_min]; rfl, Nat.le_refl _, HD3.out⟩
  case round =>
    clear HD3
    obtain ⟨q, P, nn, hq, rfl, rfl, hn, hd⟩ := hrel
    by_cases hlt : q < l0.length
    · obtain ⟨bb, ob, rfl, hbblt, HT0⟩ := texts_of HV0.out HL0.out (by omega)
      obtain ⟨Ai, ci, hAlt, hti⟩ := HT0 q hlt
      have hbl := HN0.out (l0.getD q []) (by rw [List.getD_eq_getElem?_getD, List.getElem?_eq_getElem hlt]; exact List.getElem_mem hlt)
      obtain ⟨hcell, hrb⟩ := hti wr hd.bel
      have hwr := fuse_write l0 k q (by omega)
      have i0 : (0 : Int) ≤ (q : Int) := by omega
      have i1 : (q : Int) < (l0.length : Int) := by omega
      clear HT0 hti hAlt
      generalize l0.getD q [] = bt at *
      by_cases h100 : (100 : Int) < (bt.length : Int)
      · have HB := Lib.hid hd.bel
        clear hd
        go_wp2
        go_ret
        exact ⟨rfl, HB.out⟩
      · have HFL := Lib.hid (HF.out Ai ci bt hbl wr hrb)
        have hFl := fullB_len bt
        generalize fullB bt = F at *
        have HFl := Lib.hid hFl
        have HWR := Lib.hid hwr
        clear hFl hrb hwr
        go_wp2_with fail
        (with_reducible refine HFL.out.mono ?_)
        rintro e w3 ⟨v3, rfl, ho3, hb3⟩
        obtain ⟨A3, c3, rfl, _, hr3⟩ := ho3.bytes
        rw [HFl.out]
        have hd3 := hd.below hb3
        clear hd hb3 ho3 hcell
        go_wp2_with fail
        (with_reducible refine (live_write hd3 (q : Int) A3 64 c3 F HFl.out hr3 (by rw [HFl.out]; omega) (by omega) (by simp only [fuseSt]; omega) HWR.out).mono ?_)
        rintro e w4 ⟨rfl, hd4, _⟩
        simp only at hd4 ⊢
        have HOPS : Hid ((fuseSt l0 k (q + 1)).ops = ((min (q + 1) k : Nat) : Int)) := rfl
        have HDEAD : Hid ((fuseSt l0 k (q + 1)).dead = decide (k < q + 1)) := rfl
        by_cases hqk : q < k
        · rw [if_pos hqk]
          have e1 : min q k = q := by omega
          have e2 : min (q + 1) k = q + 1 := by omega
          rw [e2] at HOPS
          rw [decide_eq_false (show ¬ k < q + 1 by omega)] at HDEAD
          rw [e1]
          have hqk2 : (q : Int) < (k : Int) := by omega
          have HE2 : Hid (((min (q + 1) k : Nat) : Int) = (q : Int) + 1) := Lib.hid (by omega)
          clear hd3 hr3 e1 e2
          go_wp2_with fail
          (with_reducible refine (live_dead hd4).mono ?_)
          rintro e _ ⟨rfl, rfl⟩
          rw [HDEAD.out]
          go_wp2_with fail
          (with_reducible refine (live_ops hd4).mono ?_)
          rintro e _ ⟨rfl, rfl⟩
          rw [HOPS.out]
          go_wp2
          go_roundw
          case rel => exact ⟨q + 1, _, nn + 1, by omega, by go_num, by rw [HE2.out], by omega, hd4⟩
          case measure => simp [intOf]; try omega
        · rw [if_neg hqk]
          have e1 : min q k = k := by omega
          have e2 : min (q + 1) k = k := by omega
          rw [e2] at HOPS
          rw [decide_eq_true (show k < q + 1 by omega)] at HDEAD
          rw [e1]
          have HE2 : Hid (((min (q + 1) k : Nat) : Int) = (k : Int)) := Lib.hid (by omega)
          clear hd3 hr3 e1 e2
          go_wp2_with fail
          (with_reducible refine (live_dead hd4).mono ?_)
          rintro e _ ⟨rfl, rfl⟩
          rw [HDEAD.out]
          go_wp2_with fail
          (with_reducible refine (live_ops hd4).mono ?_)
          rintro e _ ⟨rfl, rfl⟩
          rw [HOPS.out]
          go_wp2
          go_roundw
          case rel => exact ⟨q + 1, _, nn + 1, by omega, by go_num, by rw [HE2.out], by omega, hd4⟩
          case measure => simp [intOf]; try omega
    · obtain rfl : q = l0.length := by omega
      obtain ⟨wo, rfl⟩ : ∃ wo : World, wo = wr := ⟨_, rfl⟩
      go_wp2_with fail
      (with_reducible refine (live_crash (hd.alloc (.cells #[.int .u8 1] 5)) _ 1 1 [1] rfl (by simp) (lit1 wo 1 1 rfl) (by omega)).mono ?_)
      rintro e w6 ⟨g6, ks, P6, rfl, _, _, hx6, _, _⟩
      have HX6 := Lib.hid hx6
      have HRX := Lib.hid fun (i : Nat) (x : Int) (hx : x = (i : Int)) (hi : i < 40) W (hw : Below w6.heap.size w6 W) => live_read (hx6.below hw) x (r := (crashAt (fuseSt l0 k l0.length) [1] ks i, 0)) (readD_crash [1] ks x hx (by simp only [fuseSt, List.length_replicate]; exact hi))
      have HCR := Lib.hid fun (i : Nat) (hi : i < 40) => fuse_crash l0 k l0.length ks i hi
      have HB6 := Lib.hid hx6.bel
      clear hx6 hd hlt hq
      go_wp2
      go_loopw [12, 13, 14, 15] (fun i _ _ _ wr => ∃ (q : Nat), q ≤ l0.length ∧ i = .int .i64 (q : Int) ∧ Below w6.heap.size w6 wr) (fun i _ _ _ _ => l0.length - (intOf i).toNat)
      case atStart => exact ⟨0, Nat.zero_le _, rfl, Below.refl _ _⟩
      case round =>
        obtain ⟨q, hq, rfl, hb⟩ := hrel
        by_cases hlt : q < l0.length
        · have i0 : (0 : Int) ≤ (q : Int) := by omega
          have i1 : (q : Int) < (l0.length : Int) := by omega
          have HX := Lib.hid (HRX.out q (q : Int) rfl (by omega) wr hb)
          have hcr := HCR.out q (by omega)
          by_cases hqk : q < min l0.length k
          · rw [if_pos hqk] at hcr
            rw [hcr] at HX
            obtain ⟨bb, ob, rfl, hbblt, HT0⟩ := texts_of HV0.out HL0.out (by omega)
            obtain ⟨Ai, ci, hAlt, hti⟩ := HT0 q hlt
            have HTI := Lib.hid hti
            have hbl := HN0.out (l0.getD q []) (by rw [List.getD_eq_getElem?_getD, List.getElem?_eq_getElem hlt]; exact List.getElem_mem hlt)
            clear hcr HT0 hti hAlt
            generalize l0.getD q [] = bt at *
            have HFL := Lib.hid fun W hr => HF.out Ai ci bt hbl W hr
            have hFl := fullB_len bt
            generalize fullB bt = F at *
            have HFl := Lib.hid hFl
            have hqk2 : (q : Int) < ((min l0.length k : Nat) : Int) := by omega
            clear hFl hqk
            go_wp2_with fail
            (with_reducible refine HX.out.mono ?_)
            rintro e w7 ⟨v7, rfl, ho7, hb7⟩
            obtain ⟨A7, c7, rfl, _, hr7⟩ := ho7.bytes
            have hb7w := bn hb hb7
            rw [HFl.out]
            clear hb hb7 ho7
            go_wp2_with fail
            (with_reducible refine (HF0.out _).mono ?_)
            rintro e w8 ⟨v8, rfl, ho8, hb8⟩
            obtain ⟨A8, c8, rfl, _, _⟩ := ho8.bytes
            have hb8w := bn hb7w hb8
            have hr78 := hr7.below hb8
            clear hb7w hb8 ho8 hr7
            obtain ⟨hcell, hrb⟩ := HTI.out w8 (bn HB6.out hb8w)
            go_wp2_with fail
            (with_reducible refine (HFL.out _ hrb).mono ?_)
            rintro e w9 ⟨v9, rfl, ho9, hb9⟩
            obtain ⟨A9, c9, rfl, _, hr9⟩ := ho9.bytes
            have hb9w := bn hb8w hb9
            have hr79 := hr78.below hb9
            rw [HFl.out]
            clear hb8w hb9 ho9 hr78 hcell hrb
            have t1 := run_str_try w9 A7 c7 64 F HFl.out hr79
            have t2 := run_str_try w9 A9 c9 64 F HFl.out hr9
            have hbeq : ((⟨F.toArray⟩ : ByteArray).toList == (⟨F.toArray⟩ : ByteArray).toList) = true := beq_iff_eq.2 rfl
            generalize (⟨F.toArray⟩ : ByteArray) = s1 at *
            clear hr79 hr9
            go_wp2
            go_roundw
            case rel => exact ⟨q + 1, by omega, by go_num, hb9w⟩
            case measure => simp [intOf]; try omega
          · rw [if_neg hqk] at hcr
            rw [hcr] at HX
            have hqk2 : ((min l0.length k : Nat) : Int) ≤ (q : Int) := by omega
            have HFZ := HF0
            rw [fullB_nil] at HFZ
            have hzl : zeros64.length = 64 := by simp only [zeros64, List.length_replicate]
            generalize zeros64 = Z at *
            have HZL := Lib.hid hzl
            clear hcr hzl hqk
            go_wp2_with fail
            (with_reducible refine HX.out.mono ?_)
            rintro e w7 ⟨v7, rfl, ho7, hb7⟩
            obtain ⟨A7, c7, rfl, _, hr7⟩ := ho7.bytes
            have hb7w := bn hb hb7
            rw [HZL.out]
            clear hb hb7 ho7
            go_wp2_with fail
            (with_reducible refine (HFZ.out _).mono ?_)
            rintro e w8 ⟨v8, rfl, ho8, hb8⟩
            obtain ⟨A8, c8, rfl, _, hr8⟩ := ho8.bytes
            have hb8w := bn hb7w hb8
            have hr78 := hr7.below hb8
            rw [HZL.out]
            clear hb7w hb8 ho8 hr7
            have t1 := run_str_try w8 A7 c7 64 Z HZL.out hr78
            have t2 := run_str_try w8 A8 c8 64 Z HZL.out hr8
            have hbeq : ((⟨Z.toArray⟩ : ByteArray).toList == (⟨Z.toArray⟩ : ByteArray).toList) = true := beq_iff_eq.2 rfl
            generalize (⟨Z.toArray⟩ : ByteArray) = s1 at *
            clear hr78 hr8
            go_wp2
            go_roundw
            case rel => exact ⟨q + 1, by omega, by go_num, hb8w⟩
            case measure => simp [intOf]; try omega
        · obtain rfl : q = l0.length := by omega
          have hx := HX6.out.below hb
          rw [crash_live] at hx
          clear hb
          go_wp2_with fail
          (with_reducible refine (live_flush hx (by simp [liveD]) (flush_live _ _ _)).mono ?_)
          rintro e w9 ⟨rfl, hx9, _⟩
          simp only at hx9
          go_wp2_with fail
          (with_reducible refine (live_dead hx9).mono ?_)
          rintro e _ ⟨rfl, rfl⟩
          have HB9 := Lib.hid hx9.bel
          clear hx hx9
          simp only [liveD]
          go_wp2
          go_ret
          exact ⟨rfl, HB9.out⟩
end Go.Proofs.Ytbhhjphgbdaanaa
