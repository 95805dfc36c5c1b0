/-
  What DiskSpoils calls and gives.
-/
import Derived.Test.YtbhhjphgbdaanaaLawHands
set_option linter.unusedSimpArgs false
set_option linter.unusedVariables false
namespace Go.Proofs.Ytbhhjphgbdaanaa
open Go.RowKit Go.Maps

theorem spoil_live (F x : List UInt8) (k : Nat) (hk : k < 64) (hF : F.length = 64) : spoilD (liveD [zeros64, F, zeros64] (fun _ => none) (0 + 1 + 1)) 1 (k : Int) x = if k + x.length ≤ 64 then (true, liveD [zeros64, lay F k x, zeros64] (fun _ => none) (0 + 1 + 1)) else (false, liveD [zeros64, F, zeros64] (fun _ => none) (0 + 1 + 1)) := by
  unfold spoilD
  by_cases h : k + x.length ≤ 64
  · rw [if_pos h, if_pos (by simp [liveD, thereB]; omega)]
    unfold liveD
    congr 2
    funext y
    split <;> rfl
  · rw [if_neg h, if_neg (by simp [liveD, thereB]; omega)]
theorem spoil_no (s : DSt) (hs : s.fl.length = 3) (x : List UInt8) : spoilD s 3 0 x = (false, s) := by
  unfold spoilD
  rw [if_neg (by simp [thereB, hs])]
theorem spoils_flush (F : List UInt8) : ((List.range (List.replicate 3 zeros64).length).map fun i : Nat => ((fun y => if y = 1 then some F else none) (i : Int)).getD ((List.replicate 3 zeros64).getD i [])) = [zeros64, F, zeros64] := by
  simp [List.range_succ, List.getD_eq_getElem?_getD]
set_option maxRecDepth 100000 in
set_option maxHeartbeats 8000000 in
theorem spoils_walk (A0 A1 A2 : Option Addr) (c0 c1 m2 c2 : Nat) (b x ch : List UInt8) (hm2 : ch.length = m2) (n : UInt8) (w : World) (hb0 : b.length ≤ 9223372036854775807) (hb1 : x.length ≤ 9223372036854775807) (hb2 : m2 ≤ 9223372036854775807) (hr0 : RB w A0 b) (hr1 : RB w A1 x) (hr2 : RB w A2 ch) (hA1 : 0 < x.length → ∀ ad, A1 = some ad → ad.block < w.heap.size) :
    Calls Try.prog 12 #[.agg #[.slice A0 b.length c0, .slice A1 x.length c1], .int .u8 (n.toNat : Int), .slice A2 m2 c2] w fun e w' => e = .returned (.bool true) ∧ Below w.heap.size w w' := by
  subst hm2
  have hP0 := Blk.new w 71 #[.slice A0 b.length c0, .slice A1 x.length c1]
  have hbx := bal (Below.refl w.heap.size w) (.cells #[.slice A0 b.length c0, .slice A1 x.length c1] 71)
  have HP0 := Lib.hid fun W (h : Below (w.heap.size + 1) (w.alloc (.cells #[.slice A0 b.length c0, .slice A1 x.length c1] 71)) W) => hP0.below (by rw [size_more']; exact h)
  have hn := n.toNat_lt
  generalize n.toNat = n at *
  by_cases hc : 100 < b.length ∨ x.length < 1 ∨ 100 < x.length ∨ 100 < ch.length
  · rcases (show 100 < b.length ∨ (b.length ≤ 100 ∧ x.length < 1) ∨ (b.length ≤ 100 ∧ 1 ≤ x.length ∧ 100 < x.length) ∨ (b.length ≤ 100 ∧ 1 ≤ x.length ∧ x.length ≤ 100 ∧ 100 < ch.length) by omega) with h | ⟨h, h2⟩ | ⟨h, h2, h3⟩ | ⟨h, h2, h3, h4⟩
    all_goals
      clear hc hP0
      go_enter Try.func12, Try.ntmps12
      go_wp2_with fail
      (with_reducible refine (law4_awake _).mono ?_)
      rintro e w1 ⟨rfl, hb1⟩
      have hz := size_more' w (.cells #[.slice A0 b.length c0, .slice A1 x.length c1] 71)
      rw [hz] at hb1
      have hB1 := HP0.out w1 hb1
      have x0 : w1.cell? ⟨w.heap.size, 0, none⟩ = some (.slice A0 b.length c0) := hB1.cell 0
      have x1 : w1.cell? ⟨w.heap.size, 1, none⟩ = some (.slice A1 x.length c1) := hB1.cell 1
      have HBB := Lib.hid (hbx.trans (hb1.mono (Nat.le_succ _)))
      clear hb1 hz hB1
      go_wp2_with fail
      go_region_held (fun W => W.cell? ⟨w.heap.size, 0, none⟩ = some (.slice A0 b.length c0) ∧ W.cell? ⟨w.heap.size, 1, none⟩ = some (.slice A1 x.length c1)) (exact ⟨x0, x1⟩) (fail)
      go_wp2
      go_ret
      exact ⟨rfl, bdr HBB.out⟩
  have g0 : b.length ≤ 100 := by omega
  have g1 : 1 ≤ x.length := by omega
  have g2 : x.length ≤ 100 := by omega
  have g3 : ch.length ≤ 100 := by omega
  have HA := Lib.hid fun W (hb : Below w.heap.size w W) => law4_full A0 b.length c0 b W rfl hb0 (hr0.below hb)
  have HX := Lib.hid fun W (hb : Below w.heap.size w W) => hr1.below hb
  have HC := Lib.hid fun W (hb : Below w.heap.size w W) => hr2.below hb
  have HA1 := Lib.hid (hA1 g1)
  have hFb := fullB_len b
  generalize fullB b = F at *
  have HF := Lib.hid hFb
  obtain ⟨k, hk⟩ : ∃ k, n % 64 = k := ⟨_, rfl⟩
  have hk64 : k < 64 := by omega
  have hw0 : IntKind.i64.wrap (n : Int) = (n : Int) := IntWalk.i64_in _ (by omega)
  have hrem : Int.tmod (n : Int) 64 = (k : Int) := by rw [Int.tmod_eq_emod_of_nonneg (by omega)]; omega
  have hrem2 : (n : Int) % 64 = (k : Int) := by omega
  have HSP := Lib.hid (spoil_live F x k hk64 hFb)
  clear hc hr0 hr1 hr2 hA1 hFb hk hP0
  go_enter Try.func12, Try.ntmps12
  go_wp2_with fail
  (with_reducible refine (law4_awake _).mono ?_)
  rintro e w1 ⟨rfl, hb1⟩
  have hz := size_more' w (.cells #[.slice A0 b.length c0, .slice A1 x.length c1] 71)
  rw [hz] at hb1
  have hB1 := HP0.out w1 hb1
  have x0 : w1.cell? ⟨w.heap.size, 0, none⟩ = some (.slice A0 b.length c0) := hB1.cell 0
  have x1 : w1.cell? ⟨w.heap.size, 1, none⟩ = some (.slice A1 x.length c1) := hB1.cell 1
  have HBB := Lib.hid (bdr (hbx.trans (hb1.mono (Nat.le_succ _))))
  clear hb1 hz hB1 hbx
  go_wp2_with fail
  go_region_held (fun W => W.cell? ⟨w.heap.size, 0, none⟩ = some (.slice A0 b.length c0) ∧ W.cell? ⟨w.heap.size, 1, none⟩ = some (.slice A1 x.length c1)) (exact ⟨x0, x1⟩) (fail)
  clear x0 x1
  go_wp2_with fail
  (with_reducible refine (live_new HBB.out 3 3 rfl (by omega)).mono ?_)
  rintro e w2 ⟨g, P, rfl, hd2, _, _⟩
  rw [newD_live] at hd2
  go_wp2_with fail
  (with_reducible refine (HA.out _ hd2.bel).mono ?_)
  rintro e w3 ⟨v3, rfl, ho3, hb3⟩
  obtain ⟨A3, c3, rfl, _, hr3⟩ := ho3.bytes
  rw [HF.out]
  have hd3 := hd2.below hb3
  clear hd2 hb3 ho3
  go_wp2_with fail
  (with_reducible refine (live_write hd3 1 _ 64 c3 F HF.out hr3 (by rw [HF.out]; omega) (by omega) (by simp [liveD]) (write_live (k := 1) 1 rfl (by simp) HF.out)).mono ?_)
  rintro e w4 ⟨rfl, hd4, _⟩
  simp only at hd4
  clear hd3 hr3
  go_wp2_with fail
  (with_reducible refine (live_flush hd4 (by simp [liveD]) (flush_live _ _ _)).mono ?_)
  rintro e w5 ⟨rfl, hd5, _⟩
  simp only at hd5
  rw [spoils_flush] at hd5
  generalize Grow P w3 w4 = P5 at *
  clear hd4
  have HS := Lib.hid fun r he => live_spoil hd5 1 (k : Int) A1 x.length c1 x (by omega) (by omega) rfl (HX.out _ hd5.bel) hb1 (fun ad e f => by have h1 := HA1.out ad e; have h2 := hd5.frm _ f; omega) (r := r) he
  by_cases hfit : k + x.length ≤ 64
  · have hsp := HSP.out
    rw [if_pos hfit] at hsp
    have hcmp : (k : Int) + (x.length : Int) ≤ 64 := by omega
    have HS1 := Lib.hid (HS.out _ hsp)
    have hLl : (lay F k x).length = 64 := by rw [lay_length _ _ _ (by rw [HF.out]; exact hfit)]; exact HF.out
    have HLl := Lib.hid hLl
    have HFT := Lib.hid hfit
    clear hsp HS HSP hd5 hLl hfit
    go_wp2_with fail
    (with_reducible refine HS1.out.mono ?_)
    rintro e w6 ⟨rfl, hd6, _⟩
    try simp only at hd6
    clear HS1
    go_wp2_with fail
    (with_reducible refine (HA.out _ hd6.bel).mono ?_)
    rintro e w7 ⟨v7, rfl, ho7, hb7⟩
    obtain ⟨gw, cap, _, rfl, hgw0, _, hcap, _⟩ := ho7.blk (by rw [List.length_map, HF.out]; omega)
    rw [List.length_map, HF.out] at hcap ho7 ⊢
    have hd7 := hd6.below hb7
    obtain ⟨Ac, hcut, hAc⟩ := cut_own gw 64 cap k (by omega) hcap
    have HCP := Lib.hid (copy_own ho7 k Ac A1 (64 - k) (cap - k) x.length c1 x (by show x.length = min x.length (64 - k); have := HFT.out; omega) (HX.out _ hd7.bel) (fun h0 => ⟨gw, rfl, hAc (by have := HFT.out; omega)⟩) (by rw [HF.out]; exact HFT.out) 3)
    have hPl := Lib.hid hd6.disk.lt
    have hzb := hd6.bel.size
    clear hd6 hb7 hAc
    go_wp2_with (refine wpList_copy_ex rfl (.tmp 72) (.tmp 73) 35 35 rfl _ _ rfl rfl x.length HCP.out ?_; rintro w8 ⟨ho8, hk8, hz8⟩)
    have hd8 := hd7.kp hk8 (fun j hj e => by have : gw = j := Option.some.inj e; have := hPl.out j hj; omega) (fun j e => by have : gw = j := Option.some.inj e; omega)
    clear hd7 ho7 HCP hcut
    (with_reducible refine (live_read hd8 1 (r := (lay F k x, 0)) (by rw [readD_live rfl (k := 1) 1 rfl (by simp [liveD]), curD_none _ _ 1 1 rfl]; simp)).mono ?_)
    rintro e w9 ⟨v9, rfl, ho9, hb9⟩
    obtain ⟨A9, c9, rfl, _, hr9⟩ := ho9.bytes
    rw [HLl.out]
    have hd9 := hd8.below hb9
    have hw9 := (ho8.bytes_at).below hb9
    clear hd8 ho8 hb9 ho9
    go_wp2_with fail
    (with_reducible refine (live_crash hd9 A2 ch.length c2 ch rfl (by omega) (HC.out _ hd9.bel) (by omega)).mono ?_)
    rintro e w10 ⟨g10, ks, P10, rfl, _, _, hx10, _, hb10⟩
    have hd10 := hd9.below hb10
    have hr10 := hr9.below hb10
    have hw10 := hw9.below hb10
    clear hd9 hr9 hw9 hb10
    go_wp2_with fail
    (with_reducible refine (live_read hx10 1 (r := (lay F k x, 0)) (by rw [readD_crash ch ks (k := 1) 1 rfl (by simp [liveD]), crashAt_none rfl]; simp [liveD])).mono ?_)
    rintro e w11 ⟨v11, rfl, ho11, hb11⟩
    obtain ⟨A11, c11, rfl, _, hr11⟩ := ho11.bytes
    rw [HLl.out]
    have hd11 := hd10.below hb11
    have t1 := run_str_try w11 A9 c9 64 (lay F k x) HLl.out (hr10.below hb11)
    have t2 := run_str_try w11 A11 c11 64 (lay F k x) HLl.out hr11
    have t3 := run_str_try w11 (some ⟨gw, 0, none⟩) cap 64 (lay F k x) HLl.out (hw10.below hb11)
    have hbeq : ((⟨(lay F k x).toArray⟩ : ByteArray).toList == (⟨(lay F k x).toArray⟩ : ByteArray).toList) = true := beq_iff_eq.2 rfl
    generalize (⟨(lay F k x).toArray⟩ : ByteArray) = s1 at *
    have HS3 := Lib.hid (live_spoil hd11 3 0 A1 x.length c1 x (by omega) (by omega) rfl (HX.out _ hd11.bel) hb1 (fun ad e f => by have h1 := HA1.out ad e; have h2 := hd11.frm _ f; omega) (spoil_no _ rfl x))
    clear hd10 hd11 hr10 hw10 hb11 ho11 hr11 hx10
    go_wp2_with fail
    (with_reducible refine HS3.out.mono ?_)
    rintro e w12 ⟨rfl, hd12, _⟩
    have HB := Lib.hid hd12.bel
    clear hd12 t1 t2 t3
    go_wp2
    go_ret
    exact ⟨rfl, HB.out⟩
  · have hsp := HSP.out
    rw [if_neg hfit] at hsp
    have hcmp : (64 : Int) < (k : Int) + (x.length : Int) := by omega
    have HS1 := Lib.hid (HS.out _ hsp)
    clear hsp HS HSP hd5 hfit
    go_wp2_with fail
    (with_reducible refine HS1.out.mono ?_)
    rintro e w6 ⟨rfl, hd6, _⟩
    try simp only at hd6
    clear HS1
    go_wp2_with fail
    (with_reducible refine (HA.out _ hd6.bel).mono ?_)
    rintro e w7 ⟨v7, rfl, ho7, hb7⟩
    obtain ⟨A7, c7, rfl, _, hr7⟩ := ho7.bytes
    rw [HF.out]
    have hd8 := hd6.below hb7
    clear hd6 hb7 ho7
    go_wp2_with fail
    (with_reducible refine (live_read hd8 1 (r := (F, 0)) (by rw [readD_live rfl (k := 1) 1 rfl (by simp [liveD]), curD_none _ _ 1 1 rfl]; simp)).mono ?_)
    rintro e w9 ⟨v9, rfl, ho9, hb9⟩
    obtain ⟨A9, c9, rfl, _, hr9⟩ := ho9.bytes
    rw [HF.out]
    have hd9 := hd8.below hb9
    have hw9 := hr7.below hb9
    clear hd8 hr7 hb9 ho9
    go_wp2_with fail
    (with_reducible refine (live_crash hd9 A2 ch.length c2 ch rfl (by omega) (HC.out _ hd9.bel) (by omega)).mono ?_)
    rintro e w10 ⟨g10, ks, P10, rfl, _, _, hx10, _, hb10⟩
    have hd10 := hd9.below hb10
    have hr10 := hr9.below hb10
    have hw10 := hw9.below hb10
    clear hd9 hr9 hw9 hb10
    go_wp2_with fail
    (with_reducible refine (live_read hx10 1 (r := (F, 0)) (by rw [readD_crash ch ks (k := 1) 1 rfl (by simp [liveD]), crashAt_none rfl]; simp [liveD])).mono ?_)
    rintro e w11 ⟨v11, rfl, ho11, hb11⟩
    obtain ⟨A11, c11, rfl, _, hr11⟩ := ho11.bytes
    rw [HF.out]
    have hd11 := hd10.below hb11
    have t1 := run_str_try w11 A9 c9 64 F HF.out (hr10.below hb11)
    have t2 := run_str_try w11 A11 c11 64 F HF.out hr11
    have t3 := run_str_try w11 A7 c7 64 F HF.out (hw10.below hb11)
    have hbeq : ((⟨F.toArray⟩ : ByteArray).toList == (⟨F.toArray⟩ : ByteArray).toList) = true := beq_iff_eq.2 rfl
    generalize (⟨F.toArray⟩ : ByteArray) = s1 at *
    have HS3 := Lib.hid (live_spoil hd11 3 0 A1 x.length c1 x (by omega) (by omega) rfl (HX.out _ hd11.bel) hb1 (fun ad e f => by have h1 := HA1.out ad e; have h2 := hd11.frm _ f; omega) (spoil_no _ rfl x))
    clear hd10 hd11 hr10 hw10 hb11 ho11 hr11 hx10
    go_wp2_with fail
    (with_reducible refine HS3.out.mono ?_)
    rintro e w12 ⟨rfl, hd12, _⟩
    have HB := Lib.hid hd12.bel
    clear hd12 t1 t2 t3
    go_wp2
    go_ret
    exact ⟨ret_bool (by rw [decide_eq_false (show ¬ (k : Int) + (x.length : Int) ≤ 64 by omega)]; rfl), HB.out⟩
end Go.Proofs.Ytbhhjphgbdaanaa
