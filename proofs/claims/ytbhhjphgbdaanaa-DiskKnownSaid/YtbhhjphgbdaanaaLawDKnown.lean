/-
  What DiskKnown calls and gives.
-/
import Derived.Test.YtbhhjphgbdaanaaLawHands
set_option linter.unusedSimpArgs false
set_option linter.unusedVariables false
namespace Go.Proofs.Ytbhhjphgbdaanaa
open Go.RowKit Go.Maps

theorem rising_one : ∀ {a b : List Int}, Rising a → Rising b → (∀ x, x ∈ a ↔ x ∈ b) → a = b
  | [], [], _, _, _ => rfl
  | [], y :: b, _, _, h => by have := (h y).2 (by simp); cases this
  | x :: a, [], _, _, h => by have := (h x).1 (by simp); cases this
  | x :: a, y :: b, ha, hb, h => by
    unfold Rising at ha hb
    rw [List.pairwise_cons] at ha hb
    have e : x = y := by
      rcases List.mem_cons.1 ((h x).1 (by simp)) with h1 | h1
      · exact h1
      · rcases List.mem_cons.1 ((h y).2 (by simp)) with h2 | h2
        · exact h2.symm
        · have := ha.1 y h2
          have := hb.1 x h1
          omega
    subst e
    have : a = b := rising_one ha.2 hb.2 fun z => by
      constructor
      · intro hz
        rcases List.mem_cons.1 ((h z).1 (List.mem_cons_of_mem _ hz)) with h1 | h1
        · have := ha.1 z hz; omega
        · exact h1
      · intro hz
        rcases List.mem_cons.1 ((h z).2 (List.mem_cons_of_mem _ hz)) with h1 | h1
        · have := hb.1 z hz; omega
        · exact h1
    rw [this]
def kFl : List (List UInt8) := [fullB [1], zeros64, zeros64]
def kC0 : Int → Option (List UInt8) := fun y => if y = 0 then some (fullB [2]) else none
def kC2 : Int → Option (List UInt8) := fun y => if y = 2 then some (fullB [3]) else kC0 y
def kS1 : DSt := ⟨kFl, kC0, 1, false, 3⟩
def kS2 : DSt := ⟨kFl, kC2, 0, false, 4⟩
def kS3 : DSt := ⟨kFl, kC2, 0, true, 4⟩
def kS4 : DSt := (spoilD kS3 2 60 [1, 2, 3, 4]).2
theorem k_flush : ((List.range (List.replicate 3 zeros64).length).map fun i : Nat => ((fun y => if y = 0 then some (fullB [1]) else none) (i : Int)).getD ((List.replicate 3 zeros64).getD i [])) = kFl := by
  simp [kFl, List.range_succ, List.getD_eq_getElem?_getD]
theorem k_write0 : writeD (liveD kFl kC0 3) 3 (fullB [2]) = (1, liveD kFl kC0 3) := by
  unfold writeD
  rw [if_neg (by simp [liveD]), if_neg (by simp [liveD, kFl, thereB])]
theorem k_write1 : writeD (liveD kFl kC0 3) 1 [1] = (1, liveD kFl kC0 3) := by
  unfold writeD
  rw [if_neg (by simp [liveD]), if_neg (by simp)]
theorem k_fuse : fuseD (liveD kFl kC0 3) 1 = kS1 := rfl
theorem k_write2 : writeD kS1 2 (fullB [3]) = (0, kS2) := by
  rw [writeD_ok rfl (k := 2) 2 rfl (by simp [kS1, kFl]) (fullB_len _) (by simp [kS1])]
  rfl
theorem k_flush2 : flushD kS2 = (15, kS3) := by
  unfold flushD
  rw [if_neg (by simp [kS2]), if_pos (by simp [kS2])]
  rfl
theorem k_read : readD kS3 0 = ([], 15) := by
  unfold readD
  rw [if_pos (by simp [kS3])]
theorem k_ca (x : Int) : (kS3.ca x).isSome = true ↔ x = 0 ∨ x = 2 := by
  simp only [kS3, kC2, kC0]
  by_cases h2 : x = 2
  · simp [h2]
  · by_cases h0 : x = 0
    · simp [h0]
    · simp [h0, h2]
theorem k_keys {ks : List Int} (hr : Rising ks) (hm : ∀ x, x ∈ ks ↔ (okInt x ∧ (kS3.ca x).isSome = true)) : ks = [0, 2] := by
  refine rising_one hr (by simp [Rising]) fun x => ?_
  rw [hm x, k_ca]
  simp only [List.mem_cons, List.not_mem_nil, or_false]
  constructor
  · exact fun h => h.2
  · intro h
    refine ⟨?_, h⟩
    unfold okInt
    omega
theorem k_p : crashAt kS3 [43, 1] [0, 2] 0 = afterB (fullB [1]) (fullB [2]) 43 := by
  unfold crashAt
  rw [if_neg (by simp)]
  simp [kS3, kC2, kC0, posK, kFl]
theorem k_q : crashAt kS3 [43, 1] [0, 2] 2 = afterB zeros64 (fullB [3]) 1 := by
  unfold crashAt
  rw [if_neg (by simp)]
  simp [kS3, kC2, kC0, posK, kFl, List.takeWhile_cons]
theorem k_spoil0 : spoilD kS3 2 60 [1, 2, 3, 4, 5] = (false, kS3) := by
  unfold spoilD
  rw [if_neg (by simp)]
theorem k_spoil1 : spoilD kS3 2 60 [1, 2, 3, 4] = (true, kS4) := by
  unfold kS4
  have : (spoilD kS3 2 60 [1, 2, 3, 4]).1 = true := by
    unfold spoilD
    rw [if_pos (by simp [kS3, kFl, thereB])]
  rw [← this]
theorem k_spoil2 : spoilD kS4 (-1) 0 [1] = (false, kS4) := by
  unfold spoilD
  rw [if_neg (by simp [thereB])]
theorem k_u (ks : List Int) : crashAt kS4 [0] ks 2 = lay zeros64 60 [1, 2, 3, 4] := by
  have h4 : kS4 = ⟨kFl.set 2 (lay zeros64 60 [1, 2, 3, 4]), fun y => if y = 2 then (kC2 2).map (fun c => lay c 60 [1, 2, 3, 4]) else kC2 y, 0, true, 4⟩ := by
    unfold kS4 spoilD
    rw [if_pos (by simp [kS3, kFl, thereB])]
    rfl
  rw [crashAt_one, h4]
  simp [kC2, kFl, afterB]
theorem k_s4len : kS4.fl.length = 3 := by
  unfold kS4 spoilD
  rw [if_pos (by simp [kS3, kFl, thereB])]
  simp [kS3, kFl]
theorem k_bytes : (afterB (fullB [1]) (fullB [2]) 43).getD 9 9 = 2 ∧ (afterB (fullB [1]) (fullB [2]) 43).getD 10 9 = 1 ∧ (afterB zeros64 (fullB [3]) 1).getD 0 9 = 3 ∧ (lay zeros64 60 [1, 2, 3, 4]).getD 59 9 = 0 ∧ (lay zeros64 60 [1, 2, 3, 4]).getD 63 9 = 4 := by decide
theorem k_lens : (afterB (fullB [1]) (fullB [2]) 43).length = 64 ∧ (afterB zeros64 (fullB [3]) 1).length = 64 ∧ (lay zeros64 60 [1, 2, 3, 4]).length = 64 := by decide
theorem litN (W : World) (l : List UInt8) (cs : Array Value) (h : cs = (l.map eb).toArray) (k : Nat) (hk : W.heap.size = k) : RB (W.alloc (.cells cs 5)) (some ⟨k, 0, none⟩) l := by subst hk; exact RB.lit W _ _ l cs h
set_option maxRecDepth 100000 in
set_option maxHeartbeats 8000000 in
theorem dknown_walk (w : World) :
    Calls Try.prog 13 #[] w fun e w' => e = .returned (.bool true) ∧ Below w.heap.size w w' := by
  have HBY := Lib.hid k_bytes
  have HLN := Lib.hid k_lens
  have HF : Hid (∀ (x : UInt8) (n : Int) W (k : Nat), n = (x.toNat : Int) → W.heap.size = k → Calls Try.prog 31 #[.slice (some ⟨k, 0, none⟩) 1 1] (W.alloc (.cells #[.int .u8 n] 5)) fun e w' => ∃ A c, e = .returned (.slice A 64 c) ∧ RB w' A (fullB [x]) ∧ Below W.heap.size W w') := Lib.hid fun x n W k hn hk => by
    refine (law4_full _ 1 1 [x] _ rfl (by simp) (lit1' W x n hn k hk)).mono ?_
    rintro e w' ⟨v, rfl, ho, hb⟩
    obtain ⟨A, c, rfl, _, hr⟩ := ho.bytes
    rw [fullB_len]
    exact ⟨A, c, rfl, hr, bn (bal (Below.refl _ _) _) hb⟩
  go_enter Try.func13, Try.ntmps13
  go_wp2_with fail
  (with_reducible refine (law4_awake _).mono ?_)
  rintro e w1 ⟨rfl, hb1⟩
  go_wp2_with fail
  (with_reducible refine (disk_new_no (-1) (.inl (by decide)) _).mono ?_)
  rintro e _ ⟨rfl, rfl⟩
  go_wp2_with fail
  (with_reducible refine (disk_new_no 777 (.inr (by decide)) _).mono ?_)
  rintro e _ ⟨rfl, rfl⟩
  go_wp2_with fail
  (with_reducible refine (live_new hb1 3 3 rfl (by omega)).mono ?_)
  rintro e w2 ⟨g, P, rfl, hd2, _, _⟩
  rw [newD_live] at hd2
  clear hb1
  -- a
  go_wp2_with fail
  (with_reducible refine (HF.out 1 1 w2 _ rfl rfl).mono ?_)
  rintro e w3 ⟨A3, c3, rfl, hr3, hb3⟩
  have hd3 := hd2.below hb3
  clear hd2 hb3
  go_wp2_with fail
  (with_reducible refine (live_write hd3 0 _ 64 c3 (fullB [1]) (fullB_len _) hr3 (by rw [fullB_len]; omega) (by omega) (by simp [liveD]) (write_live (k := 0) 0 rfl (by simp) (fullB_len _))).mono ?_)
  rintro e w4 ⟨rfl, hd4, _⟩
  simp only at hd4
  clear hd3 hr3
  go_wp2_with fail
  (with_reducible refine (live_flush hd4 (by simp [liveD]) (flush_live _ _ _)).mono ?_)
  rintro e w5 ⟨rfl, hd5, _⟩
  simp only at hd5
  rw [k_flush] at hd5
  clear hd4
  go_wp2_with fail
  (with_reducible refine (HF.out 2 2 w5 _ rfl rfl).mono ?_)
  rintro e w6 ⟨A6, c6, rfl, hr6, hb6⟩
  have hd6 := hd5.below hb6
  clear hd5 hb6
  go_wp2_with fail
  (with_reducible refine (live_write hd6 0 _ 64 c6 (fullB [2]) (fullB_len _) hr6 (by rw [fullB_len]; omega) (by omega) (by simp [liveD]) (write_live (k := 0) 0 rfl (by simp [kFl]) (fullB_len _))).mono ?_)
  rintro e w7 ⟨rfl, hd7, _⟩
  simp only at hd7
  have hd7' : Live w w7 g _ _ (liveD kFl kC0 3) := hd7
  clear hd6 hr6 hd7
  go_wp2_with fail
  (with_reducible refine (HF.out 2 2 w7 _ rfl rfl).mono ?_)
  rintro e w8 ⟨A8, c8, rfl, hr8, hb8⟩
  have hd8 := hd7'.below hb8
  clear hd7' hb8
  go_wp2_with fail
  (with_reducible refine (live_write hd8 3 _ 64 c8 (fullB [2]) (fullB_len _) hr8 (by rw [fullB_len]; omega) (by omega) (by simp [liveD]) k_write0).mono ?_)
  rintro e w9 ⟨rfl, hd9, _⟩
  simp only at hd9
  clear hd8 hr8
  go_wp2_with fail
  (with_reducible refine (live_write (hd9.alloc (.cells #[.int .u8 1] 5)) 1 _ 1 1 [1] rfl (lit1' w9 1 1 rfl _ rfl) (by simp) (by omega) (by simp [liveD]) k_write1).mono ?_)
  rintro e w10 ⟨rfl, hd10, _⟩
  simp only at hd10
  clear hd9
  go_wp2_with fail
  (with_reducible refine (live_fuse hd10 1 (by omega) (by omega)).mono ?_)
  rintro e w11 ⟨rfl, hd11, _⟩
  rw [k_fuse] at hd11
  clear hd10
  go_wp2_with fail
  (with_reducible refine (HF.out 3 3 w11 _ rfl rfl).mono ?_)
  rintro e w12 ⟨A12, c12, rfl, hr12, hb12⟩
  have hd12 := hd11.below hb12
  clear hd11 hb12
  go_wp2_with fail
  (with_reducible refine (live_write hd12 2 _ 64 c12 (fullB [3]) (fullB_len _) hr12 (by rw [fullB_len]; omega) (by omega) (by simp [kS1]) k_write2).mono ?_)
  rintro e w13 ⟨rfl, hd13, _⟩
  simp only at hd13
  clear hd12 hr12
  go_wp2_with fail
  (with_reducible refine (live_flush hd13 (by simp [kS2]) k_flush2).mono ?_)
  rintro e w14 ⟨rfl, hd14, _⟩
  simp only at hd14
  clear hd13
  go_wp2_with fail
  (with_reducible refine (live_read hd14 0 k_read).mono ?_)
  rintro e w15 ⟨v15, rfl, _, hb15⟩
  have hd15 := hd14.below hb15
  clear hd14 hb15
  -- x
  go_wp2_with fail
  (with_reducible refine (live_crash (hd15.alloc (.cells #[.int .u8 43, .int .u8 1] 5)) _ 2 2 [43, 1] rfl (by simp) (litN w15 [43, 1] #[.int .u8 43, .int .u8 1] rfl _ rfl) (by omega)).mono ?_)
  rintro e w16 ⟨g16, ks, P16, rfl, hri, hks, hx16, hP16, hb16⟩
  obtain rfl := k_keys hri hks
  have hd16 := (hd15.alloc (.cells #[.int .u8 43, .int .u8 1] 5)).below hb16
  have hPl := Lib.hid hd16.disk.lt
  generalize (Grow (Grow (Grow (Grow (Grow P w3 w4) w6 w7) w8 w9) (w9.alloc (.cells #[.int .u8 1] 5)) w10) w12 w13) = PP at *
  clear hd15 hb16 hri hks
  go_wp2_with fail
  (with_reducible refine (live_read hx16 0 (r := (afterB (fullB [1]) (fullB [2]) 43, 0)) (by rw [readD_crash [43, 1] [0, 2] (k := 0) 0 rfl (by simp [kS3, kFl]), k_p])).mono ?_)
  rintro e w17 ⟨v17, rfl, ho17, hb17⟩
  obtain ⟨A17, c17, rfl, _, hr17⟩ := ho17.bytes
  have hd17 := hd16.below hb17
  have hx17 := hx16.below hb17
  rw [HLN.out.1] at ho17 ⊢
  have hz167 := hb17.size
  clear hd16 hx16 hb17
  go_wp2_with fail
  (with_reducible refine (live_read hx17 2 (r := (afterB zeros64 (fullB [3]) 1, 0)) (by rw [readD_crash [43, 1] [0, 2] (k := 2) 2 rfl (by simp [kS3, kFl]), k_q])).mono ?_)
  rintro e w18 ⟨v18, rfl, ho18, hb18⟩
  obtain ⟨A18, c18, rfl, _, hr18⟩ := ho18.bytes
  have hd18 := hd17.below hb18
  have hr178 := hr17.below hb18
  have hA17 := Lib.hid (own_len_lt ho17)
  rw [HLN.out.2.1] at ho18 ⊢
  have hA18 := Lib.hid (own_len_lt ho18)
  have hz16 := hd18.bel.size
  have hz178 := hb18.size
  clear hd17 hx17 hb18 hr17
  -- the spoils
  go_wp2_with fail
  (with_reducible refine (live_spoil (hd18.alloc (.cells #[.int .u8 1, .int .u8 2, .int .u8 3, .int .u8 4, .int .u8 5] 5)) 2 60 _ 5 5 [1, 2, 3, 4, 5] (by omega) (by omega) rfl (litN w18 [1, 2, 3, 4, 5] #[.int .u8 1, .int .u8 2, .int .u8 3, .int .u8 4, .int .u8 5] rfl _ rfl) (by simp) (fun ad e f => by cases e; have := hPl.out _ f; simp only at this; omega) k_spoil0).mono ?_)
  rintro e w19 ⟨rfl, hd19, hk19⟩
  simp only at hd19
  have hr19p := (hr178.below (bal (Below.refl _ _) _)).kp hk19 fun ad e f => by have := hPl.out _ f; have := hA17.out ad e; omega
  have hr19q := (hr18.below (bal (Below.refl _ _) _)).kp hk19 fun ad e f => by have := hPl.out _ f; have := hA18.out ad e; omega
  have hz19 := hk19.size
  rw [size_more'] at hz19
  clear hd18 hk19 hr178 hr18
  go_wp2_with fail
  (with_reducible refine (live_spoil (hd19.alloc (.cells #[.int .u8 1, .int .u8 2, .int .u8 3, .int .u8 4] 5)) 2 60 _ 4 4 [1, 2, 3, 4] (by omega) (by omega) rfl (litN w19 [1, 2, 3, 4] #[.int .u8 1, .int .u8 2, .int .u8 3, .int .u8 4] rfl _ rfl) (by simp) (fun ad e f => by cases e; have := hPl.out _ f; simp only at this; omega) k_spoil1).mono ?_)
  rintro e w20 ⟨rfl, hd20, hk20⟩
  simp only at hd20
  have hr20p := (hr19p.below (bal (Below.refl _ _) _)).kp hk20 fun ad e f => by have := hPl.out _ f; have := hA17.out ad e; omega
  have hr20q := (hr19q.below (bal (Below.refl _ _) _)).kp hk20 fun ad e f => by have := hPl.out _ f; have := hA18.out ad e; omega
  have hz20 := hk20.size
  rw [size_more'] at hz20
  clear hd19 hk20 hr19p hr19q
  go_wp2_with fail
  (with_reducible refine (live_spoil (hd20.alloc (.cells #[.int .u8 1] 5)) (-1) 0 _ 1 1 [1] (by omega) (by omega) rfl (litN w20 [1] #[.int .u8 1] rfl _ rfl) (by simp) (fun ad e f => by cases e; have := hPl.out _ f; simp only at this; omega) k_spoil2).mono ?_)
  rintro e w21 ⟨rfl, hd21, hk21⟩
  simp only at hd21
  have hr21p := (hr20p.below (bal (Below.refl _ _) _)).kp hk21 fun ad e f => by have := hPl.out _ f; have := hA17.out ad e; omega
  have hr21q := (hr20q.below (bal (Below.refl _ _) _)).kp hk21 fun ad e f => by have := hPl.out _ f; have := hA18.out ad e; omega
  clear hd20 hk21 hr20p hr20q
  -- y
  go_wp2_with fail
  (with_reducible refine (live_crash (hd21.alloc (.cells #[.int .u8 0] 5)) _ 1 1 [0] rfl (by simp) (lit1' w21 0 0 rfl _ rfl) (by omega)).mono ?_)
  rintro e w22 ⟨g22, ks22, P22, rfl, _, _, hy22, _, hb22⟩
  have hd22 := (hd21.alloc (.cells #[.int .u8 0] 5)).below hb22
  have hr22p := (hr21p.below (bal (Below.refl _ _) _)).below hb22
  have hr22q := (hr21q.below (bal (Below.refl _ _) _)).below hb22
  clear hd21 hb22 hr21p hr21q
  go_wp2_with fail
  (with_reducible refine (live_read hy22 2 (r := (lay zeros64 60 [1, 2, 3, 4], 0)) (by rw [readD_crash [0] ks22 (k := 2) 2 rfl (by rw [k_s4len]; omega), k_u])).mono ?_)
  rintro e w23 ⟨v23, rfl, ho23, hb23⟩
  obtain ⟨A23, c23, rfl, _, hr23⟩ := ho23.bytes
  have hd23 := hd22.below hb23
  have hy23 := hy22.below hb23
  rw [HLN.out.2.2] at ho23 ⊢
  obtain ⟨b17, o17, rfl, x9⟩ := (hr22p.below hb23).byte 9 (by rw [HLN.out.1]; omega) _ HBY.out.1
  obtain ⟨b17', o17', e17, x10⟩ := (hr22p.below hb23).byte 10 (by rw [HLN.out.1]; omega) _ HBY.out.2.1
  cases e17
  obtain ⟨b18, o18, rfl, x0⟩ := (hr22q.below hb23).byte 0 (by rw [HLN.out.2.1]; omega) _ HBY.out.2.2.1
  obtain ⟨b23, o23, rfl, x59⟩ := hr23.byte 59 (by rw [HLN.out.2.2]; omega) _ HBY.out.2.2.2.1
  obtain ⟨b23', o23', e23, x63⟩ := hr23.byte 63 (by rw [HLN.out.2.2]; omega) _ HBY.out.2.2.2.2
  cases e23
  have q9 : w23.cell? ⟨b17, o17 + 9, none⟩ = some (.int .u8 2) := x9
  have q10 : w23.cell? ⟨b17, o17 + 10, none⟩ = some (.int .u8 1) := x10
  have q0 : w23.cell? ⟨b18, o18, none⟩ = some (.int .u8 3) := x0
  have q59 : w23.cell? ⟨b23, o23 + 59, none⟩ = some (.int .u8 0) := x59
  have q63 : w23.cell? ⟨b23, o23 + 63, none⟩ = some (.int .u8 4) := x63
  have hdead : kS4.dead = true := by unfold kS4 spoilD; rw [if_pos (by simp [kS3, kFl, thereB])]; rfl
  have hops : kS4.ops = 4 := by unfold kS4 spoilD; rw [if_pos (by simp [kS3, kFl, thereB])]; rfl
  have HD := Lib.hid hdead
  have HO := Lib.hid hops
  have HB := Lib.hid hd23.bel
  clear x9 x10 x0 x59 x63 hdead hops hr22p hr22q hr23 ho23 hb23 hd22 hy22 hA17 hA18 hPl hz16 hz178 hz167 hz19 hz20
  go_wp2_with fail
  (with_reducible refine (live_dead hd23).mono ?_)
  rintro e _ ⟨rfl, rfl⟩
  rw [HD.out]
  go_wp2_with fail
  (with_reducible refine (live_ops hd23).mono ?_)
  rintro e _ ⟨rfl, rfl⟩
  rw [HO.out]
  go_wp2_with fail
  (with_reducible refine (live_dead hy23).mono ?_)
  rintro e _ ⟨rfl, rfl⟩
  simp only [crashD]
  go_wp2_with fail
  (with_reducible refine (live_ops hy23).mono ?_)
  rintro e _ ⟨rfl, rfl⟩
  simp only [crashD]
  go_wp2
  go_ret
  exact ⟨rfl, HB.out⟩
end Go.Proofs.Ytbhhjphgbdaanaa
