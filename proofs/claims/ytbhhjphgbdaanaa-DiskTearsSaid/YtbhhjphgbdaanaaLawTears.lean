/-
  What DiskTears calls and gives.
-/
import Derived.Test.YtbhhjphgbdaanaaLawHands
set_option linter.unusedSimpArgs false
set_option linter.unusedVariables false
namespace Go.Proofs.Ytbhhjphgbdaanaa
open Go.RowKit Go.Maps

/-- where a sector tears -/
def tearK (c : Nat) : Nat := if c % 4 = 1 then 64 else if c % 4 = 3 then c / 4 else 0
theorem tear_says (old b : List UInt8) (c : Nat) (h0 : old.length = 64) (h1 : b.length = 64) (hc : c < 256) : afterB old b c = b.take (tearK c) ++ old.drop (tearK c) := by
  unfold afterB tearK
  split
  · rw [List.take_of_length_le (by omega), List.drop_eq_nil_of_le (by omega), List.append_nil]
  · split
    · unfold lay
      rw [List.take_zero, List.nil_append, List.length_take, h1, Nat.zero_add, Nat.min_eq_left (by omega)]
    · simp
theorem tearK_le (c : Nat) (hc : c < 256) : tearK c ≤ 64 := by
  unfold tearK
  split
  · omega
  · split <;> omega
theorem cutF (A : Option Addr) (c k : Nat) (kz : Int) (hkz : kz = (k : Int)) (hk : k ≤ 64) (hc : 64 ≤ c) :
    ∃ A' : Option Addr, (∀ W : World, (Instr.slice 35 (.slice A 64 c) (some (.int .i64 kz)) none none).run Try.prog W = .ok (.slice A' (64 - k) (c - k)) W) ∧ ∀ (W : World) (l : List UInt8), l.length = 64 → RB W A l → RB W A' (l.drop k) := by
  subst hkz
  obtain ⟨A', h1, h2, _⟩ := cut_from (P := Try.prog) 35 5 Try.underlying35 size_u8 A 64 c (k : Int) (by omega) (by omega)
  refine ⟨A', h1, fun W l hl h => ?_⟩
  have := h2 W (l.map eb) (by rw [List.length_map]; omega) h
  rw [← List.map_drop] at this
  exact this
theorem cutT (A : Option Addr) (c k : Nat) (kz : Int) (hkz : kz = (k : Int)) (hk : k ≤ c) (W : World) : (Instr.slice 35 (.slice A 64 c) none (some (.int .i64 kz)) none).run Try.prog W = .ok (.slice A k c) W := by
  subst hkz
  exact cut_to (P := Try.prog) 35 5 Try.underlying35 size_u8 A 64 c (k : Int) (by omega) (by omega) W
theorem and_three : ∀ n : Fin 256, bits .and .u8 (n.val : Int) 3 = ((n.val % 4 : Nat) : Int) := by decide +kernel
set_option maxRecDepth 100000 in
set_option maxHeartbeats 8000000 in
theorem tears_walk (A0 : Option Addr) (m0 c0 : Nat) (a : List UInt8) (hm0 : a.length = m0) (A1 : Option Addr) (m1 c1 : Nat) (b : List UInt8) (hm1 : b.length = m1) (x : UInt8) (w : World) (hb0 : m0 ≤ 9223372036854775807) (hb1 : m1 ≤ 9223372036854775807) (hr0 : RB w A0 a) (hr1 : RB w A1 b) :
    Calls Try.prog 9 #[.slice A0 m0 c0, .slice A1 m1 c1, .int .u8 (x.toNat : Int)] w fun e w' => e = .returned (.bool true) ∧ Below w.heap.size w w' := by
  subst hm0 hm1
  by_cases c5 : (100 : Int) < (a.length : Int)
  · go_enter Try.func9, Try.ntmps9
    go_wp2_with fail
    (with_reducible refine (law4_awake _).mono ?_)
    rintro e w1 ⟨rfl, hb1⟩
    go_wp2
    go_ret
    exact ⟨rfl, hb1⟩
  by_cases c6 : (100 : Int) < (b.length : Int)
  · go_enter Try.func9, Try.ntmps9
    go_wp2_with fail
    (with_reducible refine (law4_awake _).mono ?_)
    rintro e w1 ⟨rfl, hb1⟩
    go_wp2
    go_ret
    exact ⟨rfl, hb1⟩
  have HA := Lib.hid fun W (hb : Below w.heap.size w W) => law4_full A0 a.length c0 a W rfl hb0 (hr0.below hb)
  have HB := Lib.hid fun W (hb : Below w.heap.size w W) => law4_full A1 b.length c1 b W rfl hb1 (hr1.below hb)
  have hFa := fullB_len a
  have hFb := fullB_len b
  generalize fullB a = fa at *
  generalize fullB b = fb at *
  have HFa := Lib.hid hFa
  have HFb := Lib.hid hFb
  have hx := x.toNat_lt
  have HTEAR := Lib.hid (tear_says fa fb x.toNat hFa hFb hx)
  have HAL := Lib.hid (afterB_len hFa hFb x.toNat hx)
  have hkle := tearK_le x.toNat hx
  clear hr0 hr1 hFa hFb
  go_enter Try.func9, Try.ntmps9
  go_wp2_with fail
  (with_reducible refine (law4_awake _).mono ?_)
  rintro e w1 ⟨rfl, hb1⟩
  go_wp2_with fail
  (with_reducible refine (live_new hb1 1 1 rfl (by omega)).mono ?_)
  rintro e w2 ⟨g, P, rfl, hd2, _, _⟩
  rw [newD_live] at hd2
  clear hb1
  go_wp2_with fail
  (with_reducible refine (HA.out _ hd2.bel).mono ?_)
  rintro e w3 ⟨v3, rfl, ho3, hb3⟩
  obtain ⟨A3, c3, rfl, _, hr3⟩ := ho3.bytes
  rw [HFa.out]
  have hd3 := hd2.below hb3
  clear hd2 hb3 ho3
  go_wp2_with fail
  (with_reducible refine (live_write hd3 0 _ 64 c3 fa HFa.out hr3 (by rw [HFa.out]; omega) (by omega) (by simp [liveD]) (write_live (k := 0) 0 rfl (by simp) HFa.out)).mono ?_)
  rintro e w4 ⟨rfl, hd4, _⟩
  simp only at hd4
  clear hd3 hr3
  go_wp2_with fail
  (with_reducible refine (live_flush hd4 (by simp [liveD]) (flush_live _ _ _)).mono ?_)
  rintro e w5 ⟨rfl, hd5, _⟩
  simp only at hd5
  have hfl : ((List.range (List.replicate 1 zeros64).length).map fun i : Nat => ((fun y => if y = 0 then some fa else none) (i : Int)).getD ((List.replicate 1 zeros64).getD i [])) = [fa] := by simp
  rw [hfl] at hd5
  clear hd4 hfl
  go_wp2_with fail
  (with_reducible refine (HB.out _ hd5.bel).mono ?_)
  rintro e w6 ⟨v6, rfl, ho6, hb6⟩
  obtain ⟨A6, c6', rfl, _, hr6⟩ := ho6.bytes
  rw [HFb.out]
  have hd6 := hd5.below hb6
  clear hd5 hb6 ho6
  go_wp2_with fail
  (with_reducible refine (live_write hd6 0 _ 64 c6' fb HFb.out hr6 (by rw [HFb.out]; omega) (by omega) (by simp [liveD]) (write_live (k := 0) 0 rfl (by simp) HFb.out)).mono ?_)
  rintro e w7 ⟨rfl, hd7, _⟩
  simp only at hd7
  clear hd6 hr6
  go_wp2_with fail
  (with_reducible refine (live_crash (hd7.alloc (.cells #[.int .u8 (x.toNat : Int)] 5)) _ 1 1 [x] rfl (by simp) (lit1 w7 x _ rfl) (by omega)).mono ?_)
  rintro e w8 ⟨g8, ks, P8, rfl, _, _, hc8, _, hb8⟩
  have hce : crashAt (liveD [fa] (fun y => if y = 0 then some fb else none) (0 + 1 + 1 + 1)) [x] ks 0 = afterB fa fb x.toNat := by
    rw [crashAt_one]
    simp [liveD]
  go_wp2_with fail
  (with_reducible refine (live_read hc8 0 (r := (afterB fa fb x.toNat, 0)) (by rw [readD_crash [x] ks (k := 0) 0 rfl (by simp [liveD]), hce])).mono ?_)
  rintro e w9 ⟨v9, rfl, ho9, hb9⟩
  obtain ⟨A9, c9, rfl, _, hr9⟩ := ho9.bytes
  rw [HAL.out]
  have hbw := (hc8.below hb9).bel
  have HBW := Lib.hid hbw
  have HR9 := Lib.hid hr9
  clear hc8 hb8 hb9 ho9 hd7 hce hr9 hbw
  generalize hxn : x.toNat = n at *
  have h3 := and_three ⟨n, hx⟩
  simp only at h3
  have HFIN : Hid (∀ (k : Nat), tearK n = k → afterB fa fb n = fb.take k ++ fa.drop k ∧ k ≤ 64) := Lib.hid fun k hk => by rw [← hk]; exact ⟨HTEAR.out, hkle⟩
  have HCV := Lib.hid fun W (A : Option Addr) (c : Nat) (h : RB W A (afterB fa fb n)) => run_str_try W A c 64 (afterB fa fb n) HAL.out h
  generalize afterB fa fb n = rs at *
  have HN := Lib.hid hxn
  rcases (show n % 4 = 1 ∨ n % 4 = 3 ∨ (n % 4 ≠ 1 ∧ n % 4 ≠ 3) by omega) with hr | hr | ⟨hr, hr'⟩
  · have q1 : (bits .and .u8 (n : Int) 3 == 1) = true := by rw [h3, hr]; rfl
    have hfin := HFIN.out (64) (by unfold tearK; rw [if_pos hr])
    have hk64 := hfin.2
    have hkz : (64 : Int) = ((64 : Nat) : Int) := by omega
    have HKZ := Lib.hid hkz
    obtain ⟨T1, hT1⟩ : ∃ T1, T1 = fb.take (64) := ⟨_, rfl⟩
    obtain ⟨T2, hT2⟩ : ∃ T2, T2 = fa.drop (64) := ⟨_, rfl⟩
    have hkl : T1.length = 64 := by rw [hT1, List.length_take, HFb.out]; omega
    have hdl : T2.length = 64 - (64) := by rw [hT2, List.length_drop, HFa.out]
    have HE := Lib.hid hfin.1
    rw [← hT1, ← hT2] at HE
    have HC1 := Lib.hid fun W (A : Option Addr) (c : Nat) (h : RB W A fb) => run_str_try W A c (64) T1 hkl (by rw [hT1]; exact h.take (64))
    have HC2 := Lib.hid fun W (A : Option Addr) (c : Nat) (h : RB W A (fa.drop (64))) => run_str_try W A c (64 - (64)) T2 hdl (by rw [hT2]; exact h)
    have HF : Hid (∀ (A : Option Addr) (c : Nat), 64 ≤ c → ∃ A' : Option Addr, (∀ W : World, (Instr.slice 35 (.slice A 64 c) (some (.int .i64 (64 : Int))) none none).run Try.prog W = .ok (.slice A' (64 - (64)) (c - (64))) W) ∧ ∀ (W : World) (l : List UInt8), l.length = 64 → RB W A l → RB W A' (l.drop (64))) := Lib.hid fun A c hc => cutF A c (64) (64 : Int) HKZ.out hk64 hc
    have HT := Lib.hid fun (A : Option Addr) (c : Nat) (hc : 64 ≤ c) => fun W => cutT A c (64) (64 : Int) HKZ.out (Nat.le_trans hk64 hc) W
    have hl1 : T1.length ≤ 64 := by omega
    have hl2 : T2.length ≤ 64 := by omega
    clear hfin HFIN HTEAR h3 hkz hkl hdl hT1 hT2
    go_wp2_with fail
    go_cut [12] (fun s12 wx => s12 = .string ⟨(T1 ++ T2).toArray⟩ ∧ Below w9.heap.size w9 wx)
    case first =>
      have hk : Below w9.heap.size w9 w9.drew := bdr (Below.refl _ _)
      go_region_held (fun W => True) (exact trivial) (first
        | (go_at_call 31; (with_reducible refine (HB.out _ (bn HBW.out hk)).mono ?_); rintro e w' ⟨v', rfl, ho', hb'⟩; obtain ⟨A', c', rfl, hcc', hr'⟩ := ho'.bytes; rw [HFb.out] at hcc' ⊢; have q1 := HC1.out w' _ c' hr'; have q1s := HT.out A' c' hcc'; (try (have q2 := HC2.out w' _ (c'' - (64)) (q2r w' fa HFa.out (hr2.below hb')))); replace hk := bn hk hb'; clear ho' hb')
        | (go_at_call 31; (with_reducible refine (HA.out _ (bn HBW.out hk)).mono ?_); rintro e w' ⟨v', rfl, ho', hb'⟩; obtain ⟨A'', c'', rfl, hcc'', hr2⟩ := ho'.bytes; rw [HFa.out] at hcc'' ⊢; obtain ⟨B'', q2s, q2r⟩ := HF.out A'' c'' hcc''; have q2 := HC2.out w' _ (c'' - (64)) (q2r w' fa HFa.out hr2); (try (have q1 := HC1.out w' _ c' (hr'.below hb'))); replace hk := bn hk hb'; clear ho' hb'))
      all_goals
        go_wp2_with fail
        go_meet
        exact ⟨by first | rfl | (rw [ByteArray.mk_append_mk]; simp), hk⟩
    case rest =>
      obtain ⟨rfl, hk⟩ := hcut
      have hcv := HCV.out wc A9 c9 (HR9.out.below hk)
      rw [← HE.out] at *
      have hbeq : ((⟨rs.toArray⟩ : ByteArray).toList == (⟨rs.toArray⟩ : ByteArray).toList) = true := beq_iff_eq.2 rfl
      generalize (⟨rs.toArray⟩ : ByteArray) = sr at *
      clear HA HB HC1 HC2 HF HT HR9
      go_wp2_with fail
      go_ret
      exact ⟨rfl, bn HBW.out hk⟩
  · have q1 : (bits .and .u8 (n : Int) 3 == 1) = false := by rw [h3, hr]; rfl
    have q3 : (bits .and .u8 (n : Int) 3 == 3) = true := by rw [h3, hr]; rfl
    have hfin := HFIN.out (n / 4) (by unfold tearK; rw [if_neg (by omega), if_pos hr])
    have hk64 := hfin.2
    have hkz : ((n : Int) / 4) = ((n / 4 : Nat) : Int) := by omega
    have HKZ := Lib.hid hkz
    obtain ⟨T1, hT1⟩ : ∃ T1, T1 = fb.take (n / 4) := ⟨_, rfl⟩
    obtain ⟨T2, hT2⟩ : ∃ T2, T2 = fa.drop (n / 4) := ⟨_, rfl⟩
    have hkl : T1.length = n / 4 := by rw [hT1, List.length_take, HFb.out]; omega
    have hdl : T2.length = 64 - (n / 4) := by rw [hT2, List.length_drop, HFa.out]
    have HE := Lib.hid hfin.1
    rw [← hT1, ← hT2] at HE
    have HC1 := Lib.hid fun W (A : Option Addr) (c : Nat) (h : RB W A fb) => run_str_try W A c (n / 4) T1 hkl (by rw [hT1]; exact h.take (n / 4))
    have HC2 := Lib.hid fun W (A : Option Addr) (c : Nat) (h : RB W A (fa.drop (n / 4))) => run_str_try W A c (64 - (n / 4)) T2 hdl (by rw [hT2]; exact h)
    have HF : Hid (∀ (A : Option Addr) (c : Nat), 64 ≤ c → ∃ A' : Option Addr, (∀ W : World, (Instr.slice 35 (.slice A 64 c) (some (.int .i64 ((n : Int) / 4))) none none).run Try.prog W = .ok (.slice A' (64 - (n / 4)) (c - (n / 4))) W) ∧ ∀ (W : World) (l : List UInt8), l.length = 64 → RB W A l → RB W A' (l.drop (n / 4))) := Lib.hid fun A c hc => cutF A c (n / 4) ((n : Int) / 4) HKZ.out hk64 hc
    have HT := Lib.hid fun (A : Option Addr) (c : Nat) (hc : 64 ≤ c) => fun W => cutT A c (n / 4) ((n : Int) / 4) HKZ.out (Nat.le_trans hk64 hc) W
    have hl1 : T1.length ≤ 64 := by omega
    have hl2 : T2.length ≤ 64 := by omega
    clear hfin HFIN HTEAR h3 hkz hkl hdl hT1 hT2
    go_wp2_with fail
    go_cut [12] (fun s12 wx => s12 = .string ⟨(T1 ++ T2).toArray⟩ ∧ Below w9.heap.size w9 wx)
    case first =>
      have hk : Below w9.heap.size w9 w9.drew := bdr (Below.refl _ _)
      go_region_held (fun W => True) (exact trivial) (first
        | (go_at_call 31; (with_reducible refine (HB.out _ (bn HBW.out hk)).mono ?_); rintro e w' ⟨v', rfl, ho', hb'⟩; obtain ⟨A', c', rfl, hcc', hr'⟩ := ho'.bytes; rw [HFb.out] at hcc' ⊢; have q1 := HC1.out w' _ c' hr'; have q1s := HT.out A' c' hcc'; (try (have q2 := HC2.out w' _ (c'' - (n / 4)) (q2r w' fa HFa.out (hr2.below hb')))); replace hk := bn hk hb'; clear ho' hb')
        | (go_at_call 31; (with_reducible refine (HA.out _ (bn HBW.out hk)).mono ?_); rintro e w' ⟨v', rfl, ho', hb'⟩; obtain ⟨A'', c'', rfl, hcc'', hr2⟩ := ho'.bytes; rw [HFa.out] at hcc'' ⊢; obtain ⟨B'', q2s, q2r⟩ := HF.out A'' c'' hcc''; have q2 := HC2.out w' _ (c'' - (n / 4)) (q2r w' fa HFa.out hr2); (try (have q1 := HC1.out w' _ c' (hr'.below hb'))); replace hk := bn hk hb'; clear ho' hb'))
      all_goals
        go_wp2_with fail
        go_meet
        exact ⟨by first | rfl | (rw [ByteArray.mk_append_mk]; simp), hk⟩
    case rest =>
      obtain ⟨rfl, hk⟩ := hcut
      have hcv := HCV.out wc A9 c9 (HR9.out.below hk)
      rw [← HE.out] at *
      have hbeq : ((⟨rs.toArray⟩ : ByteArray).toList == (⟨rs.toArray⟩ : ByteArray).toList) = true := beq_iff_eq.2 rfl
      generalize (⟨rs.toArray⟩ : ByteArray) = sr at *
      clear HA HB HC1 HC2 HF HT HR9
      go_wp2_with fail
      go_ret
      exact ⟨rfl, bn HBW.out hk⟩
  · have q1 : (bits .and .u8 (n : Int) 3 == 1) = false := by rw [h3]; exact beq_eq_false_iff_ne.2 (by omega)
    have q3 : (bits .and .u8 (n : Int) 3 == 3) = false := by rw [h3]; exact beq_eq_false_iff_ne.2 (by omega)
    have hfin := HFIN.out (0) (by unfold tearK; rw [if_neg hr, if_neg hr'])
    have hk64 := hfin.2
    have hkz : (0 : Int) = ((0 : Nat) : Int) := by omega
    have HKZ := Lib.hid hkz
    obtain ⟨T1, hT1⟩ : ∃ T1, T1 = fb.take (0) := ⟨_, rfl⟩
    obtain ⟨T2, hT2⟩ : ∃ T2, T2 = fa.drop (0) := ⟨_, rfl⟩
    have hkl : T1.length = 0 := by rw [hT1, List.length_take, HFb.out]; omega
    have hdl : T2.length = 64 := by rw [hT2, List.length_drop, HFa.out]
    have HE := Lib.hid hfin.1
    rw [← hT1, ← hT2] at HE
    have HC1 := Lib.hid fun W (A : Option Addr) (c : Nat) (h : RB W A fb) => run_str_try W A c (0) T1 hkl (by rw [hT1]; exact h.take (0))
    have HC2 := Lib.hid fun W (A : Option Addr) (c : Nat) (h : RB W A (fa.drop (0))) => run_str_try W A c (64) T2 hdl (by rw [hT2]; exact h)
    have HF : Hid (∀ (A : Option Addr) (c : Nat), 64 ≤ c → ∃ A' : Option Addr, (∀ W : World, (Instr.slice 35 (.slice A 64 c) (some (.int .i64 (0 : Int))) none none).run Try.prog W = .ok (.slice A' (64) (c)) W) ∧ ∀ (W : World) (l : List UInt8), l.length = 64 → RB W A l → RB W A' (l.drop (0))) := Lib.hid fun A c hc => cutF A c (0) (0 : Int) HKZ.out hk64 hc
    have HT := Lib.hid fun (A : Option Addr) (c : Nat) (hc : 64 ≤ c) => fun W => cutT A c (0) (0 : Int) HKZ.out (Nat.le_trans hk64 hc) W
    have hl1 : T1.length ≤ 64 := by omega
    have hl2 : T2.length ≤ 64 := by omega
    clear hfin HFIN HTEAR h3 hkz hkl hdl hT1 hT2
    go_wp2_with fail
    go_cut [12] (fun s12 wx => s12 = .string ⟨(T1 ++ T2).toArray⟩ ∧ Below w9.heap.size w9 wx)
    case first =>
      have hk : Below w9.heap.size w9 w9.drew := bdr (Below.refl _ _)
      go_region_held (fun W => True) (exact trivial) (first
        | (go_at_call 31; (with_reducible refine (HB.out _ (bn HBW.out hk)).mono ?_); rintro e w' ⟨v', rfl, ho', hb'⟩; obtain ⟨A', c', rfl, hcc', hr'⟩ := ho'.bytes; rw [HFb.out] at hcc' ⊢; have q1 := HC1.out w' _ c' hr'; have q1s := HT.out A' c' hcc'; (try (have q2 := HC2.out w' _ (c'') (q2r w' fa HFa.out (hr2.below hb')))); replace hk := bn hk hb'; clear ho' hb')
        | (go_at_call 31; (with_reducible refine (HA.out _ (bn HBW.out hk)).mono ?_); rintro e w' ⟨v', rfl, ho', hb'⟩; obtain ⟨A'', c'', rfl, hcc'', hr2⟩ := ho'.bytes; rw [HFa.out] at hcc'' ⊢; obtain ⟨B'', q2s, q2r⟩ := HF.out A'' c'' hcc''; have q2 := HC2.out w' _ (c'') (q2r w' fa HFa.out hr2); (try (have q1 := HC1.out w' _ c' (hr'.below hb'))); replace hk := bn hk hb'; clear ho' hb'))
      all_goals
        go_wp2_with fail
        go_meet
        exact ⟨by first | rfl | (rw [ByteArray.mk_append_mk]; simp), hk⟩
    case rest =>
      obtain ⟨rfl, hk⟩ := hcut
      have hcv := HCV.out wc A9 c9 (HR9.out.below hk)
      rw [← HE.out] at *
      have hbeq : ((⟨rs.toArray⟩ : ByteArray).toList == (⟨rs.toArray⟩ : ByteArray).toList) = true := beq_iff_eq.2 rfl
      generalize (⟨rs.toArray⟩ : ByteArray) = sr at *
      clear HA HB HC1 HC2 HF HT HR9
      go_wp2_with fail
      go_ret
      exact ⟨rfl, bn HBW.out hk⟩
end Go.Proofs.Ytbhhjphgbdaanaa
