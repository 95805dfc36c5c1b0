/-
  What PenReads calls and gives.
-/
import Derived.Test.YtlgkcpgbmobacaaLaw2
import Derived.Test.YtlgkcpgbmobacaaREye2
set_option linter.unusedSimpArgs false
set_option linter.unusedVariables false
namespace Go.Proofs.Ytlgkcpgbmobacaa
open Go.RowKit

theorem REyeAt.below {w w' : World} {g : Nat} {st : Option (List UInt8)} (h : REyeAt w g st) (hb : Below w.heap.size w w') : REyeAt w' g st := by
  obtain ⟨A, n, c, h1, h2⟩ := h
  refine ⟨A, n, c, h1.below hb, fun l e => ?_⟩
  obtain ⟨k1, k2, k3⟩ := h2 l e
  exact ⟨k1, k2, k3.below hb⟩

set_option maxRecDepth 100000 in
set_option maxHeartbeats 4000000 in
theorem preads_walk (A0 : Option Addr) (m0 c0 : Nat) (l0 : List UInt8) (hm0 : l0.length = m0) (hc0 : m0 ≤ c0) (A1 : Option Addr) (m1 c1 : Nat) (l1 : List UInt8) (hm1 : l1.length = m1) (hc1 : m1 ≤ c1) (w : World) (hr0 : RB w A0 l0) (hr1 : RB w A1 l1) :
    Calls Try.prog 5 #[.slice A0 m0 c0, .slice A1 m1 c1] w fun e w' => e = .returned (.bool true) ∧ Below w.heap.size w w' := by
  subst hm0 hm1
  by_cases hs0 : (3000 : Int) < (l0.length : Int)
  · go_enter Try.func5, Try.ntmps5
    go_wp2_with fail
    refine (law2_awake _).mono ?_
    rintro e w1 ⟨rfl, hb1⟩
    go_wp2
    go_ret
    exact ⟨rfl, hb1⟩
  · by_cases hs1 : (100 : Int) < (l1.length : Int)
    · go_enter Try.func5, Try.ntmps5
      go_wp2_with fail
      refine (law2_awake _).mono ?_
      rintro e w1 ⟨rfl, hb1⟩
      go_wp2
      go_ret
      exact ⟨rfl, hb1⟩
    · go_enter Try.func5, Try.ntmps5
      go_wp2_with fail
      refine (law2_awake _).mono ?_
      rintro e w1 ⟨rfl, hb1⟩
      go_wp2_with fail
      refine (eye_new A0 l0.length c0 l0 _ rfl (by omega) (hr0.below hb1)).mono ?_
      rintro e w2 ⟨g, rfl, hg, he2, hb2⟩
      have hb02 := bn hb1 hb2
      have hz1 := hb1.size
      have hz2 := hb2.size
      have hB := Blk.new w2 42 #[.slice A0 l0.length c0, .bool false]
      have hm3 : REyeAt (w2.alloc (.cells #[.slice A0 l0.length c0, .bool false] 42)) w2.heap.size (some l0) :=
        ⟨A0, l0.length, c0, hB, fun l' e => by cases e; exact ⟨rfl, hc0, (hr0.below hb02).below (bal (Below.refl _ _) _)⟩⟩
      have he3 : EyeAt (w2.alloc (.cells #[.slice A0 l0.length c0, .bool false] 42)) g (some l0) := he2.keep (bal (Below.refl _ _) _)
      have hg2 : g < w2.heap.size := he2.lt
      have hb03 : Below w.heap.size w (w2.alloc (.cells #[.slice A0 l0.length c0, .bool false] 42)) := bal hb02 _
      clear hB
      go_wp2
      generalize hG : w2.heap.size = gm at *
      generalize (w2.alloc (.cells #[.slice A0 l0.length c0, .bool false] 42)) = w3 at *
      have hne : g ≠ gm := by omega
      have hgw : w.heap.size ≤ g := by omega
      have hgmw : w.heap.size ≤ gm := by omega
      clear hG hb2 hb02 hz1 hz2 he2
      go_loopw [7] (fun i wr => ∃ (k : Nat) (st : Option (List UInt8)), k ≤ l1.length ∧ i = .int .i64 (k : Int) ∧ EyeAt wr g st ∧ REyeAt wr gm st ∧ Below w.heap.size w wr) (fun i _ => l1.length - (intOf i).toNat)
      case atStart => exact ⟨0, some l0, Nat.zero_le _, rfl, he3, hm3, hb03⟩
      case round =>
        obtain ⟨k, st, hk, rfl, he, hm, hb⟩ := hrel
        clear he3 hm3 hb03
        by_cases hlt : k < l1.length
        · have hr := hr1.below hb
          obtain ⟨ad, rfl⟩ := hr.some_of (by omega)
          have hcell := hr.at_ k hlt
          have i0 : (0 : Int) ≤ (k : Int) := by omega
          have i1 : (k : Int) < (l1.length : Int) := by omega
          have hx8 := (l1[k]).toNat_lt
          generalize l1[k].toNat = x at *
          have hsz := hb.size
          have h4 : (x : Int) % 4 = 0 ∨ (x : Int) % 4 = 1 ∨ (x : Int) % 4 = 2 ∨ (x : Int) % 4 = 3 := by omega
          rcases h4 with h4 | h4 | h4 | h4
          · go_wp2_with fail
            refine (eye_byte g st _ he he.lt).mono ?_
            rintro e w4 ⟨rfl, he4, hk4⟩
            have hm4 := hm.keep he hk4 hne.symm
            have hb4 := hb.trans (hk4.below hsz hgw)
            have hsz4 := hb4.size
            go_wp2_with fail
            refine (ref_eye_byte gm st _ hm4).mono ?_
            rintro e w5 ⟨rfl, hm5, hk5⟩
            have he5 := he4.keep2 hm4 hk5 hne
            have hb5 := hb4.trans (hk5.below hsz4 hgmw)
            have hc5 : ∃ bb : Bool, (eByte st).2.isNone = bb := ⟨_, rfl⟩
            obtain ⟨bb, hbb⟩ := hc5
            have hE : ∀ n, Calls Try.prog 20 #[.pointer (some ⟨g, 0, none⟩)] (w5.drewN n) fun e w' => e = .returned (.bool bb) ∧ w' = w5.drewN n := fun n => by
              have h := eye_bad g _ (w5.drewN n) (he5.keep (below_drewN (Below.refl _ _) n))
              rw [hbb] at h
              exact h.mono fun _ _ ⟨a, b⟩ => ⟨a, b.symm⟩
            have hL : ∀ n, Calls Try.prog 21 #[.pointer (some ⟨g, 0, none⟩)] (w5.drewN n) fun e w' => e = .returned (.int .i64 (left (eByte st).2 : Int)) ∧ w' = w5.drewN n := fun n =>
              (eye_left g _ (w5.drewN n) (he5.keep (below_drewN (Below.refl _ _) n))).mono fun _ _ ⟨a, b⟩ => ⟨a, b.symm⟩
            have hM : ∀ n, Calls Try.prog 29 #[.pointer (some ⟨gm, 0, none⟩)] (w5.drewN n) fun e w' => e = .returned (.int .i64 (left (eByte st).2 : Int)) ∧ w' = w5.drewN n := fun n =>
              (ref_eye_left gm _ (w5.drewN n) (hm5.below (below_drewN (Below.refl _ _) n))).mono fun _ _ ⟨a, b⟩ => ⟨a, b.symm⟩
            have hcb : w5.cell? ⟨gm, 1, none⟩ = some (.bool bb) := by
              obtain ⟨A5, n5, c5, hB5, _⟩ := hm5
              rw [hbb] at hB5
              exact hB5.cell 1
            generalize left (eByte st).2 = ll at *
            have HE := Lib.hid hE
            have HL := Lib.hid hL
            have HM := Lib.hid hM
            have HBB := Lib.hid hbb
            clear hE hL hM hbb
            generalize (eByte st).1 = v at *
            go_wp2
            go_quiet (first | ((go_at_call 20; with_reducible exact Calls.quiet_of_same (HE.out _))) | ((go_at_call 21; with_reducible exact Calls.quiet_of_same (HL.out _))) | ((go_at_call 29; with_reducible exact Calls.quiet_of_same (HM.out _))))
            go_wp2
            go_roundw
            case rel => exact ⟨k + 1, _, by omega, by go_num, he5.keep (below_drewN (Below.refl _ _) _), hm5.below (below_drewN (Below.refl _ _) _), hb5.trans (below_drewN (Below.refl _ _) _)⟩
            case measure => simp [intOf]; try omega
          · go_wp2_with fail
            refine (eye_num g st _ he he.lt).mono ?_
            rintro e w4 ⟨rfl, he4, hk4⟩
            have hm4 := hm.keep he hk4 hne.symm
            have hb4 := hb.trans (hk4.below hsz hgw)
            have hsz4 := hb4.size
            go_wp2_with fail
            refine (ref_eye_num gm st _ hm4).mono ?_
            rintro e w5 ⟨rfl, hm5, hk5⟩
            have he5 := he4.keep2 hm4 hk5 hne
            have hb5 := hb4.trans (hk5.below hsz4 hgmw)
            have hc5 : ∃ bb : Bool, (eNum st).2.isNone = bb := ⟨_, rfl⟩
            obtain ⟨bb, hbb⟩ := hc5
            have hE : ∀ n, Calls Try.prog 20 #[.pointer (some ⟨g, 0, none⟩)] (w5.drewN n) fun e w' => e = .returned (.bool bb) ∧ w' = w5.drewN n := fun n => by
              have h := eye_bad g _ (w5.drewN n) (he5.keep (below_drewN (Below.refl _ _) n))
              rw [hbb] at h
              exact h.mono fun _ _ ⟨a, b⟩ => ⟨a, b.symm⟩
            have hL : ∀ n, Calls Try.prog 21 #[.pointer (some ⟨g, 0, none⟩)] (w5.drewN n) fun e w' => e = .returned (.int .i64 (left (eNum st).2 : Int)) ∧ w' = w5.drewN n := fun n =>
              (eye_left g _ (w5.drewN n) (he5.keep (below_drewN (Below.refl _ _) n))).mono fun _ _ ⟨a, b⟩ => ⟨a, b.symm⟩
            have hM : ∀ n, Calls Try.prog 29 #[.pointer (some ⟨gm, 0, none⟩)] (w5.drewN n) fun e w' => e = .returned (.int .i64 (left (eNum st).2 : Int)) ∧ w' = w5.drewN n := fun n =>
              (ref_eye_left gm _ (w5.drewN n) (hm5.below (below_drewN (Below.refl _ _) n))).mono fun _ _ ⟨a, b⟩ => ⟨a, b.symm⟩
            have hcb : w5.cell? ⟨gm, 1, none⟩ = some (.bool bb) := by
              obtain ⟨A5, n5, c5, hB5, _⟩ := hm5
              rw [hbb] at hB5
              exact hB5.cell 1
            generalize left (eNum st).2 = ll at *
            have HE := Lib.hid hE
            have HL := Lib.hid hL
            have HM := Lib.hid hM
            have HBB := Lib.hid hbb
            clear hE hL hM hbb
            generalize (eNum st).1 = v at *
            go_wp2
            go_quiet (first | ((go_at_call 20; with_reducible exact Calls.quiet_of_same (HE.out _))) | ((go_at_call 21; with_reducible exact Calls.quiet_of_same (HL.out _))) | ((go_at_call 29; with_reducible exact Calls.quiet_of_same (HM.out _))))
            go_wp2
            go_roundw
            case rel => exact ⟨k + 1, _, by omega, by go_num, he5.keep (below_drewN (Below.refl _ _) _), hm5.below (below_drewN (Below.refl _ _) _), hb5.trans (below_drewN (Below.refl _ _) _)⟩
            case measure => simp [intOf]; try omega
          · go_wp2_with fail
            refine (eye_float g st _ he he.lt).mono ?_
            rintro e w4 ⟨rfl, he4, hk4⟩
            have hm4 := hm.keep he hk4 hne.symm
            have hb4 := hb.trans (hk4.below hsz hgw)
            have hsz4 := hb4.size
            have hbits := bits_run (eFloat st).1
            go_wp2_with fail
            refine (ref_eye_float gm st _ hm4).mono ?_
            rintro e w5 ⟨rfl, hm5, hk5⟩
            have he5 := he4.keep2 hm4 hk5 hne
            have hb5 := hb4.trans (hk5.below hsz4 hgmw)
            have hc5 : ∃ bb : Bool, (eFloat st).2.isNone = bb := ⟨_, rfl⟩
            obtain ⟨bb, hbb⟩ := hc5
            have hE : ∀ n, Calls Try.prog 20 #[.pointer (some ⟨g, 0, none⟩)] (w5.drewN n) fun e w' => e = .returned (.bool bb) ∧ w' = w5.drewN n := fun n => by
              have h := eye_bad g _ (w5.drewN n) (he5.keep (below_drewN (Below.refl _ _) n))
              rw [hbb] at h
              exact h.mono fun _ _ ⟨a, b⟩ => ⟨a, b.symm⟩
            have hL : ∀ n, Calls Try.prog 21 #[.pointer (some ⟨g, 0, none⟩)] (w5.drewN n) fun e w' => e = .returned (.int .i64 (left (eFloat st).2 : Int)) ∧ w' = w5.drewN n := fun n =>
              (eye_left g _ (w5.drewN n) (he5.keep (below_drewN (Below.refl _ _) n))).mono fun _ _ ⟨a, b⟩ => ⟨a, b.symm⟩
            have hM : ∀ n, Calls Try.prog 29 #[.pointer (some ⟨gm, 0, none⟩)] (w5.drewN n) fun e w' => e = .returned (.int .i64 (left (eFloat st).2 : Int)) ∧ w' = w5.drewN n := fun n =>
              (ref_eye_left gm _ (w5.drewN n) (hm5.below (below_drewN (Below.refl _ _) n))).mono fun _ _ ⟨a, b⟩ => ⟨a, b.symm⟩
            have hcb : w5.cell? ⟨gm, 1, none⟩ = some (.bool bb) := by
              obtain ⟨A5, n5, c5, hB5, _⟩ := hm5
              rw [hbb] at hB5
              exact hB5.cell 1
            generalize left (eFloat st).2 = ll at *
            have HE := Lib.hid hE
            have HL := Lib.hid hL
            have HM := Lib.hid hM
            have HBB := Lib.hid hbb
            clear hE hL hM hbb
            generalize (eFloat st).1 = v at *
            go_wp2
            go_quiet (first | ((go_at_call 20; with_reducible exact Calls.quiet_of_same (HE.out _))) | ((go_at_call 21; with_reducible exact Calls.quiet_of_same (HL.out _))) | ((go_at_call 29; with_reducible exact Calls.quiet_of_same (HM.out _))))
            go_wp2
            go_roundw
            case rel => exact ⟨k + 1, _, by omega, by go_num, he5.keep (below_drewN (Below.refl _ _) _), hm5.below (below_drewN (Below.refl _ _) _), hb5.trans (below_drewN (Below.refl _ _) _)⟩
            case measure => simp [intOf]; try omega
          · go_wp2_with fail
            refine (eye_text g st _ he he.lt).mono ?_
            rintro e w4 ⟨rfl, he4, hk4⟩
            have hm4 := hm.keep he hk4 hne.symm
            have hb4 := hb.trans (hk4.below hsz hgw)
            have hsz4 := hb4.size
            go_wp2_with fail
            refine (ref_eye_text gm st _ hm4).mono ?_
            rintro e w5 ⟨rfl, hm5, hk5⟩
            have he5 := he4.keep2 hm4 hk5 hne
            have hb5 := hb4.trans (hk5.below hsz4 hgmw)
            have hc5 : ∃ bb : Bool, (eText st).2.isNone = bb := ⟨_, rfl⟩
            obtain ⟨bb, hbb⟩ := hc5
            have hE : ∀ n, Calls Try.prog 20 #[.pointer (some ⟨g, 0, none⟩)] (w5.drewN n) fun e w' => e = .returned (.bool bb) ∧ w' = w5.drewN n := fun n => by
              have h := eye_bad g _ (w5.drewN n) (he5.keep (below_drewN (Below.refl _ _) n))
              rw [hbb] at h
              exact h.mono fun _ _ ⟨a, b⟩ => ⟨a, b.symm⟩
            have hL : ∀ n, Calls Try.prog 21 #[.pointer (some ⟨g, 0, none⟩)] (w5.drewN n) fun e w' => e = .returned (.int .i64 (left (eText st).2 : Int)) ∧ w' = w5.drewN n := fun n =>
              (eye_left g _ (w5.drewN n) (he5.keep (below_drewN (Below.refl _ _) n))).mono fun _ _ ⟨a, b⟩ => ⟨a, b.symm⟩
            have hM : ∀ n, Calls Try.prog 29 #[.pointer (some ⟨gm, 0, none⟩)] (w5.drewN n) fun e w' => e = .returned (.int .i64 (left (eText st).2 : Int)) ∧ w' = w5.drewN n := fun n =>
              (ref_eye_left gm _ (w5.drewN n) (hm5.below (below_drewN (Below.refl _ _) n))).mono fun _ _ ⟨a, b⟩ => ⟨a, b.symm⟩
            have hcb : w5.cell? ⟨gm, 1, none⟩ = some (.bool bb) := by
              obtain ⟨A5, n5, c5, hB5, _⟩ := hm5
              rw [hbb] at hB5
              exact hB5.cell 1
            generalize left (eText st).2 = ll at *
            have HE := Lib.hid hE
            have HL := Lib.hid hL
            have HM := Lib.hid hM
            have HBB := Lib.hid hbb
            clear hE hL hM hbb
            generalize (eText st).1 = v at *
            go_wp2
            go_quiet (first | ((go_at_call 20; with_reducible exact Calls.quiet_of_same (HE.out _))) | ((go_at_call 21; with_reducible exact Calls.quiet_of_same (HL.out _))) | ((go_at_call 29; with_reducible exact Calls.quiet_of_same (HM.out _))))
            go_wp2
            go_roundw
            case rel => exact ⟨k + 1, _, by omega, by go_num, he5.keep (below_drewN (Below.refl _ _) _), hm5.below (below_drewN (Below.refl _ _) _), hb5.trans (below_drewN (Below.refl _ _) _)⟩
            case measure => simp [intOf]; try omega
        · obtain rfl : k = l1.length := by omega
          go_wp2
          go_ret
          exact ⟨rfl, hb⟩
end Go.Proofs.Ytlgkcpgbmobacaa
