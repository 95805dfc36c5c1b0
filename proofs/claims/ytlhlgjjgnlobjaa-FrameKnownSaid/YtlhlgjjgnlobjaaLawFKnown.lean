/-
  What FrameKnown calls and gives.
-/
import Derived.Test.YtlhlgjjgnlobjaaLawCuts
set_option linter.unusedSimpArgs false
set_option linter.unusedVariables false
namespace Go.Proofs.Ytlhlgjjgnlobjaa
open Go.RowKit

theorem make_many (w : World) : (Instr.makeSlice 22 (.int .i64 16385) (.int .i64 16385)).run Try.prog w = .ok (.slice (some ⟨w.heap.size, 0, none⟩) 16385 16385) (w.alloc (.cells (Array.replicate 16385 (.int .u8 0)) 5)) :=
  make_run (P := Try.prog) 22 5 (.int .u8 0) 1 Try.underlying22 info_u8 rfl 16385 (by decide) (by decide) (by decide) w
theorem one_cells : Frame.mk 0#32 0#32 [1] = [1, 0, 0, 0, 0, 0, 0, 0] ++ (Frame.mk 0#32 0#32 [1]).drop 8 := by decide +kernel

set_option maxRecDepth 100000 in
set_option maxHeartbeats 4000000 in
theorem fknown_walk (w : World) :
    Calls Try.prog 12 #[] w fun e w' => e = .returned (.bool true) ∧ Below w.heap.size w w' := by
  have mm := make_many
  have hs0 : Frame.size 0 = 0 := by decide
  have hs1 : Frame.size (-1) = 0 := by decide
  have hs2 : Frame.size 16384 = 16400 := by decide
  have hs3 : Frame.size 16385 = 0 := by decide
  have S0 := Lib.hid hs0
  have S1 := Lib.hid hs1
  have S2 := Lib.hid hs2
  have S3 := Lib.hid hs3
  clear hs0 hs1 hs2 hs3
  go_enter Try.func12, Try.ntmps12
  go_wp2_with fail
  refine (law7_awake _).mono ?_
  rintro e w1 ⟨rfl, hb1⟩
  go_wp2_with fail
  refine (frame_make_ok 0#32 _ rfl 0#32 _ rfl (by decide) _ _ _ [1] _ rfl (by decide) (by decide) (RB.lit _ _ _ _ _ rfl)).mono ?_
  rintro e w2 ⟨v2, rfl, ho2, hb2⟩
  have hb02 := bn (bal hb1 _) hb2
  obtain ⟨A2, c2, rfl, k2, r2⟩ := ho2.bytes
  have hml : (Frame.mk 0#32 0#32 [1]).length = 17 := rfl
  have hcn : ∀ k, k < 17 → Frame.read 0#32 ((Frame.mk 0#32 0#32 [1]).take k) = none := fun k hk => cut_none 0#32 0#32 [1] (by decide) (by decide) k hk
  have hg0 : (Frame.mk 0#32 0#32 [1])[0]? = some 1 := by decide +kernel
  have hg4 : (Frame.mk 0#32 0#32 [1])[4]? = some 0 := by decide +kernel
  rw [hml] at k2 ⊢
  generalize Frame.mk 0#32 0#32 [1] = f at *
  generalize Crc.next 0#32 [1] = nx at *
  clear ho2 hb2
  have HCN := Lib.hid hcn
  have HG0 := Lib.hid hg0
  have HG4 := Lib.hid hg4
  have HML := Lib.hid hml
  clear hcn hg0 hg4 hml hb1
  go_wp2_with fail
  refine (frame_make_bad 0 0 (by decide) (by decide) none 0 0 [] _ rfl (by unfold maxLen; decide) (.inl (by decide))).mono ?_
  rintro e w3 ⟨rfl, rfl⟩
  go_wp2_with fail
  refine (frame_make_bad 0 (-1) (by decide) (by decide) _ 1 1 [1] _ rfl (by unfold maxLen; decide) (.inr (.inl (by decide)))).mono ?_
  rintro e w3 ⟨rfl, rfl⟩
  have hb03 := bal hb02 (.cells #[.int .u8 1] 5)
  go_wp2_with fail
  refine (frame_make_bad 0 0 (by decide) (by decide) _ 16385 16385 (List.replicate 16385 0) _ (by simp) (by unfold maxLen; simp) (.inl (by rw [List.length_replicate]; exact S3.out))).mono ?_
  rintro e w3 ⟨rfl, rfl⟩
  have hb04 := bal hb03 (.cells (Array.replicate 16385 (.int .u8 0)) 5)
  have r4 := (r2.below (bal (bal (Below.refl _ w2) _) _) : RB ((w2.alloc (.cells #[.int .u8 1] 5)).alloc (.cells (Array.replicate 16385 (.int .u8 0)) 5)) A2 f)
  clear r2 hb03 hb02 mm
  generalize (w2.alloc (.cells #[.int .u8 1] 5)).alloc (.cells (Array.replicate 16385 (.int .u8 0)) 5) = w4 at *
  go_wp2
  go_loopw [13] (fun i wr => ∃ k : Nat, k ≤ 17 ∧ i = .int .i64 k ∧ Below w4.heap.size w4 wr) (fun i _ => 17 - (intOf i).toNat)
  case atStart => exact ⟨0, by omega, rfl, Below.refl _ _⟩
  case round =>
    obtain ⟨k, hk, rfl, hbr⟩ := hrel
    by_cases hlt : k < 17
    · have hto := cut_to (P := Try.prog) 22 5 Try.underlying22 size_u8 A2 17 c2 (k : Int) (by omega) (by omega)
      rw [show (k : Int).toNat = k by omega] at hto
      have hkt : (f.take k).length = k := by rw [List.length_take, HML.out]; omega
      have HKT := Lib.hid hkt
      have rr := (r4.below hbr).take k
      clear hkt
      go_wp2_with fail
      refine (frame_read 0#32 _ rfl A2 k c2 (f.take k) _ HKT.out (by rw [HKT.out]; omega) (by rw [HKT.out]; omega) rr).mono ?_
      intro e w5 hp
      obtain ⟨rfl, hb5⟩ := hp.get_none (HCN.out k hlt)
      have hbr5 := bn hbr hb5
      clear hp hb5 hto rr
      go_wp2
      go_roundw
      case rel => exact ⟨k + 1, by omega, by go_num, hbr5⟩
      case measure => simp [intOf]; try omega
    · obtain rfl : k = 17 := by omega
      have rr := r4.below hbr
      obtain ⟨ad, rfl⟩ := rr.some_of (by rw [HML.out]; omega)
      obtain ⟨bk, off, rfl, hcell⟩ := rr.lit_of (by rw [HML.out]; omega)
      have x0 := hcell 0 (by rw [HML.out]; omega)
      have x4 := hcell 4 (by rw [HML.out]; omega)
      have g0 : f[0]'(by rw [HML.out]; omega) = 1 := by have := HG0.out; rw [List.getElem?_eq_getElem (by rw [HML.out]; omega)] at this; simpa using this
      have g4 : f[4]'(by rw [HML.out]; omega) = 0 := by have := HG4.out; rw [List.getElem?_eq_getElem (by rw [HML.out]; omega)] at this; simpa using this
      rw [g0, Nat.add_zero] at x0
      rw [g4] at x4
      clear g0 g4 hcell HCN HG0 HG4
      go_wp2_with (go_at_call 23; refine (frame_size _ (by omega) (by omega) _).mono ?_; rintro e w6 ⟨rfl, rfl⟩; first | rw [S0.out] | rw [S1.out] | rw [S2.out] | rw [S3.out])
      go_ret
      exact ⟨rfl, bn hb04 hbr⟩
end Go.Proofs.Ytlhlgjjgnlobjaa
