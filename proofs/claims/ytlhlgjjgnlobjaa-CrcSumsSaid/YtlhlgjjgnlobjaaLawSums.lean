/-
  CrcSums: the walk of the law.
-/
import Derived.Test.YtlhlgjjgnlobjaaLawA
set_option linter.unusedSimpArgs false
set_option linter.unusedVariables false
namespace Go.Proofs.Ytlhlgjjgnlobjaa
open Go.RowKit

set_option maxRecDepth 100000 in
set_option maxHeartbeats 2000000 in
theorem sums_walk (A : Option Addr) (m cap : Nat) (l : List UInt8) (hm : l.length = m) (cut : Nat) (hcut : cut < 65536) (c : Crc.W) (w : World) (hl : l.length ≤ maxLen) (hcap : l.length ≤ cap) (hr : RB w A l) :
    Calls Try.prog 3 #[.slice A m cap, .int .u16 (cut : Int), .int .u32 (c.toNat : Int)] w fun e w' => e = .returned (.bool true) ∧ Below w.heap.size w w' := by
  subst hm
  by_cases h5 : 5000 < l.length
  · go_enter Try.func3, Try.ntmps3
    go_wp2_with (go_at_call 15; refine (law1_awake _).mono ?_; rintro e w1 ⟨rfl, hb1⟩)
    go_ret
    exact ⟨rfl, hb1⟩
  · go_enter Try.func3, Try.ntmps3
    go_wp2_with (go_at_call 15; refine (law1_awake _).mono ?_; rintro e w1 ⟨rfl, hb1⟩)
    obtain ⟨k, hk, hkl⟩ : ∃ k : Nat, (cut : Int) % ((l.length : Int) + 1) = (k : Int) ∧ k ≤ l.length := by
      refine ⟨cut % (l.length + 1), by simp, ?_⟩
      have := Nat.mod_lt cut (show 0 < l.length + 1 by omega)
      omega
    rw [hk]
    clear hk
    have hto := cut_to (P := Try.prog) 22 5 Try.underlying22 size_u8 A l.length cap k (by omega) (by omega)
    obtain ⟨A', hfrom, hdrop, _⟩ := cut_from (P := Try.prog) 22 5 Try.underlying22 size_u8 A l.length cap k (by omega) (by omega)
    have hl1 : (l.take k).length = k := by simp; omega
    have hl2 : (l.drop k).length = l.length - k := by simp
    have Hl1 := Lib.hid hl1
    have Hl2 := Lib.hid hl2
    clear hl1 hl2
    have hb := bdr hb1
    clear hb1
    have hdropB : ∀ w', RB w' A l → RB w' A' (l.drop k) := fun w' h => by have := hdrop _ _ (by simpa using hcap) h; simpa [RB, List.map_drop] using this
    clear hdrop
    have Hcat := Lib.hid (Crc.next_cut 0#32 l k)
    go_region_held (fun w2 => Below w.heap.size w w2) (first | exact hb | assumption) (first
      | (go_at_call 16; (with_reducible refine (crc_sum A l.length cap l _ rfl hl (hr.below hb)).mono ?_); rintro e w' ⟨rfl, hb'⟩; replace hb := bn hb hb'; clear hb')
      | (go_at_call 16; (with_reducible refine (crc_sum A k cap (l.take k) _ Hl1.out (by rw [Hl1.out]; omega) ((hr.below hb).take k)).mono ?_); rintro e w' ⟨rfl, hb'⟩; replace hb := bn hb hb'; clear hb')
      | (go_at_call 18; (with_reducible refine (crc_next c _ rfl A l.length cap l _ rfl hl (hr.below hb)).mono ?_); rintro e w' ⟨rfl, hb'⟩; replace hb := bn hb hb'; clear hb')
      | (go_at_call 18; (with_reducible refine (crc_next (Crc.next 0#32 (l.take k)) _ rfl A' (l.length - k) (cap - k) (l.drop k) _ Hl2.out (by rw [Hl2.out]; omega) (hdropB _ (hr.below hb))).mono ?_); rintro e w' ⟨he, hb'⟩; rw [Hcat.out] at he; subst he; replace hb := bn hb hb'; clear hb')
      | (go_at_call 17; (with_reducible refine (ref_next 0#32 (0 : Int) rfl A l.length cap l _ rfl hl (hr.below hb)).mono ?_); rintro e w' ⟨rfl, rfl⟩)
      | (go_at_call 17; (with_reducible refine (ref_next c _ rfl A l.length cap l _ rfl hl (hr.below hb)).mono ?_); rintro e w' ⟨rfl, rfl⟩)
      | (go_at_call 19; (with_reducible refine (crc_bytes c _ rfl _).mono ?_); rintro e w' ⟨v4, rfl, ho4, hb'⟩; obtain ⟨A4, cap4, rfl, _, hr4⟩ := ho4.bytes; have hcv4 := run_str_try w' A4 cap4 _ _ rfl hr4; replace hb := bn hb hb'; clear hb')
      | (go_at_call 20; (with_reducible refine (ref_four c _ rfl _).mono ?_); rintro e w' ⟨v5, rfl, ho5, hb'⟩; obtain ⟨A5, cap5, rfl, _, hr5⟩ := ho5.bytes; have hcv5 := run_str_try w' A5 cap5 _ _ rfl hr5; have hcv6 := run_str_try w' A4 cap4 _ _ rfl (hr4.below hb'); replace hb := bn hb hb'; clear hb'))
    all_goals go_wp2
    all_goals go_ret
    all_goals exact ⟨rfl, hb⟩
end Go.Proofs.Ytlhlgjjgnlobjaa
