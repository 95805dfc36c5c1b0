/-
  What FrameReads calls and gives.
-/
import Derived.Test.YtlhlgjjgnlobjaaLaw7
set_option linter.unusedSimpArgs false
set_option linter.unusedVariables false
namespace Go.Proofs.Ytlhlgjjgnlobjaa
open Go.RowKit

set_option maxRecDepth 100000 in
set_option maxHeartbeats 2000000 in
theorem reads_walk (last : Crc.W) (A : Option Addr) (m cap : Nat) (l : List UInt8) (hm : l.length = m) (w : World) (hl : l.length ≤ maxLen) (hc : m ≤ cap) (hr : RB w A l) :
    Calls Try.prog 9 #[.int .u32 (last.toNat : Int), .slice A m cap] w fun e w' => e = .returned (.bool true) ∧ Below w.heap.size w w' := by
  subst hm
  by_cases cl : (40000 : Int) < (l.length : Int)
  · go_enter Try.func9, Try.ntmps9
    go_wp2_with fail
    refine (law7_awake _).mono ?_
    rintro e w1 ⟨rfl, hb1⟩
    go_wp2
    go_ret
    exact ⟨rfl, hb1⟩
  · go_enter Try.func9, Try.ntmps9
    go_wp2_with fail
    refine (law7_awake _).mono ?_
    rintro e w1 ⟨rfl, hb1⟩
    go_wp2_with fail
    refine (frame_read last _ rfl A l.length cap l _ rfl (by omega) hc (hr.below hb1)).mono ?_
    intro e w2 hp
    cases hread : Frame.read last l with
    | none =>
      obtain ⟨rfl, hb2⟩ := hp.get_none hread
      have hb02 := bn hb1 hb2
      go_wp2_with fail
      refine (ref4_unframe last _ rfl A l.length cap l _ rfl (by omega) hc (hr.below hb02)).mono ?_
      intro e w3 hq
      obtain ⟨rfl, hb3⟩ := hq.get_none hread
      clear hp hq hread
      have hb03 := bn hb02 hb3
      have hcv := run_str_try w3 none 0 0 [] rfl (RB.nil _ _)
      go_wp2
      go_ret
      exact ⟨rfl, hb03⟩
    | some y =>
      obtain ⟨x, boot, nx⟩ := y
      obtain ⟨A2, c2, rfl, k2, r2, hb2⟩ := hp.get_some hread
      have hb02 := bn hb1 hb2
      go_wp2_with fail
      refine (ref4_unframe last _ rfl A l.length cap l _ rfl (by omega) hc (hr.below hb02)).mono ?_
      intro e w3 hq
      obtain ⟨A3, c3, rfl, r3, hb3⟩ := hq.get_some hread
      clear hp hq hread
      have hb03 := bn hb02 hb3
      have hcv2 := run_str_try w3 A2 c2 x.length _ rfl (r2.below hb3)
      have hcv3 := run_str_try w3 A3 c3 x.length _ rfl r3
      have hb32 := boot.isLt
      go_wp2
      go_ret
      exact ⟨rfl, hb03⟩
end Go.Proofs.Ytlhlgjjgnlobjaa
