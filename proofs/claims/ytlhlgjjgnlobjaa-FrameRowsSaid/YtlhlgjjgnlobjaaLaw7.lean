/-
  What the laws of layer 7 call beside frame: the document's example.
-/
import Derived.Test.YtlhlgjjgnlobjaaFrame2
set_option linter.unusedSimpArgs false
set_option linter.unusedVariables false
namespace Go.Proofs.Ytlhlgjjgnlobjaa
open Go.RowKit

theorem ReadPost.get_some {last : Crc.W} {l x : List UInt8} {w w' : World} {boot next : Crc.W} {e : Ending} (h : ReadPost last l w e w') (hr : Frame.read last l = some (x, boot, next)) :
    ∃ A c, e = .returned (.tuple #[.slice A x.length c, .int .i64 (boot.toNat : Int), .int .u32 (next.toNat : Int), .bool true]) ∧ x.length ≤ c ∧ RB w' A x ∧ Below w.heap.size w w' := by
  unfold ReadPost at h
  rw [hr] at h
  obtain ⟨hb, v, rfl, ho⟩ := h
  obtain ⟨A, c, rfl, hc, hx⟩ := ho.bytes
  exact ⟨A, c, rfl, hc, hx, hb⟩
theorem ReadPost.get_none {last : Crc.W} {l : List UInt8} {w w' : World} {e : Ending} (h : ReadPost last l w e w') (hr : Frame.read last l = none) :
    e = .returned (.tuple #[.slice none 0 0, .int .i64 0, .int .u32 0, .bool false]) ∧ Below w.heap.size w w' := by
  unfold ReadPost at h
  rw [hr] at h
  exact ⟨h.2, h.1⟩
theorem UnPost.get_some {last : Crc.W} {l x : List UInt8} {w w' : World} {boot next : Crc.W} {e : Ending} (h : UnPost last l w e w') (hr : Frame.read last l = some (x, boot, next)) :
    ∃ A c, e = .returned (.tuple #[.slice A x.length c, .int .i64 (boot.toNat : Int), .int .u32 (next.toNat : Int), .bool true]) ∧ RB w' A x ∧ Below w.heap.size w w' := by
  unfold UnPost at h
  rw [hr] at h
  obtain ⟨hb, A, c, rfl, hx⟩ := h
  exact ⟨A, c, rfl, hx, hb⟩
theorem UnPost.get_none {last : Crc.W} {l : List UInt8} {w w' : World} {e : Ending} (h : UnPost last l w e w') (hr : Frame.read last l = none) :
    e = .returned (.tuple #[.slice none 0 0, .int .i64 0, .int .u32 0, .bool false]) ∧ Below w.heap.size w w' := by
  unfold UnPost at h
  rw [hr] at h
  exact ⟨h.2, h.1⟩

theorem read_ex : Frame.read 5#32 (Frame.mk 5#32 1#32 [7]) = some ([7], 1#32, Crc.next 5#32 [7]) := by
  have := Frame.read_mk 5#32 1#32 (by decide) [7] [] (by decide) (by decide)
  rwa [List.append_nil] at this

set_option maxRecDepth 100000 in
set_option maxHeartbeats 2000000 in
theorem law7_awake (w : World) :
    Calls Try.prog 21 #[] w fun e w' => e = .returned (.bool true) ∧ Below w.heap.size w w' := by
  have hsz : Frame.size 1 = 17 := by decide
  have HSZ := Lib.hid hsz
  clear hsz
  go_enter Try.func21, Try.ntmps21
  go_wp2_with fail
  refine (frame_make_ok 5#32 _ rfl 1#32 _ rfl (by decide) _ _ _ [7] _ rfl (by decide) (by decide) (RB.lit _ _ _ _ _ rfl)).mono ?_
  rintro e w1 ⟨v1, rfl, ho1, hb1⟩
  obtain ⟨A1, c1, rfl, k1, r1⟩ := ho1.bytes
  rw [show (Frame.mk 5#32 1#32 [7]).length = 17 from rfl] at k1 ⊢
  generalize hx : (Crc.next 5#32 [7]).toNat = x at *
  go_wp2_with fail
  refine (frame_read 5#32 _ rfl A1 17 c1 (Frame.mk 5#32 1#32 [7]) _ rfl (by decide) k1 r1).mono ?_
  intro e w2 hp
  obtain ⟨A2, c2, rfl, k2, r2, hb2⟩ := hp.get_some read_ex
  rw [hx]
  have hcv := run_str_try w2 A2 c2 1 _ rfl r2
  clear hx
  go_wp2_with (go_at_call 23; refine (frame_size _ (by omega) (by omega) _).mono ?_; rintro e w3 ⟨rfl, rfl⟩; rw [HSZ.out])
  go_ret
  exact ⟨rfl, bn (bn (bal (Below.refl _ _) _) hb1) hb2⟩
end Go.Proofs.Ytlhlgjjgnlobjaa
