/-
  The store: IDs.
-/
import Derived.Test.YtpnfgnddlfkfaaaIter
import Derived.Test.YtpnfgnddlfkfaaaChunkPut
set_option linter.unusedSimpArgs false
set_option linter.unusedVariables false
namespace Go.Proofs.Ytpnfgnddlfkfaaa
open Go.RowKit Go.Maps

/-- what is at a number of the map, for what is in the store -/
theorem ChunksAt.isSome {w : World} {g : Nat} {P : Nat → Prop} {n : Nat} {s : CSt} {L By : Nat} {fl fb : Int → Option Value} (h : ChunksAt w g P n s L By fl fb) (id : Int) : (fl id).isSome = (s.l id).isSome := by
  obtain ⟨_, _, _, _, e, _⟩ := h.val id
  exact e
set_option maxHeartbeats 1000000 in
theorem chunk_ids (g : Nat) (P : Nat → Prop) (n : Nat) (s : CSt) (w : World) (h : Chunks w g P n s) (hn : n ≤ 1000000000) :
    Calls Try.prog 35 #[.pointer (some ⟨g, 0, none⟩)] w fun e w' => ∃ (v : Value) (ks : List Int), e = .returned v ∧ Own w' w.heap.size 3 v (ks.map (Value.int .i64)) ∧ Rising ks ∧ (∀ x, x ∈ ks ↔ (okInt x ∧ (s.l x).isSome = true)) ∧ Below w.heap.size w w' := by
  obtain ⟨L, By, fl, fb, h⟩ := h
  have hc0 : w.cell? ⟨g, 0, none⟩ = some (.map (some L)) := h.blk.cell 0
  have HK := Lib.hid (keys_b (some L) w)
  have HS := Lib.hid (sorted_b L n fl w h.ml hn)
  have HF := Lib.hid fun x => h.isSome x
  go_enter Try.func35, Try.ntmps35
  go_wp2_with fail
  (with_reducible refine HK.out.mono ?_)
  rintro e w4 ⟨rfl, rfl⟩
  go_wp2_with fail
  (with_reducible refine HS.out.mono ?_)
  rintro e w5 ⟨v, ks, rfl, hv, hri, hmem, hb5⟩
  have hb6 := bn (bal (Below.refl w.heap.size w) _) hb5
  rw [size_more'] at hv
  go_wp2
  go_ret
  exact ⟨v, ks, rfl, hv.lower (by omega), hri, fun x => by rw [hmem x, HF.out x], hb6⟩
end Go.Proofs.Ytpnfgnddlfkfaaa
