/-
  What the laws on slots know of a slot that was handed in.
-/
import Derived.Test.YtangfnenfhkokaaOpenS
import Derived.Test.YtangfnenfhkokaaRefSup
import Derived.Test.YtangfnenfhkokaaSupPlay
import Derived.Test.YtangfnenfhkokaaLaw5A
set_option linter.unusedSimpArgs false
set_option linter.unusedVariables false
namespace Go.Proofs.Ytangfnenfhkokaa
open Go.RowKit Go.Maps

structure SArg (w : World) (s : Sup) (A : Option Addr) (A2 : Option Addr) : Prop where
  num : wide s.number
  boot : wide s.boot
  r1 : Rd w A (s.jour.segs.map ei)
  r2 : Rd w A2 (s.chunks.segs.map ei)
  w1 : ∀ x ∈ s.jour.segs, wide x
  w2 : ∀ x ∈ s.chunks.segs, wide x
  l1 : wide s.jour.len
  l2 : wide s.chunks.len
  a1 : ∀ ad, A = some ad → ad.block < w.heap.size
  a2 : ∀ ad, A2 = some ad → ad.block < w.heap.size
theorem SArg.below {w w' : World} {s : Sup} {A A2 : Option Addr} (h : SArg w s A A2) (hb : Below w.heap.size w w') : SArg w' s A A2 :=
  ⟨h.num, h.boot, h.r1.below hb, h.r2.below hb, h.w1, h.w2, h.l1, h.l2, fun ad e => Nat.lt_of_lt_of_le (h.a1 ad e) hb.size, fun ad e => Nat.lt_of_lt_of_le (h.a2 ad e) hb.size⟩
theorem SArg.mk' {w : World} {s : Sup} {A A2 : Option Addr} {c c2 n n2 : Nat} (h1 : wide s.number) (h2 : wide s.boot) (h3 : LogCells w s.jour A c n) (h4 : LogCells w s.chunks A2 c2 n2) (h5 : ∀ ad, A = some ad → ad.block < w.heap.size) (h6 : ∀ ad, A2 = some ad → ad.block < w.heap.size) : SArg w s A A2 :=
  ⟨h1, h2, h3.2.2.1, h4.2.2.1, h3.2.2.2.1, h4.2.2.2.1, h3.2.2.2.2.1, h4.2.2.2.2.1, h5, h6⟩
theorem arg_may {w : World} {s : Sup} {A A2 : Option Addr} (h : SArg w s A A2) (segs : Int) (c c2 : Nat) (hl1 : s.jour.segs.length ≤ 10000000) (hl2 : s.chunks.segs.length ≤ 10000000) {r : Bool} (hr : supMay s (min segs 96) = r) :
    Calls Try.prog 56 #[.agg #[.int .i64 s.number, .int .i64 s.boot, .slice A s.jour.segs.length c, .int .i64 s.jour.len, .int .u32 (s.jour.last.toNat : Int), .slice A2 s.chunks.segs.length c2, .int .i64 s.chunks.len, .int .u32 (s.chunks.last.toNat : Int)], .int .i64 segs] w fun e w' => e = .returned (.bool r) ∧ Below w.heap.size w w' := by
  subst hr
  exact super_may s segs A c A2 c2 w h.r1 h.r2 h.w1 h.w2 h.a1 h.a2 (by omega) (by omega)
theorem arg_rmay {w : World} {s : Sup} {A A2 : Option Addr} (h : SArg w s A A2) (segs : Int) (c c2 : Nat) (hl1 : s.jour.segs.length ≤ 10000000) (hl2 : s.chunks.segs.length ≤ 10000000) (hs : segs ≤ 96) {r : Bool} (hr : supMay s segs = r) :
    Calls Try.prog 31 #[.agg #[.int .i64 s.number, .int .i64 s.boot, .slice A s.jour.segs.length c, .int .i64 s.jour.len, .int .u32 (s.jour.last.toNat : Int), .slice A2 s.chunks.segs.length c2, .int .i64 s.chunks.len, .int .u32 (s.chunks.last.toNat : Int)], .int .i64 segs] w fun e w' => e = .returned (.bool r) ∧ Below w.heap.size w w' := by
  subst hr
  exact ref_may s segs A c A2 c2 w h.r1 h.r2 hl1 hl2 hs
theorem arg_made (s : Sup) (A : Option Addr) (c : Nat) (A2 : Option Addr) (c2 : Nat) (w : World) :
    Calls Try.prog 33 #[.agg #[.int .i64 s.number, .int .i64 s.boot, .slice A s.jour.segs.length c, .int .i64 s.jour.len, .int .u32 (s.jour.last.toNat : Int), .slice A2 s.chunks.segs.length c2, .int .i64 s.chunks.len, .int .u32 (s.chunks.last.toNat : Int)]] w fun e w' => e = .returned (.agg #[.int .i64 s.number, .int .i64 s.boot, .slice A s.jour.segs.length c, .int .i64 s.jour.len, .int .u32 (s.jour.last.toNat : Int), .slice A2 s.chunks.segs.length c2, .int .i64 s.chunks.len, .int .u32 (s.chunks.last.toNat : Int)]) ∧ Below w.heap.size w w' :=
  law5_made s A c A2 c2 w
/-- the cells of a boxed slot -/
theorem box_cells {W0 V : World} {g : Nat} {e : TypeId} {v0 v1 v2 v3 v4 v5 v6 v7 : Value} (h : Blk W0 g e #[v0, v1, v2, v3, v4, v5, v6, v7]) (hb : Below W0.heap.size W0 V) :
    V.cell? ⟨g, 0, none⟩ = some v0 ∧ V.cell? ⟨g, 1, none⟩ = some v1 ∧ V.cell? ⟨g, 2, none⟩ = some v2 ∧ V.cell? ⟨g, 3, none⟩ = some v3 ∧ V.cell? ⟨g, 4, none⟩ = some v4 ∧ V.cell? ⟨g, 5, none⟩ = some v5 ∧ V.cell? ⟨g, 6, none⟩ = some v6 ∧ V.cell? ⟨g, 7, none⟩ = some v7 := by
  have h := h.below hb
  exact ⟨h.cell 0, h.cell 1, h.cell 2, h.cell 3, h.cell 4, h.cell 5, h.cell 6, h.cell 7⟩
end Go.Proofs.Ytangfnenfhkokaa
