/-
  The chunk store: what its memory says, and New, Get, find, Size, Next.
-/
import Derived.Test.YtangfnenfhkokaaMapF
import Derived.Test.YtangfnenfhkokaaCrc
import Derived.Test.YtangfnenfhkokaaSlices
import Derived.Test.YtangfnenfhkokaaFlat
import Derived.Test.YtangfnenfhkokaaSteps
import Derived.Deep.RegionHeldLaw
import Derived.Deep.CutBlock
import Derived.Maps.OwnOps
set_option linter.unusedSimpArgs false
set_option linter.unusedVariables false
namespace Go.Proofs.Ytangfnenfhkokaa
open Go.RowKit Go.Maps

theorem Own.kp {F : Nat → Prop} {w w' : World} {B : Nat} {e : TypeId} {v : Value} {cs : List Value} (h : Own w B e v cs) (hk : Kp F w w') (hF : ∀ k, v.ownBlock = some k → ¬ F k) : Own w' B e v cs := by
  obtain ⟨h1, h2⟩ := h
  refine ⟨h1, h2.imp id ?_⟩
  rintro ⟨g, cap, cur, rfl, hg, hh, r⟩
  exact ⟨g, cap, cur, rfl, hg, (hk.block g (Array.getElem?_eq_some_iff.1 hh).1 (hF g rfl)).trans hh, r⟩
theorem Own.typed {w : World} {B : Nat} {e : TypeId} {v : Value} {cs : List Value} (h : Own w B e v cs) (k : Nat) (hk : v.ownBlock = some k) : B ≤ k ∧ k < w.heap.size ∧ ∃ cur, Blk w k e cur := by
  obtain ⟨h1, h2⟩ := h
  rcases h2 with ⟨rfl, h0⟩ | ⟨g, cap, cur, rfl, hg, hh, _⟩
  · cases hk
  · have : g = k := by simpa [Value.ownBlock] using hk
    subst this
    exact ⟨hg, (Array.getElem?_eq_some_iff.1 hh).1, cur, hh⟩

/-- what a store has -/
structure CSt where
  l : Int → Option (List UInt8)
  ids : Int → List Int
  next : Int
  size : Int
def CSt.empty : CSt := ⟨fun _ => none, fun _ => [], 1, 0⟩
def nilS : Value := .slice none 0 0
/-- the sum of a piece, as a map's key -/
def ck (b : List UInt8) : Int := ((Crc.next 0#32 b).toNat : Int)
theorem ck_wf (b : List UInt8) : (Lit.int .u32 (ck b)).wf = true := by
  have := (Crc.next 0#32 b).isLt
  unfold ck
  simp [Lit.wf, IntKind.min, IntKind.max, IntKind.bits, IntKind.signed]
  omega
theorem size_more' (w : World) (o : Obj) : (w.alloc o).heap.size = w.heap.size + 1 := by simp
theorem zero_bytes (w : World) : (zeroValue 42).run Try.prog w = .ok nilS w := by kernel_rfl
theorem zero_ints (w : World) : (zeroValue 35).run Try.prog w = .ok nilS w := by kernel_rfl
theorem look_l2 {w : World} {L n : Nat} {fl : Int → Option Value} (h : MapF Try.prog 3 .i64 w L n fl) {id : Int} (h0 : -9223372036854775808 ≤ id) (h1 : id ≤ 9223372036854775807) :
    (Instr.lookup 82 (.map (some L)) (.int .i64 id) true).run Try.prog w = .ok (.tuple #[(fl id).getD nilS, .bool (fl id).isSome]) w := h.look2 Try.underlying3 Try.underlying82 (zero_bytes w) (WalkArith.wf_i64 ⟨h0, h1⟩)
theorem look_l1 {w : World} {L n : Nat} {fl : Int → Option Value} (h : MapF Try.prog 3 .i64 w L n fl) {id : Int} (h0 : -9223372036854775808 ≤ id) (h1 : id ≤ 9223372036854775807) :
    (Instr.lookup 82 (.map (some L)) (.int .i64 id) false).run Try.prog w = .ok ((fl id).getD nilS) w := h.look1 Try.underlying3 Try.underlying82 (zero_bytes w) (WalkArith.wf_i64 ⟨h0, h1⟩)
/-- the number that a text has -/
def findId (s : CSt) (b : List UInt8) : Option Int := (s.ids (ck b)).find? fun id => (s.l id).getD [] == b
def FindPost (w : World) (r : Option Int) (e : Ending) (w' : World) : Prop := e = .returned (.tuple #[.int .i64 (r.getD 0), .bool r.isSome]) ∧ Below w.heap.size w w'
theorem find_take (l : List Int) (p : Int → Bool) (k : Nat) (hk : k < l.length) (h : (l.take k).find? p = none) : (p l[k] = true → l.find? p = some l[k]) ∧ (p l[k] = false → (l.take (k + 1)).find? p = none) := by
  have e : l = l.take k ++ l[k] :: l.drop (k + 1) := by rw [← List.drop_eq_getElem_cons hk, List.take_append_drop]
  constructor
  · intro hp
    have h2 : (l.take k ++ l[k] :: l.drop (k + 1)).find? p = some l[k] := by
      rw [List.find?_append, h, List.find?_cons, hp]
      rfl
    rw [← e] at h2
    exact h2
  · intro hp
    rw [List.take_succ_eq_append_getElem hk, List.find?_append, h]
    simp [hp]
end Go.Proofs.Ytangfnenfhkokaa
