/-
  Frames one behind another.
-/
import Derived.Test.YtlhlgjjgnlobjaaFrameMore
set_option linter.unusedSimpArgs false
set_option linter.unusedVariables false
namespace Go.Proofs.Ytlhlgjjgnlobjaa
namespace Frame
open Crc

/-- the last behind records -/
def lastOf (last : W) (ls : List (List UInt8)) : W := ls.foldl next last
/-- the frames of records, each behind the last of the one ahead -/
def frames (last boot : W) : List (List UInt8) → List UInt8
  | [] => []
  | l :: ls => mk last boot l ++ frames (next last l) boot ls
theorem frames_snoc (boot : W) (l : List UInt8) : ∀ (ls : List (List UInt8)) (last : W), frames last boot (ls ++ [l]) = frames last boot ls ++ mk (lastOf last ls) boot l
  | [], last => by simp [frames, lastOf]
  | x :: ls, last => by
    show mk last boot x ++ frames (next last x) boot (ls ++ [l]) = (mk last boot x ++ frames (next last x) boot ls) ++ mk (lastOf last (x :: ls)) boot l
    rw [frames_snoc boot l ls, List.append_assoc]
    rfl
theorem lastOf_snoc (last : W) (ls : List (List UInt8)) (l : List UInt8) : lastOf last (ls ++ [l]) = next (lastOf last ls) l := by simp [lastOf]
theorem frames_length (boot : W) : ∀ (ls : List (List UInt8)) (last : W), (∀ l ∈ ls, l.length ≤ 500) → (frames last boot ls).length ≤ 516 * ls.length
  | [], _, _ => by simp [frames]
  | l :: ls, last, h => by
    have h1 := frames_length boot ls (next last l) (fun x hx => h x (by simp [hx]))
    have h2 := h l (by simp)
    simp only [frames, List.length_append, mk_length, List.length_cons]
    omega
theorem take_snoc {α : Type} (ls : List α) (k : Nat) (h : k < ls.length) : ls.take (k + 1) = ls.take k ++ [ls[k]] := by
  rw [List.take_succ_eq_append_getElem h]
theorem drop_cons {α : Type} (ls : List α) (k : Nat) (h : k < ls.length) : ls.drop k = ls[k] :: ls.drop (k + 1) := List.drop_eq_getElem_cons h
end Frame
end Go.Proofs.Ytlhlgjjgnlobjaa
