/-
  Rows of texts that came in.
-/
import Derived.Test.YtbhhjphgbdaanaaCopy
set_option linter.unusedSimpArgs false
set_option linter.unusedVariables false
namespace Go.Proofs.Ytbhhjphgbdaanaa
open Go.RowKit Go.Maps

/-- what a text's slice is -/
theorem AreB.at2 {w : World} {vs : List Value} {ls : List (List UInt8)} (h : AreB w vs ls) (i : Nat) (hi : i < ls.length) : ∃ A c, vs[i]? = some (.slice A (ls.getD i []).length c) ∧ RB w A (ls.getD i []) := by
  have h1 : i < vs.length := by rw [h.1]; exact hi
  obtain ⟨A, c, e, _, hr⟩ := h.2 i h1 hi
  have e2 : ls.getD i [] = ls[i] := by simp [List.getD_eq_getElem?_getD, List.getElem?_eq_getElem hi]
  rw [e2]
  exact ⟨A, c, by rw [List.getElem?_eq_getElem h1, e], hr⟩
/-- where the texts lie -/
theorem texts_of {w : World} {A : Option Addr} {vs : List Value} {ls : List (List UInt8)} (hv : Rd w A vs) (hl : AreB w vs ls) (h0 : 0 < ls.length) :
    ∃ bb ob, A = some ⟨bb, ob, none⟩ ∧ bb < w.heap.size ∧ ∀ i, i < ls.length → ∃ Ai ci, (∀ ad, Ai = some ad → 0 < (ls.getD i []).length → ad.block < w.heap.size) ∧ ∀ W, Below w.heap.size w W → W.cell? ⟨bb, ob + i, none⟩ = some (.slice Ai (ls.getD i []).length ci) ∧ RB W Ai (ls.getD i []) := by
  have hlen : vs.length = ls.length := hl.1
  obtain ⟨bb, ob, e, hlt, hcell⟩ := hv.lit_at 0 (by omega)
  refine ⟨bb, ob, e, hlt, fun i hi => ?_⟩
  obtain ⟨Ai, ci, hvi, hr⟩ := hl.at2 i hi
  have hc := hcell i (by omega)
  rw [List.getElem?_eq_getElem (by omega)] at hvi
  rw [Option.some.inj hvi] at hc
  exact ⟨Ai, ci, fun ad e hp => Rd.lt hr e (by intro h0; rw [List.map_eq_nil_iff] at h0; rw [h0] at hp; simp at hp), fun W hb => ⟨(hb.cell (p := ⟨bb, ob + i, none⟩) hlt).trans hc, hr.below hb⟩⟩
end Go.Proofs.Ytbhhjphgbdaanaa
