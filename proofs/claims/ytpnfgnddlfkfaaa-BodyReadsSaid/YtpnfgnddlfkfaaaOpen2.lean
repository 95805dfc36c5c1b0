/-
  From a law's '[][]byte' to the words of the walks.
-/
import Derived.Test.YtpnfgnddlfkfaaaOpen
import Derived.Deep.Matrix
set_option linter.unusedVariables false
namespace Go.Proofs.Ytpnfgnddlfkfaaa
open Go.ChangeShapes Go.WideShapes Go.ChangeAt Go.RowKit Go.Deep

theorem open_rows {H : Type} {enc : TypeId × Value → H} {P : Program} {w : World} {base : Nat} {held : Bool} {t e q : TypeId} {A : Option Addr} {n c : Nat} {d : DataW H} {p : List MemPlace}
    (ht : P.underlying t = some (.slice e)) (he : P.underlying e = some (.slice q)) (hq : P.underlying q = some (.int .u8)) (ce : P.cellsOf e = 1) (cq : P.cellsOf q = 1)
    (h : DataW.Trod enc P w base (fun _ => true) held t (.slice A n c) d p) :
    ∃ (vs : List Value) (ls : List (List UInt8)), ls.length = n ∧ n ≤ c ∧ c ≤ maxLen ∧ Rd w A vs ∧ AreB w vs ls ∧ ∀ l ∈ ls, l.length ≤ maxLen := by
  obtain ⟨fuel, hf⟩ := h
  rcases open_int_rows ht he hq ce cq hf with ⟨hcs, _⟩ | ⟨a, len, cap, B, L, C, Z, hcs, _, hl, hm, _, hrow⟩
  · simp [Value.cells] at hcs
    obtain ⟨rfl, rfl, rfl⟩ := hcs
    exact ⟨[], [], rfl, Nat.le_refl _, by simp, Rd.nil _ _, AreB.nil _, by simp⟩
  · simp [Value.cells] at hcs
    obtain ⟨rfl, rfl, rfl⟩ := hcs
    have hr : ∀ r, r < n → IsRow .u8 w (B r) (L r) (C r) (Z r) := by
      intro r hr
      obtain ⟨_, h1, h2, h3, h4, h5, h6⟩ := hrow r (by omega)
      cases hB : B r with
      | none =>
        have h0 := h5 hB
        refine .inl ⟨rfl, by omega, h0, ?_⟩
        exact List.eq_nil_of_length_eq_zero (by omega)
      | some x => exact .inr ⟨x, rfl, h1, h2, h3, fun i hi => (h6 x hB).2 i (by omega), h4⟩
    have hb : ∀ r, r < n → ∃ l : List UInt8, l.length = L r ∧ l.length ≤ maxLen ∧ l.length ≤ C r ∧ C r ≤ maxLen ∧ RB w (B r) l := fun r hr' => row_bytes (hr r hr')
    obtain ⟨f, hf'⟩ := choose_lt hb
    refine ⟨(List.range n).map fun r => .slice (B r) (L r) (C r), (List.range n).map f, by simp, hl, hm, ?_, ⟨by simp, ?_⟩, ?_⟩
    · intro i u hi
      refine ⟨a, rfl, ?_⟩
      have hlt : i < n := by
        have := (List.getElem?_eq_some_iff.1 hi).1
        simpa using this
      rw [List.getElem?_map, List.getElem?_range hlt] at hi
      simp at hi
      rw [← hi]
      exact (hrow i (by omega)).1
    · intro i h1 h2
      have hlt : i < n := by simpa using h1
      obtain ⟨e1, e2, e3, e4, e5⟩ := hf' i hlt
      simp
      exact ⟨B i, C i, by rw [e1], e3, e5⟩
    · intro l hl'
      obtain ⟨r, hr', rfl⟩ := List.mem_map.1 hl'
      exact (hf' r (by simpa using hr')).2.1
end Go.Proofs.Ytpnfgnddlfkfaaa
