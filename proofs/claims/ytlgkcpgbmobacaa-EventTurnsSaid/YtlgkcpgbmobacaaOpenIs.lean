/-
  A row of items as an argument.
-/
import Derived.Test.YtlgkcpgbmobacaaOpenI
import Derived.Test.YtlgkcpgbmobacaaFlat
set_option linter.unusedVariables false
set_option linter.unusedSimpArgs false
namespace Go.Proofs.Ytlgkcpgbmobacaa
open Go.ChangeShapes Go.WideShapes Go.ChangeAt Go.RowKit Go.Deep

/-- an item and where its two slices lie -/
structure IX where
  i : Item
  A5 : Option Addr
  c5 : Nat
  A6 : Option Addr
  c6 : Nat
def IX.cs (x : IX) : List Value := [.int .i64 x.i.op, .string ⟨x.i.path.toArray⟩, .string ⟨x.i.to_.toArray⟩, .int .i64 x.i.off, .int .i64 x.i.size, .slice x.A5 x.i.data x.c5, .slice x.A6 x.i.parts.length x.c6]
theorem IX.cs_length (x : IX) : x.cs.length = 7 := rfl
theorem IX.cs_one (x : IX) : ∀ u ∈ x.cs, u.oneCell' = true := by
  intro u hu
  simp [IX.cs] at hu
  rcases hu with rfl | rfl | rfl | rfl | rfl | rfl | rfl <;> rfl
/-- what is known of it in a world -/
def IX.ok (w : World) (x : IX) : Prop := x.i.path.length ≤ 9223372036854775807 ∧ x.i.to_.length ≤ 9223372036854775807 ∧ x.i.parts.length ≤ 9223372036854775807 ∧ x.i.data ≤ 9223372036854775807 ∧ Rd w x.A6 (pcs x.i.parts)
theorem IX.ok.below {w w' : World} {x : IX} (h : x.ok w) (hb : Below w.heap.size w w') : x.ok w' := ⟨h.1, h.2.1, h.2.2.1, h.2.2.2.1, h.2.2.2.2.below hb⟩
instance : Inhabited IX := ⟨⟨⟨0, [], [], 0, 0, 0, []⟩, none, 0, none, 0⟩⟩
section
variable {H : Type} {enc : TypeId × Value → H} {w : World} {base : Nat} {held : Bool}
theorem open_items {A : Option Addr} {n c : Nat} {d : DataW H} {p : List MemPlace} (h : DataW.Trod enc Try.prog w base (fun _ => true) held 83 (.slice A n c) d p) :
    ∃ xs : List IX, xs.length = n ∧ n ≤ c ∧ c ≤ 9223372036854775807 ∧ Rd w A (flat IX.cs xs) ∧ ∀ x ∈ xs, x.ok w := by
  obtain ⟨fuel, hf⟩ := h
  rcases open_slice Try.underlying83 hf with ⟨hcs, _⟩ | ⟨a, len, cap, m, n', D, Pl, hcs, _, hl, hm, hmm, _, hx⟩
  · simp [Value.cells] at hcs
    obtain ⟨rfl, rfl, rfl⟩ := hcs
    exact ⟨[], rfl, Nat.le_refl _, by omega, Rd.nil _ _, fun x hx => by cases hx⟩
  · simp [Value.cells] at hcs
    obtain ⟨rfl, rfl, rfl⟩ := hcs
    simp only [if_true] at hmm
    subst hmm
    have hc : Try.prog.cellsOf 61 = 7 := by kernel_rfl
    rw [hc] at hx
    obtain ⟨F, hF⟩ := choose_lt (α := IX) (p := fun i x => (∀ k, k < 7 → w.cell? ((a.add (i * 7)).add k) = (x.cs)[k]?) ∧ x.ok w) (n := m) (fun i hi => by
      obtain ⟨cs', h1, h2⟩ := hx i hi
      obtain ⟨it, A5, c5, A6, c6, rfl, hp1, hp2, hd1, hd2, hq1, hq2, hr, _⟩ := trod_item h2
      unfold maxLen at hp1 hp2 hd2 hq2
      exact ⟨⟨it, A5, c5, A6, c6⟩, (World.cells?_some h1).2.2, by simp only; omega, by simp only; omega, by simp only; omega, by simp only; omega, hr⟩)
    unfold maxLen at hm
    refine ⟨(List.range n).map F, by simp, by simpa using hl, by omega, Rd.of_flat IX.cs_length fun i hi k hk => (hF i (by omega)).1 k hk, ?_⟩
    intro x hx
    obtain ⟨i, hi, rfl⟩ := List.mem_map.1 hx
    exact (hF i (by have := List.mem_range.1 hi; omega)).2
end
end Go.Proofs.Ytlgkcpgbmobacaa
