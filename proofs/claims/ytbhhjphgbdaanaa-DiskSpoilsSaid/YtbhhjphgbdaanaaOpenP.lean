/-
  From a law's '[2][]byte' to the words of the walks.
-/
import Derived.Test.YtbhhjphgbdaanaaOpen
import Derived.Test.YtbhhjphgbdaanaaOpen2
set_option linter.unusedVariables false
set_option linter.unusedSimpArgs false
set_option maxRecDepth 100000
namespace Go.Proofs.Ytbhhjphgbdaanaa
open Go.ChangeShapes Go.WideShapes Go.ChangeAt Go.RowKit Go.Deep

/-- one cell that is a slice of bytes -/
theorem cell_bytes {H : Type} {enc : TypeId × Value → H} {w : World} {base n : Nat} {held : Bool} {cs : List Value} {x : DataW H × List MemPlace}
    (h : DataW.trod enc Try.prog w base (fun _ => true) held n 35 cs = some x) : ∃ (A : Option Addr) (c : Nat) (l : List UInt8), cs = [.slice A l.length c] ∧ l.length ≤ c ∧ c ≤ maxLen ∧ RB w A l := by
  rcases open_ints Try.underlying35 Try.underlying5 (by kernel_rfl) h with ⟨rfl, _⟩ | ⟨a, len, cap, zs, rfl, _, hl, hm, hz, _, hcell, hwz⟩
  · exact ⟨none, 0, [], rfl, Nat.le_refl _, by simp, RB.nil _ _⟩
  · obtain ⟨l, h1, h2, h3, h4, h5⟩ := row_bytes (.inr ⟨a, rfl, hl, hm, by simpa using hz, hcell, hwz⟩ : IsRow .u8 w (some a) len cap zs)
    exact ⟨some a, cap, l, by rw [h1], by omega, by omega, h5⟩
theorem open_pair {H : Type} {enc : TypeId × Value → H} {w : World} {r : Reach} {b0 base : Nat} {held : Bool} {v : Value} {d : DataW H} {p : List MemPlace}
    (hv : Value.okWide Try.prog w r b0 71 v) (h : DataW.Trod enc Try.prog w base (fun _ => true) held 71 v d p) :
    ∃ (A0 A1 : Option Addr) (c0 c1 : Nat) (l0 l1 : List UInt8), v = .agg #[.slice A0 l0.length c0, .slice A1 l1.length c1] ∧ l0.length ≤ c0 ∧ c0 ≤ maxLen ∧ l1.length ≤ c1 ∧ c1 ≤ maxLen ∧ RB w A0 l0 ∧ RB w A1 l1 := by
  obtain ⟨cs, rfl, hsz⟩ : ∃ cs, v = .agg cs ∧ cs.size = Try.prog.cellsOf 71 := by
    simp only [Value.okWide, Try.underlying71] at hv
    obtain ⟨cs, h1, h2, _⟩ := hv
    exact ⟨cs, h1, h2⟩
  obtain ⟨fuel, hf⟩ := h
  obtain ⟨xs, m, _, _, hl, hxn, hel⟩ := DataW.trod_array Try.underlying71 hf
  have hcl : (Value.agg cs).cells.toList = cs.toList := rfl
  have hce : Try.prog.cellsOf 35 = 1 := by kernel_rfl
  have hcs : cs.toList.length = 2 := by simpa using hsz.trans (by kernel_rfl)
  rw [hcl] at hl hel
  have hcell : ∀ i, i < 2 → ∃ (A : Option Addr) (c : Nat) (l : List UInt8), cs.toList[i]? = some (.slice A l.length c) ∧ l.length ≤ c ∧ c ≤ maxLen ∧ RB w A l := by
    intro i hi
    have h1 := hel i hi
    rw [hce, Nat.mul_one, List.getElem?_eq_getElem (by omega : i < xs.length)] at h1
    obtain ⟨A, c, l, h2, h3, h4, h5⟩ := cell_bytes h1
    refine ⟨A, c, l, ?_, h3, h4, h5⟩
    have := congrArg (fun l : List Value => l[0]?) h2
    simpa [List.getElem?_take] using this
  obtain ⟨A0, c0, l0, e0, a0, b0', r0⟩ := hcell 0 (by omega)
  obtain ⟨A1, c1, l1, e1, a1, b1, r1⟩ := hcell 1 (by omega)
  refine ⟨A0, A1, c0, c1, l0, l1, ?_, a0, b0', a1, b1, r0, r1⟩
  congr 1
  apply Array.toList_inj.1
  match hq : cs.toList, hcs with
  | [x, y], _ =>
    rw [hq] at e0 e1
    simp at e0 e1
    rw [e0, e1]
end Go.Proofs.Ytbhhjphgbdaanaa
