/-
  What the bound on the bulk of the arguments gives: no text is longer.
-/
import Derived.Test.YtangfnenfhkokaaOpen3
import Derived.JoinedCond
set_option linter.unusedVariables false
namespace Go.Proofs.Ytangfnenfhkokaa
open Go.ChangeShapes Go.WideShapes Go.ChangeAt Go.RowKit Go.Deep

theorem bulk_part {H : Type} {d : DataW H} {l : List (DataW H)} (h : d ∈ l) : Rows.uptoBulk d ≤ Rows.uptoBulkAll l := by
  induction l with
  | nil => cases h
  | cons x r ih =>
    simp only [Rows.uptoBulkAll]
    cases List.mem_cons.1 h with
    | inl e => subst e; omega
    | inr e => have := ih e; omega
theorem bulk_elem {H : Type} {d : DataW H} {l r : List (DataW H)} (h : d ∈ l) : Rows.uptoBulk d ≤ Rows.uptoBulk (.slice l r) := by
  have := bulk_part h
  simp only [Rows.uptoBulk]
  omega
theorem bulk_text {H : Type} (bytes : List UInt8) : bytes.length ≤ Rows.uptoBulk (DataW.lit (H := H) (.string bytes)) := by
  simp [Rows.uptoBulk]
theorem bulk_bound {H : Type} {l : List (DataW H)} {d : DataW H} (hk : Rows.uptoSmall H l = true) (h : d ∈ l) : Rows.uptoBulk d ≤ 1048576 := by
  have h1 : Rows.uptoBulkAll l ≤ 1048576 := of_decide_eq_true hk
  have h2 := bulk_part h
  omega

theorem strings_bulk {H : Type} {enc : TypeId × Value → H} {P : Program} {w : World} {base : Nat} {held : Bool} {t e : TypeId} {A : Option Addr} {n c : Nat} {d : DataW H} {p : List MemPlace}
    (ht : P.underlying t = some (.slice e)) (he : P.underlying e = some .string) (ce : P.cellsOf e = 1) (h : DataW.Trod enc P w base (fun _ => true) held t (.slice A n c) d p) (zs : List (List UInt8)) (hn : zs.length = n) (hr : Rd w A (zs.map sv)) :
    ∀ z ∈ zs, z.length ≤ Rows.uptoBulk d := by
  obtain ⟨fuel, hf⟩ := h
  rcases open_strings ht he ce hf with ⟨hcs, _⟩ | ⟨x, l, c', ss, hcs, _, hl, hm, hz, hd, hcell, hws⟩
  · simp [Value.cells] at hcs
    obtain ⟨rfl, rfl, rfl⟩ := hcs
    have : zs = [] := List.length_eq_zero_iff.1 hn
    subst this
    intro z hz
    cases hz
  · simp [Value.cells] at hcs
    obtain ⟨rfl, rfl, rfl⟩ := hcs
    simp only [if_true] at hz
    simp only [Prod.mk.injEq] at hd
    obtain ⟨rfl, _⟩ := hd
    intro z hz'
    obtain ⟨i, hi, rfl⟩ := List.getElem_of_mem hz'
    have hc1 := hcell i (by omega)
    obtain ⟨ad, e1, hc2⟩ := hr i (sv zs[i]) (by simp [hi])
    cases e1
    rw [hc1] at hc2
    have e2 : ss.getD i ByteArray.empty = ⟨zs[i].toArray⟩ := by
      exact Value.string.inj (Option.some.inj hc2)
    have e3 : ss.getD i ByteArray.empty = ss[i]'(by omega) := by
      rw [List.getD_eq_getElem?_getD, List.getElem?_eq_getElem (by omega)]
      rfl
    have e4 : zs[i] = (ss[i]'(by omega)).data.toList := by rw [← e3, e2]
    have hmem : DataW.lit (H := H) (.string zs[i]) ∈ strs (ss.take n) := by
      rw [e4]
      exact List.mem_map.2 ⟨ss[i]'(by omega), by rw [List.mem_take_iff_getElem]; exact ⟨i, by omega, rfl⟩, rfl⟩
    exact Nat.le_trans (bulk_text _) (bulk_elem hmem)
end Go.Proofs.Ytangfnenfhkokaa
