/-
  From a law's '[]uint32', '[]bool', '[]string', text, float to the words of the walks.
-/
import Derived.Test.YtpnfgnddlfkfaaaOpen
import Derived.Deep.Grids
import Derived.SliceStrings
import Derived.Laws.Cover2
set_option linter.unusedVariables false
namespace Go.Proofs.Ytpnfgnddlfkfaaa
open Go.ChangeShapes Go.WideShapes Go.ChangeAt Go.RowKit Go.Deep

theorem Rd.of_at {w : World} {a : Addr} {cs : List Value} (h : ∀ i (hi : i < cs.length), w.cell? (a.add i) = some cs[i]) : Rd w (some a) cs := by
  intro i u hi
  obtain ⟨hlt, e⟩ := List.getElem?_eq_some_iff.1 hi
  exact ⟨a, rfl, by rw [h i hlt, e]⟩

theorem open_row_ints {H : Type} {enc : TypeId × Value → H} {P : Program} {w : World} {base : Nat} {held : Bool} {t e : TypeId} {k : IntKind} {A : Option Addr} {n c : Nat} {d : DataW H} {p : List MemPlace}
    (ht : P.underlying t = some (.slice e)) (he : P.underlying e = some (.int k)) (ce : P.cellsOf e = 1) (h : DataW.Trod enc P w base (fun _ => true) held t (.slice A n c) d p) :
    ∃ zs : List Int, zs.length = n ∧ n ≤ c ∧ c ≤ maxLen ∧ Rd w A (zs.map (Value.int k)) ∧ ∀ z ∈ zs, (Lit.int k z).wf = true := by
  obtain ⟨fuel, hf⟩ := h
  rcases open_ints ht he ce hf with ⟨hcs, _⟩ | ⟨x, l, c', zs, hcs, _, hl, hm, hz, _, hcell, hwz⟩
  · simp [Value.cells] at hcs
    obtain ⟨rfl, rfl, rfl⟩ := hcs
    exact ⟨[], rfl, Nat.le_refl _, by simp, Rd.nil _ _, by simp⟩
  · simp [Value.cells] at hcs
    obtain ⟨rfl, rfl, rfl⟩ := hcs
    simp only [if_true] at hz
    refine ⟨zs.take n, by rw [List.length_take]; omega, hl, hm, Rd.of_at fun i hi => ?_, fun z hz' => hwz z (List.mem_of_mem_take hz')⟩
    simp only [List.length_map, List.length_take] at hi
    rw [hcell i (by omega)]
    simp [List.getD_eq_getElem?_getD, List.getElem?_eq_getElem (by omega : i < zs.length)]
theorem u32_nats {w : World} {A : Option Addr} {n : Nat} {zs : List Int} (hl : zs.length = n) (hr : Rd w A (zs.map (Value.int .u32))) (h : ∀ z ∈ zs, (Lit.int .u32 z).wf = true) :
    ∃ ns : List Nat, ns.length = n ∧ Rd w A (ns.map fun x : Nat => Value.int .u32 (x : Int)) ∧ ∀ x ∈ ns, x ≤ 4294967295 := by
  have hb : ∀ z ∈ zs, 0 ≤ z ∧ z ≤ 4294967295 := by
    intro z hz
    have := h z hz
    simp [Lit.wf, IntKind.min, IntKind.max, IntKind.signed, IntKind.bits] at this
    omega
  have e : (zs.map Int.toNat).map (fun x : Nat => Value.int .u32 (x : Int)) = zs.map (Value.int .u32) := by
    rw [List.map_map]
    exact List.map_congr_left fun z hz => by
      have := hb z hz
      show Value.int .u32 ((z.toNat : Nat) : Int) = _
      rw [Int.toNat_of_nonneg this.1]
  refine ⟨zs.map Int.toNat, by rw [List.length_map]; exact hl, by rw [e]; exact hr, fun x hx => ?_⟩
  obtain ⟨z, hz, rfl⟩ := List.mem_map.1 hx
  have := hb z hz
  omega
theorem open_row_bools {H : Type} {enc : TypeId × Value → H} {P : Program} {w : World} {base : Nat} {held : Bool} {t e : TypeId} {A : Option Addr} {n c : Nat} {d : DataW H} {p : List MemPlace}
    (ht : P.underlying t = some (.slice e)) (he : P.underlying e = some .bool) (ce : P.cellsOf e = 1) (h : DataW.Trod enc P w base (fun _ => true) held t (.slice A n c) d p) :
    ∃ zs : List Bool, zs.length = n ∧ n ≤ c ∧ c ≤ maxLen ∧ Rd w A (zs.map Value.bool) := by
  obtain ⟨fuel, hf⟩ := h
  rcases open_bools ht he ce hf with ⟨hcs, _⟩ | ⟨x, l, c', B, hcs, _, hl, hm, _, hcell⟩
  · simp [Value.cells] at hcs
    obtain ⟨rfl, rfl, rfl⟩ := hcs
    exact ⟨[], rfl, Nat.le_refl _, by simp, Rd.nil _ _⟩
  · simp [Value.cells] at hcs
    obtain ⟨rfl, rfl, rfl⟩ := hcs
    refine ⟨(List.range n).map B, by simp, hl, hm, Rd.of_at fun i hi => ?_⟩
    simp only [List.length_map, List.length_range] at hi
    rw [hcell i (by omega)]
    simp
/-- a text as a value -/
def sv (l : List UInt8) : Value := .string ⟨l.toArray⟩
theorem open_row_strings {H : Type} {enc : TypeId × Value → H} {P : Program} {w : World} {base : Nat} {held : Bool} {t e : TypeId} {A : Option Addr} {n c : Nat} {d : DataW H} {p : List MemPlace}
    (ht : P.underlying t = some (.slice e)) (he : P.underlying e = some .string) (ce : P.cellsOf e = 1) (h : DataW.Trod enc P w base (fun _ => true) held t (.slice A n c) d p) :
    ∃ zs : List (List UInt8), zs.length = n ∧ n ≤ c ∧ c ≤ maxLen ∧ Rd w A (zs.map sv) ∧ ∀ z ∈ zs, z.length ≤ maxLen := by
  obtain ⟨fuel, hf⟩ := h
  rcases open_strings ht he ce hf with ⟨hcs, _⟩ | ⟨x, l, c', ss, hcs, _, hl, hm, hz, _, hcell, hws⟩
  · simp [Value.cells] at hcs
    obtain ⟨rfl, rfl, rfl⟩ := hcs
    exact ⟨[], rfl, Nat.le_refl _, by simp, Rd.nil _ _, by simp⟩
  · simp [Value.cells] at hcs
    obtain ⟨rfl, rfl, rfl⟩ := hcs
    simp only [if_true] at hz
    refine ⟨(ss.take n).map fun s => s.data.toList, by rw [List.length_map, List.length_take]; omega, hl, hm, Rd.of_at fun i hi => ?_, fun z hz' => ?_⟩
    · simp only [List.length_map, List.length_take] at hi
      rw [hcell i (by omega)]
      have e1 : ss.getD i ByteArray.empty = ss[i] := by
        rw [List.getD_eq_getElem?_getD, List.getElem?_eq_getElem (by omega)]
        rfl
      have e2 : (((ss.take n).map fun s => s.data.toList).map sv)[i]'(by simp; omega) = sv (ss[i]'(by omega)).data.toList := by
        rw [List.getElem_map, List.getElem_map, List.getElem_take]
      rw [e1, e2]
      rfl
    · obtain ⟨s, hs, rfl⟩ := List.mem_map.1 hz'
      exact hws s (List.mem_of_mem_take hs)
end Go.Proofs.Ytpnfgnddlfkfaaa
