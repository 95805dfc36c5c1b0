/-
  A map keyed by integers, as a function from keys to values.
-/
import Derived.Test.YtpnfgnddlfkfaaaFoot
import Derived.Maps.OwnSet
import Derived.Maps.Range
set_option linter.unusedSimpArgs false
set_option linter.unusedVariables false
namespace Go.Proofs.Ytpnfgnddlfkfaaa
open Go.RowKit Go.Maps Go.ChangeMaps Go.MapKept

def mR (v : Value) : Option (DataW Value × List MemPlace) := some (.held v, [])

/-- block M is a map of at most n entries: f x is what it has at x -/
def MapF (P : Program) (k : TypeId) (q : IntKind) (w : World) (M n : Nat) (f : Int → Option Value) : Prop :=
  ∃ D : DataW Value, w.ownsMap P k mR M n D ∧ ∀ x, (Lit.int q x).wf = true → Maps.has D (.int q x) = (f x).isSome ∧ ∀ v, f x = some v → ∀ z, D.atKey (.int q x) z = .held v

section
variable {P : Program} {k e t : TypeId} {q : IntKind} {w : World} {M n : Nat} {f : Int → Option Value}
theorem MapF.made (w : World) : MapF P k q (w.alloc (.map #[] 0)) w.heap.size 0 (fun _ => none) :=
  ⟨.map [], World.ownsMap_made w P k mR, fun x _ => ⟨rfl, fun v h => by cases h⟩⟩
theorem MapF.lt (h : MapF P k q w M n f) : M < w.heap.size := by obtain ⟨D, h, _⟩ := h; exact h.lt
theorem MapF.kp {F : Nat → Prop} {w' : World} (h : MapF P k q w M n f) (hk : Kp F w w') (hF : ¬ F M) : MapF P k q w' M n f := by
  obtain ⟨D, ⟨es, clock, hb, r⟩, h2⟩ := h
  exact ⟨D, ⟨es, clock, (hk.block M (Array.getElem?_eq_some_iff.1 hb).1 hF).trans hb, r⟩, h2⟩
theorem MapF.below {w' : World} (h : MapF P k q w M n f) (hb : Below w.heap.size w w') : MapF P k q w' M n f := h.kp (F := fun _ => False) (Kp.of hb) fun h => h
theorem MapF.mono {n' : Nat} (h : MapF P k q w M n f) (hn : n ≤ n') : MapF P k q w M n' f := by
  obtain ⟨D, h1, h2⟩ := h
  exact ⟨D, h1.mono hn, h2⟩
theorem MapF.set {g i : Nat} {u : Value} {cs : Array Value} {ty : TypeId} (h : MapF P k q w M n f) (hb : Blk w g ty cs) : MapF P k q (w.setCell ⟨g, i, none⟩ u) M n f := by
  have hne : M ≠ g := by
    intro e
    obtain ⟨D, ⟨es, clock, hm, _⟩, _⟩ := h
    unfold Blk at hb
    rw [e, hb] at hm
    cases hm
  exact h.kp ((Kp.refl (fun j => j = g) w).setCell i u rfl) hne
/-- a map's block is no row -/
theorem MapF.no_blk {g : Nat} {cs : Array Value} {ty : TypeId} (h : MapF P k q w M n f) (hb : Blk w g ty cs) : M ≠ g := by
  intro e
  obtain ⟨D, ⟨es, clock, hm, _⟩, _⟩ := h
  unfold Blk at hb
  rw [e, hb] at hm
  cases hm
theorem key_of (hk : P.underlying k = some (.int q)) {x : Int} (hx : (Lit.int q x).wf = true) : keyOf P k (.int q x) = some (.int q x) := keyOf_int_mk hk hx
theorem isKey_int (x : Int) : WideAt.IsKeyLit (.int q x) := trivial
/-- 'v, ok := m[x]' -/
theorem MapF.look2 (h : MapF P k q w M n f) (hk : P.underlying k = some (.int q)) (ht : P.underlying t = some (.map k e)) {z : Value} (hz : (zeroValue e).run P w = .ok z w) {x : Int} (hx : (Lit.int q x).wf = true) :
    (Instr.lookup t (.map (some M)) (.int q x) true).run P w = .ok (.tuple #[(f x).getD z, .bool (f x).isSome]) w := by
  obtain ⟨D, h1, h2⟩ := h
  obtain ⟨a, b⟩ := h2 x hx
  obtain ⟨v, ps, hrun, hv⟩ := h1.look_ok (int_keyed hk) ht hz (zd := .held z) (zp := []) rfl (key_of hk hx)
  rw [hrun, a]
  have hv' : DataW.held v = D.atKey (.int q x) (.held z) := by
    unfold mR at hv
    injection hv with hv
    exact (Prod.mk.inj hv).1
  cases hf : f x with
  | none =>
    rw [hf] at a
    rw [atKey_of_not_has a] at hv'
    injection hv' with hv'
    subst hv'
    rfl
  | some u =>
    rw [b u hf] at hv'
    injection hv' with hv'
    subst hv'
    rfl
/-- 'm[x]' -/
theorem MapF.look1 (h : MapF P k q w M n f) (hk : P.underlying k = some (.int q)) (ht : P.underlying t = some (.map k e)) {z : Value} (hz : (zeroValue e).run P w = .ok z w) {x : Int} (hx : (Lit.int q x).wf = true) :
    (Instr.lookup t (.map (some M)) (.int q x) false).run P w = .ok ((f x).getD z) w := by
  obtain ⟨D, h1, h2⟩ := h
  obtain ⟨a, b⟩ := h2 x hx
  obtain ⟨v, ps, hrun, hv⟩ := h1.lookup (int_keyed hk) ht hz (zd := .held z) (zp := []) rfl (key_of hk hx)
  rw [hrun]
  have hv' : DataW.held v = D.atKey (.int q x) (.held z) := by
    unfold mR at hv
    injection hv with hv
    exact (Prod.mk.inj hv).1
  cases hf : f x with
  | none =>
    rw [hf] at a
    rw [atKey_of_not_has a] at hv'
    injection hv' with hv'
    subst hv'
    rfl
  | some u =>
    rw [b u hf] at hv'
    injection hv' with hv'
    subst hv'
    rfl
theorem kp_map {w' : World} {M : Nat} (h : w.grownBy w' (some M)) : Kp (fun j => j = M) w w' := ⟨h.os, h.tape, h.output, h.size, fun k hk hF => h.block k hk fun e => hF (Option.some.inj e)⟩
/-- 'm[x] = v' -/
theorem MapF.store (h : MapF P k q w M n f) (hk : P.underlying k = some (.int q)) (ht : P.underlying t = some (.map k e)) (hn : n < maxLen) {x : Int} (hx : (Lit.int q x).wf = true) (v : Value) :
    ∃ w', (Instr.mapUpdate t (.map (some M)) (.int q x) v).run P w = .ok () w' ∧ MapF P k q w' M (n + 1) (fun y => if y = x then some v else f y) ∧ Kp (fun j => j = M) w w' ∧ w'.heap.size = w.heap.size := by
  obtain ⟨D, h1, h2⟩ := h
  obtain ⟨w', hrun, h3, h4⟩ := h1.store (int_keyed hk) ht hn (val := v) (d := .held v) (ps := []) (key_of hk hx) rfl
  refine ⟨w', hrun, ⟨_, h3, fun y hy => ?_⟩, kp_map h4.grown, ?_⟩
  · by_cases e : y = x
    · subst e
      refine ⟨by rw [has_put_same h1.isMap (isKey_int y)]; simp, fun u hu z => ?_⟩
      simp only [if_true] at hu
      cases hu
      rw [atKey_put_same h1.isMap (isKey_int y)]
    · have hne : (Lit.int q y) ≠ Lit.int q x := fun h => e (by injection h)
      obtain ⟨a, b⟩ := h2 y hy
      refine ⟨by rw [has_put_other hne, a]; simp only [if_neg e], fun u hu z => ?_⟩
      simp only [if_neg e] at hu
      rw [atKey_put_other hne]
      exact b u hu z
  · obtain ⟨es, clock, es', clock', hb, rfl⟩ := h4
    simp [setBlock]
/-- 'delete(m, x)' -/
theorem MapF.drop (h : MapF P k q w M n f) (hk : P.underlying k = some (.int q)) (ht : P.underlying t = some (.map k e)) {x : Int} (hx : (Lit.int q x).wf = true) (ty : TypeId) :
    ∃ w', (Builtin.delete_ #[t, k] ty #[.map (some M), .int q x]).run P w = .ok (.tuple #[]) w' ∧ MapF P k q w' M n (fun y => if y = x then none else f y) ∧ Kp (fun j => j = M) w w' ∧ w'.heap.size = w.heap.size := by
  obtain ⟨D, h1, h2⟩ := h
  obtain ⟨w', hrun, h3, h4⟩ := h1.drop (int_keyed hk) ht (key_of hk hx) ty
  refine ⟨w', hrun, ⟨_, h3, fun y hy => ?_⟩, kp_map h4.grown, ?_⟩
  · by_cases e : y = x
    · subst e
      exact ⟨by rw [has_del_same]; simp, fun u hu z => by simp at hu⟩
    · have hne : (Lit.int q y) ≠ Lit.int q x := fun h => e (by injection h)
      obtain ⟨a, b⟩ := h2 y hy
      refine ⟨by rw [has_del_other hne, a]; simp only [if_neg e], fun u hu z => ?_⟩
      simp only [if_neg e] at hu
      rw [atKey_del_other hne]
      exact b u hu z
  · obtain ⟨es, clock, es', clock', hb, rfl⟩ := h4
    simp [setBlock]
/-- 'clear(m)' -/
theorem MapF.clear (h : MapF P k q w M n f) (ht : P.underlying t = some (.map k e)) (ty : TypeId) :
    ∃ w', (Builtin.clear_ #[t] ty #[.map (some M)]).run P w = .ok (.tuple #[]) w' ∧ MapF P k q w' M 0 (fun _ => none) ∧ Kp (fun j => j = M) w w' ∧ w'.heap.size = w.heap.size := by
  obtain ⟨D, ⟨es, clock, hb, F, hs, hD⟩, h2⟩ := h
  refine ⟨setBlock w M (.map #[] clock), ?_, ⟨.map [], ⟨#[], clock, heap_setBlock_same hb _, ⟨by simp, stamped_empty _, by simp⟩, Nat.le_refl _, rfl⟩, fun x _ => ⟨rfl, fun v h => by cases h⟩⟩, kp_map ⟨rfl, rfl, rfl, by simp [setBlock], fun i _ hi => heap_setBlock_other hb _ (fun e => hi (by rw [e]))⟩, by simp [setBlock]⟩
  simp [Builtin.clear_, run_underlying ht, MapKept.run_getObj_map hb, MapKept.run_setObj_map _ hb, Result.andThen, setBlock]
end
end Go.Proofs.Ytpnfgnddlfkfaaa
