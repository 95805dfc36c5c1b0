/-
  Laws for a step of a region that draws its order.
-/
import Derived.Test.YtpnfgnddlfkfaaaBase
import Derived.Deep.RegionLaw
import Derived.Deep.RegionHeldLaw
set_option linter.unusedSimpArgs false
set_option linter.unusedVariables false
namespace Go.Proofs.Ytpnfgnddlfkfaaa
open Go.RowKit

/-- the step of an append whose run is known, the slot written out -/
theorem step_app {P : Program} {w : World} {ops : Array Oper} {o : Oper} {a : Act} {K : Act → World → Prop} {Q : Exit → Act → World → Prop} {E : Prop} {d : Nat} (hgd : o.guard = none) (hd : o.dst = some d) (s x : Operand) (t u : TypeId)
    (ho : o.op = .call { callee := .builtin .append, args := #[s, x], argTypes := #[t, u] }) (v vx v' : Value) (w' : World) (hs : a.eval s = v) (hx : a.eval x = vx)
    (hrun : (Builtin.append_ #[t, u] o.type #[v, vx]).run P w = .ok v' w') (h : K (a.put (some d) v') w') :
    if Region.wanted o (yielded ops a.tmps) = true then Oper.wp P o a w K Q else E := by
  have hw : Region.wanted o (yielded ops a.tmps) = true := by simp [Region.wanted, hgd]
  rw [if_pos hw]
  unfold Oper.wp execOp
  simp only [ho, resolve, invoke, builtin, Sem.run_bind, Sem.run_pure, Result.andThen_ok, List.map_toArray, List.map_cons, List.map_nil, hs, hx, hrun]
  rw [← hd] at h
  exact h
/-- an append whose run is known up to what it leaves: used as a call's contract -/
theorem wpList_append_ex {P : Program} {w : World} {ops : Array Oper} {rest : List Oper} {o : Oper} {a : Act} {Q : Exit → Act → World → Prop} (hgd : o.guard = none) (s x : Operand) (t u : TypeId)
    (ho : o.op = .call { callee := .builtin .append, args := #[s, x], argTypes := #[t, u] }) (v vx : Value) (hs : a.eval s = v) (hx : a.eval x = vx) {R : Value → World → Prop}
    (hrun : ∃ v' w', (Builtin.append_ #[t, u] o.type #[v, vx]).run P w = .ok v' w' ∧ R v' w') (h : ∀ v' w', R v' w' → wpList P ops Q rest (a.put o.dst v') w') : wpList P ops Q (o :: rest) a w := by
  obtain ⟨v', w', h1, h2⟩ := hrun
  exact wpList_append_run hgd s x t u ho v vx v' w' hs hx h1 (h v' w' h2)
/-- a world that has grown from another, from block B on -/
structure Grw (B : Nat) (W0 W : World) : Prop where
  bel : Below B W0 W
  le : B ≤ W.heap.size
theorem Grw.refl {B : Nat} {W : World} (h : B ≤ W.heap.size) : Grw B W W := ⟨Below.refl _ _, h⟩
theorem Grw.alloc {B : Nat} {W0 W : World} (h : Grw B W0 W) (o : Obj) : Grw B W0 (W.alloc o) := ⟨h.bel.alloc h.le o, by have := h.le; simp; omega⟩
theorem Grw.drew {B : Nat} {W0 W : World} (h : Grw B W0 W) : Grw B W0 W.drew := ⟨h.bel.drew, h.le⟩
theorem Grw.call {B : Nat} {W0 W W' : World} (h : Grw B W0 W) (hb : Below W.heap.size W W') : Grw B W0 W' := ⟨h.bel.trans (hb.mono h.le), Nat.le_trans h.le hb.size⟩
theorem Grw.setCell {B : Nat} {W0 W : World} (h : Grw B W0 W) {g : Nat} (hg : B ≤ g) (i : Nat) (u : Value) : Grw B W0 (W.setCell ⟨g, i, none⟩ u) := ⟨h.bel.setCell hg u, by simpa using h.le⟩
theorem Blk.drew' {w : World} {g : Nat} {e : TypeId} {cs : Array Value} (h : Blk w g e cs) : Blk w.drew g e cs := h
/-- the same in a region that draws its order -/
theorem step_app_ex {P : Program} {w : World} {ops : Array Oper} {o : Oper} {a : Act} {K : Act → World → Prop} {Q : Exit → Act → World → Prop} {E : Prop} {d : Nat} (hgd : o.guard = none) (hd : o.dst = some d) (s x : Operand) (t u : TypeId)
    (ho : o.op = .call { callee := .builtin .append, args := #[s, x], argTypes := #[t, u] }) (v vx : Value) (hs : a.eval s = v) (hx : a.eval x = vx) {R : Value → World → Prop}
    (hrun : ∃ v' w', (Builtin.append_ #[t, u] o.type #[v, vx]).run P w = .ok v' w' ∧ R v' w') (h : ∀ v' w', R v' w' → K (a.put (some d) v') w') :
    if Region.wanted o (yielded ops a.tmps) = true then Oper.wp P o a w K Q else E := by
  obtain ⟨v', w', h1, h2⟩ := hrun
  exact step_app hgd hd s x t u ho v vx v' w' hs hx h1 (h v' w' h2)
theorem Grw.app {B : Nat} {W0 W W' : World} (h : Grw B W0 W) (hb : Below B W W') : Grw B W0 W' := ⟨h.bel.trans hb, Nat.le_trans h.le hb.size⟩
end Go.Proofs.Ytpnfgnddlfkfaaa
