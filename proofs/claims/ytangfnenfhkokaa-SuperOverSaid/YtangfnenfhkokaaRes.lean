/-
  Bytes that were made, apart from a row that grows.
-/
import Derived.Test.YtangfnenfhkokaaFoot
import Derived.Test.YtangfnenfhkokaaPenMath
import Derived.Test.YtangfnenfhkokaaDisk
import Derived.Test.YtangfnenfhkokaaRef1
import Derived.Deep.RegionHeldLaw
import Derived.Deep.RegionHeld3
import Derived.Deep.DrawnRows
import Derived.Deep.CutBlock
set_option linter.unusedSimpArgs false
set_option linter.unusedVariables false
namespace Go.Proofs.Ytangfnenfhkokaa
open Go.RowKit

/-- bytes that were made, apart from the row v that grows -/
structure Res (w : World) (v : Value) (A : Option Addr) (l : List UInt8) : Prop where
  rd : RB w A l
  lt : ∀ ad, A = some ad → ad.block < w.heap.size
  ne : ∀ ad, A = some ad → v.ownBlock ≠ some ad.block
theorem Res.below {w w' : World} {v : Value} {A : Option Addr} {l : List UInt8} (h : Res w v A l) (hb : Below w.heap.size w w') : Res w' v A l := ⟨h.rd.below hb, fun ad e => Nat.lt_of_lt_of_le (h.lt ad e) hb.size, h.ne⟩
/-- what a call made is apart from a row that was there -/
theorem Res.new {w w' : World} {B : Nat} {v u : Value} {e : TypeId} {cs : List Value} {l : List UInt8} (hv : Own w B e v cs) (ho : Own w' w.heap.size 5 u (l.map eb)) : ∃ A c, u = .slice A l.length c ∧ Res w' v A l := by
  have hlt := ho.lt
  have hvl := hv.lt
  obtain ⟨A, c, rfl, hc, hr⟩ := ho.bytes
  refine ⟨A, c, rfl, hr, fun ad e => ?_, fun ad e hk => ?_⟩
  · subst e
    have h1 : (Value.slice (some ad) l.length c).ownBlock = some ad.block := rfl
    exact (hlt _ h1).2
  · subst e
    have h1 : (Value.slice (some ad) l.length c).ownBlock = some ad.block := rfl
    have h2 := (hlt _ h1).1
    have h3 := (hvl _ hk).2
    omega
theorem Own.rebase {w : World} {B B' : Nat} {e : TypeId} {v : Value} {cs : List Value} (h : Own w B e v cs) (hB : ∀ k, v.ownBlock = some k → B' ≤ k) : Own w B' e v cs := by
  obtain ⟨h1, h2⟩ := h
  refine ⟨h1, h2.imp id ?_⟩
  rintro ⟨g, cap, cur, rfl, hg, r⟩
  exact ⟨g, cap, cur, rfl, hB g rfl, r⟩
/-- the row takes such bytes in; others stay apart -/
theorem append_res {w : World} {B : Nat} {v : Value} {a : List UInt8} (hv : Own w B 5 v (a.map eb)) {A : Option Addr} {n : Nat} (c : Nat) {l : List UInt8} (h : Res w v A l) (hn : l.length = n) (hne : 0 < l.length) (hl : a.length + l.length ≤ 140737488355328) (hB : B ≤ w.heap.size) :
    ∃ v' w2, Hid ((Builtin.append_ #[42, 42] 42 #[v, .slice A n c]).run Try.prog w = .ok v' w2) ∧ Own w2 B 5 v' ((a ++ l).map eb) ∧ Below B w w2 ∧ Hid (∀ A2 l2, Res w v A2 l2 → Res w2 v' A2 l2) := by
  obtain ⟨ad, rfl⟩ := h.rd.some_of hne
  · obtain ⟨v', w2, HR, ho, hg, hloc⟩ := append_bytes_at w v a (hv.rebase fun _ _ => Nat.zero_le _) ad n c l hn h.rd hl
    have hvl := hv.lt
    have ho' : Own w2 B 5 v' ((a ++ l).map eb) := ho.rebase fun k hk => by
      rcases hloc with e | e
      · exact (hvl k (e ▸ hk)).1
      · rw [e] at hk; cases hk; exact hB
    refine ⟨v', w2, HR, ho', grown_below hg hv hB, fun A2 l2 h2 => ⟨?_, fun ad2 e => Nat.lt_of_lt_of_le (h2.lt ad2 e) hg.size, fun ad2 e hk => ?_⟩⟩
    · exact h2.rd.kp (kp_grown hg) fun ad2 e => h2.ne ad2 e
    · rcases hloc with e1 | e1
      · exact h2.ne ad2 e (e1 ▸ hk)
      · rw [e1] at hk
        have h3 := h2.lt ad2 e
        have h4 : w.heap.size = ad2.block := Option.some.inj hk
        omega
theorem num_pos (n : Nat) : 0 < (num n).length := by
  unfold num; split <;> simp

theorem step_append_run {P : Program} {w : World} {ops : Array Oper} {o : Oper} {a : Act} {K : Act → World → Prop} {Q : Exit → Act → World → Prop} {E : Prop} (hgd : o.guard = none) (s x : Operand) (t u : TypeId)
    (ho : o.op = .call { callee := .builtin .append, args := #[s, x], argTypes := #[t, u] }) (v vx v' : Value) (w' : World) (hs : a.eval s = v) (hx : a.eval x = vx)
    (hrun : (Builtin.append_ #[t, u] o.type #[v, vx]).run P w = .ok v' w') (h : K (a.put o.dst v') w') :
    if Region.wanted o (yielded ops a.tmps) = true then Oper.wp P o a w K Q else E := by
  have hw : Region.wanted o (yielded ops a.tmps) = true := by simp [Region.wanted, hgd]
  rw [if_pos hw]
  unfold Oper.wp execOp
  simp only [ho, resolve, invoke, builtin, Sem.run_bind, Sem.run_pure, Result.andThen_ok, List.map_toArray, List.map_cons, List.map_nil, hs, hx, hrun]
  exact h
/-- the step of an append, the slot written out -/
theorem step_append_dst {P : Program} {w : World} {ops : Array Oper} {o : Oper} {a : Act} {K : Act → World → Prop} {Q : Exit → Act → World → Prop} {E : Prop} {d : Nat} (hgd : o.guard = none) (hd : o.dst = some d) (s x : Operand) (t u : TypeId)
    (ho : o.op = .call { callee := .builtin .append, args := #[s, x], argTypes := #[t, u] }) (v vx v' : Value) (w' : World) (hs : a.eval s = v) (hx : a.eval x = vx)
    (hrun : (Builtin.append_ #[t, u] o.type #[v, vx]).run P w = .ok v' w') (h : K (a.put (some d) v') w') :
    if Region.wanted o (yielded ops a.tmps) = true then Oper.wp P o a w K Q else E := step_append_run hgd s x t u ho v vx v' w' hs hx hrun (by rw [hd]; exact h)
/-- an operation of a held region is taken first, its slot written out -/
theorem take_d {P : Program} {ops : Array Oper} {Q : Exit → Act → World → Prop} {md : Region.Mode} {S : World → Prop} {i : Nat} {oi : Oper} {v : Value} {fuel : Nat} {listed : Array Bool} {a : Act} {w : World} (d : Nat) (hi : ops[i]? = some oi) (hd : oi.dst = some d)
    (hs : Region.noSelect ops = true) (hf : Region.free md ops listed i = true) (hr : (Region.ready md ops listed).contains i = true)
    (hQ : ∀ c a w, Q (.panic c) (a.put (some d) v) w → Q (.panic c) a w) (hy : YieldsIf P ops S oi v a) (hS : S w)
    (h : wpAnyH P md ops Q S fuel (listed.setIfInBounds i true) (a.put (some d) v) w) : wpAnyH P md ops Q S (fuel + 1) listed a w := by
  rw [← hd] at h hQ
  exact wpAnyH_take hi hs hf hr hQ hy hS h
/-- the row and a block of another kind beside it -/
structure BSt (w0 : World) (L : Nat) (eL : TypeId) (cs : Array Value) (w : World) (v : Value) (pre : List UInt8) : Prop where
  own : Own w w0.heap.size 5 v (pre.map eb)
  blk : Blk w L eL cs
  bel : Below w0.heap.size w0 w
theorem BSt.below {w0 : World} {L : Nat} {eL : TypeId} {cs : Array Value} {w w' : World} {v : Value} {pre : List UInt8} (h : BSt w0 L eL cs w v pre) (hb : Below w.heap.size w w') : BSt w0 L eL cs w' v pre := ⟨h.own.below hb, h.blk.below hb, bn h.bel hb⟩
theorem BSt.app {w0 : World} {L : Nat} {eL : TypeId} {cs : Array Value} {w : World} {v : Value} {pre : List UInt8} (h : BSt w0 L eL cs w v pre) (hne : 5 ≠ eL) {A : Option Addr} {n : Nat} (c : Nat) {l : List UInt8} (hg : Res w v A l) (hn : l.length = n) (h0 : 0 < l.length) (hl : pre.length + l.length ≤ 1000000) {pre' : List UInt8} (hp : pre' = pre ++ l) :
    ∃ A' c' w2, (Builtin.append_ #[42, 42] 42 #[v, .slice A n c]).run Try.prog w = .ok (.slice A' pre'.length c') w2 ∧ BSt w0 L eL cs w2 (.slice A' pre'.length c') pre' ∧ Hid (∀ A2 l2, Res w v A2 l2 → Res w2 (.slice A' pre'.length c') A2 l2) := by
  subst hp
  obtain ⟨v', w2, hrun, ho, hb, hgr⟩ := append_bytes w w0.heap.size v pre h.own A n c l hn hg.rd (by omega) h.bel.size
  obtain ⟨A', c', rfl, -, -⟩ := ho.bytes
  have hnb := h.own.no_blk h.blk hne
  obtain ⟨v2, w3, hrun2, -, -, hmv⟩ := append_res h.own c hg hn h0 (by omega) h.bel.size
  have he := hrun.out.symm.trans hrun2.out
  injection he with e1 e2
  subst e1 e2
  exact ⟨A', c', w2, hrun.out, ⟨ho, (hgr.block L h.blk.lt (fun e => hnb e.symm)).trans h.blk, h.bel.trans hb⟩, hmv⟩
end Go.Proofs.Ytangfnenfhkokaa
