/-
  copy of bytes into a row of the call's own.
-/
import Derived.Test.YtpnfgnddlfkfaaaChunk
import Derived.IntWalk
import Derived.Laws.CopyOwn
set_option linter.unusedSimpArgs false
set_option linter.unusedVariables false
namespace Go.Proofs.Ytpnfgnddlfkfaaa
open Go.RowKit Go.Maps

/-- a row that is read, its address taken apart -/
theorem Rd.lit_at {w : World} {A : Option Addr} {cs : List Value} (h : Rd w A cs) (i : Nat) (hi : i < cs.length) : ∃ b off, A = some ⟨b, off, none⟩ ∧ b < w.heap.size ∧ ∀ j (hj : j < cs.length), w.cell? ⟨b, off + j, none⟩ = some cs[j] := by
  obtain ⟨ad, e, hc⟩ := h 0 (cs[0]'(by omega)) (by simp)
  obtain ⟨b, off, spot⟩ := ad
  have hs : spot = none := by simpa [Addr.add] using World.cell?_spot hc
  subst hs
  have hlt := block_lt_of_cell hc
  refine ⟨b, off, e, by simpa [Addr.add] using hlt, fun j hj => ?_⟩
  obtain ⟨ad2, e2, hc2⟩ := h j cs[j] (by simp [hj])
  rw [e] at e2
  cases e2
  have e1 : (⟨b, off, none⟩ : Addr).add j = ⟨b, off + j, none⟩ := by unfold Addr.add; split <;> simp_all
  rwa [e1] at hc2
theorem Own.read_at {w : World} {B : Nat} {e : TypeId} {A : Option Addr} {n cap : Nat} {l : List UInt8} (h : Own w B e (.slice A n cap) (l.map eb)) : RB w A l := h.bytes_at
/-- cs laid over l from place i on -/
def lay (l : List UInt8) (i : Nat) (cs : List UInt8) : List UInt8 := l.take i ++ (cs ++ l.drop (i + cs.length))
theorem lay_length (l : List UInt8) (i : Nat) (cs : List UInt8) (h : i + cs.length ≤ l.length) : (lay l i cs).length = l.length := by
  unfold lay
  simp only [List.length_append, List.length_take, List.length_drop]
  omega
theorem lay_nil (l : List UInt8) (i : Nat) : lay l i [] = l := by unfold lay; simp
theorem lay_all (l cs : List UInt8) (h : l.length = cs.length) : lay l 0 cs = cs := by unfold lay; simp [← h]
theorem setRow_kp {F : Nat → Prop} {w : World} {g : Nat} (hF : F g) (cs : Array Value) : Kp F w (w.setRow g cs) := ⟨rfl, rfl, rfl, by simp, fun k _ hk => setRow_other w g k cs (fun e => hk (e ▸ hF))⟩
theorem take_lay {α : Type} (c m : List α) (i L : Nat) (h1 : i + m.length ≤ L) (h2 : L ≤ c.length) : (c.take i ++ m ++ c.drop (i + m.length)).take L = (c.take L).take i ++ (m ++ (c.take L).drop (i + m.length)) := by
  have hc := List.take_append_drop L c
  have hl : (c.take L).length = L := by rw [List.length_take]; omega
  generalize c.take L = a at *
  generalize c.drop L = d at *
  subst hc
  have e1 : (a ++ d).take i = a.take i := List.take_append_of_le_length (by omega)
  have e2 : (a ++ d).drop (i + m.length) = a.drop (i + m.length) ++ d := List.drop_append_of_le_length (by omega)
  rw [e1, e2, ← List.append_assoc]
  have e3 : (a.take i ++ m ++ a.drop (i + m.length)).length = L := by simp only [List.length_append, List.length_take, List.length_drop]; omega
  rw [List.take_append_of_le_length (by omega), List.take_of_length_le (by omega), List.append_assoc]
/-- 'copy(v[i:], src)', v a row of the call's own -/
theorem copy_own {w : World} {B : Nat} {v : Value} {l : List UInt8} (ho : Own w B 5 v (l.map eb)) (i : Nat) (dp sp : Option Addr) (dLen dCap sLen sCap : Nat) (cs : List UInt8) (hn : cs.length = Nat.min sLen dLen) (hs : RB w sp cs)
    (hd : 0 < cs.length → ∃ g, v.ownBlock = some g ∧ dp = some ⟨g, i, none⟩) (hfit : i + cs.length ≤ l.length) (ty : TypeId) :
    ∃ w', (Builtin.copy_ #[23, 23] ty #[.slice dp dLen dCap, .slice sp sLen sCap]).run Try.prog w = .ok (goInt cs.length) w' ∧ Own w' B 5 v ((lay l i cs).map eb) ∧ Kp (fun j => v.ownBlock = some j) w w' ∧ w'.heap.size = w.heap.size := by
  by_cases h0 : cs.length = 0
  · obtain rfl : cs = [] := List.eq_nil_of_length_eq_zero h0
    refine ⟨w, ?_, by rw [lay_nil]; exact ho, Kp.refl _ _, rfl⟩
    have := run_copy_none (P := Try.prog) w 23 23 ty 5 dp sp dLen dCap sLen sCap Try.underlying23 (by kernel_rfl) (by simpa using hn.symm)
    simpa [goInt] using this
  · obtain ⟨g, hg, rfl⟩ := hd (by omega)
    obtain ⟨ad, rfl⟩ := hs.some_of (by omega)
    have hlen : (lay l i cs).length = l.length := lay_length l i cs hfit
    obtain ⟨g', cap, cur, rfl, hgB, hblk, hle, hcs, hm, ht⟩ := ho.blk (by rw [List.length_map]; omega)
    have : g' = g := by simpa [Value.ownBlock] using hg
    subst this
    rw [List.length_map] at hle ht
    have hrun := run_copy_row (P := Try.prog) w 23 23 ty 5 g' i dLen dCap ad sLen sCap cur 5 (cs.map eb) Try.underlying23 (by kernel_rfl) hblk (by rw [List.length_map]; exact hn) (fun j u hj => by
      obtain ⟨ad', e, hc⟩ := hs j u hj
      cases e
      exact hc) (by rw [List.length_map]; omega) (fun u hu => by obtain ⟨x, _, rfl⟩ := List.mem_map.1 hu; rfl)
    rw [List.length_map] at hrun
    refine ⟨_, hrun, ?_, setRow_kp (by rfl) _, by simp⟩
    have hb2 : Blk (w.setRow g' (cur.toList.take i ++ cs.map eb ++ cur.toList.drop (i + cs.length)).toArray) g' 5 (cur.toList.take i ++ cs.map eb ++ cur.toList.drop (i + cs.length)).toArray := setRow_heap w g' _ _ 5 _ hblk
    have hsz : (cur.toList.take i ++ cs.map eb ++ cur.toList.drop (i + cs.length)).length = cap := by
      have h1 : cur.toList.length = cap := by simpa using hcs
      simp only [List.length_append, List.length_take, List.length_drop, List.length_map, h1]
      omega
    have := Blk.own (B := B) (cs := (lay l i cs).map eb) (cap := cap) hb2 hgB (by rw [List.length_map, hlen]; exact hle) (by simpa using hsz) hm (by
      rw [List.length_map, hlen]
      unfold lay
      rw [List.map_append, List.map_append, List.map_take, List.map_drop, ← ht]
      have h1 : cur.toList.length = cap := by simpa using hcs
      simp only [List.toList_toArray]
      have := take_lay cur.toList (cs.map eb) i l.length (by rw [List.length_map]; omega) (by omega)
      rw [List.length_map] at this
      exact this)
    rw [List.length_map, hlen] at this
    rw [List.length_map]
    exact this
/-- a copy whose run is known up to what it leaves -/
theorem wpList_copy_ex {P : Program} {w : World} {ops : Array Oper} {rest : List Oper} {o : Oper} {a : Act} {Q : Exit → Act → World → Prop} (hgd : o.guard = none) (s x : Operand) (t u : TypeId)
    (ho : o.op = .call { callee := .builtin .copy, args := #[s, x], argTypes := #[t, u] }) (v vx : Value) (hs : a.eval s = v) (hx : a.eval x = vx) {R : World → Prop} (n : Nat)
    (hrun : ∃ w', (Builtin.copy_ #[t, u] o.type #[v, vx]).run P w = .ok (goInt n) w' ∧ R w') (h : ∀ w', R w' → wpList P ops Q rest (a.put o.dst (goInt n)) w') : wpList P ops Q (o :: rest) a w := by
  obtain ⟨w', hr, h1⟩ := hrun
  refine wpList_plain hgd fun K hK => ?_
  unfold Oper.wp execOp
  simp only [ho, resolve, invoke, builtin, Sem.run_bind, Sem.run_pure, Result.andThen_ok, List.map_toArray, List.map_cons, List.map_nil, hs, hx, hr]
  exact hK _ _ (h w' h1)
end Go.Proofs.Ytpnfgnddlfkfaaa
