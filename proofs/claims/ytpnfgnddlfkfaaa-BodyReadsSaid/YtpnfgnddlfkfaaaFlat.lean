/-
  Rows of structs: each element lies in n cells, told by a function f.
-/
import Derived.Test.YtpnfgnddlfkfaaaFoot
set_option linter.unusedSimpArgs false
set_option linter.unusedVariables false
namespace Go.Proofs.Ytpnfgnddlfkfaaa
open Go.RowKit

section
variable {α : Type} {f : α → List Value} {n : Nat}
def flat (f : α → List Value) (l : List α) : List Value := (l.map f).flatten
theorem flat_nil : flat f [] = [] := rfl
theorem flat_cons (x : α) (l : List α) : flat f (x :: l) = f x ++ flat f l := by unfold flat; simp
theorem flat_snoc (l : List α) (x : α) : flat f (l ++ [x]) = flat f l ++ f x := by unfold flat; simp
theorem flat_append (l m : List α) : flat f (l ++ m) = flat f l ++ flat f m := by unfold flat; simp
theorem flat_length (hf : ∀ x, (f x).length = n) (l : List α) : (flat f l).length = l.length * n := by
  induction l with
  | nil => simp [flat]
  | cons p l ih => rw [flat_cons, List.length_append, ih, List.length_cons, hf, Nat.add_mul]; omega
theorem flat_get (hf : ∀ x, (f x).length = n) (l : List α) (i k : Nat) (hi : i < l.length) (hk : k < n) : (flat f l)[i * n + k]? = (f l[i])[k]? := by
  induction l generalizing i with
  | nil => simp at hi
  | cons p l ih =>
    rw [flat_cons]
    cases i with
    | zero => rw [Nat.zero_mul, Nat.zero_add, List.getElem?_append_left (by rw [hf]; exact hk)]; rfl
    | succ i =>
      have h := ih i (by simpa using hi)
      rw [List.getElem?_append_right (by rw [hf, Nat.add_mul]; omega), hf, show (i + 1) * n + k - n = i * n + k by rw [Nat.add_mul]; omega]
      exact h
theorem flat_take (l : List α) (k : Nat) : flat f (l.take k) <+: flat f l := by
  refine ⟨flat f (l.drop k), ?_⟩
  rw [← flat_append, List.take_append_drop]
/-- the cells of element i -/
theorem flat_at (hf : ∀ x, (f x).length = n) (hn : 0 < n) {w : World} {A : Option Addr} {l : List α} (h : Rd w A (flat f l)) (i : Nat) (hi : i < l.length) :
    ∃ b off, A = some ⟨b, off, none⟩ ∧ ∀ k u, (f l[i])[k]? = some u → w.cell? ⟨b, off + i * n + k, none⟩ = some u := by
  have h0 : ∃ u, (f (l[0]'(by omega)))[0]? = some u := ⟨_, List.getElem?_eq_getElem (by rw [hf]; exact hn)⟩
  obtain ⟨u, hu⟩ := h0
  obtain ⟨ad, e, hc⟩ := h 0 u (by have := flat_get hf l 0 0 (by omega) hn; rw [Nat.zero_mul] at this; rw [this]; exact hu)
  obtain ⟨b, off, spot⟩ := ad
  have hs : spot = none := by simpa [Addr.add] using World.cell?_spot hc
  subst hs
  refine ⟨b, off, e, fun k u hk => ?_⟩
  have hkn : k < n := by rw [← hf l[i]]; exact (List.getElem?_eq_some_iff.1 hk).1
  obtain ⟨ad2, e2, hc2⟩ := h (i * n + k) u (by rw [flat_get hf l i k hi hkn]; exact hk)
  rw [e] at e2
  cases e2
  have e1 : (⟨b, off, none⟩ : Addr).add (i * n + k) = ⟨b, off + i * n + k, none⟩ := by unfold Addr.add; split <;> simp_all <;> omega
  rwa [e1] at hc2
theorem Rd.of_flat (hf : ∀ x, (f x).length = n) {w : World} {a : Addr} {F : Nat → α} {m : Nat} (h : ∀ i, i < m → ∀ k, k < n → w.cell? ((a.add (i * n)).add k) = (f (F i))[k]?) : Rd w (some a) (flat f ((List.range m).map F)) := by
  intro j u hj
  have hlt : j < m * n := by
    have := (List.getElem?_eq_some_iff.1 hj).1
    rw [flat_length hf, List.length_map, List.length_range] at this
    exact this
  have hn : 0 < n := by
    rcases Nat.eq_zero_or_pos n with h0 | h0
    · subst h0; omega
    · exact h0
  have hq : j / n < m := Nat.div_lt_of_lt_mul (by rw [Nat.mul_comm]; exact hlt)
  have hm := Nat.mod_lt j hn
  have hd := Nat.div_add_mod j n
  refine ⟨a, rfl, ?_⟩
  have h4 := h (j / n) hq (j % n) hm
  rw [add_add, show j / n * n + j % n = j by rw [Nat.mul_comm]; exact hd] at h4
  rw [h4]
  have hi : j / n < ((List.range m).map F).length := by rw [List.length_map, List.length_range]; exact hq
  have g := flat_get hf ((List.range m).map F) (j / n) (j % n) hi hm
  rw [show j / n * n + j % n = j by rw [Nat.mul_comm]; exact hd, hj] at g
  rw [g]
  simp

/-- v is a row of the call's own (from block B on) of elements of type e, of n cells each -/
def ORow (w : World) (B : Nat) (e : TypeId) (n : Nat) (f : α → List Value) (v : Value) (l : List α) : Prop := w.ownsRow B e n v l.length (flat f l)
theorem ORow.nil (w : World) (B : Nat) (e : TypeId) : ORow w B e n f (.slice none 0 0) [] := World.ownsRow_nil w B e n
theorem ORow.read {w : World} {B : Nat} {e : TypeId} {v : Value} {l : List α} (h : ORow w B e n f v l) : ∃ A cap, v = .slice A l.length cap ∧ l.length ≤ cap ∧ Rd w A (flat f l) ∧ ∀ ad, A = some ad → B ≤ ad.block ∧ ad.block < w.heap.size := by
  obtain ⟨h1, h2⟩ := h
  rcases h2 with ⟨rfl, h0⟩ | ⟨g, cap, cur, rfl, hg, hh, hle, hm, hs, hc⟩
  · have : l = [] := List.length_eq_zero_iff.1 h0
    subst this
    exact ⟨none, 0, rfl, Nat.le_refl _, Rd.nil _ _, fun ad e => by cases e⟩
  · refine ⟨some ⟨g, 0, none⟩, cap, rfl, hle, ?_, fun ad e => by cases e; exact ⟨hg, (Array.getElem?_eq_some_iff.1 hh).1⟩⟩
    intro i u hi
    refine ⟨_, rfl, ?_⟩
    have e1 : (⟨g, 0, none⟩ : Addr).add i = ⟨g, i, none⟩ := by unfold Addr.add; split <;> simp_all
    rw [e1, cell_of_row w g i cur _ (0, 0) hh]
    rw [← hc, List.getElem?_take] at hi
    split at hi
    · simpa using hi
    · cases hi
/-- the row's block: its number and type -/
theorem ORow.blk {w : World} {B : Nat} {e : TypeId} {v : Value} {l : List α} (h : ORow w B e n f v l) (k : Nat) (hk : v.ownBlock = some k) : B ≤ k ∧ ∃ cs, Blk w k e cs := by
  obtain ⟨h1, h2⟩ := h
  rcases h2 with ⟨rfl, h0⟩ | ⟨g, cap, cur, rfl, hg, hh, _⟩
  · cases hk
  · have : g = k := by simpa [Value.ownBlock] using hk
    subst this
    exact ⟨hg, cur, hh⟩
theorem ORow.kp {F : Nat → Prop} {w w' : World} {B : Nat} {e : TypeId} {v : Value} {l : List α} (h : ORow w B e n f v l) (hk : Kp F w w') (hF : ∀ k, v.ownBlock = some k → ¬ F k) : ORow w' B e n f v l := by
  obtain ⟨h1, h2⟩ := h
  refine ⟨h1, h2.imp id ?_⟩
  rintro ⟨g, cap, cur, rfl, hg, hh, r⟩
  exact ⟨g, cap, cur, rfl, hg, (hk.block g (Array.getElem?_eq_some_iff.1 hh).1 (hF g (by simp [Value.ownBlock]))).trans hh, r⟩
/-- by types: what is written are blocks of other types -/
theorem ORow.kpT {F : Nat → Prop} {w w' : World} {B : Nat} {e : TypeId} {v : Value} {l : List α} (h : ORow w B e n f v l) (hk : Kp F w w') (hF : ∀ k, F k → ∀ cs, ¬ Blk w k e cs) : ORow w' B e n f v l :=
  h.kp hk fun k e f => by obtain ⟨_, cs, hb⟩ := h.blk k e; exact hF k f cs hb
theorem ORow.below {w w' : World} {B : Nat} {e : TypeId} {v : Value} {l : List α} (h : ORow w B e n f v l) (hb : Below w.heap.size w w') : ORow w' B e n f v l := h.kp (F := fun _ => False) (Kp.of hb) fun _ _ f => f
theorem ORow.lower {w : World} {B B' : Nat} {e : TypeId} {v : Value} {l : List α} (h : ORow w B e n f v l) (hb : B' ≤ B) : ORow w B' e n f v l := by
  obtain ⟨h1, h2⟩ := h
  refine ⟨h1, h2.imp id ?_⟩
  rintro ⟨g, cap, cur, rfl, hg, r⟩
  exact ⟨g, cap, cur, rfl, Nat.le_trans hb hg, r⟩

/-- 'append(out, x)' of a struct, out the call's own -/
theorem append_struct {P : Program} (t e : TypeId) (z : Value) (bytes : Nat) (ht : P.underlying t = some (.slice e)) (hi : (P.info? e).map (fun i => (i.zero, i.size, i.bytes)) = some (some z, n, bytes)) (hz1 : z.cells.size = n) (hn : 0 < n) (hf : ∀ x, (f x).length = n)
    (h1 : ∀ x, ∀ u ∈ f x, u.oneCell' = true) (w : World) (B : Nat) (v : Value) (l : List α) (x : α) (h : ORow w B e n f v l) (hl : l.length < 1000000) (hby : bytes ≤ 100000) (hn2 : n ≤ 1000) (hB : B ≤ w.heap.size) (cs : Array Value) (hcs : cs = (f x).toArray) :
    ∃ v' w2, (Builtin.append_ #[t, t] t #[v, .slice (some ⟨w.heap.size, 0, none⟩) 1 1]).run P (w.alloc (.cells cs e)) = .ok v' w2 ∧ ORow w2 B e n f v' (l ++ [x]) ∧ Below B w w2 ∧ Kp (fun k => v.ownBlock = some k) w w2 := by
  subst hcs
  obtain ⟨i, hii, hz, hsize, hbyt⟩ := info_parts hi
  have hb := bal (Below.refl w.heap.size w) (.cells (f x).toArray e)
  have h' : ORow (w.alloc (.cells (f x).toArray e)) B e n f v l := h.below hb
  have hnew : ∀ j u, (f x)[j]? = some u → (w.alloc (.cells (f x).toArray e)).cell? ((⟨w.heap.size, 0, none⟩ : Addr).add j) = some u := by
    intro j u hj
    obtain ⟨ad, e, hc⟩ := Rd.lit w e (0, 0) (f x) j u hj
    cases e
    exact hc
  have hmul : (l.length + 1) * bytes ≤ 1000000 * 100000 := Nat.mul_le_mul (by omega) hby
  obtain ⟨v', w', h2, h3, h4, _⟩ := run_append_own (P := P) (w.alloc (.cells (f x).toArray e)) B t t e i _ n bytes ht hii hz hsize hbyt hz1 hn v l.length (flat f l) h' ⟨w.heap.size, 0, none⟩ 1 1 (f x) (by rw [hf]; omega) hnew (h1 x) (by unfold maxLen; omega) (by omega) (by simp; omega)
  refine ⟨v', w', h2, ?_, ((Below.refl B w).alloc hB _).grown h4 (by simp; omega) fun k hk => (h'.lt k hk).1, ?_⟩
  · unfold ORow
    rw [List.length_append, flat_snoc]
    exact h3
  · refine ((Kp.of hb).mono (F := fun _ => False) fun _ _ h => h.elim).trans ((kp_grown h4).mono fun k _ hk => hk) fun i _ hg => hg
end

theorem PenR.any {w : World} {g : Nat} {R : Nat → Prop} {l : List UInt8} (h : PenR w g R l) : PenR w g (fun _ => True) l := h.mono fun _ _ _ => trivial
/-- the pen's row by its type -/
theorem PenR.typed {w : World} {g : Nat} {R : Nat → Prop} {l : List UInt8} (h : PenR w g R l) : PenR w g (fun k => R k ∧ k < w.heap.size ∧ ∃ cs, Blk w k 5 cs) l := by
  obtain ⟨v, h1, h2, h3⟩ := h
  refine ⟨v, h1, h2, fun r hr => ⟨h3 r hr, ?_⟩⟩
  rcases h2.2 with ⟨rfl, _⟩ | ⟨g', cap, cur, rfl, _, hh, _⟩
  · cases hr
  · have : g' = r := by simpa [Value.ownBlock] using hr
    subst this
    exact ⟨(Array.getElem?_eq_some_iff.1 hh).1, cur, hh⟩
theorem Blk.type {w : World} {g : Nat} {e e' : TypeId} {cs cs' : Array Value} (h : Blk w g e cs) (h' : Blk w g e' cs') : e = e' := by
  unfold Blk at h h'
  rw [h] at h'
  injection h' with h'
  injection h' with _ h'
theorem Kept.kp {g : Nat} {w w' : World} (h : Kept g w.heap.size w w') : Kp (fun j => j = g) w w' := ⟨h.os, h.tape, h.output, h.size, fun k hk hg => h.block k hk hg⟩
end Go.Proofs.Ytpnfgnddlfkfaaa
