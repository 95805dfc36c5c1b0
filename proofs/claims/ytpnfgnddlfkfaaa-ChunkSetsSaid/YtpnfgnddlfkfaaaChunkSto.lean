/-
  The store as a list of pieces, in plain words: what set, put and drop make of it.
-/
import Derived.Test.YtpnfgnddlfkfaaaChunkIds
set_option linter.unusedSimpArgs false
set_option linter.unusedVariables false
namespace Go.Proofs.Ytpnfgnddlfkfaaa
open Go.RowKit Go.Maps

def dropSt (s : CSt) (id : Int) (b : List UInt8) : CSt := ⟨fun y => if y = id then none else s.l y, fun k => if k = ck b then (s.ids k).filter (fun x => x != id) else s.ids k, s.next, s.size - (b.length : Int)⟩
theorem CInv.drop {s : CSt} (h : CInv s) {id : Int} {b : List UInt8} (hb : s.l id = some b) : CInv (dropSt s id b) := by
  unfold dropSt
  refine ⟨fun x c hx => ?_, fun k x hx => ?_, fun x y c hx hy => ?_, fun x c hx => ?_⟩
  · simp only at hx ⊢
    by_cases e : x = id
    · rw [if_pos e] at hx; cases hx
    · rw [if_neg e] at hx
      have := h.i1 x c hx
      split
      · exact List.mem_filter.2 ⟨this, by simpa using e⟩
      · exact this
  · simp only at hx ⊢
    by_cases ek : k = ck b
    · rw [if_pos ek] at hx
      obtain ⟨h1, h2⟩ := List.mem_filter.1 hx
      have hne : x ≠ id := by simpa using h2
      obtain ⟨c, h3, h4⟩ := h.i2 k x h1
      exact ⟨c, by rw [if_neg hne]; exact h3, h4⟩
    · rw [if_neg ek] at hx
      obtain ⟨c, h3, h4⟩ := h.i2 k x hx
      have hne : x ≠ id := fun e => by rw [e, hb] at h3; cases h3; exact ek h4.symm
      exact ⟨c, by rw [if_neg hne]; exact h3, h4⟩
  · simp only at hx hy
    by_cases ex : x = id
    · rw [if_pos ex] at hx; cases hx
    · by_cases ey : y = id
      · rw [if_pos ey] at hy; cases hy
      · rw [if_neg ex] at hx
        rw [if_neg ey] at hy
        exact h.i3 x y c hx hy
  · simp only at hx ⊢
    by_cases e : x = id
    · rw [if_pos e] at hx; cases hx
    · rw [if_neg e] at hx
      exact h.i4 x c hx

/-- the bytes of all pieces -/
def sumB : List (Int × List UInt8) → Int
  | [] => 0
  | p :: m => (p.2.length : Int) + sumB m
theorem sumB_append (a b : List (Int × List UInt8)) : sumB (a ++ b) = sumB a + sumB b := by
  induction a with
  | nil => simp [sumB]
  | cons p a ih => simp [sumB, ih]; omega
theorem sumB_nonneg (m : List (Int × List UInt8)) : 0 ≤ sumB m := by
  induction m with
  | nil => exact Int.le_refl _
  | cons p m ih => simp only [sumB]; omega
/-- the store has just these pieces -/
structure Sto (s : CSt) (m : List (Int × List UInt8)) : Prop where
  nd : (m.map Prod.fst).Nodup
  mem : ∀ id b, s.l id = some b ↔ (id, b) ∈ m
  size : s.size = sumB m
theorem Sto.empty : Sto CSt.empty [] := ⟨by simp, fun _ _ => by simp [CSt.empty], rfl⟩
theorem Sto.isSome {s : CSt} {m : List (Int × List UInt8)} (h : Sto s m) (id : Int) : (s.l id).isSome = true ↔ id ∈ m.map Prod.fst := by
  constructor
  · intro hs
    obtain ⟨b, hb⟩ := Option.isSome_iff_exists.1 hs
    exact List.mem_map.2 ⟨_, (h.mem id b).1 hb, rfl⟩
  · intro hm
    obtain ⟨⟨i, b⟩, hp, rfl⟩ := List.mem_map.1 hm
    rw [(h.mem i b).2 hp]; rfl
theorem Sto.no_id {s : CSt} {m : List (Int × List UInt8)} (h : Sto s m) {id : Int} (hn : s.l id = none) : id ∉ m.map Prod.fst := fun hm => by
  have := (h.isSome id).2 hm
  rw [hn] at this
  cases this
theorem Sto.set {s : CSt} {m : List (Int × List UInt8)} (h : Sto s m) {id : Int} {b : List UInt8} (hn : s.l id = none) : Sto (setSt s id b) (m ++ [(id, b)]) := by
  have hni := h.no_id hn
  refine ⟨?_, fun x c => ?_, ?_⟩
  · rw [List.map_append, List.nodup_append]
    refine ⟨h.nd, by simp, fun x hx y hy e => ?_⟩
    have : y = id := by simpa using hy
    exact hni (by rw [← this, ← e]; exact hx)
  · simp only [setSt]
    by_cases e : x = id
    · rw [if_pos e, List.mem_append]
      constructor
      · intro h2
        cases h2
        exact .inr (by simp [e])
      · rintro (h2 | h2)
        · exact absurd (List.mem_map.2 ⟨_, h2, e⟩) hni
        · have : c = b := by
            have := List.mem_singleton.1 h2
            exact (Prod.mk.inj this).2
          rw [this]
    · rw [if_neg e, h.mem x c, List.mem_append]
      constructor
      · exact .inl
      · rintro (h2 | h2)
        · exact h2
        · exact absurd (Prod.mk.inj (List.mem_singleton.1 h2)).1 e
  · simp only [setSt]
    rw [sumB_append, h.size]
    simp [sumB]
/-- 'append(append([]piece{}, m[:k]...), m[k+1:]...)' -/
def cutAt {α : Type} (m : List α) (k : Nat) : List α := m.take k ++ m.drop (k + 1)
theorem split_at {α : Type} (m : List α) (k : Nat) (hk : k < m.length) : m = m.take k ++ m[k] :: m.drop (k + 1) := by rw [← List.drop_eq_getElem_cons hk, List.take_append_drop]
theorem Sto.drop {s : CSt} {m : List (Int × List UInt8)} (h : Sto s m) {k : Nat} (hk : k < m.length) : Sto (dropSt s m[k].1 m[k].2) (cutAt m k) ∧ s.l m[k].1 = some m[k].2 := by
  have e := split_at m k hk
  have hx : s.l m[k].1 = some m[k].2 := (h.mem _ _).2 (List.getElem_mem hk)
  obtain ⟨hnd, hmem, hsize⟩ := h
  generalize m[k] = p at *
  unfold cutAt
  generalize m.take k = a at *
  generalize m.drop (k + 1) = c at *
  subst e
  have hnd2 := hnd
  rw [List.map_append, List.map_cons, List.nodup_append] at hnd2
  obtain ⟨n1, n2, n3⟩ := hnd2
  rw [List.nodup_cons] at n2
  refine ⟨⟨?_, fun x b => ?_, ?_⟩, hx⟩
  · rw [List.map_append, List.nodup_append]
    exact ⟨n1, n2.2, fun x hx y hy => n3 x hx y (List.mem_cons_of_mem _ hy)⟩
  · simp only [dropSt]
    by_cases ex : x = p.1
    · rw [if_pos ex]
      refine ⟨fun h => (by cases h), fun h => ?_⟩
      rcases List.mem_append.1 h with h | h
      · exact absurd ex (n3 x (List.mem_map.2 ⟨_, h, rfl⟩) p.1 (by simp))
      · exact absurd (List.mem_map.2 ⟨_, h, rfl⟩) (by rw [ex]; exact n2.1)
    · rw [if_neg ex, hmem x b, List.mem_append, List.mem_append, List.mem_cons]
      constructor
      · rintro (h | h | h)
        · exact .inl h
        · rw [← h] at ex; exact absurd rfl ex
        · exact .inr h
      · rintro (h | h)
        · exact .inl h
        · exact .inr (.inr h)
  · simp only [dropSt]
    rw [hsize, sumB_append, sumB_append]
    simp only [sumB]
    omega
/-- two lists without doubles that have the same have one length -/
theorem nodup_len {a b : List Int} (ha : a.Nodup) (hb : b.Nodup) (h : ∀ x, x ∈ a ↔ x ∈ b) : a.length = b.length := by
  have : a.Perm b := by
    rw [List.perm_iff_count]
    intro x
    rw [ha.count, hb.count]
    simp only [h x]
  exact this.length_eq
theorem rising_nodup {l : List Int} (h : Rising l) : l.Nodup := h.imp fun {a b} h e => by omega
theorem Sto.ids_len {s : CSt} {m : List (Int × List UInt8)} (h : Sto s m) (inv : CInv s) (hnx : s.next ≤ 4611686018427387905) {ks : List Int} (hr : Rising ks) (hm : ∀ x, x ∈ ks ↔ (okInt x ∧ (s.l x).isSome = true)) : ks.length = m.length := by
  have := nodup_len (rising_nodup hr) h.nd fun x => by
    rw [hm x, h.isSome x]
    refine ⟨fun h => h.2, fun hx => ⟨?_, hx⟩⟩
    obtain ⟨b, hb⟩ := Option.isSome_iff_exists.1 ((h.isSome x).2 hx)
    have := (inv.i4 x b hb).2
    unfold okInt
    omega
  rw [this, List.length_map]
theorem COk.drop {n : Nat} {s : CSt} (h : COk n s) {id : Int} {b : List UInt8} (hs : (b.length : Int) ≤ s.size) : COk n (dropSt s id b) := by
  unfold dropSt
  have h0 := h.size0
  have h1 := h.size1
  refine ⟨h.nb, fun k => ?_, fun k x hx => ?_, fun x c hx => ?_, h.next0, h.next1, ?_, ?_⟩
  · simp only
    have := h.ids k
    split
    · exact Nat.le_trans (List.length_filter_le _ _) this
    · exact this
  · simp only at hx
    split at hx
    · exact h.idr k x (List.mem_filter.1 hx).1
    · exact h.idr k x hx
  · simp only at hx
    split at hx
    · cases hx
    · exact h.len x c hx
  · simp only; omega
  · simp only; omega
theorem Sto.le_size {s : CSt} {m : List (Int × List UInt8)} (h : Sto s m) {id : Int} {b : List UInt8} (hb : s.l id = some b) : (b.length : Int) ≤ s.size := by
  have hm := (h.mem id b).1 hb
  rw [h.size]
  clear h hb
  induction m with
  | nil => cases hm
  | cons p m ih =>
    simp only [sumB]
    rcases List.mem_cons.1 hm with h | h
    · have := sumB_nonneg m; rw [← h]; simp only; omega
    · have := ih h; omega
end Go.Proofs.Ytpnfgnddlfkfaaa
