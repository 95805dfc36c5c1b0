/-
  A store set anew from its records, in plain words; rows of texts that lie apart.
-/
import Derived.Test.YtpnfgnddlfkfaaaLawDrops
import Derived.Test.YtpnfgnddlfkfaaaChunkRec
set_option linter.unusedSimpArgs false
set_option linter.unusedVariables false
namespace Go.Proofs.Ytpnfgnddlfkfaaa
open Go.RowKit Go.Maps

theorem rising_ext : ∀ {a b : List Int}, Rising a → Rising b → (∀ x, x ∈ a ↔ x ∈ b) → a = b
  | [], [], _, _, _ => rfl
  | [], y :: b, _, _, h => by have := (h y).2 (by simp); cases this
  | x :: a, [], _, _, h => by have := (h x).1 (by simp); cases this
  | x :: a, y :: b, ha, hb, h => by
    have ha' : Rising (x :: a) := ha
    have hb' : Rising (y :: b) := hb
    unfold Rising at ha hb
    rw [List.pairwise_cons] at ha hb
    have e : x = y := by
      rcases List.mem_cons.1 ((h x).1 (by simp)) with h1 | h1
      · exact h1
      · rcases List.mem_cons.1 ((h y).2 (by simp)) with h2 | h2
        · exact h2.symm
        · have := ha.1 y h2
          have := hb.1 x h1
          omega
    subst e
    have : a = b := rising_ext ha.2 hb.2 fun z => by
      constructor
      · intro hz
        rcases List.mem_cons.1 ((h z).1 (List.mem_cons_of_mem _ hz)) with h1 | h1
        · have := ha.1 z hz; omega
        · exact h1
      · intro hz
        rcases List.mem_cons.1 ((h z).2 (List.mem_cons_of_mem _ hz)) with h1 | h1
        · have := hb.1 z hz; omega
        · exact h1
    rw [this]
theorem sumB_perm {a b : List (Int × List UInt8)} (h : a.Perm b) : sumB a = sumB b := by
  induction h with
  | nil => rfl
  | cons x _ ih => simp only [sumB, ih]
  | swap x y l => simp only [sumB]; omega
  | trans _ _ h1 h2 => rw [h1, h2]
theorem nodup_perm {α : Type} [BEq α] [LawfulBEq α] {a b : List α} (ha : a.Nodup) (hb : b.Nodup) (h : ∀ x, x ∈ a ↔ x ∈ b) : a.Perm b := by
  rw [List.perm_iff_count]
  intro x
  rw [ha.count, hb.count]
  simp only [h x]
theorem nodup_of_fst {m : List (Int × List UInt8)} (h : (m.map Prod.fst).Nodup) : m.Nodup := by
  refine (List.pairwise_map.1 h).imp fun {a b} hne e => hne (by rw [e])
def gd (M : List (Int × List UInt8)) (j : Nat) : Int × List UInt8 := M.getD j (0, [])
theorem gd_mem {M : List (Int × List UInt8)} {j : Nat} (h : j < M.length) : gd M j ∈ M := by
  unfold gd
  rw [List.getD_eq_getElem?_getD, List.getElem?_eq_getElem h]
  exact List.getElem_mem h
theorem gd_of_mem {M : List (Int × List UInt8)} {p : Int × List UInt8} (h : p ∈ M) : ∃ j, j < M.length ∧ gd M j = p := by
  obtain ⟨j, hj, e⟩ := List.mem_iff_getElem.1 h
  exact ⟨j, hj, by unfold gd; rw [List.getD_eq_getElem?_getD, List.getElem?_eq_getElem hj]; exact e⟩
def rotL (M : List (Int × List UInt8)) (t i : Nat) : List (Int × List UInt8) := (List.range i).map fun j => gd M ((j + t) % M.length)
theorem rotL_succ (M : List (Int × List UInt8)) (t i : Nat) : rotL M t (i + 1) = rotL M t i ++ [gd M ((i + t) % M.length)] := by
  unfold rotL
  rw [List.range_succ, List.map_append]
  rfl
theorem mod_ne {i j t n : Nat} (hi : i < n) (hj : j < n) (h : (i + t) % n = (j + t) % n) : i = j := by
  rcases Nat.lt_trichotomy i j with h1 | h1 | h1
  · have h2 : (j + t - (i + t)) % n = 0 := Nat.sub_mod_eq_zero_of_mod_eq h.symm
    rw [show j + t - (i + t) = j - i by omega, Nat.mod_eq_of_lt (by omega)] at h2
    omega
  · exact h1
  · have h2 : (i + t - (j + t)) % n = 0 := Nat.sub_mod_eq_zero_of_mod_eq h
    rw [show i + t - (j + t) = i - j by omega, Nat.mod_eq_of_lt (by omega)] at h2
    omega
theorem mod_onto {a t n : Nat} (ha : a < n) : ∃ j, j < n ∧ (j + t) % n = a := by
  refine ⟨(a + (n - t % n)) % n, Nat.mod_lt _ (by omega), ?_⟩
  have h1 : t % n < n := Nat.mod_lt _ (by omega)
  rw [Nat.mod_add_mod]
  have h2 : t = n * (t / n) + t % n := (Nat.div_add_mod t n).symm
  have h3 : a + (n - t % n) + t = a + n * (t / n + 1) := by
    rw [Nat.mul_add, Nat.mul_one]
    omega
  rw [h3, Nat.add_mul_mod_self_left, Nat.mod_eq_of_lt ha]
structure SetsQ (M : List (Int × List UInt8)) (t i : Nat) (d : CSt) : Prop where
  good : CGood (2 * i) d (rotL M t i)
  nx : d.next ≤ (M.length : Int) + 1
theorem SetsQ.start (M : List (Int × List UInt8)) (t : Nat) : SetsQ M t 0 CSt.empty := ⟨CGood.empty, by show (1 : Int) ≤ _; omega⟩
/-- the pieces that Put made, their numbers in order -/
structure Made (n : Nat) (s : CSt) (M : List (Int × List UInt8)) : Prop where
  good : CGood n s M
  ids : ∀ j, j < M.length → (gd M j).1 = (j : Int) + 1
  nx : s.next = (M.length : Int) + 1
theorem Made.empty : Made 0 CSt.empty [] := ⟨CGood.empty, fun j hj => by simp at hj, rfl⟩
theorem gd_snoc (M : List (Int × List UInt8)) (p : Int × List UInt8) (j : Nat) (hj : j < (M ++ [p]).length) : (j < M.length ∧ gd (M ++ [p]) j = gd M j) ∨ (j = M.length ∧ gd (M ++ [p]) j = p) := by
  unfold gd
  rw [List.length_append, List.length_singleton] at hj
  rcases Nat.lt_or_ge j M.length with h | h
  · exact .inl ⟨h, by simp [List.getD_eq_getElem?_getD, List.getElem?_append_left h]⟩
  · have : j = M.length := by omega
    subst this
    exact .inr ⟨rfl, by simp [List.getD_eq_getElem?_getD]⟩
/-- what one Put makes of it: nothing, or one piece more at the end -/
theorem Made.put {n : Nat} {s : CSt} {M : List (Int × List UInt8)} (h : Made n s M) (hn : n < 100000) (hl : M.length ≤ 1000) (b : List UInt8) :
    (putR s b = (0, false, 1, s) ∧ Made (n + 2) s M) ∨ (∃ id, putR s b = (id, false, 0, s) ∧ Made (n + 2) s M) ∨ (putR s b = (s.next, true, 0, setSt s s.next b) ∧ okLen b ∧ Made (n + 2) (setSt s s.next b) (M ++ [(s.next, b)])) := by
  have hnx := h.nx
  have hmono : Made (n + 2) s M := ⟨⟨h.good.ok.mono (by omega) (by omega), h.good.inv, h.good.sto⟩, h.ids, h.nx⟩
  unfold putR
  split
  · rename_i hb
    cases hf : findId s b with
    | some id => exact .inr (.inl ⟨id, rfl, hmono⟩)
    | none =>
      have hnn := h.good.inv.next_none (Int.le_refl s.next)
      refine .inr (.inr ⟨rfl, hb, ⟨⟨h.good.ok.set hb ⟨by omega, by omega⟩ (by omega), h.good.inv.set hb (by omega) hnn hf, h.good.sto.set hnn⟩, fun j hj => ?_, ?_⟩⟩)
      · rcases gd_snoc M _ j hj with ⟨h1, h2⟩ | ⟨h1, h2⟩
        · rw [h2]; exact h.ids j h1
        · rw [h2, h1]; exact hnx
      · simp only [setSt, List.length_append, List.length_singleton]
        split <;> omega
  · exact .inl ⟨rfl, hmono⟩
theorem SetsQ.step {n : Nat} {s : CSt} {M : List (Int × List UInt8)} (hM : Made n s M) (hl : M.length ≤ 1000) {t i : Nat} {d : CSt} (h : SetsQ M t i d) (hi : i < M.length) {p : Int × List UInt8} (hp : gd M ((i + t) % M.length) = p) :
    setErr d p.1 p.2 = 0 ∧ SetsQ M t (i + 1) (setSt d p.1 p.2) ∧ setErr (setSt d p.1 p.2) p.1 p.2 = 5 ∧ setErr (setSt d p.1 p.2) (p.1 + 1000) p.2 = 5 ∧ (1 ≤ p.1 ∧ p.1 ≤ (M.length : Int)) ∧ okLen p.2 := by
  have hjl : (i + t) % M.length < M.length := Nat.mod_lt _ (by omega)
  have hid := hM.ids _ hjl
  rw [hp] at hid
  have hmem : (p.1, p.2) ∈ M := by have := gd_mem hjl; rw [hp] at this; exact this
  have hsl := (hM.good.sto.mem p.1 p.2).2 hmem
  have hv := (hM.good.inv.i4 _ _ hsl).1
  -- what d has is of other places of M
  have hother : ∀ x c, d.l x = some c → (x, c) ∈ M ∧ x ≠ p.1 := fun x c hx => by
    have h1 := (h.good.sto.mem x c).1 hx
    unfold rotL at h1
    obtain ⟨j, hj, e⟩ := List.mem_map.1 h1
    have hj' : j < i := List.mem_range.1 hj
    have hjl2 : (j + t) % M.length < M.length := Nat.mod_lt _ (by omega)
    have h2 := gd_mem hjl2
    have h3 := hM.ids _ hjl2
    rw [e] at h2 h3
    refine ⟨h2, fun e1 => ?_⟩
    simp only at h3
    have : (i + t) % M.length = (j + t) % M.length := by omega
    have := mod_ne hi (by omega) this
    omega
  have hnone : d.l p.1 = none := by
    cases hx : d.l p.1 with
    | none => rfl
    | some c => exact absurd rfl (hother _ _ hx).2
  have hfind : findId d p.2 = none := by
    cases hf : findId d p.2 with
    | none => rfl
    | some x =>
      have hx := (h.good.inv.find hv.1 x).1 hf
      obtain ⟨h1, h2⟩ := hother _ _ hx
      exact absurd (hM.good.inv.i3 x p.1 p.2 ((hM.good.sto.mem x p.2).2 h1) hsl) h2
  have hid1 : 1 ≤ p.1 ∧ p.1 ≤ (M.length : Int) := by omega
  have hgood : CGood (2 * (i + 1)) (setSt d p.1 p.2) (rotL M t (i + 1)) := by
    rw [rotL_succ, hp]
    exact ⟨h.good.ok.set hv ⟨hid1.1, by omega⟩ (by omega), h.good.inv.set hv hid1.1 hnone hfind, h.good.sto.set hnone⟩
  have hf2 : findId (setSt d p.1 p.2) p.2 = some p.1 := (hgood.inv.find hv.1 p.1).2 (by simp [setSt])
  refine ⟨?_, ⟨hgood, ?_⟩, ?_, ?_, hid1, hv⟩
  · unfold setErr
    rw [if_pos ⟨hid1.1, by omega, hv.1, hv.2⟩, hnone, hfind]
    rfl
  · have := h.nx
    simp only [setSt]
    split <;> omega
  · unfold setErr
    rw [if_pos ⟨hid1.1, by omega, hv.1, hv.2⟩, if_pos (.inr (by rw [hf2]; rfl))]
  · unfold setErr
    rw [if_pos ⟨by omega, by omega, hv.1, hv.2⟩, if_pos (.inr (by rw [hf2]; rfl))]
theorem SetsQ.done {n : Nat} {s : CSt} {M : List (Int × List UInt8)} (hM : Made n s M) {t : Nat} {d : CSt} (h : SetsQ M t M.length d) : d.size = s.size ∧ d.next = s.next ∧ ∀ x, d.l x = s.l x := by
  have hmem : ∀ p, p ∈ rotL M t M.length ↔ p ∈ M := fun p => by
    constructor
    · intro hp
      obtain ⟨j, hj, rfl⟩ := List.mem_map.1 hp
      exact gd_mem (Nat.mod_lt _ (by have := List.mem_range.1 hj; omega))
    · intro hp
      obtain ⟨a, ha, rfl⟩ := gd_of_mem hp
      obtain ⟨j, hj, e⟩ := mod_onto (t := t) ha
      exact List.mem_map.2 ⟨j, List.mem_range.2 hj, by rw [e]⟩
  have hl : ∀ x, d.l x = s.l x := fun x => by
    cases hx : s.l x with
    | some b => exact (h.good.sto.mem x b).2 ((hmem _).2 ((hM.good.sto.mem x b).1 hx))
    | none =>
      cases hy : d.l x with
      | none => rfl
      | some b => rw [(hM.good.sto.mem x b).2 ((hmem _).1 ((h.good.sto.mem x b).1 hy))] at hx; cases hx
  refine ⟨?_, ?_, hl⟩
  · rw [h.good.sto.size, hM.good.sto.size]
    exact sumB_perm (nodup_perm (nodup_of_fst h.good.sto.nd) (nodup_of_fst hM.good.sto.nd) hmem)
  · have h1 := h.nx
    have h2 := hM.nx
    have h3 := h.good.ok.next0
    rcases Nat.eq_zero_or_pos M.length with h0 | h0
    · omega
    · have hlast := hM.ids (M.length - 1) (by omega)
      have hm := gd_mem (show M.length - 1 < M.length by omega)
      have hs := (hM.good.sto.mem _ _).2 (show ((gd M (M.length - 1)).1, (gd M (M.length - 1)).2) ∈ M from hm)
      rw [← hl] at hs
      have := (h.good.inv.i4 _ _ hs).2.2
      omega
end Go.Proofs.Ytpnfgnddlfkfaaa
