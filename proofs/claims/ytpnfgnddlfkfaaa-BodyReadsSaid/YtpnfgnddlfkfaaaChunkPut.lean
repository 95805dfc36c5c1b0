/-
  The chunk store: Put; what always holds of a store.
-/
import Derived.Test.YtpnfgnddlfkfaaaChunkSet
set_option linter.unusedSimpArgs false
set_option linter.unusedVariables false
namespace Go.Proofs.Ytpnfgnddlfkfaaa
open Go.RowKit Go.Maps

structure CInv (s : CSt) : Prop where
  i1 : ∀ id b, s.l id = some b → id ∈ s.ids (ck b)
  i2 : ∀ k id, id ∈ s.ids k → ∃ b, s.l id = some b ∧ ck b = k
  i3 : ∀ id id' b, s.l id = some b → s.l id' = some b → id = id'
  i4 : ∀ id b, s.l id = some b → (1 ≤ b.length ∧ b.length ≤ 64) ∧ 1 ≤ id ∧ id < s.next
theorem CInv.empty : CInv CSt.empty := ⟨fun _ _ h => by (cases h), fun _ _ h => (by cases h), fun _ _ _ h => by (cases h), fun _ _ h => by (cases h)⟩
theorem CInv.find {s : CSt} (h : CInv s) {b : List UInt8} (hb : 1 ≤ b.length) (id : Int) : findId s b = some id ↔ s.l id = some b := by
  have key : ∀ x, x ∈ s.ids (ck b) → ((s.l x).getD [] == b) = true → s.l x = some b := fun x hx hp => by
    obtain ⟨b', h1, _⟩ := h.i2 _ x hx
    rw [h1] at hp ⊢
    simp at hp
    rw [hp]
  unfold findId
  constructor
  · intro hf
    exact key id (List.mem_of_find?_eq_some hf) (List.find?_some (p := fun id => (s.l id).getD [] == b) hf)
  · intro hl
    have hm := h.i1 id b hl
    cases hf : (s.ids (ck b)).find? (fun id => (s.l id).getD [] == b) with
    | none =>
      have := List.find?_eq_none.1 hf id hm
      rw [hl] at this
      simp at this
    | some x =>
      have hx := key x (List.mem_of_find?_eq_some hf) (List.find?_some (p := fun id => (s.l id).getD [] == b) hf)
      rw [h.i3 x id b hx hl]
theorem CInv.find_none {s : CSt} (h : CInv s) {b : List UInt8} (hb : 1 ≤ b.length) (hf : findId s b = none) (id : Int) : s.l id ≠ some b := fun e => by
  rw [(h.find hb id).2 e] at hf
  cases hf
theorem CInv.next_none {s : CSt} (h : CInv s) {id : Int} (hid : s.next ≤ id) : s.l id = none := by
  cases hl : s.l id with
  | none => rfl
  | some b => have := (h.i4 id b hl).2.2; omega
theorem CInv.set {s : CSt} (h : CInv s) {id : Int} {b : List UInt8} (hb : 1 ≤ b.length ∧ b.length ≤ 64) (hid : 1 ≤ id) (hn : s.l id = none) (hf : findId s b = none) : CInv (setSt s id b) := by
  have hne := h.find_none hb.1 hf
  unfold setSt
  refine ⟨fun x c hx => ?_, fun k x hx => ?_, fun x y c hx hy => ?_, fun x c hx => ?_⟩
  · simp only at hx ⊢
    by_cases e : x = id
    · rw [if_pos e] at hx
      cases hx
      rw [if_pos rfl, e]; simp
    · rw [if_neg e] at hx
      have := h.i1 x c hx
      split
      · exact List.mem_append.2 (.inl this)
      · exact this
  · simp only at hx ⊢
    by_cases ek : k = ck b
    · rw [if_pos ek] at hx
      rcases List.mem_append.1 hx with hx | hx
      · obtain ⟨c, h1, h2⟩ := h.i2 k x hx
        have : x ≠ id := fun e => by rw [e, hn] at h1; cases h1
        exact ⟨c, by rw [if_neg this]; exact h1, h2⟩
      · have : x = id := by simpa using hx
        exact ⟨b, by rw [if_pos this], ek.symm⟩
    · rw [if_neg ek] at hx
      obtain ⟨c, h1, h2⟩ := h.i2 k x hx
      have : x ≠ id := fun e => by rw [e, hn] at h1; cases h1
      exact ⟨c, by rw [if_neg this]; exact h1, h2⟩
  · simp only at hx hy
    by_cases ex : x = id
    · by_cases ey : y = id
      · rw [ex, ey]
      · rw [if_pos ex] at hx
        rw [if_neg ey] at hy
        cases hx
        exact absurd hy (hne y)
    · rw [if_neg ex] at hx
      by_cases ey : y = id
      · rw [if_pos ey] at hy
        cases hy
        exact absurd hx (hne x)
      · rw [if_neg ey] at hy
        exact h.i3 x y c hx hy
  · simp only at hx ⊢
    by_cases e : x = id
    · rw [if_pos e] at hx
      cases hx
      refine ⟨hb, by omega, ?_⟩
      split <;> omega
    · rw [if_neg e] at hx
      obtain ⟨h1, h2, h3⟩ := h.i4 x c hx
      refine ⟨h1, h2, ?_⟩
      split <;> omega
theorem COk.empty : COk 0 CSt.empty := ⟨by omega, fun _ => Nat.le_refl _, fun _ _ h => (by cases h), fun _ _ h => by (cases h), by decide, by decide, by decide, by decide⟩
theorem COk.mono {n n' : Nat} {s : CSt} (h : COk n s) (hn : n ≤ n') (hb : n' ≤ 1000000000) : COk n' s :=
  ⟨hb, fun k => Nat.le_trans (h.ids k) hn, h.idr, h.len, h.next0, h.next1, h.size0, by have := h.size1; omega⟩
theorem COk.set {n : Nat} {s : CSt} (h : COk n s) {id : Int} {b : List UInt8} (hb : 1 ≤ b.length ∧ b.length ≤ 64) (hid : 1 ≤ id ∧ id ≤ 4611686018427387904) (hn : n ≤ 100000) : COk (n + 2) (setSt s id b) := by
  unfold setSt
  have h0 := h.next0
  have h1 := h.next1
  have h2 := h.size0
  have h3 := h.size1
  refine ⟨by omega, fun k => ?_, fun k x hx => ?_, fun x c hx => ?_, ?_, ?_, ?_, ?_⟩
  · simp only
    have := h.ids k
    split
    · simp; omega
    · omega
  · simp only at hx
    split at hx
    · rcases List.mem_append.1 hx with hx | hx
      · exact h.idr k x hx
      · have : x = id := by simpa using hx
        omega
    · exact h.idr k x hx
  · simp only at hx
    split at hx
    · cases hx; omega
    · exact h.len x c hx
  · simp only; split <;> omega
  · simp only; split <;> omega
  · simp only; omega
  · simp only; omega

/-- Put: the number, whether it is new, the error, the store behind it -/
def putR (s : CSt) (b : List UInt8) : Int × Bool × Int × CSt :=
  if 1 ≤ b.length ∧ b.length ≤ 64 then (match findId s b with | some id => (id, false, 0, s) | none => (s.next, true, 0, setSt s s.next b)) else (0, false, 1, s)
def PutPost (w : World) (g : Nat) (P : Nat → Prop) (n : Nat) (r : Int × Bool × Int × CSt) (e : Ending) (w' : World) : Prop :=
  e = .returned (.tuple #[.int .i64 r.1, .bool r.2.1, .int .i64 r.2.2.1]) ∧ Kp P w w' ∧ Chunks w' g (fun j => P j ∨ (w.heap.size ≤ j ∧ j < w'.heap.size)) (n + 2) r.2.2.2
theorem Chunks.grow {w w' : World} {g : Nat} {P : Nat → Prop} {n : Nat} {s : CSt} (h : Chunks w g P n s) (hb : Below w.heap.size w w') : Chunks w' g (fun j => P j ∨ (w.heap.size ≤ j ∧ j < w'.heap.size)) (n + 2) s := by
  obtain ⟨L, By, fl, fb, h⟩ := h
  exact ⟨L, By, fl, fb, (h.kp (F := fun _ => False) (Kp.of hb) fun _ _ f => f).mono (fun _ hj => .inl hj) (fun j hj => by
    rcases hj with hj | hj
    · exact Nat.lt_of_lt_of_le (h.lt j hj) hb.size
    · exact hj.2) (by omega)⟩
theorem kp_of {F : Nat → Prop} {w w' : World} (hb : Below w.heap.size w w') : Kp F w w' := (Kp.of hb).mono (F := fun _ => False) fun _ _ f => f.elim

set_option maxRecDepth 100000 in
set_option maxHeartbeats 4000000 in
theorem chunk_put (g : Nat) (P : Nat → Prop) (n : Nat) (s : CSt) (A : Option Addr) (m c : Nat) (b : List UInt8) (w : World) (hm : b.length = m) (hr : RB w A b) (hl : b.length ≤ 1000000) (hA : ∀ ad, A = some ad → ¬ P ad.block) (h : Chunks w g P n s) (ok : COk n s) (inv : CInv s) (hn : n < 100000) (hnx : s.next ≤ 4611686018427387904) :
    Calls Try.prog 16 #[.pointer (some ⟨g, 0, none⟩), .slice A m c] w (PutPost w g P n (putR s b)) := by
  subst hm
  by_cases c3 : 1 ≤ b.length ∧ b.length ≤ 64
  rotate_left
  · have he : putR s b = (0, false, 1, s) := by unfold putR; rw [if_neg c3]
    rw [he]
    have HD := Lib.hid (decide_eq_false c3)
    clear he c3
    have HG := Lib.hid (h.grow (Below.refl _ _))
    clear h ok inv
    go_enter Try.func16, Try.ntmps16
    go_wp2_with (go_at_call 40; refine (chunk_may A b.length c (by omega) _).mono ?_; rintro e _ ⟨rfl, rfl⟩; rw [HD.out])
    go_ret3
    exact ⟨rfl, Kp.refl _ _, HG.out⟩
  have HD := Lib.hid (decide_eq_true c3)
  have HF := Lib.hid (chunk_find g P n s A b.length c b w rfl hr hl h fun id hid => by have := ok.idr _ id hid; omega)
  have hnn := inv.next_none (Int.le_refl s.next)
  have hnx0 := ok.next0
  cases hfo : findId s b with
  | some id =>
    have he : putR s b = (id, false, 0, s) := by unfold putR; rw [if_pos c3, hfo]
    rw [he]
    rw [hfo] at HF
    have HG := Lib.hid fun W hb => h.grow (w' := W) hb
    clear he hfo h ok inv hnn c3
    go_enter Try.func16, Try.ntmps16
    go_wp2_with (first | (go_at_call 40; refine (chunk_may A b.length c (by omega) _).mono ?_; rintro e _ ⟨rfl, rfl⟩; rw [HD.out]))
    (with_reducible refine (HF.out).mono ?_)
    rintro e w1 ⟨rfl, hb1⟩
    simp only [Option.getD_some, Option.isSome_some]
    go_wp2
    go_ret3
    exact ⟨rfl, kp_of hb1, HG.out _ hb1⟩
  | none =>
    have he : putR s b = (s.next, true, 0, setSt s s.next b) := by unfold putR; rw [if_pos c3, hfo]
    rw [he]
    rw [hfo] at HF
    have hse : setErr s s.next b = 0 := by unfold setErr; rw [if_pos ⟨hnx0, hnx, c3⟩, hnn, hfo]; rfl
    have HSE := Lib.hid hse
    have HSET := Lib.hid fun W (hb : Below w.heap.size w W) => chunk_set g P n s s.next (by omega) (by omega) A b.length c b W rfl (hr.below hb) hl hA (h.below hb) ok hn
    have HX : Hid (∀ W, Below w.heap.size w W → W.cell? ⟨g, 2, none⟩ = some (.int .i64 s.next)) := fun W hb => by
      obtain ⟨L, By, fl, fb, h⟩ := h
      exact (h.blk.below hb).cell 2
    clear he hfo hse inv hnn c3 ok h hr hA
    go_enter Try.func16, Try.ntmps16
    go_wp2_with (first | (go_at_call 40; refine (chunk_may A b.length c (by omega) _).mono ?_; rintro e _ ⟨rfl, rfl⟩; rw [HD.out]))
    (with_reducible refine (HF.out).mono ?_)
    rintro e w1 ⟨rfl, hb1⟩
    simp only [Option.getD_none, Option.isSome_none]
    have x2 := HX.out _ hb1
    go_wp2_with fail
    (with_reducible refine (HSET.out _ hb1).mono ?_)
    rintro e w2 ⟨rfl, _, hpost⟩
    rw [HSE.out]
    obtain ⟨hk2, hc2⟩ := hpost HSE.out
    clear hpost
    go_wp2
    go_ret3
    refine ⟨rfl, (kp_of hb1).trans hk2 fun _ _ p => p, ?_⟩
    have hz1 := hb1.size
    have hz2 := hk2.size
    refine hc2.mono (fun j hj => ?_) fun j hj => ?_
    · rcases hj with hj | hj
      · exact .inl hj
      · exact .inr ⟨by omega, hj.2⟩
    · rcases hj with hj | hj
      · exact hc2.lt j (.inl hj)
      · exact hj.2
set_option maxHeartbeats 1000000 in
theorem chunk_put_no (g : Nat) (A : Option Addr) (m c : Nat) (w : World) (hm : m ≤ 9223372036854775807) (h : ¬ (1 ≤ m ∧ m ≤ 64)) :
    Calls Try.prog 16 #[.pointer (some ⟨g, 0, none⟩), .slice A m c] w fun e w' => e = .returned (.tuple #[.int .i64 0, .bool false, .int .i64 1]) ∧ w = w' := by
  have HD := Lib.hid (decide_eq_false h)
  clear h
  go_enter Try.func16, Try.ntmps16
  go_wp2_with (go_at_call 40; refine (chunk_may A m c hm _).mono ?_; rintro e _ ⟨rfl, rfl⟩; rw [HD.out])
  go_ret3
  exact ⟨rfl, rfl⟩
theorem putR_ok {n : Nat} {s : CSt} (ok : COk n s) (inv : CInv s) (hn : n < 100000) (hnx : s.next ≤ 4611686018427387904) (b : List UInt8) : COk (n + 2) (putR s b).2.2.2 ∧ CInv (putR s b).2.2.2 ∧ (putR s b).2.2.2.next ≤ s.next + 1 := by
  have h0 := ok.next0
  unfold putR
  split
  · rename_i hb
    cases hf : findId s b with
    | some id => exact ⟨ok.mono (by omega) (by omega), inv, by simp only; omega⟩
    | none =>
      refine ⟨ok.set hb ⟨h0, hnx⟩ (by omega), inv.set hb h0 (inv.next_none (Int.le_refl _)) hf, ?_⟩
      simp only [setSt]
      split <;> omega
  · exact ⟨ok.mono (by omega) (by omega), inv, by simp only; omega⟩
end Go.Proofs.Ytpnfgnddlfkfaaa
