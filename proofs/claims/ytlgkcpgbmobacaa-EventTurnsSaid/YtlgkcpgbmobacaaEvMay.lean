/-
  event.May.
-/
import Derived.Test.YtlgkcpgbmobacaaEvent
set_option linter.unusedSimpArgs false
set_option linter.unusedVariables false
namespace Go.Proofs.Ytlgkcpgbmobacaa
open Go.RowKit

theorem bad_and {a b : Bool} (h : a = true ∧ b = true) (k : a = false ∨ b = false) : False := by
  obtain ⟨h1, h2⟩ := h
  rcases k with k | k
  · rw [h1] at k; cases k
  · rw [h2] at k; cases k
theorem bad_eq {a : Bool} (h : a = true) (k : a = false) : False := by rw [h] at k; cases k

theorem may_no {op : Int} {path to_ : List UInt8} {off size : Int} {data : Nat} {ps : List Part}
    (h : (op < 1 ∨ 8 < op) ∨ (64 : Int) < (path.length : Int) ∨ (64 : Int) < (to_.length : Int) ∨ 0 < data ∨ ((off != 0) = true ∧ op ≠ 3) ∨ ((size != 0) = true ∧ op ≠ 4) ∨ (!okSize off) = true ∨ (!okSize size) = true ∨ ((!op == 5) = true ∧ (!to_.isEmpty) = true) ∨ ((!op == 3) = true ∧ (off != 0) = true) ∨ ((!op == 4) = true ∧ (size != 0) = true)) :
    false = may ⟨op, path, to_, off, size, data, ps⟩ := by
  cases hm : may ⟨op, path, to_, off, size, data, ps⟩ with
  | false => rfl
  | true =>
    exfalso
    obtain ⟨⟨a1, a2, a3, a4, a5, a6, a7, a8⟩, ⟨b1, b2⟩, ⟨c1, c2⟩, d, e⟩ := (may_iff _).1 hm
    simp only at a1 a2 a3 a4 a5 a6 a7 a8 b1 b2 c1 c2
    have o1 : okSize off = true := decide_eq_true ⟨b1, b2⟩
    have o2 : okSize size = true := decide_eq_true ⟨c1, c2⟩
    rcases h with h | h | h | h | ⟨h, k⟩ | ⟨h, k⟩ | h | h | ⟨h, k⟩ | ⟨h, k⟩ | ⟨h, k⟩
    · omega
    · omega
    · omega
    · omega
    · rw [bne_iff_ne] at h; rcases a7 with a | a; exact k a; exact h a
    · rw [bne_iff_ne] at h; rcases a8 with a | a; exact k a; exact h a
    · rw [o1] at h; cases h
    · rw [o2] at h; cases h
    · rcases a6 with a | a
      · subst a; simp at h
      · subst a; simp at k
    · rw [bne_iff_ne] at k; rcases a7 with a | a
      · subst a; simp at h
      · exact k a
    · rw [bne_iff_ne] at k; rcases a8 with a | a
      · subst a; simp at h
      · exact k a
theorem may_yes {op : Int} {path to_ : List UInt8} {off size : Int} {data : Nat} {ps : List Part} (h1 : 1 ≤ op ∧ op ≤ 8) (h2 : (path.length : Int) ≤ 64) (h3 : (to_.length : Int) ≤ 64) (h4 : ¬ 0 < data)
    (h5 : op = 5 ∨ ((!op == 5) = false ∨ (!to_.isEmpty) = false)) (h6 : op = 3 ∨ ((!op == 3) = false ∨ (off != 0) = false)) (h7 : op = 4 ∨ ((!op == 4) = false ∨ (size != 0) = false)) (h8 : (!okSize off) = false) (h9 : (!okSize size) = false) : okParts op ps = may ⟨op, path, to_, off, size, data, ps⟩ := by
  unfold may
  simp only
  have o1 : okSize off = true := by simpa using h8
  have o2 : okSize size = true := by simpa using h9
  have t : op = 5 ∨ to_.length = 0 := by
    rcases h5 with h | h | h
    · exact .inl h
    · left; simpa using h
    · right; simpa using h
  have u : op = 3 ∨ off = 0 := by
    rcases h6 with h | h | h
    · exact .inl h
    · left; simpa using h
    · right; simpa using h
  have v : op = 4 ∨ size = 0 := by
    rcases h7 with h | h | h
    · exact .inl h
    · left; simpa using h
    · right; simpa using h
  rw [o1, o2, decide_eq_true ⟨h1.1, h1.2, by omega, by omega, by omega, t, u, v⟩]
  rfl

set_option maxRecDepth 100000 in
set_option maxHeartbeats 4000000 in
theorem event_may5 (path to_ : List UInt8) (off size : Int) (data : Nat) (ps : List Part) (A5 : Option Addr) (c5 : Nat) (A6 : Option Addr) (c6 : Nat) (w : World) (hr : Rd w A6 (pcs ps)) (hl : ps.length ≤ 4611686018427387904) :
    Calls Try.prog 42 #[.agg #[.int .i64 5, .string ⟨path.toArray⟩, .string ⟨to_.toArray⟩, .int .i64 off, .int .i64 size, .slice A5 data c5, .slice A6 ps.length c6]] w fun e w' => e = .returned (.bool (may ⟨5, path, to_, off, size, data, ps⟩)) ∧ Below w.heap.size w w' := by
  have hp : ∀ W : World, Below w.heap.size w W → Calls Try.prog 55 #[.agg #[.int .i64 5, .string ⟨path.toArray⟩, .string ⟨to_.toArray⟩, .int .i64 off, .int .i64 size, .slice A5 data c5, .slice A6 ps.length c6]] W fun e w' => e = .returned (.bool (okParts 5 ps)) ∧ Below W.heap.size W w' :=
    fun W hb => event_parts ⟨5, path, to_, off, size, data, ps⟩ A5 c5 A6 c6 W (hr.below hb) hl
  have HP := Lib.hid hp
  clear hp hr
  go_enter Try.func42, Try.ntmps42
  go_wp2_with fail
  refine (event_has 5 _).mono ?_
  rintro e _ ⟨rfl, rfl⟩
  go_wp2_with (first | (go_at_call 54; refine (event_size _ _).mono ?_; rintro e _ ⟨rfl, rfl⟩))
  all_goals first
    | (have h1 : (!okSize off) = true := by with_reducible assumption
       have h2 : (!okSize off) = false := by with_reducible assumption
       exact (bad_eq h1 h2).elim)
    | (have h1 : (!okSize size) = true := by with_reducible assumption
       have h2 : (!okSize size) = false := by with_reducible assumption
       exact (bad_eq h1 h2).elim)
    | (have h1 : (off != 0) = true := by with_reducible assumption
       have h2 : (off != 0) = false := by with_reducible assumption
       exact (bad_eq h1 h2).elim)
    | (have h1 : (size != 0) = true := by with_reducible assumption
       have h2 : (size != 0) = false := by with_reducible assumption
       exact (bad_eq h1 h2).elim)
    | (have h1 : (!to_.isEmpty) = true := by with_reducible assumption
       have h2 : (!to_.isEmpty) = false := by with_reducible assumption
       exact (bad_eq h1 h2).elim)
    | (have h : (64 : Int) < (path.length : Int) := by with_reducible assumption
       go_ret
       exact ⟨ret_bool (may_no (.inr (.inl h))), bal (bal (Below.refl _ _) _) _⟩)
    | (have h : (64 : Int) < (to_.length : Int) := by with_reducible assumption
       go_ret
       exact ⟨ret_bool (may_no (.inr (.inr (.inl h)))), bal (bal (Below.refl _ _) _) _⟩)
    | (have h : 0 < data := by with_reducible assumption
       go_ret
       exact ⟨ret_bool (may_no (.inr (.inr (.inr (.inl h))))), bal (bal (Below.refl _ _) _) _⟩)
    | (have h : (off != 0) = true := by with_reducible assumption
       go_ret
       exact ⟨ret_bool (may_no (.inr (.inr (.inr (.inr (.inl ⟨h, (by decide)⟩)))))), bal (bal (Below.refl _ _) _) _⟩)
    | (have h : (size != 0) = true := by with_reducible assumption
       go_ret
       exact ⟨ret_bool (may_no (.inr (.inr (.inr (.inr (.inr (.inl ⟨h, (by decide)⟩))))))), bal (bal (Below.refl _ _) _) _⟩)
    | (have h : (!okSize off) = true := by with_reducible assumption
       go_ret
       exact ⟨ret_bool (may_no (.inr (.inr (.inr (.inr (.inr (.inr (.inl h)))))))), bal (bal (Below.refl _ _) _) _⟩)
    | (have h : (!okSize size) = true := by with_reducible assumption
       go_ret
       exact ⟨ret_bool (may_no (.inr (.inr (.inr (.inr (.inr (.inr (.inr (.inl h))))))))), bal (bal (Below.refl _ _) _) _⟩)
    | (have h1 : 1 ≤ (5 : Int) ∧ (5 : Int) ≤ 8 := by first | with_reducible assumption | decide
       have h2 : (path.length : Int) ≤ 64 := by with_reducible assumption
       have h3 : (to_.length : Int) ≤ 64 := by with_reducible assumption
       have h4 : ¬ 0 < data := by with_reducible assumption
       have h5 : (5 : Int) = 5 ∨ ((!(5 : Int) == 5) = false ∨ (!to_.isEmpty) = false) := .inl rfl
       have h6 : (5 : Int) = 3 ∨ ((!(5 : Int) == 3) = false ∨ (off != 0) = false) := .inr (.inr (by with_reducible assumption))
       have h7 : (5 : Int) = 4 ∨ ((!(5 : Int) == 4) = false ∨ (size != 0) = false) := .inr (.inr (by with_reducible assumption))
       have h8 : (!okSize off) = false := by with_reducible assumption
       have h9 : (!okSize size) = false := by with_reducible assumption
       have hfin := Lib.hid (may_yes h1 h2 h3 h4 h5 h6 h7 h8 h9 (ps := ps))
       clear h1 h2 h3 h4 h5 h6 h7 h8 h9
       (with_reducible refine (HP.out _ ?_).mono ?_)
       · exact bal (bal (Below.refl _ _) _) _
       rintro e w2 ⟨rfl, hb2⟩
       go_wp2
       go_ret
       exact ⟨ret_bool hfin.out, bn (bal (bal (Below.refl _ _) _) _) hb2⟩)
    | trace_state
set_option maxRecDepth 100000 in
set_option maxHeartbeats 4000000 in
theorem event_may3 (path to_ : List UInt8) (off size : Int) (data : Nat) (ps : List Part) (A5 : Option Addr) (c5 : Nat) (A6 : Option Addr) (c6 : Nat) (w : World) (hr : Rd w A6 (pcs ps)) (hl : ps.length ≤ 4611686018427387904) :
    Calls Try.prog 42 #[.agg #[.int .i64 3, .string ⟨path.toArray⟩, .string ⟨to_.toArray⟩, .int .i64 off, .int .i64 size, .slice A5 data c5, .slice A6 ps.length c6]] w fun e w' => e = .returned (.bool (may ⟨3, path, to_, off, size, data, ps⟩)) ∧ Below w.heap.size w w' := by
  have hp : ∀ W : World, Below w.heap.size w W → Calls Try.prog 55 #[.agg #[.int .i64 3, .string ⟨path.toArray⟩, .string ⟨to_.toArray⟩, .int .i64 off, .int .i64 size, .slice A5 data c5, .slice A6 ps.length c6]] W fun e w' => e = .returned (.bool (okParts 3 ps)) ∧ Below W.heap.size W w' :=
    fun W hb => event_parts ⟨3, path, to_, off, size, data, ps⟩ A5 c5 A6 c6 W (hr.below hb) hl
  have HP := Lib.hid hp
  clear hp hr
  go_enter Try.func42, Try.ntmps42
  go_wp2_with fail
  refine (event_has 3 _).mono ?_
  rintro e _ ⟨rfl, rfl⟩
  go_wp2_with (first | (go_at_call 54; refine (event_size _ _).mono ?_; rintro e _ ⟨rfl, rfl⟩))
  all_goals first
    | (have h1 : (!okSize off) = true := by with_reducible assumption
       have h2 : (!okSize off) = false := by with_reducible assumption
       exact (bad_eq h1 h2).elim)
    | (have h1 : (!okSize size) = true := by with_reducible assumption
       have h2 : (!okSize size) = false := by with_reducible assumption
       exact (bad_eq h1 h2).elim)
    | (have h1 : (off != 0) = true := by with_reducible assumption
       have h2 : (off != 0) = false := by with_reducible assumption
       exact (bad_eq h1 h2).elim)
    | (have h1 : (size != 0) = true := by with_reducible assumption
       have h2 : (size != 0) = false := by with_reducible assumption
       exact (bad_eq h1 h2).elim)
    | (have h1 : (!to_.isEmpty) = true := by with_reducible assumption
       have h2 : (!to_.isEmpty) = false := by with_reducible assumption
       exact (bad_eq h1 h2).elim)
    | (have h : (64 : Int) < (path.length : Int) := by with_reducible assumption
       go_ret
       exact ⟨ret_bool (may_no (.inr (.inl h))), bal (bal (Below.refl _ _) _) _⟩)
    | (have h : (64 : Int) < (to_.length : Int) := by with_reducible assumption
       go_ret
       exact ⟨ret_bool (may_no (.inr (.inr (.inl h)))), bal (bal (Below.refl _ _) _) _⟩)
    | (have h : 0 < data := by with_reducible assumption
       go_ret
       exact ⟨ret_bool (may_no (.inr (.inr (.inr (.inl h))))), bal (bal (Below.refl _ _) _) _⟩)
    | (have h : (size != 0) = true := by with_reducible assumption
       go_ret
       exact ⟨ret_bool (may_no (.inr (.inr (.inr (.inr (.inr (.inl ⟨h, (by decide)⟩))))))), bal (bal (Below.refl _ _) _) _⟩)
    | (have h : (!okSize off) = true := by with_reducible assumption
       go_ret
       exact ⟨ret_bool (may_no (.inr (.inr (.inr (.inr (.inr (.inr (.inl h)))))))), bal (bal (Below.refl _ _) _) _⟩)
    | (have h : (!okSize size) = true := by with_reducible assumption
       go_ret
       exact ⟨ret_bool (may_no (.inr (.inr (.inr (.inr (.inr (.inr (.inr (.inl h))))))))), bal (bal (Below.refl _ _) _) _⟩)
    | (have h : (!to_.isEmpty) = true := by with_reducible assumption
       go_ret
       exact ⟨ret_bool (may_no (.inr (.inr (.inr (.inr (.inr (.inr (.inr (.inr (.inl ⟨rfl, h⟩)))))))))), bal (bal (Below.refl _ _) _) _⟩)
    | (have h1 : 1 ≤ (3 : Int) ∧ (3 : Int) ≤ 8 := by first | with_reducible assumption | decide
       have h2 : (path.length : Int) ≤ 64 := by with_reducible assumption
       have h3 : (to_.length : Int) ≤ 64 := by with_reducible assumption
       have h4 : ¬ 0 < data := by with_reducible assumption
       have h5 : (3 : Int) = 5 ∨ ((!(3 : Int) == 5) = false ∨ (!to_.isEmpty) = false) := .inr (.inr (by with_reducible assumption))
       have h6 : (3 : Int) = 3 ∨ ((!(3 : Int) == 3) = false ∨ (off != 0) = false) := .inl rfl
       have h7 : (3 : Int) = 4 ∨ ((!(3 : Int) == 4) = false ∨ (size != 0) = false) := .inr (.inr (by with_reducible assumption))
       have h8 : (!okSize off) = false := by with_reducible assumption
       have h9 : (!okSize size) = false := by with_reducible assumption
       have hfin := Lib.hid (may_yes h1 h2 h3 h4 h5 h6 h7 h8 h9 (ps := ps))
       clear h1 h2 h3 h4 h5 h6 h7 h8 h9
       (with_reducible refine (HP.out _ ?_).mono ?_)
       · exact bal (bal (Below.refl _ _) _) _
       rintro e w2 ⟨rfl, hb2⟩
       go_wp2
       go_ret
       exact ⟨ret_bool hfin.out, bn (bal (bal (Below.refl _ _) _) _) hb2⟩)
    | trace_state
set_option maxRecDepth 100000 in
set_option maxHeartbeats 4000000 in
theorem event_may4 (path to_ : List UInt8) (off size : Int) (data : Nat) (ps : List Part) (A5 : Option Addr) (c5 : Nat) (A6 : Option Addr) (c6 : Nat) (w : World) (hr : Rd w A6 (pcs ps)) (hl : ps.length ≤ 4611686018427387904) :
    Calls Try.prog 42 #[.agg #[.int .i64 4, .string ⟨path.toArray⟩, .string ⟨to_.toArray⟩, .int .i64 off, .int .i64 size, .slice A5 data c5, .slice A6 ps.length c6]] w fun e w' => e = .returned (.bool (may ⟨4, path, to_, off, size, data, ps⟩)) ∧ Below w.heap.size w w' := by
  have hp : ∀ W : World, Below w.heap.size w W → Calls Try.prog 55 #[.agg #[.int .i64 4, .string ⟨path.toArray⟩, .string ⟨to_.toArray⟩, .int .i64 off, .int .i64 size, .slice A5 data c5, .slice A6 ps.length c6]] W fun e w' => e = .returned (.bool (okParts 4 ps)) ∧ Below W.heap.size W w' :=
    fun W hb => event_parts ⟨4, path, to_, off, size, data, ps⟩ A5 c5 A6 c6 W (hr.below hb) hl
  have HP := Lib.hid hp
  clear hp hr
  go_enter Try.func42, Try.ntmps42
  go_wp2_with fail
  refine (event_has 4 _).mono ?_
  rintro e _ ⟨rfl, rfl⟩
  go_wp2_with (first | (go_at_call 54; refine (event_size _ _).mono ?_; rintro e _ ⟨rfl, rfl⟩))
  all_goals first
    | (have h1 : (!okSize off) = true := by with_reducible assumption
       have h2 : (!okSize off) = false := by with_reducible assumption
       exact (bad_eq h1 h2).elim)
    | (have h1 : (!okSize size) = true := by with_reducible assumption
       have h2 : (!okSize size) = false := by with_reducible assumption
       exact (bad_eq h1 h2).elim)
    | (have h1 : (off != 0) = true := by with_reducible assumption
       have h2 : (off != 0) = false := by with_reducible assumption
       exact (bad_eq h1 h2).elim)
    | (have h1 : (size != 0) = true := by with_reducible assumption
       have h2 : (size != 0) = false := by with_reducible assumption
       exact (bad_eq h1 h2).elim)
    | (have h1 : (!to_.isEmpty) = true := by with_reducible assumption
       have h2 : (!to_.isEmpty) = false := by with_reducible assumption
       exact (bad_eq h1 h2).elim)
    | (have h : (64 : Int) < (path.length : Int) := by with_reducible assumption
       go_ret
       exact ⟨ret_bool (may_no (.inr (.inl h))), bal (bal (Below.refl _ _) _) _⟩)
    | (have h : (64 : Int) < (to_.length : Int) := by with_reducible assumption
       go_ret
       exact ⟨ret_bool (may_no (.inr (.inr (.inl h)))), bal (bal (Below.refl _ _) _) _⟩)
    | (have h : 0 < data := by with_reducible assumption
       go_ret
       exact ⟨ret_bool (may_no (.inr (.inr (.inr (.inl h))))), bal (bal (Below.refl _ _) _) _⟩)
    | (have h : (off != 0) = true := by with_reducible assumption
       go_ret
       exact ⟨ret_bool (may_no (.inr (.inr (.inr (.inr (.inl ⟨h, (by decide)⟩)))))), bal (bal (Below.refl _ _) _) _⟩)
    | (have h : (!okSize off) = true := by with_reducible assumption
       go_ret
       exact ⟨ret_bool (may_no (.inr (.inr (.inr (.inr (.inr (.inr (.inl h)))))))), bal (bal (Below.refl _ _) _) _⟩)
    | (have h : (!okSize size) = true := by with_reducible assumption
       go_ret
       exact ⟨ret_bool (may_no (.inr (.inr (.inr (.inr (.inr (.inr (.inr (.inl h))))))))), bal (bal (Below.refl _ _) _) _⟩)
    | (have h : (!to_.isEmpty) = true := by with_reducible assumption
       go_ret
       exact ⟨ret_bool (may_no (.inr (.inr (.inr (.inr (.inr (.inr (.inr (.inr (.inl ⟨rfl, h⟩)))))))))), bal (bal (Below.refl _ _) _) _⟩)
    | (have h1 : 1 ≤ (4 : Int) ∧ (4 : Int) ≤ 8 := by first | with_reducible assumption | decide
       have h2 : (path.length : Int) ≤ 64 := by with_reducible assumption
       have h3 : (to_.length : Int) ≤ 64 := by with_reducible assumption
       have h4 : ¬ 0 < data := by with_reducible assumption
       have h5 : (4 : Int) = 5 ∨ ((!(4 : Int) == 5) = false ∨ (!to_.isEmpty) = false) := .inr (.inr (by with_reducible assumption))
       have h6 : (4 : Int) = 3 ∨ ((!(4 : Int) == 3) = false ∨ (off != 0) = false) := .inr (.inr (by with_reducible assumption))
       have h7 : (4 : Int) = 4 ∨ ((!(4 : Int) == 4) = false ∨ (size != 0) = false) := .inl rfl
       have h8 : (!okSize off) = false := by with_reducible assumption
       have h9 : (!okSize size) = false := by with_reducible assumption
       have hfin := Lib.hid (may_yes h1 h2 h3 h4 h5 h6 h7 h8 h9 (ps := ps))
       clear h1 h2 h3 h4 h5 h6 h7 h8 h9
       (with_reducible refine (HP.out _ ?_).mono ?_)
       · exact bal (bal (Below.refl _ _) _) _
       rintro e w2 ⟨rfl, hb2⟩
       go_wp2
       go_ret
       exact ⟨ret_bool hfin.out, bn (bal (bal (Below.refl _ _) _) _) hb2⟩)
    | trace_state
set_option maxRecDepth 100000 in
set_option maxHeartbeats 4000000 in
theorem event_may0 (op : Int) (t5 : (op == 5) = false) (t3 : (op == 3) = false) (t4 : (op == 4) = false) (path to_ : List UInt8) (off size : Int) (data : Nat) (ps : List Part) (A5 : Option Addr) (c5 : Nat) (A6 : Option Addr) (c6 : Nat) (w : World) (hr : Rd w A6 (pcs ps)) (hl : ps.length ≤ 4611686018427387904) :
    Calls Try.prog 42 #[.agg #[.int .i64 op, .string ⟨path.toArray⟩, .string ⟨to_.toArray⟩, .int .i64 off, .int .i64 size, .slice A5 data c5, .slice A6 ps.length c6]] w fun e w' => e = .returned (.bool (may ⟨op, path, to_, off, size, data, ps⟩)) ∧ Below w.heap.size w w' := by
  have hp : ∀ W : World, Below w.heap.size w W → Calls Try.prog 55 #[.agg #[.int .i64 op, .string ⟨path.toArray⟩, .string ⟨to_.toArray⟩, .int .i64 off, .int .i64 size, .slice A5 data c5, .slice A6 ps.length c6]] W fun e w' => e = .returned (.bool (okParts op ps)) ∧ Below W.heap.size W w' :=
    fun W hb => event_parts ⟨op, path, to_, off, size, data, ps⟩ A5 c5 A6 c6 W (hr.below hb) hl
  have HP := Lib.hid hp
  clear hp hr
  go_enter Try.func42, Try.ntmps42
  go_wp2_with fail
  refine (event_has op _).mono ?_
  rintro e _ ⟨rfl, rfl⟩
  go_wp2_with (first | (go_at_call 54; refine (event_size _ _).mono ?_; rintro e _ ⟨rfl, rfl⟩))
  all_goals first
    | (have h1 : (!okSize off) = true := by with_reducible assumption
       have h2 : (!okSize off) = false := by with_reducible assumption
       exact (bad_eq h1 h2).elim)
    | (have h1 : (!okSize size) = true := by with_reducible assumption
       have h2 : (!okSize size) = false := by with_reducible assumption
       exact (bad_eq h1 h2).elim)
    | (have h1 : (off != 0) = true := by with_reducible assumption
       have h2 : (off != 0) = false := by with_reducible assumption
       exact (bad_eq h1 h2).elim)
    | (have h1 : (size != 0) = true := by with_reducible assumption
       have h2 : (size != 0) = false := by with_reducible assumption
       exact (bad_eq h1 h2).elim)
    | (have h1 : (!to_.isEmpty) = true := by with_reducible assumption
       have h2 : (!to_.isEmpty) = false := by with_reducible assumption
       exact (bad_eq h1 h2).elim)
    | (have h : op < 1 := by with_reducible assumption
       go_ret
       exact ⟨ret_bool (may_no (.inl (.inl h))), bal (bal (Below.refl _ _) _) _⟩)
    | (have h : 8 < op := by with_reducible assumption
       go_ret
       exact ⟨ret_bool (may_no (.inl (.inr h))), bal (bal (Below.refl _ _) _) _⟩)
    | (have h : op < 1 ∨ 8 < op := by with_reducible assumption
       go_ret
       exact ⟨ret_bool (may_no (.inl h)), bal (bal (Below.refl _ _) _) _⟩)
    | (have h : (64 : Int) < (path.length : Int) := by with_reducible assumption
       go_ret
       exact ⟨ret_bool (may_no (.inr (.inl h))), bal (bal (Below.refl _ _) _) _⟩)
    | (have h : (64 : Int) < (to_.length : Int) := by with_reducible assumption
       go_ret
       exact ⟨ret_bool (may_no (.inr (.inr (.inl h)))), bal (bal (Below.refl _ _) _) _⟩)
    | (have h : 0 < data := by with_reducible assumption
       go_ret
       exact ⟨ret_bool (may_no (.inr (.inr (.inr (.inl h))))), bal (bal (Below.refl _ _) _) _⟩)
    | (have h : (off != 0) = true := by with_reducible assumption
       go_ret
       exact ⟨ret_bool (may_no (.inr (.inr (.inr (.inr (.inl ⟨h, (by simpa using t3)⟩)))))), bal (bal (Below.refl _ _) _) _⟩)
    | (have h : (size != 0) = true := by with_reducible assumption
       go_ret
       exact ⟨ret_bool (may_no (.inr (.inr (.inr (.inr (.inr (.inl ⟨h, (by simpa using t4)⟩))))))), bal (bal (Below.refl _ _) _) _⟩)
    | (have h : (!okSize off) = true := by with_reducible assumption
       go_ret
       exact ⟨ret_bool (may_no (.inr (.inr (.inr (.inr (.inr (.inr (.inl h)))))))), bal (bal (Below.refl _ _) _) _⟩)
    | (have h : (!okSize size) = true := by with_reducible assumption
       go_ret
       exact ⟨ret_bool (may_no (.inr (.inr (.inr (.inr (.inr (.inr (.inr (.inl h))))))))), bal (bal (Below.refl _ _) _) _⟩)
    | (have h : (!to_.isEmpty) = true := by with_reducible assumption
       go_ret
       exact ⟨ret_bool (may_no (.inr (.inr (.inr (.inr (.inr (.inr (.inr (.inr (.inl ⟨(by rw [t5]; rfl), h⟩)))))))))), bal (bal (Below.refl _ _) _) _⟩)
    | (have h1 : 1 ≤ (op : Int) ∧ (op : Int) ≤ 8 := by omega
       have h2 : (path.length : Int) ≤ 64 := by with_reducible assumption
       have h3 : (to_.length : Int) ≤ 64 := by with_reducible assumption
       have h4 : ¬ 0 < data := by with_reducible assumption
       have h5 : (op : Int) = 5 ∨ ((!(op : Int) == 5) = false ∨ (!to_.isEmpty) = false) := .inr (.inr (by with_reducible assumption))
       have h6 : (op : Int) = 3 ∨ ((!(op : Int) == 3) = false ∨ (off != 0) = false) := .inr (.inr (by with_reducible assumption))
       have h7 : (op : Int) = 4 ∨ ((!(op : Int) == 4) = false ∨ (size != 0) = false) := .inr (.inr (by with_reducible assumption))
       have h8 : (!okSize off) = false := by with_reducible assumption
       have h9 : (!okSize size) = false := by with_reducible assumption
       have hfin := Lib.hid (may_yes h1 h2 h3 h4 h5 h6 h7 h8 h9 (ps := ps))
       clear h1 h2 h3 h4 h5 h6 h7 h8 h9
       (with_reducible refine (HP.out _ ?_).mono ?_)
       · exact bal (bal (Below.refl _ _) _) _
       rintro e w2 ⟨rfl, hb2⟩
       go_wp2
       go_ret
       exact ⟨ret_bool hfin.out, bn (bal (bal (Below.refl _ _) _) _) hb2⟩)
    | trace_state
theorem event_may (i : Item) (A5 : Option Addr) (c5 : Nat) (A6 : Option Addr) (c6 : Nat) (w : World) (hr : Rd w A6 (pcs i.parts)) (hl : i.parts.length ≤ 4611686018427387904) :
    Calls Try.prog 42 #[iv i A5 c5 A6 c6] w fun e w' => e = .returned (.bool (may i)) ∧ Below w.heap.size w w' := by
  obtain ⟨op, path, to_, off, size, data, ps⟩ := i
  by_cases h5 : op = 5
  · subst h5; exact event_may5 path to_ off size data ps A5 c5 A6 c6 w hr hl
  · by_cases h3 : op = 3
    · subst h3; exact event_may3 path to_ off size data ps A5 c5 A6 c6 w hr hl
    · by_cases h4 : op = 4
      · subst h4; exact event_may4 path to_ off size data ps A5 c5 A6 c6 w hr hl
      · exact event_may0 op (beq_eq_false_iff_ne.2 h5) (beq_eq_false_iff_ne.2 h3) (beq_eq_false_iff_ne.2 h4) path to_ off size data ps A5 c5 A6 c6 w hr hl
end Go.Proofs.Ytlgkcpgbmobacaa
