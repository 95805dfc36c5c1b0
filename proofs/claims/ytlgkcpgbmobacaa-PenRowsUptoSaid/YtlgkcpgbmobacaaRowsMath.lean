/-
  Texts and numbers one behind another, as bytes.
-/
import Derived.Test.YtlgkcpgbmobacaaPenTurn
set_option linter.unusedSimpArgs false
set_option linter.unusedVariables false
namespace Go.Proofs.Ytlgkcpgbmobacaa

/-- what is written as a row of orders says: a text where it says so and one is left; else a number, if one is left -/
def rows : List Bool → List (List UInt8) → List Nat → List UInt8
  | [], _, _ => []
  | true :: o, s :: l, n => num s.length ++ s ++ rows o l n
  | true :: o, [], x :: n => num x ++ rows o [] n
  | false :: o, l, x :: n => num x ++ rows o l n
  | true :: o, [], [] => rows o [] []
  | false :: o, l, [] => rows o l []
theorem rows_text (o : List Bool) (s : List UInt8) (l : List (List UInt8)) (n : List Nat) : rows (true :: o) (s :: l) n = num s.length ++ s ++ rows o l n := rfl
theorem rows_num (b : Bool) (o : List Bool) (l : List (List UInt8)) (x : Nat) (n : List Nat) (h : b = false ∨ l = []) : rows (b :: o) l (x :: n) = num x ++ rows o l n := by
  cases b with
  | false => rfl
  | true =>
    have : l = [] := h.resolve_left (by simp)
    subst this
    rfl
theorem rows_none (b : Bool) (o : List Bool) (l : List (List UInt8)) (h : b = false ∨ l = []) : rows (b :: o) l [] = rows o l [] := by
  cases b with
  | false => rfl
  | true =>
    have : l = [] := h.resolve_left (by simp)
    subst this
    rfl
theorem rows_length (M : Nat) (hM : M ≤ 9223372036854775807) (o : List Bool) : ∀ (l : List (List UInt8)) (n : List Nat), (∀ s ∈ l, s.length ≤ M) → (∀ x ∈ n, x ≤ 9223372036854775807) → (rows o l n).length ≤ o.length * (M + 10) := by
  induction o with
  | nil => intro l n _ _; simp [rows]
  | cons b o ih =>
    intro l n hl hn
    rw [List.length_cons, Nat.succ_mul]
    by_cases h : b = false ∨ l = []
    · cases n with
      | nil =>
        rw [rows_none b o l h]
        have := ih l [] hl hn
        omega
      | cons x n =>
        rw [rows_num b o l x n h, List.length_append]
        have h1 := ih l n hl (fun y hy => hn y (List.mem_cons_of_mem _ hy))
        have h2 := num_10 x (hn x (List.mem_cons_self ..))
        omega
    · cases l with
      | nil => exact absurd (.inr rfl) h
      | cons s l =>
        cases b with
        | false => exact absurd (.inl rfl) h
        | true =>
          rw [rows_text, List.length_append, List.length_append]
          have h1 := ih l n (fun y hy => hl y (List.mem_cons_of_mem _ hy)) hn
          have h2 := hl s (List.mem_cons_self ..)
          have h3 := num_10 s.length (by omega)
          omega
theorem drop_next {α : Type} (l : List α) (i : Nat) (h : i < l.length) : l.drop i = l[i] :: l.drop (i + 1) := List.drop_eq_getElem_cons h
theorem drop_end {α : Type} (l : List α) (i : Nat) (h : l.length ≤ i) : l.drop i = [] := List.drop_of_length_le h

/-- one order further -/
theorem rows_step_text (o : List Bool) (l : List (List UInt8)) (n : List Nat) (j i k : Nat) (hj : j < o.length) (hi : i < l.length) (hb : o[j] = true) :
    rows (o.drop j) (l.drop i) (n.drop k) = num l[i].length ++ l[i] ++ rows (o.drop (j + 1)) (l.drop (i + 1)) (n.drop k) := by
  rw [drop_next o j hj, drop_next l i hi, hb, rows_text]
theorem rows_step_num (o : List Bool) (l : List (List UInt8)) (n : List Nat) (j i k : Nat) (hj : j < o.length) (hk : k < n.length) (hb : o[j] = false ∨ l.length ≤ i) :
    rows (o.drop j) (l.drop i) (n.drop k) = num n[k] ++ rows (o.drop (j + 1)) (l.drop i) (n.drop (k + 1)) := by
  rw [drop_next o j hj, drop_next n k hk, rows_num _ _ _ _ _ (hb.imp id (drop_end l i))]
theorem rows_step_none (o : List Bool) (l : List (List UInt8)) (n : List Nat) (j i k : Nat) (hj : j < o.length) (hk : n.length ≤ k) (hb : o[j] = false ∨ l.length ≤ i) :
    rows (o.drop j) (l.drop i) (n.drop k) = rows (o.drop (j + 1)) (l.drop i) (n.drop k) := by
  rw [drop_next o j hj, drop_end n k hk, rows_none _ _ _ (hb.imp id (drop_end l i))]
end Go.Proofs.Ytlgkcpgbmobacaa
