/-
  Pieces of a body: what they are, how they lie; Fits, end, ahead, behind.
-/
import Derived.Test.YtpnfgnddlfkfaaaFlat
import Derived.Test.YtpnfgnddlfkfaaaEvMath
import Derived.Test.YtpnfgnddlfkfaaaSteps
import Derived.Deep.CutBlock
import Derived.Handy
set_option linter.unusedSimpArgs false
set_option linter.unusedVariables false
namespace Go.Proofs.Ytpnfgnddlfkfaaa
open Go.RowKit

def pc (p : Part) : List Value := [.int .i64 p.off, .int .i64 p.len, .int .i64 p.chunk, .int .i64 p.at_]
def pv (p : Part) : Value := .agg #[.int .i64 p.off, .int .i64 p.len, .int .i64 p.chunk, .int .i64 p.at_]
theorem pv_mk (o l c a : Int) : pv ⟨o, l, c, a⟩ = .agg #[.int .i64 o, .int .i64 l, .int .i64 c, .int .i64 a] := rfl
def pcs (l : List Part) : List Value := flat pc l
theorem pc_len (p : Part) : (pc p).length = 4 := rfl
theorem pc_one (p : Part) : ∀ u ∈ pc p, u.oneCell' = true := by
  intro u hu
  simp only [pc, List.mem_cons, List.not_mem_nil, or_false] at hu
  rcases hu with rfl | rfl | rfl | rfl <;> rfl
def PRow (w : World) (B : Nat) (v : Value) (l : List Part) : Prop := ORow w B 50 4 pc v l
def okI (n : Int) : Prop := -9223372036854775808 ≤ n ∧ n ≤ 9223372036854775807
def okP (p : Part) : Prop := okI p.off ∧ okI p.len ∧ okI p.chunk ∧ okI p.at_
def zeroP : Part := ⟨0, 0, 0, 0⟩
/-- the cells of a piece of a row, wherever the world has gone -/
theorem part_at {w : World} {A : Option Addr} {ps : List Part} (h : Rd w A (pcs ps)) (k : Nat) (hk : k < ps.length) :
    ∃ b o, A = some ⟨b, o, none⟩ ∧ b < w.heap.size ∧ ∀ W, Below w.heap.size w W → W.cell? ⟨b, o + k * 4, none⟩ = some (.int .i64 ps[k].off) ∧ W.cell? ⟨b, o + k * 4 + 1, none⟩ = some (.int .i64 ps[k].len) ∧ W.cell? ⟨b, o + k * 4 + 2, none⟩ = some (.int .i64 ps[k].chunk) ∧ W.cell? ⟨b, o + k * 4 + 3, none⟩ = some (.int .i64 ps[k].at_) := by
  obtain ⟨b, o, e, hc⟩ := flat_at pc_len (by omega) h k hk
  have h0 := hc 0 _ (show (pc ps[k])[0]? = some (.int .i64 ps[k].off) from rfl)
  have h1 := hc 1 _ (show (pc ps[k])[1]? = some (.int .i64 ps[k].len) from rfl)
  have h2 := hc 2 _ (show (pc ps[k])[2]? = some (.int .i64 ps[k].chunk) from rfl)
  have h3 := hc 3 _ (show (pc ps[k])[3]? = some (.int .i64 ps[k].at_) from rfl)
  have hlt : b < w.heap.size := by simpa using block_lt_of_cell h0
  exact ⟨b, o, e, hlt, fun W hb => ⟨(hb.cell (p := ⟨b, o + k * 4, none⟩) hlt).trans h0, (hb.cell (p := ⟨b, o + k * 4 + 1, none⟩) hlt).trans h1, (hb.cell (p := ⟨b, o + k * 4 + 2, none⟩) hlt).trans h2, (hb.cell (p := ⟨b, o + k * 4 + 3, none⟩) hlt).trans h3⟩⟩

set_option maxRecDepth 100000 in
set_option maxHeartbeats 2000000 in
theorem part_fits (p : Part) (w : World) :
    Calls Try.prog 53 #[pv p] w fun e w' => e = .returned (.bool (fits p)) ∧ Below w.heap.size w w' := by
  obtain ⟨o, l, c, a⟩ := p
  unfold pv fits
  simp only
  go_enter Try.func53, Try.ntmps53
  go_wp2
  all_goals go_ret
  all_goals refine ⟨ret_bool ?_, bal (Below.refl _ _) _⟩
  all_goals (rw [Bool.eq_iff_iff]; simp only [decide_eq_true_eq, Bool.and_eq_true, Bool.false_eq_true, false_iff]; omega)
theorem fits_iff (p : Part) : fits p = true ↔ (1 ≤ p.len ∧ p.len ≤ 64 ∧ 1 ≤ p.chunk ∧ p.chunk ≤ 4611686018427387904 ∧ 0 ≤ p.at_ ∧ p.at_ ≤ 64 - p.len) := by
  unfold fits
  exact decide_eq_true_iff

/-- where a piece lies is in reach -/
def near (p : Part) : Prop := 0 ≤ p.off ∧ p.off ≤ 2199023255552 ∧ 1 ≤ p.len ∧ p.len ≤ 64 ∧ 0 ≤ p.at_ ∧ p.at_ ≤ 64
set_option maxRecDepth 100000 in
set_option maxHeartbeats 2000000 in
theorem part_end (p : Part) (w : World) (h : near p) :
    Calls Try.prog 55 #[pv p] w fun e w' => e = .returned (.int .i64 (p.off + p.len)) ∧ Below w.heap.size w w' := by
  obtain ⟨o, l, c, a⟩ := p
  unfold near at h
  unfold pv
  simp only at h ⊢
  obtain ⟨h0, h1, h2, h3, h4, h5⟩ := h
  go_enter Try.func55, Try.ntmps55
  go_wp2
  go_ret
  exact ⟨rfl, bal (Below.refl _ _) _⟩

def aheadP (p : Part) (x : Int) : Option Part := if x ≤ p.off then none else some ⟨p.off, min p.len (x - p.off), p.chunk, p.at_⟩
def behindP (p : Part) (x : Int) : Option Part := if p.off + p.len ≤ x then none else if p.off < x then some ⟨x, p.len - (x - p.off), p.chunk, p.at_ + (x - p.off)⟩ else some p
set_option maxRecDepth 100000 in
set_option maxHeartbeats 2000000 in
theorem body_ahead (p : Part) (x : Int) (hx0 : 0 ≤ x) (hx1 : x ≤ 2199023255552) (w : World) (h : near p) :
    Calls Try.prog 54 #[pv p, .int .i64 x] w fun e w' => e = .returned (.tuple #[pv ((aheadP p x).getD zeroP), .bool (aheadP p x).isSome]) ∧ Below w.heap.size w w' := by
  obtain ⟨o, l, c, a⟩ := p
  unfold near at h
  unfold pv aheadP
  simp only at h ⊢
  obtain ⟨h0, h1, h2, h3, h4, h5⟩ := h
  by_cases hc : x ≤ o
  · rw [if_pos hc]
    go_enter Try.func54, Try.ntmps54
    go_wp2
    go_returns
    exact ⟨rfl, bal (bal (Below.refl _ _) _) _⟩
  · rw [if_neg hc]
    have hc2 : o < x := by omega
    by_cases hm : l ≤ x - o
    · rw [Int.min_eq_left hm]
      go_enter Try.func54, Try.ntmps54
      go_wp2
      go_returns
      exact ⟨rfl, bal (bal (Below.refl _ _) _) _⟩
    · have hm2 : x - o ≤ l := by omega
      have hm3 : x - o < l := by omega
      rw [Int.min_eq_right hm2]
      go_enter Try.func54, Try.ntmps54
      go_wp2
      go_returns
      exact ⟨rfl, bal (bal (Below.refl _ _) _) _⟩

set_option maxRecDepth 100000 in
set_option maxHeartbeats 2000000 in
theorem body_behind (p : Part) (x : Int) (hx0 : 0 ≤ x) (hx1 : x ≤ 2199023255552) (w : World) (h : near p) :
    Calls Try.prog 56 #[pv p, .int .i64 x] w fun e w' => e = .returned (.tuple #[pv ((behindP p x).getD zeroP), .bool (behindP p x).isSome]) ∧ Below w.heap.size w w' := by
  obtain ⟨o, l, c, a⟩ := p
  unfold near at h
  unfold pv behindP
  simp only at h ⊢
  obtain ⟨h0, h1, h2, h3, h4, h5⟩ := h
  by_cases hc : o + l ≤ x
  · rw [if_pos hc]
    go_enter Try.func56, Try.ntmps56
    go_wp2
    go_returns
    exact ⟨rfl, bal (bal (bal (Below.refl _ _) _) _) _⟩
  · rw [if_neg hc]
    have hc2 : x < o + l := by omega
    by_cases hm : o < x
    · rw [if_pos hm]
      have hm2 : 0 < x - o := by omega
      have hm3 : 0 ≤ x - o := by omega
      go_enter Try.func56, Try.ntmps56
      go_wp2
      go_returns
      exact ⟨rfl, bal (bal (bal (Below.refl _ _) _) _) _⟩
    · rw [if_neg hm]
      have hm3 : x - o ≤ 0 := by omega
      go_enter Try.func56, Try.ntmps56
      go_wp2
      all_goals
        go_returns
        exact ⟨rfl, bal (bal (bal (Below.refl _ _) _) _) _⟩
end Go.Proofs.Ytpnfgnddlfkfaaa
