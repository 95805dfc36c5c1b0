/-
  Event: what its small functions tell.
-/
import Derived.Test.YtlgkcpgbmobacaaEvMath2
import Derived.Test.YtlgkcpgbmobacaaLaw2
set_option linter.unusedSimpArgs false
set_option linter.unusedVariables false
namespace Go.Proofs.Ytlgkcpgbmobacaa
open Go.RowKit

/-- a text as a value -/
def tv (l : List UInt8) : Value := .string ⟨l.toArray⟩
/-- a piece as cells -/
def pc (p : Part) : List Value := [.int .i64 p.off, .int .i64 p.len, .int .i64 p.chunk, .int .i64 p.at_]
def pcs (l : List Part) : List Value := (l.map pc).flatten
theorem pcs_get (l : List Part) (i : Nat) (hi : i < l.length) : (pcs l)[i * 4]? = some (.int .i64 l[i].off) ∧ (pcs l)[i * 4 + 1]? = some (.int .i64 l[i].len) ∧ (pcs l)[i * 4 + 2]? = some (.int .i64 l[i].chunk) ∧ (pcs l)[i * 4 + 3]? = some (.int .i64 l[i].at_) := by
  induction l generalizing i with
  | nil => simp at hi
  | cons p l ih =>
    have e : pcs (p :: l) = pc p ++ pcs l := by unfold pcs; simp
    rw [e]
    cases i with
    | zero => exact ⟨rfl, rfl, rfl, rfl⟩
    | succ i =>
      have h := ih i (by simpa using hi)
      have e4 : (pc p).length = 4 := rfl
      refine ⟨?_, ?_, ?_, ?_⟩
      · rw [List.getElem?_append_right (by omega), e4, show (i + 1) * 4 - 4 = i * 4 by omega]; exact h.1
      · rw [List.getElem?_append_right (by omega), e4, show (i + 1) * 4 + 1 - 4 = i * 4 + 1 by omega]; exact h.2.1
      · rw [List.getElem?_append_right (by omega), e4, show (i + 1) * 4 + 2 - 4 = i * 4 + 2 by omega]; exact h.2.2.1
      · rw [List.getElem?_append_right (by omega), e4, show (i + 1) * 4 + 3 - 4 = i * 4 + 3 by omega]; exact h.2.2.2
theorem pcs_length (l : List Part) : (pcs l).length = l.length * 4 := by
  induction l with
  | nil => rfl
  | cons p l ih =>
    have e : pcs (p :: l) = pc p ++ pcs l := by unfold pcs; simp
    rw [e, List.length_append, ih, List.length_cons, show (pc p).length = 4 from rfl]
    omega
/-- the cells of a piece of a row -/
theorem parts_at {w : World} {A : Option Addr} {l : List Part} (h : Rd w A (pcs l)) (i : Nat) (hi : i < l.length) : ∃ b off, A = some ⟨b, off, none⟩ ∧ w.cell? ⟨b, off + i * 4, none⟩ = some (.int .i64 l[i].off) ∧ w.cell? ⟨b, off + i * 4 + 1, none⟩ = some (.int .i64 l[i].len) ∧ w.cell? ⟨b, off + i * 4 + 2, none⟩ = some (.int .i64 l[i].chunk) ∧ w.cell? ⟨b, off + i * 4 + 3, none⟩ = some (.int .i64 l[i].at_) := by
  obtain ⟨g0, g1, g2, g3⟩ := pcs_get l i hi
  obtain ⟨⟨b, off, sp⟩, rfl, h0⟩ := h _ _ g0
  have hs : sp = none := by 
    obtain ⟨ad, e, h1⟩ := h 0 _ (pcs_get l 0 (by omega)).1
    cases e
    simpa [Addr.add] using World.cell?_spot h1
  subst hs
  have key : ∀ k, (⟨b, off, none⟩ : Addr).add k = ⟨b, off + k, none⟩ := by intro k; unfold Addr.add; split <;> simp_all
  refine ⟨b, off, rfl, ?_, ?_, ?_, ?_⟩
  · rw [key] at h0; exact h0
  · obtain ⟨ad, e, h1⟩ := h _ _ g1; cases e; rw [key] at h1; exact h1
  · obtain ⟨ad, e, h1⟩ := h _ _ g2; cases e; rw [key] at h1; exact h1
  · obtain ⟨ad, e, h1⟩ := h _ _ g3; cases e; rw [key] at h1; exact h1
/-- a piece as a value -/
def pv (p : Part) : Value := .agg #[.int .i64 p.off, .int .i64 p.len, .int .i64 p.chunk, .int .i64 p.at_]

set_option maxRecDepth 100000 in
set_option maxHeartbeats 2000000 in
theorem event_has (n : Int) (w : World) :
    Calls Try.prog 53 #[.int .i64 n] w fun e w' => e = .returned (.tuple #[.bool (n == 5), .bool (n == 3), .bool (n == 4)]) ∧ w = w' := by
  go_enter Try.func53, Try.ntmps53
  go_wp2
  go_ret3
  exact ⟨rfl, rfl⟩
set_option maxRecDepth 100000 in
set_option maxHeartbeats 2000000 in
theorem event_size (n : Int) (w : World) :
    Calls Try.prog 54 #[.int .i64 n] w fun e w' => e = .returned (.bool (okSize n)) ∧ w = w' := by
  go_enter Try.func54, Try.ntmps54
  go_wp2
  all_goals go_ret
  all_goals exact ⟨ret_bool (by unfold okSize; simp; omega), rfl⟩
set_option maxRecDepth 100000 in
set_option maxHeartbeats 2000000 in
theorem part_fits (p : Part) (w : World) :
    Calls Try.prog 56 #[pv p] w fun e w' => e = .returned (.bool (fits p)) ∧ Below w.heap.size w w' := by
  obtain ⟨o, l, c, a⟩ := p
  unfold pv fits
  simp only
  go_enter Try.func56, Try.ntmps56
  go_wp2
  all_goals go_ret
  all_goals refine ⟨ret_bool ?_, bal (Below.refl _ _) _⟩
  all_goals (rw [Bool.eq_iff_iff]; simp only [decide_eq_true_eq, Bool.and_eq_true, Bool.false_eq_true, false_iff]; omega)

/-- an item as a value -/
def iv (i : Item) (A5 : Option Addr) (c5 : Nat) (A6 : Option Addr) (c6 : Nat) : Value :=
  .agg #[.int .i64 i.op, tv i.path, tv i.to_, .int .i64 i.off, .int .i64 i.size, .slice A5 i.data c5, .slice A6 i.parts.length c6]
theorem all_take (l : List Part) (k : Nat) (h : k < l.length) : (l.take (k + 1)).all okPart = ((l.take k).all okPart && okPart l[k]) := by
  rw [List.take_succ_eq_append_getElem h, List.all_append]; simp
theorem all_bad (l : List Part) (k : Nat) (h : k < l.length) (hb : okPart l[k] = false) : l.all okPart = false := by
  rw [List.all_eq_false]
  exact ⟨l[k], List.getElem_mem h, by rw [hb]; simp⟩

set_option maxRecDepth 100000 in
set_option maxHeartbeats 2000000 in
theorem event_parts (i : Item) (A5 : Option Addr) (c5 : Nat) (A6 : Option Addr) (c6 : Nat) (w : World) (hr : Rd w A6 (pcs i.parts)) (hl : i.parts.length ≤ 4611686018427387904) :
    Calls Try.prog 55 #[iv i A5 c5 A6 c6] w fun e w' => e = .returned (.bool (okParts i.op i.parts)) ∧ Below w.heap.size w w' := by
  obtain ⟨op, path, to_, off, size, data, ps⟩ := i
  unfold iv tv
  simp only at hr hl ⊢
  go_enter Try.func55, Try.ntmps55
  go_wp2
  have hB := Blk.new w 68 #[.int .i64 op, .string ⟨path.toArray⟩, .string ⟨to_.toArray⟩, .int .i64 off, .int .i64 size, .slice A5 data c5, .slice A6 ps.length c6]
  have hb1 : Below w.heap.size w (w.alloc (.cells #[.int .i64 op, .string ⟨path.toArray⟩, .string ⟨to_.toArray⟩, .int .i64 off, .int .i64 size, .slice A5 data c5, .slice A6 ps.length c6] 68)) := bal (Below.refl _ _) _
  generalize (w.alloc (.cells #[.int .i64 op, .string ⟨path.toArray⟩, .string ⟨to_.toArray⟩, .int .i64 off, .int .i64 size, .slice A5 data c5, .slice A6 ps.length c6] 68)) = W1 at *
  go_loopw [8] (fun i wr => ∃ k : Nat, k ≤ ps.length ∧ i = .int .i64 (k : Int) ∧ Hid ((ps.take k).all okPart = true) ∧ Below W1.heap.size W1 wr) (fun i _ => ps.length - (intOf i).toNat)
  case atStart => exact ⟨0, Nat.zero_le _, rfl, (rfl : (ps.take 0).all okPart = true), Below.refl _ _⟩
  case round =>
    obtain ⟨k, hk, rfl, hall, hbr⟩ := hrel
    by_cases hlt : k < ps.length
    · obtain ⟨b, o6, rfl, x0, x1, x2, x3⟩ := parts_at ((hr.below hb1).below hbr) k hlt
      have i0 : (0 : Int) ≤ (k : Int) := by omega
      have i1 : (k : Int) < (ps.length : Int) := by omega
      have hst := all_take ps k hlt
      rw [hall.out, Bool.true_and] at hst
      have hbad := all_bad ps k hlt
      obtain ⟨q, hq⟩ : ∃ q, ps[k] = q := ⟨_, rfl⟩
      rw [hq] at x0 x1 x2 x3 hst hbad
      have HST := Lib.hid hst
      have HBAD := Lib.hid hbad
      clear hst hbad hq
      obtain ⟨qo, ql, qc, qa⟩ := q
      simp only at x0 x1 x2 x3
      by_cases hq0 : qo = 0
      · subst hq0
        have hok : okPart ⟨0, ql, qc, qa⟩ = fits ⟨0, ql, qc, qa⟩ := by simp [okPart]
        rw [hok] at HST HBAD
        cases hf : fits ⟨0, ql, qc, qa⟩ with
        | true =>
          have HF := Lib.hid hf
          have hn := HST.out.trans hf
          have HN := Lib.hid hn
          clear hf hn hok HBAD HST
          go_wp2_with fail
          refine (part_fits ⟨0, ql, qc, qa⟩ _).mono ?_
          rintro e w2 ⟨rfl, hb2⟩
          rw [HF.out]
          go_wp2
          go_roundw
          case rel => exact ⟨k + 1, by omega, by go_num, HN.out, bn (bal hbr _) hb2⟩
          case measure => simp [intOf]; try omega
        | false =>
          have HF := Lib.hid hf
          have hn := HBAD.out hf
          have HN := Lib.hid hn
          clear hf hn hok HBAD HST
          go_wp2_with fail
          refine (part_fits ⟨0, ql, qc, qa⟩ _).mono ?_
          rintro e w2 ⟨rfl, hb2⟩
          rw [HF.out]
          go_wp2
          go_ret
          exact ⟨ret_bool (by unfold okParts; rw [HN.out]; rfl), bn hb1 (bn (bal hbr _) hb2)⟩
      · have hn := HBAD.out (by simp [okPart, hq0])
        have HN := Lib.hid hn
        have t0 : ((qo : Int) == 0) = false := beq_eq_false_iff_ne.2 hq0
        have t1 : ((qo : Int) != 0) = true := by rw [bne_iff_ne]; exact hq0
        clear hn HBAD HST hq0
        go_wp2
        go_ret
        exact ⟨ret_bool (by unfold okParts; rw [HN.out]; rfl), bn hb1 (bal hbr _)⟩
    · obtain rfl : k = ps.length := by omega
      have hB2 := hB.below hbr
      have x0 : wr.cell? ⟨w.heap.size, 0, none⟩ = some (.int .i64 op) := hB2.cell 0
      have x6 : wr.cell? ⟨w.heap.size, 6, none⟩ = some (.slice A6 ps.length c6) := hB2.cell 6
      rw [List.take_length] at hall
      have hfin : okParts op ps = decide (ps.length = 0 ∨ op = 3) := by unfold okParts; rw [hall.out, Bool.true_and]
      have HF := Lib.hid hfin
      clear hfin hall hB hB2 hr
      by_cases h3 : op = 3
      · subst h3
        by_cases h0 : ps.length = 0
        · have t0 : (((ps.length : Nat) : Int) == 0) = true := by rw [beq_iff_eq]; omega
          go_wp2
          go_ret
          exact ⟨ret_bool (by rw [HF.out]; simp), bn hb1 hbr⟩
        · have t0 : (((ps.length : Nat) : Int) == 0) = false := beq_eq_false_iff_ne.2 (by omega)
          go_wp2
          go_ret
          exact ⟨ret_bool (by rw [HF.out]; simp), bn hb1 hbr⟩
      · by_cases h0 : ps.length = 0
        · have t0 : (((ps.length : Nat) : Int) == 0) = true := by rw [beq_iff_eq]; omega
          go_wp2
          go_ret
          exact ⟨ret_bool (by rw [HF.out]; simp [h0]), bn hb1 hbr⟩
        · have t0 : (((ps.length : Nat) : Int) == 0) = false := beq_eq_false_iff_ne.2 (by omega)
          have t3 : ((op : Int) == 3) = false := beq_eq_false_iff_ne.2 h3
          go_wp2
          go_ret
          exact ⟨ret_bool (by rw [HF.out]; simp [h0, h3]), bn hb1 hbr⟩
end Go.Proofs.Ytlgkcpgbmobacaa
