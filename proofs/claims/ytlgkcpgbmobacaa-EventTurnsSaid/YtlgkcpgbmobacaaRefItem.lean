/-
  The reference's items: PartMay, ItemMay.
-/
import Derived.Test.YtlgkcpgbmobacaaEvMay
import Derived.Test.YtlgkcpgbmobacaaRef1
set_option linter.unusedSimpArgs false
set_option linter.unusedVariables false
namespace Go.Proofs.Ytlgkcpgbmobacaa
open Go.RowKit

set_option maxRecDepth 100000 in
set_option maxHeartbeats 600000 in
theorem ref_part_may (p : Part) (w : World) :
    Calls Try.prog 51 #[pv p] w fun e w' => e = .returned (.bool (fits p)) ∧ Below w.heap.size w w' := by
  obtain ⟨o, l, c, a⟩ := p
  unfold pv fits
  simp only
  go_enter Try.func51, Try.ntmps51
  go_wp2
  all_goals go_ret
  all_goals refine ⟨ret_bool ?_, bal (Below.refl _ _) _⟩
  all_goals (rw [Bool.eq_iff_iff]; simp only [decide_eq_true_eq, Bool.and_eq_true, Bool.false_eq_true, false_iff]; omega)

theorem not_may {op : Int} {path to_ : List UInt8} {off size : Int} {data : Nat} {ps : List Part} (h : may ⟨op, path, to_, off, size, data, ps⟩ = true → False) : false = may ⟨op, path, to_, off, size, data, ps⟩ := by
  cases hm : may ⟨op, path, to_, off, size, data, ps⟩ with
  | false => rfl
  | true => exact (h hm).elim
/-- a leaf's facts in words that 'omega' reads -/
theorem may_facts {op : Int} {path to_ : List UInt8} {off size : Int} {data : Nat} {ps : List Part} (h : may ⟨op, path, to_, off, size, data, ps⟩ = true) :
    1 ≤ op ∧ op ≤ 8 ∧ (path.length : Int) ≤ 64 ∧ (to_.length : Int) ≤ 64 ∧ data = 0 ∧ (op = 5 ∨ to_.length = 0) ∧ (op = 3 ∨ off = 0) ∧ (op = 4 ∨ size = 0) ∧ 0 ≤ off ∧ off ≤ 1099511627776 ∧ 0 ≤ size ∧ size ≤ 1099511627776 ∧ (ps.length = 0 ∨ op = 3) := by
  obtain ⟨⟨a1, a2, a3, a4, a5, a6, a7, a8⟩, ⟨b1, b2⟩, ⟨c1, c2⟩, d, e⟩ := (may_iff _).1 h
  simp only at a1 a2 a3 a4 a5 a6 a7 a8 b1 b2 c1 c2 e
  refine ⟨a1, a2, by omega, by omega, a5, ?_, a7, a8, b1, b2, c1, c2, ?_⟩
  · rcases a6 with a | a
    · exact .inl a
    · exact .inr (by rw [a]; rfl)
  · rcases e with a | a
    · exact .inl (by rw [a]; rfl)
    · exact .inr a
theorem may_of {op : Int} {path to_ : List UInt8} {off size : Int} {data : Nat} {ps : List Part} (h1 : 1 ≤ op) (h2 : op ≤ 8) (h3 : path.length ≤ 64) (h4 : to_.length ≤ 64) (h5 : data = 0) (h6 : op = 5 ∨ to_ = []) (h7 : op = 3 ∨ off = 0) (h8 : op = 4 ∨ size = 0)
    (h9 : 0 ≤ off) (h10 : off ≤ 1099511627776) (h11 : 0 ≤ size) (h12 : size ≤ 1099511627776) (h13 : ps.all okPart = true) (h14 : ps.length = 0 ∨ op = 3) : may ⟨op, path, to_, off, size, data, ps⟩ = true := by
  have o1 : okSize off = true := decide_eq_true ⟨h9, h10⟩
  have o2 : okSize size = true := decide_eq_true ⟨h11, h12⟩
  have h6' : op = 5 ∨ to_.length = 0 := h6.imp id (fun h => by rw [h]; rfl)
  unfold may okParts
  simp only
  rw [o1, o2, h13, decide_eq_true ⟨h1, h2, h3, h4, h5, h6', h7, h8⟩, decide_eq_true h14]
  rfl

set_option maxRecDepth 100000 in
set_option maxHeartbeats 1000000 in
theorem ref_item_may_5ne  (path : List UInt8) (off size : Int) (data : Nat) (A5 : Option Addr) (c5 : Nat) (A6 : Option Addr) (c6 : Nat) (w : World) (hto : ([] : List UInt8).length ≤ 9223372036854775807) (hpa : path.length ≤ 9223372036854775807) (hda : data ≤ 9223372036854775807) :
    Calls Try.prog 38 #[.agg #[.int .i64 5, .string ⟨path.toArray⟩, .string ⟨([] : List UInt8).toArray⟩, .int .i64 off, .int .i64 size, .slice A5 data c5, .slice A6 0 c6]] w fun e w' => e = .returned (.bool (may ⟨5, path, [], off, size, data, []⟩)) ∧ Below w.heap.size w w' := by
  by_cases c0 : (64 : Int) < (path.length : Int)
  · have hx := c0
    go_enter Try.func38, Try.ntmps38
    go_wp2
    go_ret
    refine ⟨ret_bool (not_may fun hm => ?_), bal (bal (Below.refl _ _) _) _⟩
    obtain ⟨g1, g2, g3, g4, g5, g6, g7, g8, g9, g10, g11, g12, g13⟩ := may_facts hm
    try (rw [List.length_cons] at g4 g6)
    first | omega | (simp at g6; done) | (simp at g6 g13; omega)
  by_cases c1 : 0 < data
  · have hx := c1
    go_enter Try.func38, Try.ntmps38
    go_wp2
    go_ret
    refine ⟨ret_bool (not_may fun hm => ?_), bal (bal (Below.refl _ _) _) _⟩
    obtain ⟨g1, g2, g3, g4, g5, g6, g7, g8, g9, g10, g11, g12, g13⟩ := may_facts hm
    try (rw [List.length_cons] at g4 g6)
    first | omega | (simp at g6; done) | (simp at g6 g13; omega)
  obtain rfl : data = 0 := by omega
  by_cases d1 : off = 0
  rotate_left
  · have e1 : (off == 0) = false := beq_eq_false_iff_ne.2 d1
    have e2 : (off != 0) = true := bne_iff_ne.2 d1
    go_enter Try.func38, Try.ntmps38
    go_wp2
    go_ret
    refine ⟨ret_bool (not_may fun hm => ?_), bal (bal (Below.refl _ _) _) _⟩
    obtain ⟨g1, g2, g3, g4, g5, g6, g7, g8, g9, g10, g11, g12, g13⟩ := may_facts hm
    try (rw [List.length_cons] at g4 g6)
    first | omega | (simp at g6; done) | (simp at g6 g13; omega)
  subst d1
  by_cases d2 : size = 0
  rotate_left
  · have e1 : (size == 0) = false := beq_eq_false_iff_ne.2 d2
    have e2 : (size != 0) = true := bne_iff_ne.2 d2
    go_enter Try.func38, Try.ntmps38
    go_wp2
    go_ret
    refine ⟨ret_bool (not_may fun hm => ?_), bal (bal (Below.refl _ _) _) _⟩
    obtain ⟨g1, g2, g3, g4, g5, g6, g7, g8, g9, g10, g11, g12, g13⟩ := may_facts hm
    try (rw [List.length_cons] at g4 g6)
    first | omega | (simp at g6; done) | (simp at g6 g13; omega)
  subst d2
  have HM := Lib.hid (may_of (op := 5) (path := path) (to_ := []) (off := 0) (size := 0) (data := 0) (ps := []) (by omega) (by omega) (by omega) (by first | omega | (simp; done) | (rw [List.length_cons]; omega)) rfl (by first | exact .inl rfl | exact .inr rfl) (by first | exact .inl rfl | exact .inr rfl) (by first | exact .inl rfl | exact .inr rfl) (by omega) (by omega) (by omega) (by omega) rfl (.inl rfl))
  go_enter Try.func38, Try.ntmps38
  go_wp2
  generalize hW1 : (w.alloc _).alloc _ = W1
  have hb1 : Below w.heap.size w W1 := by rw [← hW1]; exact bal (bal (Below.refl _ _) _) _
  have hB1 : Blk W1 w.heap.size 61 #[.int .i64 5, .string ⟨path.toArray⟩, .string ⟨([] : List UInt8).toArray⟩, .int .i64 0, .int .i64 0, .slice A5 0 c5, .slice A6 0 c6] := by rw [← hW1]; exact (Blk.new w _ #[.int .i64 5, .string ⟨path.toArray⟩, .string ⟨([] : List UInt8).toArray⟩, .int .i64 0, .int .i64 0, .slice A5 0 c5, .slice A6 0 c6]).alloc _
  clear hW1
  have hc1 : W1.cell? ⟨w.heap.size, 6, none⟩ = some (.slice A6 0 c6) := hB1.cell 6
  clear hB1
  go_loopw [4] (fun i wr => i = .int .i64 0 ∧ wr = W1) (fun _ _ => 0)
  case atStart => exact ⟨rfl, rfl⟩
  case round =>
    obtain ⟨rfl, rfl⟩ := hrel
    go_wp2
    go_ret
    exact ⟨ret_bool HM.out.symm, hb1⟩

set_option maxRecDepth 100000 in
set_option maxHeartbeats 1000000 in
theorem ref_item_may_5nf  (path : List UInt8) (off size : Int) (data : Nat) (ps : List Part) (A5 : Option Addr) (c5 : Nat) (A6 : Option Addr) (c6 : Nat) (w : World) (hr : Rd w A6 (pcs ps)) (hl : ps.length ≤ 4611686018427387904) (hto : ([] : List UInt8).length ≤ 9223372036854775807) (hpa : path.length ≤ 9223372036854775807) (hda : data ≤ 9223372036854775807) (hps : 0 < ps.length) :
    Calls Try.prog 38 #[.agg #[.int .i64 5, .string ⟨path.toArray⟩, .string ⟨([] : List UInt8).toArray⟩, .int .i64 off, .int .i64 size, .slice A5 data c5, .slice A6 ps.length c6]] w fun e w' => e = .returned (.bool (may ⟨5, path, [], off, size, data, ps⟩)) ∧ Below w.heap.size w w' := by
  by_cases c0 : (64 : Int) < (path.length : Int)
  · have hx := c0
    go_enter Try.func38, Try.ntmps38
    go_wp2
    go_ret
    refine ⟨ret_bool (not_may fun hm => ?_), bal (bal (Below.refl _ _) _) _⟩
    obtain ⟨g1, g2, g3, g4, g5, g6, g7, g8, g9, g10, g11, g12, g13⟩ := may_facts hm
    try (rw [List.length_cons] at g4 g6)
    first | omega | (simp at g6; done) | (simp at g6 g13; omega)
  by_cases c1 : 0 < data
  · have hx := c1
    go_enter Try.func38, Try.ntmps38
    go_wp2
    go_ret
    refine ⟨ret_bool (not_may fun hm => ?_), bal (bal (Below.refl _ _) _) _⟩
    obtain ⟨g1, g2, g3, g4, g5, g6, g7, g8, g9, g10, g11, g12, g13⟩ := may_facts hm
    try (rw [List.length_cons] at g4 g6)
    first | omega | (simp at g6; done) | (simp at g6 g13; omega)
  obtain rfl : data = 0 := by omega
  by_cases d1 : off = 0
  rotate_left
  · have e1 : (off == 0) = false := beq_eq_false_iff_ne.2 d1
    have e2 : (off != 0) = true := bne_iff_ne.2 d1
    go_enter Try.func38, Try.ntmps38
    go_wp2
    go_ret
    refine ⟨ret_bool (not_may fun hm => ?_), bal (bal (Below.refl _ _) _) _⟩
    obtain ⟨g1, g2, g3, g4, g5, g6, g7, g8, g9, g10, g11, g12, g13⟩ := may_facts hm
    try (rw [List.length_cons] at g4 g6)
    first | omega | (simp at g6; done) | (simp at g6 g13; omega)
  subst d1
  by_cases d2 : size = 0
  rotate_left
  · have e1 : (size == 0) = false := beq_eq_false_iff_ne.2 d2
    have e2 : (size != 0) = true := bne_iff_ne.2 d2
    go_enter Try.func38, Try.ntmps38
    go_wp2
    go_ret
    refine ⟨ret_bool (not_may fun hm => ?_), bal (bal (Below.refl _ _) _) _⟩
    obtain ⟨g1, g2, g3, g4, g5, g6, g7, g8, g9, g10, g11, g12, g13⟩ := may_facts hm
    try (rw [List.length_cons] at g4 g6)
    first | omega | (simp at g6; done) | (simp at g6 g13; omega)
  subst d2
  go_enter Try.func38, Try.ntmps38
  go_wp2
  go_ret
  refine ⟨ret_bool (not_may fun hm => ?_), bal (bal (Below.refl _ _) _) _⟩
  obtain ⟨g1, g2, g3, g4, g5, g6, g7, g8, g9, g10, g11, g12, g13⟩ := may_facts hm
  try (rw [List.length_cons] at g4 g6)
  first | omega | (simp at g6; done) | (simp at g6 g13; omega)

set_option maxRecDepth 100000 in
set_option maxHeartbeats 1000000 in
theorem ref_item_may_5ce  (path : List UInt8) (t0 : UInt8) (tt : List UInt8) (off size : Int) (data : Nat) (A5 : Option Addr) (c5 : Nat) (A6 : Option Addr) (c6 : Nat) (w : World) (hto : ((t0 :: tt) : List UInt8).length ≤ 9223372036854775807) (hpa : path.length ≤ 9223372036854775807) (hda : data ≤ 9223372036854775807) :
    Calls Try.prog 38 #[.agg #[.int .i64 5, .string ⟨path.toArray⟩, .string ⟨((t0 :: tt) : List UInt8).toArray⟩, .int .i64 off, .int .i64 size, .slice A5 data c5, .slice A6 0 c6]] w fun e w' => e = .returned (.bool (may ⟨5, path, (t0 :: tt), off, size, data, []⟩)) ∧ Below w.heap.size w w' := by
  rw [List.length_cons] at hto
  by_cases c0 : (64 : Int) < (path.length : Int)
  · have hx := c0
    go_enter Try.func38, Try.ntmps38
    go_wp2
    go_ret
    refine ⟨ret_bool (not_may fun hm => ?_), bal (bal (Below.refl _ _) _) _⟩
    obtain ⟨g1, g2, g3, g4, g5, g6, g7, g8, g9, g10, g11, g12, g13⟩ := may_facts hm
    try (rw [List.length_cons] at g4 g6)
    first | omega | (simp at g6; done) | (simp at g6 g13; omega)
  by_cases c1 : (64 : Int) < (tt.length : Int) + 1
  · have hx := c1
    go_enter Try.func38, Try.ntmps38
    go_wp2
    go_ret
    refine ⟨ret_bool (not_may fun hm => ?_), bal (bal (Below.refl _ _) _) _⟩
    obtain ⟨g1, g2, g3, g4, g5, g6, g7, g8, g9, g10, g11, g12, g13⟩ := may_facts hm
    try (rw [List.length_cons] at g4 g6)
    first | omega | (simp at g6; done) | (simp at g6 g13; omega)
  by_cases c2 : 0 < data
  · have hx := c2
    go_enter Try.func38, Try.ntmps38
    go_wp2
    go_ret
    refine ⟨ret_bool (not_may fun hm => ?_), bal (bal (Below.refl _ _) _) _⟩
    obtain ⟨g1, g2, g3, g4, g5, g6, g7, g8, g9, g10, g11, g12, g13⟩ := may_facts hm
    try (rw [List.length_cons] at g4 g6)
    first | omega | (simp at g6; done) | (simp at g6 g13; omega)
  obtain rfl : data = 0 := by omega
  by_cases d1 : off = 0
  rotate_left
  · have e1 : (off == 0) = false := beq_eq_false_iff_ne.2 d1
    have e2 : (off != 0) = true := bne_iff_ne.2 d1
    go_enter Try.func38, Try.ntmps38
    go_wp2
    go_ret
    refine ⟨ret_bool (not_may fun hm => ?_), bal (bal (Below.refl _ _) _) _⟩
    obtain ⟨g1, g2, g3, g4, g5, g6, g7, g8, g9, g10, g11, g12, g13⟩ := may_facts hm
    try (rw [List.length_cons] at g4 g6)
    first | omega | (simp at g6; done) | (simp at g6 g13; omega)
  subst d1
  by_cases d2 : size = 0
  rotate_left
  · have e1 : (size == 0) = false := beq_eq_false_iff_ne.2 d2
    have e2 : (size != 0) = true := bne_iff_ne.2 d2
    go_enter Try.func38, Try.ntmps38
    go_wp2
    go_ret
    refine ⟨ret_bool (not_may fun hm => ?_), bal (bal (Below.refl _ _) _) _⟩
    obtain ⟨g1, g2, g3, g4, g5, g6, g7, g8, g9, g10, g11, g12, g13⟩ := may_facts hm
    try (rw [List.length_cons] at g4 g6)
    first | omega | (simp at g6; done) | (simp at g6 g13; omega)
  subst d2
  have HM := Lib.hid (may_of (op := 5) (path := path) (to_ := (t0 :: tt)) (off := 0) (size := 0) (data := 0) (ps := []) (by omega) (by omega) (by omega) (by first | omega | (simp; done) | (rw [List.length_cons]; omega)) rfl (by first | exact .inl rfl | exact .inr rfl) (by first | exact .inl rfl | exact .inr rfl) (by first | exact .inl rfl | exact .inr rfl) (by omega) (by omega) (by omega) (by omega) rfl (.inl rfl))
  go_enter Try.func38, Try.ntmps38
  go_wp2
  generalize hW1 : (w.alloc _).alloc _ = W1
  have hb1 : Below w.heap.size w W1 := by rw [← hW1]; exact bal (bal (Below.refl _ _) _) _
  have hB1 : Blk W1 w.heap.size 61 #[.int .i64 5, .string ⟨path.toArray⟩, .string ⟨((t0 :: tt) : List UInt8).toArray⟩, .int .i64 0, .int .i64 0, .slice A5 0 c5, .slice A6 0 c6] := by rw [← hW1]; exact (Blk.new w _ #[.int .i64 5, .string ⟨path.toArray⟩, .string ⟨((t0 :: tt) : List UInt8).toArray⟩, .int .i64 0, .int .i64 0, .slice A5 0 c5, .slice A6 0 c6]).alloc _
  clear hW1
  have hc1 : W1.cell? ⟨w.heap.size, 6, none⟩ = some (.slice A6 0 c6) := hB1.cell 6
  clear hB1
  go_loopw [4] (fun i wr => i = .int .i64 0 ∧ wr = W1) (fun _ _ => 0)
  case atStart => exact ⟨rfl, rfl⟩
  case round =>
    obtain ⟨rfl, rfl⟩ := hrel
    go_wp2
    go_ret
    exact ⟨ret_bool HM.out.symm, hb1⟩

set_option maxRecDepth 100000 in
set_option maxHeartbeats 1000000 in
theorem ref_item_may_5cf  (path : List UInt8) (t0 : UInt8) (tt : List UInt8) (off size : Int) (data : Nat) (ps : List Part) (A5 : Option Addr) (c5 : Nat) (A6 : Option Addr) (c6 : Nat) (w : World) (hr : Rd w A6 (pcs ps)) (hl : ps.length ≤ 4611686018427387904) (hto : ((t0 :: tt) : List UInt8).length ≤ 9223372036854775807) (hpa : path.length ≤ 9223372036854775807) (hda : data ≤ 9223372036854775807) (hps : 0 < ps.length) :
    Calls Try.prog 38 #[.agg #[.int .i64 5, .string ⟨path.toArray⟩, .string ⟨((t0 :: tt) : List UInt8).toArray⟩, .int .i64 off, .int .i64 size, .slice A5 data c5, .slice A6 ps.length c6]] w fun e w' => e = .returned (.bool (may ⟨5, path, (t0 :: tt), off, size, data, ps⟩)) ∧ Below w.heap.size w w' := by
  rw [List.length_cons] at hto
  by_cases c0 : (64 : Int) < (path.length : Int)
  · have hx := c0
    go_enter Try.func38, Try.ntmps38
    go_wp2
    go_ret
    refine ⟨ret_bool (not_may fun hm => ?_), bal (bal (Below.refl _ _) _) _⟩
    obtain ⟨g1, g2, g3, g4, g5, g6, g7, g8, g9, g10, g11, g12, g13⟩ := may_facts hm
    try (rw [List.length_cons] at g4 g6)
    first | omega | (simp at g6; done) | (simp at g6 g13; omega)
  by_cases c1 : (64 : Int) < (tt.length : Int) + 1
  · have hx := c1
    go_enter Try.func38, Try.ntmps38
    go_wp2
    go_ret
    refine ⟨ret_bool (not_may fun hm => ?_), bal (bal (Below.refl _ _) _) _⟩
    obtain ⟨g1, g2, g3, g4, g5, g6, g7, g8, g9, g10, g11, g12, g13⟩ := may_facts hm
    try (rw [List.length_cons] at g4 g6)
    first | omega | (simp at g6; done) | (simp at g6 g13; omega)
  by_cases c2 : 0 < data
  · have hx := c2
    go_enter Try.func38, Try.ntmps38
    go_wp2
    go_ret
    refine ⟨ret_bool (not_may fun hm => ?_), bal (bal (Below.refl _ _) _) _⟩
    obtain ⟨g1, g2, g3, g4, g5, g6, g7, g8, g9, g10, g11, g12, g13⟩ := may_facts hm
    try (rw [List.length_cons] at g4 g6)
    first | omega | (simp at g6; done) | (simp at g6 g13; omega)
  obtain rfl : data = 0 := by omega
  by_cases d1 : off = 0
  rotate_left
  · have e1 : (off == 0) = false := beq_eq_false_iff_ne.2 d1
    have e2 : (off != 0) = true := bne_iff_ne.2 d1
    go_enter Try.func38, Try.ntmps38
    go_wp2
    go_ret
    refine ⟨ret_bool (not_may fun hm => ?_), bal (bal (Below.refl _ _) _) _⟩
    obtain ⟨g1, g2, g3, g4, g5, g6, g7, g8, g9, g10, g11, g12, g13⟩ := may_facts hm
    try (rw [List.length_cons] at g4 g6)
    first | omega | (simp at g6; done) | (simp at g6 g13; omega)
  subst d1
  by_cases d2 : size = 0
  rotate_left
  · have e1 : (size == 0) = false := beq_eq_false_iff_ne.2 d2
    have e2 : (size != 0) = true := bne_iff_ne.2 d2
    go_enter Try.func38, Try.ntmps38
    go_wp2
    go_ret
    refine ⟨ret_bool (not_may fun hm => ?_), bal (bal (Below.refl _ _) _) _⟩
    obtain ⟨g1, g2, g3, g4, g5, g6, g7, g8, g9, g10, g11, g12, g13⟩ := may_facts hm
    try (rw [List.length_cons] at g4 g6)
    first | omega | (simp at g6; done) | (simp at g6 g13; omega)
  subst d2
  go_enter Try.func38, Try.ntmps38
  go_wp2
  go_ret
  refine ⟨ret_bool (not_may fun hm => ?_), bal (bal (Below.refl _ _) _) _⟩
  obtain ⟨g1, g2, g3, g4, g5, g6, g7, g8, g9, g10, g11, g12, g13⟩ := may_facts hm
  try (rw [List.length_cons] at g4 g6)
  first | omega | (simp at g6; done) | (simp at g6 g13; omega)

set_option maxRecDepth 100000 in
set_option maxHeartbeats 1000000 in
theorem ref_item_may_4ne  (path : List UInt8) (off size : Int) (data : Nat) (A5 : Option Addr) (c5 : Nat) (A6 : Option Addr) (c6 : Nat) (w : World) (hto : ([] : List UInt8).length ≤ 9223372036854775807) (hpa : path.length ≤ 9223372036854775807) (hda : data ≤ 9223372036854775807) :
    Calls Try.prog 38 #[.agg #[.int .i64 4, .string ⟨path.toArray⟩, .string ⟨([] : List UInt8).toArray⟩, .int .i64 off, .int .i64 size, .slice A5 data c5, .slice A6 0 c6]] w fun e w' => e = .returned (.bool (may ⟨4, path, [], off, size, data, []⟩)) ∧ Below w.heap.size w w' := by
  by_cases c0 : (64 : Int) < (path.length : Int)
  · have hx := c0
    go_enter Try.func38, Try.ntmps38
    go_wp2
    go_ret
    refine ⟨ret_bool (not_may fun hm => ?_), bal (bal (Below.refl _ _) _) _⟩
    obtain ⟨g1, g2, g3, g4, g5, g6, g7, g8, g9, g10, g11, g12, g13⟩ := may_facts hm
    try (rw [List.length_cons] at g4 g6)
    first | omega | (simp at g6; done) | (simp at g6 g13; omega)
  by_cases c1 : 0 < data
  · have hx := c1
    go_enter Try.func38, Try.ntmps38
    go_wp2
    go_ret
    refine ⟨ret_bool (not_may fun hm => ?_), bal (bal (Below.refl _ _) _) _⟩
    obtain ⟨g1, g2, g3, g4, g5, g6, g7, g8, g9, g10, g11, g12, g13⟩ := may_facts hm
    try (rw [List.length_cons] at g4 g6)
    first | omega | (simp at g6; done) | (simp at g6 g13; omega)
  obtain rfl : data = 0 := by omega
  by_cases d1 : off = 0
  rotate_left
  · have e1 : (off == 0) = false := beq_eq_false_iff_ne.2 d1
    have e2 : (off != 0) = true := bne_iff_ne.2 d1
    go_enter Try.func38, Try.ntmps38
    go_wp2
    go_ret
    refine ⟨ret_bool (not_may fun hm => ?_), bal (bal (Below.refl _ _) _) _⟩
    obtain ⟨g1, g2, g3, g4, g5, g6, g7, g8, g9, g10, g11, g12, g13⟩ := may_facts hm
    try (rw [List.length_cons] at g4 g6)
    first | omega | (simp at g6; done) | (simp at g6 g13; omega)
  subst d1
  by_cases z1 : size < 0
  · have hx := z1
    go_enter Try.func38, Try.ntmps38
    go_wp2
    go_ret
    refine ⟨ret_bool (not_may fun hm => ?_), bal (bal (Below.refl _ _) _) _⟩
    obtain ⟨g1, g2, g3, g4, g5, g6, g7, g8, g9, g10, g11, g12, g13⟩ := may_facts hm
    try (rw [List.length_cons] at g4 g6)
    first | omega | (simp at g6; done) | (simp at g6 g13; omega)
  by_cases z2 : 1099511627776 < size
  · have hx := z2
    go_enter Try.func38, Try.ntmps38
    go_wp2
    go_ret
    refine ⟨ret_bool (not_may fun hm => ?_), bal (bal (Below.refl _ _) _) _⟩
    obtain ⟨g1, g2, g3, g4, g5, g6, g7, g8, g9, g10, g11, g12, g13⟩ := may_facts hm
    try (rw [List.length_cons] at g4 g6)
    first | omega | (simp at g6; done) | (simp at g6 g13; omega)
  have z3 : 0 ≤ size := by omega
  have z4 : size ≤ 1099511627776 := by omega
  clear z1 z2
  have HM := Lib.hid (may_of (op := 4) (path := path) (to_ := []) (off := 0) (size := size) (data := 0) (ps := []) (by omega) (by omega) (by omega) (by first | omega | (simp; done) | (rw [List.length_cons]; omega)) rfl (by first | exact .inl rfl | exact .inr rfl) (by first | exact .inl rfl | exact .inr rfl) (by first | exact .inl rfl | exact .inr rfl) (by omega) (by omega) (by omega) (by omega) rfl (.inl rfl))
  go_enter Try.func38, Try.ntmps38
  go_wp2
  generalize hW1 : (w.alloc _).alloc _ = W1
  have hb1 : Below w.heap.size w W1 := by rw [← hW1]; exact bal (bal (Below.refl _ _) _) _
  have hB1 : Blk W1 w.heap.size 61 #[.int .i64 4, .string ⟨path.toArray⟩, .string ⟨([] : List UInt8).toArray⟩, .int .i64 0, .int .i64 size, .slice A5 0 c5, .slice A6 0 c6] := by rw [← hW1]; exact (Blk.new w _ #[.int .i64 4, .string ⟨path.toArray⟩, .string ⟨([] : List UInt8).toArray⟩, .int .i64 0, .int .i64 size, .slice A5 0 c5, .slice A6 0 c6]).alloc _
  clear hW1
  have hc1 : W1.cell? ⟨w.heap.size, 6, none⟩ = some (.slice A6 0 c6) := hB1.cell 6
  clear hB1
  go_loopw [4] (fun i wr => i = .int .i64 0 ∧ wr = W1) (fun _ _ => 0)
  case atStart => exact ⟨rfl, rfl⟩
  case round =>
    obtain ⟨rfl, rfl⟩ := hrel
    go_wp2
    go_ret
    exact ⟨ret_bool HM.out.symm, hb1⟩

set_option maxRecDepth 100000 in
set_option maxHeartbeats 1000000 in
theorem ref_item_may_4nf  (path : List UInt8) (off size : Int) (data : Nat) (ps : List Part) (A5 : Option Addr) (c5 : Nat) (A6 : Option Addr) (c6 : Nat) (w : World) (hr : Rd w A6 (pcs ps)) (hl : ps.length ≤ 4611686018427387904) (hto : ([] : List UInt8).length ≤ 9223372036854775807) (hpa : path.length ≤ 9223372036854775807) (hda : data ≤ 9223372036854775807) (hps : 0 < ps.length) :
    Calls Try.prog 38 #[.agg #[.int .i64 4, .string ⟨path.toArray⟩, .string ⟨([] : List UInt8).toArray⟩, .int .i64 off, .int .i64 size, .slice A5 data c5, .slice A6 ps.length c6]] w fun e w' => e = .returned (.bool (may ⟨4, path, [], off, size, data, ps⟩)) ∧ Below w.heap.size w w' := by
  by_cases c0 : (64 : Int) < (path.length : Int)
  · have hx := c0
    go_enter Try.func38, Try.ntmps38
    go_wp2
    go_ret
    refine ⟨ret_bool (not_may fun hm => ?_), bal (bal (Below.refl _ _) _) _⟩
    obtain ⟨g1, g2, g3, g4, g5, g6, g7, g8, g9, g10, g11, g12, g13⟩ := may_facts hm
    try (rw [List.length_cons] at g4 g6)
    first | omega | (simp at g6; done) | (simp at g6 g13; omega)
  by_cases c1 : 0 < data
  · have hx := c1
    go_enter Try.func38, Try.ntmps38
    go_wp2
    go_ret
    refine ⟨ret_bool (not_may fun hm => ?_), bal (bal (Below.refl _ _) _) _⟩
    obtain ⟨g1, g2, g3, g4, g5, g6, g7, g8, g9, g10, g11, g12, g13⟩ := may_facts hm
    try (rw [List.length_cons] at g4 g6)
    first | omega | (simp at g6; done) | (simp at g6 g13; omega)
  obtain rfl : data = 0 := by omega
  by_cases d1 : off = 0
  rotate_left
  · have e1 : (off == 0) = false := beq_eq_false_iff_ne.2 d1
    have e2 : (off != 0) = true := bne_iff_ne.2 d1
    go_enter Try.func38, Try.ntmps38
    go_wp2
    go_ret
    refine ⟨ret_bool (not_may fun hm => ?_), bal (bal (Below.refl _ _) _) _⟩
    obtain ⟨g1, g2, g3, g4, g5, g6, g7, g8, g9, g10, g11, g12, g13⟩ := may_facts hm
    try (rw [List.length_cons] at g4 g6)
    first | omega | (simp at g6; done) | (simp at g6 g13; omega)
  subst d1
  go_enter Try.func38, Try.ntmps38
  go_wp2
  go_ret
  refine ⟨ret_bool (not_may fun hm => ?_), bal (bal (Below.refl _ _) _) _⟩
  obtain ⟨g1, g2, g3, g4, g5, g6, g7, g8, g9, g10, g11, g12, g13⟩ := may_facts hm
  try (rw [List.length_cons] at g4 g6)
  first | omega | (simp at g6; done) | (simp at g6 g13; omega)

set_option maxRecDepth 100000 in
set_option maxHeartbeats 1000000 in
theorem ref_item_may_4ce  (path : List UInt8) (t0 : UInt8) (tt : List UInt8) (off size : Int) (data : Nat) (A5 : Option Addr) (c5 : Nat) (A6 : Option Addr) (c6 : Nat) (w : World) (hto : ((t0 :: tt) : List UInt8).length ≤ 9223372036854775807) (hpa : path.length ≤ 9223372036854775807) (hda : data ≤ 9223372036854775807) :
    Calls Try.prog 38 #[.agg #[.int .i64 4, .string ⟨path.toArray⟩, .string ⟨((t0 :: tt) : List UInt8).toArray⟩, .int .i64 off, .int .i64 size, .slice A5 data c5, .slice A6 0 c6]] w fun e w' => e = .returned (.bool (may ⟨4, path, (t0 :: tt), off, size, data, []⟩)) ∧ Below w.heap.size w w' := by
  rw [List.length_cons] at hto
  by_cases c0 : (64 : Int) < (path.length : Int)
  · have hx := c0
    go_enter Try.func38, Try.ntmps38
    go_wp2
    go_ret
    refine ⟨ret_bool (not_may fun hm => ?_), bal (bal (Below.refl _ _) _) _⟩
    obtain ⟨g1, g2, g3, g4, g5, g6, g7, g8, g9, g10, g11, g12, g13⟩ := may_facts hm
    try (rw [List.length_cons] at g4 g6)
    first | omega | (simp at g6; done) | (simp at g6 g13; omega)
  by_cases c1 : (64 : Int) < (tt.length : Int) + 1
  · have hx := c1
    go_enter Try.func38, Try.ntmps38
    go_wp2
    go_ret
    refine ⟨ret_bool (not_may fun hm => ?_), bal (bal (Below.refl _ _) _) _⟩
    obtain ⟨g1, g2, g3, g4, g5, g6, g7, g8, g9, g10, g11, g12, g13⟩ := may_facts hm
    try (rw [List.length_cons] at g4 g6)
    first | omega | (simp at g6; done) | (simp at g6 g13; omega)
  by_cases c2 : 0 < data
  · have hx := c2
    go_enter Try.func38, Try.ntmps38
    go_wp2
    go_ret
    refine ⟨ret_bool (not_may fun hm => ?_), bal (bal (Below.refl _ _) _) _⟩
    obtain ⟨g1, g2, g3, g4, g5, g6, g7, g8, g9, g10, g11, g12, g13⟩ := may_facts hm
    try (rw [List.length_cons] at g4 g6)
    first | omega | (simp at g6; done) | (simp at g6 g13; omega)
  obtain rfl : data = 0 := by omega
  go_enter Try.func38, Try.ntmps38
  go_wp2
  go_ret
  refine ⟨ret_bool (not_may fun hm => ?_), bal (bal (Below.refl _ _) _) _⟩
  obtain ⟨g1, g2, g3, g4, g5, g6, g7, g8, g9, g10, g11, g12, g13⟩ := may_facts hm
  try (rw [List.length_cons] at g4 g6)
  first | omega | (simp at g6; done) | (simp at g6 g13; omega)

set_option maxRecDepth 100000 in
set_option maxHeartbeats 1000000 in
theorem ref_item_may_4cf  (path : List UInt8) (t0 : UInt8) (tt : List UInt8) (off size : Int) (data : Nat) (ps : List Part) (A5 : Option Addr) (c5 : Nat) (A6 : Option Addr) (c6 : Nat) (w : World) (hr : Rd w A6 (pcs ps)) (hl : ps.length ≤ 4611686018427387904) (hto : ((t0 :: tt) : List UInt8).length ≤ 9223372036854775807) (hpa : path.length ≤ 9223372036854775807) (hda : data ≤ 9223372036854775807) (hps : 0 < ps.length) :
    Calls Try.prog 38 #[.agg #[.int .i64 4, .string ⟨path.toArray⟩, .string ⟨((t0 :: tt) : List UInt8).toArray⟩, .int .i64 off, .int .i64 size, .slice A5 data c5, .slice A6 ps.length c6]] w fun e w' => e = .returned (.bool (may ⟨4, path, (t0 :: tt), off, size, data, ps⟩)) ∧ Below w.heap.size w w' := by
  rw [List.length_cons] at hto
  by_cases c0 : (64 : Int) < (path.length : Int)
  · have hx := c0
    go_enter Try.func38, Try.ntmps38
    go_wp2
    go_ret
    refine ⟨ret_bool (not_may fun hm => ?_), bal (bal (Below.refl _ _) _) _⟩
    obtain ⟨g1, g2, g3, g4, g5, g6, g7, g8, g9, g10, g11, g12, g13⟩ := may_facts hm
    try (rw [List.length_cons] at g4 g6)
    first | omega | (simp at g6; done) | (simp at g6 g13; omega)
  by_cases c1 : (64 : Int) < (tt.length : Int) + 1
  · have hx := c1
    go_enter Try.func38, Try.ntmps38
    go_wp2
    go_ret
    refine ⟨ret_bool (not_may fun hm => ?_), bal (bal (Below.refl _ _) _) _⟩
    obtain ⟨g1, g2, g3, g4, g5, g6, g7, g8, g9, g10, g11, g12, g13⟩ := may_facts hm
    try (rw [List.length_cons] at g4 g6)
    first | omega | (simp at g6; done) | (simp at g6 g13; omega)
  by_cases c2 : 0 < data
  · have hx := c2
    go_enter Try.func38, Try.ntmps38
    go_wp2
    go_ret
    refine ⟨ret_bool (not_may fun hm => ?_), bal (bal (Below.refl _ _) _) _⟩
    obtain ⟨g1, g2, g3, g4, g5, g6, g7, g8, g9, g10, g11, g12, g13⟩ := may_facts hm
    try (rw [List.length_cons] at g4 g6)
    first | omega | (simp at g6; done) | (simp at g6 g13; omega)
  obtain rfl : data = 0 := by omega
  go_enter Try.func38, Try.ntmps38
  go_wp2
  go_ret
  refine ⟨ret_bool (not_may fun hm => ?_), bal (bal (Below.refl _ _) _) _⟩
  obtain ⟨g1, g2, g3, g4, g5, g6, g7, g8, g9, g10, g11, g12, g13⟩ := may_facts hm
  try (rw [List.length_cons] at g4 g6)
  first | omega | (simp at g6; done) | (simp at g6 g13; omega)

set_option maxRecDepth 100000 in
set_option maxHeartbeats 1000000 in
theorem ref_item_may_one (op : Int) (u5 : op ≠ 5) (u3 : op ≠ 3) (u4 : op ≠ 4) (path : List UInt8) (off size : Int) (data : Nat) (A5 : Option Addr) (c5 : Nat) (A6 : Option Addr) (c6 : Nat) (w : World) (hto : ([] : List UInt8).length ≤ 9223372036854775807) (hpa : path.length ≤ 9223372036854775807) (hda : data ≤ 9223372036854775807) :
    Calls Try.prog 38 #[.agg #[.int .i64 op, .string ⟨path.toArray⟩, .string ⟨([] : List UInt8).toArray⟩, .int .i64 off, .int .i64 size, .slice A5 data c5, .slice A6 0 c6]] w fun e w' => e = .returned (.bool (may ⟨op, path, [], off, size, data, []⟩)) ∧ Below w.heap.size w w' := by
  have t5 : (op == 5) = false := beq_eq_false_iff_ne.2 u5
  have t3 : (op == 3) = false := beq_eq_false_iff_ne.2 u3
  have t4 : (op == 4) = false := beq_eq_false_iff_ne.2 u4
  have v5 : (op != 5) = true := bne_iff_ne.2 u5
  have v3 : (op != 3) = true := bne_iff_ne.2 u3
  have v4 : (op != 4) = true := bne_iff_ne.2 u4
  by_cases c0 : op < 1
  · have hx := c0
    go_enter Try.func38, Try.ntmps38
    go_wp2
    go_ret
    refine ⟨ret_bool (not_may fun hm => ?_), bal (bal (Below.refl _ _) _) _⟩
    obtain ⟨g1, g2, g3, g4, g5, g6, g7, g8, g9, g10, g11, g12, g13⟩ := may_facts hm
    try (rw [List.length_cons] at g4 g6)
    first | omega | (simp at g6; done) | (simp at g6 g13; omega)
  by_cases c1 : 8 < op
  · have hx := c1
    go_enter Try.func38, Try.ntmps38
    go_wp2
    go_ret
    refine ⟨ret_bool (not_may fun hm => ?_), bal (bal (Below.refl _ _) _) _⟩
    obtain ⟨g1, g2, g3, g4, g5, g6, g7, g8, g9, g10, g11, g12, g13⟩ := may_facts hm
    try (rw [List.length_cons] at g4 g6)
    first | omega | (simp at g6; done) | (simp at g6 g13; omega)
  by_cases c2 : (64 : Int) < (path.length : Int)
  · have hx := c2
    go_enter Try.func38, Try.ntmps38
    go_wp2
    go_ret
    refine ⟨ret_bool (not_may fun hm => ?_), bal (bal (Below.refl _ _) _) _⟩
    obtain ⟨g1, g2, g3, g4, g5, g6, g7, g8, g9, g10, g11, g12, g13⟩ := may_facts hm
    try (rw [List.length_cons] at g4 g6)
    first | omega | (simp at g6; done) | (simp at g6 g13; omega)
  by_cases c3 : 0 < data
  · have hx := c3
    go_enter Try.func38, Try.ntmps38
    go_wp2
    go_ret
    refine ⟨ret_bool (not_may fun hm => ?_), bal (bal (Below.refl _ _) _) _⟩
    obtain ⟨g1, g2, g3, g4, g5, g6, g7, g8, g9, g10, g11, g12, g13⟩ := may_facts hm
    try (rw [List.length_cons] at g4 g6)
    first | omega | (simp at g6; done) | (simp at g6 g13; omega)
  obtain rfl : data = 0 := by omega
  by_cases d1 : off = 0
  rotate_left
  · have e1 : (off == 0) = false := beq_eq_false_iff_ne.2 d1
    have e2 : (off != 0) = true := bne_iff_ne.2 d1
    go_enter Try.func38, Try.ntmps38
    go_wp2
    go_ret
    refine ⟨ret_bool (not_may fun hm => ?_), bal (bal (Below.refl _ _) _) _⟩
    obtain ⟨g1, g2, g3, g4, g5, g6, g7, g8, g9, g10, g11, g12, g13⟩ := may_facts hm
    try (rw [List.length_cons] at g4 g6)
    first | omega | (simp at g6; done) | (simp at g6 g13; omega)
  subst d1
  by_cases d2 : size = 0
  rotate_left
  · have e1 : (size == 0) = false := beq_eq_false_iff_ne.2 d2
    have e2 : (size != 0) = true := bne_iff_ne.2 d2
    go_enter Try.func38, Try.ntmps38
    go_wp2
    go_ret
    refine ⟨ret_bool (not_may fun hm => ?_), bal (bal (Below.refl _ _) _) _⟩
    obtain ⟨g1, g2, g3, g4, g5, g6, g7, g8, g9, g10, g11, g12, g13⟩ := may_facts hm
    try (rw [List.length_cons] at g4 g6)
    first | omega | (simp at g6; done) | (simp at g6 g13; omega)
  subst d2
  have HM := Lib.hid (may_of (op := op) (path := path) (to_ := []) (off := 0) (size := 0) (data := 0) (ps := []) (by omega) (by omega) (by omega) (by first | omega | (simp; done) | (rw [List.length_cons]; omega)) rfl (by first | exact .inl rfl | exact .inr rfl) (by first | exact .inl rfl | exact .inr rfl) (by first | exact .inl rfl | exact .inr rfl) (by omega) (by omega) (by omega) (by omega) rfl (.inl rfl))
  go_enter Try.func38, Try.ntmps38
  go_wp2
  generalize hW1 : (w.alloc _).alloc _ = W1
  have hb1 : Below w.heap.size w W1 := by rw [← hW1]; exact bal (bal (Below.refl _ _) _) _
  have hB1 : Blk W1 w.heap.size 61 #[.int .i64 op, .string ⟨path.toArray⟩, .string ⟨([] : List UInt8).toArray⟩, .int .i64 0, .int .i64 0, .slice A5 0 c5, .slice A6 0 c6] := by rw [← hW1]; exact (Blk.new w _ #[.int .i64 op, .string ⟨path.toArray⟩, .string ⟨([] : List UInt8).toArray⟩, .int .i64 0, .int .i64 0, .slice A5 0 c5, .slice A6 0 c6]).alloc _
  clear hW1
  have hc1 : W1.cell? ⟨w.heap.size, 6, none⟩ = some (.slice A6 0 c6) := hB1.cell 6
  clear hB1
  go_loopw [4] (fun i wr => i = .int .i64 0 ∧ wr = W1) (fun _ _ => 0)
  case atStart => exact ⟨rfl, rfl⟩
  case round =>
    obtain ⟨rfl, rfl⟩ := hrel
    go_wp2
    go_ret
    exact ⟨ret_bool HM.out.symm, hb1⟩

set_option maxRecDepth 100000 in
set_option maxHeartbeats 1000000 in
theorem ref_item_may_onf (op : Int) (u5 : op ≠ 5) (u3 : op ≠ 3) (u4 : op ≠ 4) (path : List UInt8) (off size : Int) (data : Nat) (ps : List Part) (A5 : Option Addr) (c5 : Nat) (A6 : Option Addr) (c6 : Nat) (w : World) (hr : Rd w A6 (pcs ps)) (hl : ps.length ≤ 4611686018427387904) (hto : ([] : List UInt8).length ≤ 9223372036854775807) (hpa : path.length ≤ 9223372036854775807) (hda : data ≤ 9223372036854775807) (hps : 0 < ps.length) :
    Calls Try.prog 38 #[.agg #[.int .i64 op, .string ⟨path.toArray⟩, .string ⟨([] : List UInt8).toArray⟩, .int .i64 off, .int .i64 size, .slice A5 data c5, .slice A6 ps.length c6]] w fun e w' => e = .returned (.bool (may ⟨op, path, [], off, size, data, ps⟩)) ∧ Below w.heap.size w w' := by
  have t5 : (op == 5) = false := beq_eq_false_iff_ne.2 u5
  have t3 : (op == 3) = false := beq_eq_false_iff_ne.2 u3
  have t4 : (op == 4) = false := beq_eq_false_iff_ne.2 u4
  have v5 : (op != 5) = true := bne_iff_ne.2 u5
  have v3 : (op != 3) = true := bne_iff_ne.2 u3
  have v4 : (op != 4) = true := bne_iff_ne.2 u4
  by_cases c0 : op < 1
  · have hx := c0
    go_enter Try.func38, Try.ntmps38
    go_wp2
    go_ret
    refine ⟨ret_bool (not_may fun hm => ?_), bal (bal (Below.refl _ _) _) _⟩
    obtain ⟨g1, g2, g3, g4, g5, g6, g7, g8, g9, g10, g11, g12, g13⟩ := may_facts hm
    try (rw [List.length_cons] at g4 g6)
    first | omega | (simp at g6; done) | (simp at g6 g13; omega)
  by_cases c1 : 8 < op
  · have hx := c1
    go_enter Try.func38, Try.ntmps38
    go_wp2
    go_ret
    refine ⟨ret_bool (not_may fun hm => ?_), bal (bal (Below.refl _ _) _) _⟩
    obtain ⟨g1, g2, g3, g4, g5, g6, g7, g8, g9, g10, g11, g12, g13⟩ := may_facts hm
    try (rw [List.length_cons] at g4 g6)
    first | omega | (simp at g6; done) | (simp at g6 g13; omega)
  by_cases c2 : (64 : Int) < (path.length : Int)
  · have hx := c2
    go_enter Try.func38, Try.ntmps38
    go_wp2
    go_ret
    refine ⟨ret_bool (not_may fun hm => ?_), bal (bal (Below.refl _ _) _) _⟩
    obtain ⟨g1, g2, g3, g4, g5, g6, g7, g8, g9, g10, g11, g12, g13⟩ := may_facts hm
    try (rw [List.length_cons] at g4 g6)
    first | omega | (simp at g6; done) | (simp at g6 g13; omega)
  by_cases c3 : 0 < data
  · have hx := c3
    go_enter Try.func38, Try.ntmps38
    go_wp2
    go_ret
    refine ⟨ret_bool (not_may fun hm => ?_), bal (bal (Below.refl _ _) _) _⟩
    obtain ⟨g1, g2, g3, g4, g5, g6, g7, g8, g9, g10, g11, g12, g13⟩ := may_facts hm
    try (rw [List.length_cons] at g4 g6)
    first | omega | (simp at g6; done) | (simp at g6 g13; omega)
  obtain rfl : data = 0 := by omega
  by_cases d1 : off = 0
  rotate_left
  · have e1 : (off == 0) = false := beq_eq_false_iff_ne.2 d1
    have e2 : (off != 0) = true := bne_iff_ne.2 d1
    go_enter Try.func38, Try.ntmps38
    go_wp2
    go_ret
    refine ⟨ret_bool (not_may fun hm => ?_), bal (bal (Below.refl _ _) _) _⟩
    obtain ⟨g1, g2, g3, g4, g5, g6, g7, g8, g9, g10, g11, g12, g13⟩ := may_facts hm
    try (rw [List.length_cons] at g4 g6)
    first | omega | (simp at g6; done) | (simp at g6 g13; omega)
  subst d1
  by_cases d2 : size = 0
  rotate_left
  · have e1 : (size == 0) = false := beq_eq_false_iff_ne.2 d2
    have e2 : (size != 0) = true := bne_iff_ne.2 d2
    go_enter Try.func38, Try.ntmps38
    go_wp2
    go_ret
    refine ⟨ret_bool (not_may fun hm => ?_), bal (bal (Below.refl _ _) _) _⟩
    obtain ⟨g1, g2, g3, g4, g5, g6, g7, g8, g9, g10, g11, g12, g13⟩ := may_facts hm
    try (rw [List.length_cons] at g4 g6)
    first | omega | (simp at g6; done) | (simp at g6 g13; omega)
  subst d2
  go_enter Try.func38, Try.ntmps38
  go_wp2
  go_ret
  refine ⟨ret_bool (not_may fun hm => ?_), bal (bal (Below.refl _ _) _) _⟩
  obtain ⟨g1, g2, g3, g4, g5, g6, g7, g8, g9, g10, g11, g12, g13⟩ := may_facts hm
  try (rw [List.length_cons] at g4 g6)
  first | omega | (simp at g6; done) | (simp at g6 g13; omega)

set_option maxRecDepth 100000 in
set_option maxHeartbeats 1000000 in
theorem ref_item_may_oce (op : Int) (u5 : op ≠ 5) (u3 : op ≠ 3) (u4 : op ≠ 4) (path : List UInt8) (t0 : UInt8) (tt : List UInt8) (off size : Int) (data : Nat) (A5 : Option Addr) (c5 : Nat) (A6 : Option Addr) (c6 : Nat) (w : World) (hto : ((t0 :: tt) : List UInt8).length ≤ 9223372036854775807) (hpa : path.length ≤ 9223372036854775807) (hda : data ≤ 9223372036854775807) :
    Calls Try.prog 38 #[.agg #[.int .i64 op, .string ⟨path.toArray⟩, .string ⟨((t0 :: tt) : List UInt8).toArray⟩, .int .i64 off, .int .i64 size, .slice A5 data c5, .slice A6 0 c6]] w fun e w' => e = .returned (.bool (may ⟨op, path, (t0 :: tt), off, size, data, []⟩)) ∧ Below w.heap.size w w' := by
  have t5 : (op == 5) = false := beq_eq_false_iff_ne.2 u5
  have t3 : (op == 3) = false := beq_eq_false_iff_ne.2 u3
  have t4 : (op == 4) = false := beq_eq_false_iff_ne.2 u4
  have v5 : (op != 5) = true := bne_iff_ne.2 u5
  have v3 : (op != 3) = true := bne_iff_ne.2 u3
  have v4 : (op != 4) = true := bne_iff_ne.2 u4
  rw [List.length_cons] at hto
  by_cases c0 : op < 1
  · have hx := c0
    go_enter Try.func38, Try.ntmps38
    go_wp2
    go_ret
    refine ⟨ret_bool (not_may fun hm => ?_), bal (bal (Below.refl _ _) _) _⟩
    obtain ⟨g1, g2, g3, g4, g5, g6, g7, g8, g9, g10, g11, g12, g13⟩ := may_facts hm
    try (rw [List.length_cons] at g4 g6)
    first | omega | (simp at g6; done) | (simp at g6 g13; omega)
  by_cases c1 : 8 < op
  · have hx := c1
    go_enter Try.func38, Try.ntmps38
    go_wp2
    go_ret
    refine ⟨ret_bool (not_may fun hm => ?_), bal (bal (Below.refl _ _) _) _⟩
    obtain ⟨g1, g2, g3, g4, g5, g6, g7, g8, g9, g10, g11, g12, g13⟩ := may_facts hm
    try (rw [List.length_cons] at g4 g6)
    first | omega | (simp at g6; done) | (simp at g6 g13; omega)
  by_cases c2 : (64 : Int) < (path.length : Int)
  · have hx := c2
    go_enter Try.func38, Try.ntmps38
    go_wp2
    go_ret
    refine ⟨ret_bool (not_may fun hm => ?_), bal (bal (Below.refl _ _) _) _⟩
    obtain ⟨g1, g2, g3, g4, g5, g6, g7, g8, g9, g10, g11, g12, g13⟩ := may_facts hm
    try (rw [List.length_cons] at g4 g6)
    first | omega | (simp at g6; done) | (simp at g6 g13; omega)
  by_cases c3 : (64 : Int) < (tt.length : Int) + 1
  · have hx := c3
    go_enter Try.func38, Try.ntmps38
    go_wp2
    go_ret
    refine ⟨ret_bool (not_may fun hm => ?_), bal (bal (Below.refl _ _) _) _⟩
    obtain ⟨g1, g2, g3, g4, g5, g6, g7, g8, g9, g10, g11, g12, g13⟩ := may_facts hm
    try (rw [List.length_cons] at g4 g6)
    first | omega | (simp at g6; done) | (simp at g6 g13; omega)
  by_cases c4 : 0 < data
  · have hx := c4
    go_enter Try.func38, Try.ntmps38
    go_wp2
    go_ret
    refine ⟨ret_bool (not_may fun hm => ?_), bal (bal (Below.refl _ _) _) _⟩
    obtain ⟨g1, g2, g3, g4, g5, g6, g7, g8, g9, g10, g11, g12, g13⟩ := may_facts hm
    try (rw [List.length_cons] at g4 g6)
    first | omega | (simp at g6; done) | (simp at g6 g13; omega)
  obtain rfl : data = 0 := by omega
  go_enter Try.func38, Try.ntmps38
  go_wp2
  go_ret
  refine ⟨ret_bool (not_may fun hm => ?_), bal (bal (Below.refl _ _) _) _⟩
  obtain ⟨g1, g2, g3, g4, g5, g6, g7, g8, g9, g10, g11, g12, g13⟩ := may_facts hm
  try (rw [List.length_cons] at g4 g6)
  first | omega | (simp at g6; done) | (simp at g6 g13; omega)

set_option maxRecDepth 100000 in
set_option maxHeartbeats 1000000 in
theorem ref_item_may_ocf (op : Int) (u5 : op ≠ 5) (u3 : op ≠ 3) (u4 : op ≠ 4) (path : List UInt8) (t0 : UInt8) (tt : List UInt8) (off size : Int) (data : Nat) (ps : List Part) (A5 : Option Addr) (c5 : Nat) (A6 : Option Addr) (c6 : Nat) (w : World) (hr : Rd w A6 (pcs ps)) (hl : ps.length ≤ 4611686018427387904) (hto : ((t0 :: tt) : List UInt8).length ≤ 9223372036854775807) (hpa : path.length ≤ 9223372036854775807) (hda : data ≤ 9223372036854775807) (hps : 0 < ps.length) :
    Calls Try.prog 38 #[.agg #[.int .i64 op, .string ⟨path.toArray⟩, .string ⟨((t0 :: tt) : List UInt8).toArray⟩, .int .i64 off, .int .i64 size, .slice A5 data c5, .slice A6 ps.length c6]] w fun e w' => e = .returned (.bool (may ⟨op, path, (t0 :: tt), off, size, data, ps⟩)) ∧ Below w.heap.size w w' := by
  have t5 : (op == 5) = false := beq_eq_false_iff_ne.2 u5
  have t3 : (op == 3) = false := beq_eq_false_iff_ne.2 u3
  have t4 : (op == 4) = false := beq_eq_false_iff_ne.2 u4
  have v5 : (op != 5) = true := bne_iff_ne.2 u5
  have v3 : (op != 3) = true := bne_iff_ne.2 u3
  have v4 : (op != 4) = true := bne_iff_ne.2 u4
  rw [List.length_cons] at hto
  by_cases c0 : op < 1
  · have hx := c0
    go_enter Try.func38, Try.ntmps38
    go_wp2
    go_ret
    refine ⟨ret_bool (not_may fun hm => ?_), bal (bal (Below.refl _ _) _) _⟩
    obtain ⟨g1, g2, g3, g4, g5, g6, g7, g8, g9, g10, g11, g12, g13⟩ := may_facts hm
    try (rw [List.length_cons] at g4 g6)
    first | omega | (simp at g6; done) | (simp at g6 g13; omega)
  by_cases c1 : 8 < op
  · have hx := c1
    go_enter Try.func38, Try.ntmps38
    go_wp2
    go_ret
    refine ⟨ret_bool (not_may fun hm => ?_), bal (bal (Below.refl _ _) _) _⟩
    obtain ⟨g1, g2, g3, g4, g5, g6, g7, g8, g9, g10, g11, g12, g13⟩ := may_facts hm
    try (rw [List.length_cons] at g4 g6)
    first | omega | (simp at g6; done) | (simp at g6 g13; omega)
  by_cases c2 : (64 : Int) < (path.length : Int)
  · have hx := c2
    go_enter Try.func38, Try.ntmps38
    go_wp2
    go_ret
    refine ⟨ret_bool (not_may fun hm => ?_), bal (bal (Below.refl _ _) _) _⟩
    obtain ⟨g1, g2, g3, g4, g5, g6, g7, g8, g9, g10, g11, g12, g13⟩ := may_facts hm
    try (rw [List.length_cons] at g4 g6)
    first | omega | (simp at g6; done) | (simp at g6 g13; omega)
  by_cases c3 : (64 : Int) < (tt.length : Int) + 1
  · have hx := c3
    go_enter Try.func38, Try.ntmps38
    go_wp2
    go_ret
    refine ⟨ret_bool (not_may fun hm => ?_), bal (bal (Below.refl _ _) _) _⟩
    obtain ⟨g1, g2, g3, g4, g5, g6, g7, g8, g9, g10, g11, g12, g13⟩ := may_facts hm
    try (rw [List.length_cons] at g4 g6)
    first | omega | (simp at g6; done) | (simp at g6 g13; omega)
  by_cases c4 : 0 < data
  · have hx := c4
    go_enter Try.func38, Try.ntmps38
    go_wp2
    go_ret
    refine ⟨ret_bool (not_may fun hm => ?_), bal (bal (Below.refl _ _) _) _⟩
    obtain ⟨g1, g2, g3, g4, g5, g6, g7, g8, g9, g10, g11, g12, g13⟩ := may_facts hm
    try (rw [List.length_cons] at g4 g6)
    first | omega | (simp at g6; done) | (simp at g6 g13; omega)
  obtain rfl : data = 0 := by omega
  go_enter Try.func38, Try.ntmps38
  go_wp2
  go_ret
  refine ⟨ret_bool (not_may fun hm => ?_), bal (bal (Below.refl _ _) _) _⟩
  obtain ⟨g1, g2, g3, g4, g5, g6, g7, g8, g9, g10, g11, g12, g13⟩ := may_facts hm
  try (rw [List.length_cons] at g4 g6)
  first | omega | (simp at g6; done) | (simp at g6 g13; omega)

set_option maxRecDepth 100000 in
set_option maxHeartbeats 1000000 in
theorem ref_item_may_3n  (path : List UInt8) (off size : Int) (data : Nat) (ps : List Part) (A5 : Option Addr) (c5 : Nat) (A6 : Option Addr) (c6 : Nat) (w : World) (hr : Rd w A6 (pcs ps)) (hl : ps.length ≤ 4611686018427387904) (hto : ([] : List UInt8).length ≤ 9223372036854775807) (hpa : path.length ≤ 9223372036854775807) (hda : data ≤ 9223372036854775807) :
    Calls Try.prog 38 #[.agg #[.int .i64 3, .string ⟨path.toArray⟩, .string ⟨([] : List UInt8).toArray⟩, .int .i64 off, .int .i64 size, .slice A5 data c5, .slice A6 ps.length c6]] w fun e w' => e = .returned (.bool (may ⟨3, path, [], off, size, data, ps⟩)) ∧ Below w.heap.size w w' := by
  by_cases c0 : (64 : Int) < (path.length : Int)
  · have hx := c0
    go_enter Try.func38, Try.ntmps38
    go_wp2
    go_ret
    refine ⟨ret_bool (not_may fun hm => ?_), bal (bal (Below.refl _ _) _) _⟩
    obtain ⟨g1, g2, g3, g4, g5, g6, g7, g8, g9, g10, g11, g12, g13⟩ := may_facts hm
    try (rw [List.length_cons] at g4 g6)
    first | omega | (simp at g6; done) | (simp at g6 g13; omega)
  by_cases c1 : 0 < data
  · have hx := c1
    go_enter Try.func38, Try.ntmps38
    go_wp2
    go_ret
    refine ⟨ret_bool (not_may fun hm => ?_), bal (bal (Below.refl _ _) _) _⟩
    obtain ⟨g1, g2, g3, g4, g5, g6, g7, g8, g9, g10, g11, g12, g13⟩ := may_facts hm
    try (rw [List.length_cons] at g4 g6)
    first | omega | (simp at g6; done) | (simp at g6 g13; omega)
  obtain rfl : data = 0 := by omega
  by_cases d2 : size = 0
  rotate_left
  · have e1 : (size == 0) = false := beq_eq_false_iff_ne.2 d2
    have e2 : (size != 0) = true := bne_iff_ne.2 d2
    go_enter Try.func38, Try.ntmps38
    go_wp2
    go_ret
    refine ⟨ret_bool (not_may fun hm => ?_), bal (bal (Below.refl _ _) _) _⟩
    obtain ⟨g1, g2, g3, g4, g5, g6, g7, g8, g9, g10, g11, g12, g13⟩ := may_facts hm
    try (rw [List.length_cons] at g4 g6)
    first | omega | (simp at g6; done) | (simp at g6 g13; omega)
  subst d2
  by_cases z1 : off < 0
  · have hx := z1
    go_enter Try.func38, Try.ntmps38
    go_wp2
    go_ret
    refine ⟨ret_bool (not_may fun hm => ?_), bal (bal (Below.refl _ _) _) _⟩
    obtain ⟨g1, g2, g3, g4, g5, g6, g7, g8, g9, g10, g11, g12, g13⟩ := may_facts hm
    try (rw [List.length_cons] at g4 g6)
    first | omega | (simp at g6; done) | (simp at g6 g13; omega)
  by_cases z2 : 1099511627776 < off
  · have hx := z2
    go_enter Try.func38, Try.ntmps38
    go_wp2
    go_ret
    refine ⟨ret_bool (not_may fun hm => ?_), bal (bal (Below.refl _ _) _) _⟩
    obtain ⟨g1, g2, g3, g4, g5, g6, g7, g8, g9, g10, g11, g12, g13⟩ := may_facts hm
    try (rw [List.length_cons] at g4 g6)
    first | omega | (simp at g6; done) | (simp at g6 g13; omega)
  have z3 : 0 ≤ off := by omega
  have z4 : off ≤ 1099511627776 := by omega
  clear z1 z2
  go_enter Try.func38, Try.ntmps38
  go_wp2
  generalize hW1 : (w.alloc _).alloc _ = W1
  have hb1 : Below w.heap.size w W1 := by rw [← hW1]; exact bal (bal (Below.refl _ _) _) _
  have hB1 : Blk W1 w.heap.size 61 #[.int .i64 3, .string ⟨path.toArray⟩, .string ⟨([] : List UInt8).toArray⟩, .int .i64 off, .int .i64 0, .slice A5 0 c5, .slice A6 ps.length c6] := by rw [← hW1]; exact (Blk.new w _ #[.int .i64 3, .string ⟨path.toArray⟩, .string ⟨([] : List UInt8).toArray⟩, .int .i64 off, .int .i64 0, .slice A5 0 c5, .slice A6 ps.length c6]).alloc _
  clear hW1
  have HM : Hid (ps.all okPart = true → may ⟨3, path, [], off, 0, 0, ps⟩ = true) := fun h => may_of (by omega) (by omega) (by omega) (by simp) rfl (.inr rfl) (.inl rfl) (.inr rfl) (by omega) (by omega) (by omega) (by omega) h (.inr rfl)
  have HN : Hid (ps.all okPart = false → false = may ⟨3, path, [], off, 0, 0, ps⟩) := fun h => not_may fun hm => by
    have := (may_iff _).1 hm
    have h2 : ps.all okPart = true := List.all_eq_true.2 fun p hp => by
      have h3 := this.2.2.2.1 p hp
      unfold okPart fits
      rw [Bool.and_eq_true, decide_eq_true_eq, decide_eq_true_eq]
      exact ⟨h3.1, h3.2.1, h3.2.2.1, h3.2.2.2.1, h3.2.2.2.2.1, h3.2.2.2.2.2.1, h3.2.2.2.2.2.2⟩
    rw [h] at h2
    cases h2
  have HR := Lib.hid (hr.below hb1)
  clear hr
  go_loopw [4] (fun i wr => ∃ k : Nat, k ≤ ps.length ∧ i = .int .i64 (k : Int) ∧ Hid ((ps.take k).all okPart = true) ∧ Below W1.heap.size W1 wr) (fun i _ => ps.length - (intOf i).toNat)
  case atStart => exact ⟨0, Nat.zero_le _, rfl, (rfl : (ps.take 0).all okPart = true), Below.refl _ _⟩
  case round =>
    obtain ⟨k, hk, rfl, hall, hbr⟩ := hrel
    have x6 : wr.cell? ⟨w.heap.size, 6, none⟩ = some (.slice A6 ps.length c6) := (hB1.below hbr).cell 6
    by_cases hlt : k < ps.length
    · obtain ⟨b, o6, rfl, x0, x1, x2, x3⟩ := parts_at (HR.out.below hbr) k hlt
      have i0 : (0 : Int) ≤ (k : Int) := by omega
      have i1 : (k : Int) < (ps.length : Int) := by omega
      have hst := all_take ps k hlt
      rw [hall.out, Bool.true_and] at hst
      have hbad := all_bad ps k hlt
      obtain ⟨q, hq⟩ : ∃ q, ps[k] = q := ⟨_, rfl⟩
      rw [hq] at x0 x1 x2 x3 hst hbad
      have HST := Lib.hid hst
      have HBAD := Lib.hid hbad
      clear hst hbad hq
      obtain ⟨qo, ql, qc, qa⟩ := q
      simp only at x0 x1 x2 x3
      by_cases hq0 : qo = 0
      · subst hq0
        have hok : okPart ⟨0, ql, qc, qa⟩ = fits ⟨0, ql, qc, qa⟩ := by simp [okPart]
        rw [hok] at HST HBAD
        cases hf : fits ⟨0, ql, qc, qa⟩ with
        | true =>
          have HF := Lib.hid hf
          have hn := HST.out.trans hf
          have HNX := Lib.hid hn
          clear hf hn hok HBAD HST
          go_wp2_with fail
          refine (ref_part_may ⟨0, ql, qc, qa⟩ _).mono ?_
          rintro e w2 ⟨rfl, hb2⟩
          rw [HF.out]
          go_wp2
          go_roundw
          case rel => exact ⟨k + 1, by omega, by go_num, HNX.out, bn hbr hb2⟩
          case measure => simp [intOf]; try omega
        | false =>
          have HF := Lib.hid hf
          have hn := HBAD.out hf
          have HNX := Lib.hid hn
          clear hf hn hok HBAD HST
          go_wp2_with fail
          refine (ref_part_may ⟨0, ql, qc, qa⟩ _).mono ?_
          rintro e w2 ⟨rfl, hb2⟩
          rw [HF.out]
          go_wp2
          go_ret
          exact ⟨ret_bool (HN.out HNX.out), bn hb1 (bn hbr hb2)⟩
      · have hn := HBAD.out (by simp [okPart, hq0])
        have HNX := Lib.hid hn
        have t0 : ((qo : Int) == 0) = false := beq_eq_false_iff_ne.2 hq0
        have t1 : ((qo : Int) != 0) = true := by rw [bne_iff_ne]; exact hq0
        clear hn HBAD HST hq0
        go_wp2
        go_ret
        exact ⟨ret_bool (HN.out HNX.out), bn hb1 hbr⟩
    · obtain rfl : k = ps.length := by omega
      rw [List.take_length] at hall
      go_wp2
      go_ret
      exact ⟨ret_bool (HM.out hall.out).symm, bn hb1 hbr⟩

set_option maxRecDepth 100000 in
set_option maxHeartbeats 1000000 in
theorem ref_item_may_3c  (path : List UInt8) (t0 : UInt8) (tt : List UInt8) (off size : Int) (data : Nat) (ps : List Part) (A5 : Option Addr) (c5 : Nat) (A6 : Option Addr) (c6 : Nat) (w : World) (hr : Rd w A6 (pcs ps)) (hl : ps.length ≤ 4611686018427387904) (hto : ((t0 :: tt) : List UInt8).length ≤ 9223372036854775807) (hpa : path.length ≤ 9223372036854775807) (hda : data ≤ 9223372036854775807) :
    Calls Try.prog 38 #[.agg #[.int .i64 3, .string ⟨path.toArray⟩, .string ⟨((t0 :: tt) : List UInt8).toArray⟩, .int .i64 off, .int .i64 size, .slice A5 data c5, .slice A6 ps.length c6]] w fun e w' => e = .returned (.bool (may ⟨3, path, (t0 :: tt), off, size, data, ps⟩)) ∧ Below w.heap.size w w' := by
  rw [List.length_cons] at hto
  by_cases c0 : (64 : Int) < (path.length : Int)
  · have hx := c0
    go_enter Try.func38, Try.ntmps38
    go_wp2
    go_ret
    refine ⟨ret_bool (not_may fun hm => ?_), bal (bal (Below.refl _ _) _) _⟩
    obtain ⟨g1, g2, g3, g4, g5, g6, g7, g8, g9, g10, g11, g12, g13⟩ := may_facts hm
    try (rw [List.length_cons] at g4 g6)
    first | omega | (simp at g6; done) | (simp at g6 g13; omega)
  by_cases c1 : (64 : Int) < (tt.length : Int) + 1
  · have hx := c1
    go_enter Try.func38, Try.ntmps38
    go_wp2
    go_ret
    refine ⟨ret_bool (not_may fun hm => ?_), bal (bal (Below.refl _ _) _) _⟩
    obtain ⟨g1, g2, g3, g4, g5, g6, g7, g8, g9, g10, g11, g12, g13⟩ := may_facts hm
    try (rw [List.length_cons] at g4 g6)
    first | omega | (simp at g6; done) | (simp at g6 g13; omega)
  by_cases c2 : 0 < data
  · have hx := c2
    go_enter Try.func38, Try.ntmps38
    go_wp2
    go_ret
    refine ⟨ret_bool (not_may fun hm => ?_), bal (bal (Below.refl _ _) _) _⟩
    obtain ⟨g1, g2, g3, g4, g5, g6, g7, g8, g9, g10, g11, g12, g13⟩ := may_facts hm
    try (rw [List.length_cons] at g4 g6)
    first | omega | (simp at g6; done) | (simp at g6 g13; omega)
  obtain rfl : data = 0 := by omega
  go_enter Try.func38, Try.ntmps38
  go_wp2
  go_ret
  refine ⟨ret_bool (not_may fun hm => ?_), bal (bal (Below.refl _ _) _) _⟩
  obtain ⟨g1, g2, g3, g4, g5, g6, g7, g8, g9, g10, g11, g12, g13⟩ := may_facts hm
  try (rw [List.length_cons] at g4 g6)
  first | omega | (simp at g6; done) | (simp at g6 g13; omega)

theorem ref_item_may (i : Item) (A5 : Option Addr) (c5 : Nat) (A6 : Option Addr) (c6 : Nat) (w : World) (hr : Rd w A6 (pcs i.parts)) (hl : i.parts.length ≤ 4611686018427387904) (hto : i.to_.length ≤ 9223372036854775807) (hpa : i.path.length ≤ 9223372036854775807) (hda : i.data ≤ 9223372036854775807) :
    Calls Try.prog 38 #[iv i A5 c5 A6 c6] w fun e w' => e = .returned (.bool (may i)) ∧ Below w.heap.size w w' := by
  obtain ⟨op, path, to_, off, size, data, ps⟩ := i
  simp only at hr hl hto hpa hda
  unfold iv tv
  by_cases h3 : op = 3
  · subst h3
    cases to_ with
    | nil => exact ref_item_may_3n path off size data ps A5 c5 A6 c6 w hr hl hto hpa hda
    | cons a t => exact ref_item_may_3c path a t off size data ps A5 c5 A6 c6 w hr hl hto hpa hda
  · cases ps with
    | nil =>
      by_cases h5 : op = 5
      · subst h5
        cases to_ with
        | nil => exact ref_item_may_5ne path off size data A5 c5 A6 c6 w hto hpa hda
        | cons a t => exact ref_item_may_5ce path a t off size data A5 c5 A6 c6 w hto hpa hda
      · by_cases h4 : op = 4
        · subst h4
          cases to_ with
          | nil => exact ref_item_may_4ne path off size data A5 c5 A6 c6 w hto hpa hda
          | cons a t => exact ref_item_may_4ce path a t off size data A5 c5 A6 c6 w hto hpa hda
        · cases to_ with
          | nil => exact ref_item_may_one op h5 h3 h4 path off size data A5 c5 A6 c6 w hto hpa hda
          | cons a t => exact ref_item_may_oce op h5 h3 h4 path a t off size data A5 c5 A6 c6 w hto hpa hda
    | cons q r =>
      have hps : 0 < (q :: r).length := by simp
      by_cases h5 : op = 5
      · subst h5
        cases to_ with
        | nil => exact ref_item_may_5nf path off size data (q :: r) A5 c5 A6 c6 w hr hl hto hpa hda hps
        | cons a t => exact ref_item_may_5cf path a t off size data (q :: r) A5 c5 A6 c6 w hr hl hto hpa hda hps
      · by_cases h4 : op = 4
        · subst h4
          cases to_ with
          | nil => exact ref_item_may_4nf path off size data (q :: r) A5 c5 A6 c6 w hr hl hto hpa hda hps
          | cons a t => exact ref_item_may_4cf path a t off size data (q :: r) A5 c5 A6 c6 w hr hl hto hpa hda hps
        · cases to_ with
          | nil => exact ref_item_may_onf op h5 h3 h4 path off size data (q :: r) A5 c5 A6 c6 w hr hl hto hpa hda hps
          | cons a t => exact ref_item_may_ocf op h5 h3 h4 path a t off size data (q :: r) A5 c5 A6 c6 w hr hl hto hpa hda hps
end Go.Proofs.Ytlgkcpgbmobacaa
