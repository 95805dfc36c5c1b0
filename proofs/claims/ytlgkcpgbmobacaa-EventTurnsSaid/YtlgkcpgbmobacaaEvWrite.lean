/-
  event.Write, event.Bytes.
-/
import Derived.Test.YtlgkcpgbmobacaaEvMay
import Derived.Test.YtlgkcpgbmobacaaFoot
set_option linter.unusedSimpArgs false
set_option linter.unusedVariables false
namespace Go.Proofs.Ytlgkcpgbmobacaa
open Go.RowKit

theorem iv_eq (op : Int) (path to_ : List UInt8) (off size : Int) (data : Nat) (ps : List Part) (A5 : Option Addr) (c5 : Nat) (A6 : Option Addr) (c6 : Nat) :
    iv ⟨op, path, to_, off, size, data, ps⟩ A5 c5 A6 c6 = .agg #[.int .i64 op, .string ⟨path.toArray⟩, .string ⟨to_.toArray⟩, .int .i64 off, .int .i64 size, .slice A5 data c5, .slice A6 ps.length c6] := rfl

set_option maxRecDepth 100000 in
set_option maxHeartbeats 4000000 in
theorem event_write_no (i : Item) (A5 : Option Addr) (c5 : Nat) (A6 : Option Addr) (c6 : Nat) (p : Option Addr) (w : World) (hr : Rd w A6 (pcs i.parts)) (hl : i.parts.length ≤ 4611686018427387904) (hm : may i = false) :
    Calls Try.prog 41 #[.pointer p, iv i A5 c5 A6 c6] w fun e w' => e = .returned (.tuple #[]) ∧ Below w.heap.size w w' := by
  obtain ⟨op, path, to_, off, size, data, ps⟩ := i
  rw [iv_eq]
  have hp := fun (W : World) (hb : Below w.heap.size w W) => event_may ⟨op, path, to_, off, size, data, ps⟩ A5 c5 A6 c6 W (hr.below hb) hl
  rw [hm] at hp
  simp only [iv_eq] at hp
  have HP := Lib.hid hp
  clear hp hr hm
  go_enter Try.func41, Try.ntmps41
  go_wp2_with fail
  refine (HP.out _ ?_).mono ?_
  · exact bal (Below.refl _ _) _
  rintro e w2 ⟨rfl, hb2⟩
  go_wp2
  refine bodyPost_ret (results_none (by kernel_rfl) _ _ _) rfl ?_
  exact ⟨rfl, bn (bal (Below.refl _ _) _) hb2⟩

set_option maxRecDepth 100000 in
set_option maxHeartbeats 4000000 in
theorem event_write5 (path to_ : List UInt8) (off size : Int) (data : Nat) (ps : List Part) (A5 : Option Addr) (c5 : Nat) (A6 : Option Addr) (c6 : Nat) (g : Nat) (R : Nat → Prop) (l : List UInt8) (w : World) (hr : Rd w A6 (pcs ps)) (hl : ps.length ≤ 4611686018427387904)
    (hm : may ⟨5, path, to_, off, size, data, ps⟩ = true) (hp : PenR w g R l) (hR : ∀ k, R k → k < w.heap.size) (hA : ∀ ad, A6 = some ad → ¬ (ad.block = g ∨ R ad.block)) (hll : l.length + 30 * ps.length < 140737488300000) :
    Calls Try.prog 41 #[.pointer (some ⟨g, 0, none⟩), iv ⟨5, path, to_, off, size, data, ps⟩ A5 c5 A6 c6] w fun e w' => e = .returned (.tuple #[]) ∧ PenTo w g R (l ++ enc ⟨5, path, to_, off, size, data, ps⟩) w' := by
  have hp5 := fun (W : World) (hb : Below w.heap.size w W) => event_may ⟨5, path, to_, off, size, data, ps⟩ A5 c5 A6 c6 W (hr.below hb) hl
  rw [hm] at hp5
  simp only [iv_eq] at hp5 ⊢
  obtain ⟨⟨a1, a2, a3, a4, a5, a6, a7, a8⟩, ⟨b1, b2⟩, ⟨c1, c2⟩, d, e⟩ := (may_iff _).1 hm
  simp only at a1 a2 a3 a4 a5 a6 a7 a8 b1 b2 c1 c2 d
  have henc : enc ⟨5, path, to_, off, size, data, ps⟩ = [5] ++ (num path.length ++ path) ++ (num to_.length ++ to_) := by
    simp [enc]
  have HENC := Lib.hid henc
  have hn1 := num_10 path.length (by omega)
  have hn2 := num_10 to_.length (by omega)
  have hn3 := num_10 size.toNat (by omega)
  have hn4 := num_10 off.toNat (by omega)
  have HP := Lib.hid hp5
  have hglt := hp.lt
  have hF : ¬ (w.heap.size = g ∨ R w.heap.size) := by
    rintro (h | h)
    · omega
    · exact Nat.lt_irrefl _ (hR _ h)
  clear hp5 hm henc a5 e
  go_enter Try.func41, Try.ntmps41
  go_wp2_with fail
  refine (HP.out _ ?_).mono ?_
  · exact bal (Below.refl _ _) _
  rintro e w2 ⟨rfl, hb2⟩
  have hb02 := bn (bal (Below.refl w.heap.size w) _) hb2
  have hBx := (Blk.new w 68 #[.int .i64 5, .string ⟨path.toArray⟩, .string ⟨to_.toArray⟩, .int .i64 off, .int .i64 size, .slice A5 data c5, .slice A6 ps.length c6]).below hb2
  have hp2 := PenTo.refl (hp.keep hb02)
  have hr2 := hr.below hb02
  clear hb2 HP hp hr
  have x0 : w2.cell? ⟨w.heap.size, 0, none⟩ = some (.int .i64 5) := hBx.cell 0
  go_wp2_with fail
  refine (event_has 5 _).mono ?_
  rintro e _ ⟨rfl, rfl⟩
  go_wp2_with fail
  refine (pen_byteR g _ _ 5 _ rfl w2 hp2.pen (by omega)).mono ?_
  rintro e w3 ⟨rfl, h3⟩
  have hp3 := hp2.step h3
  have hB3 := hBx.kp hp3.kp hF
  have y3_1 : w3.cell? ⟨w.heap.size, 1, none⟩ = some (.string ⟨path.toArray⟩) := hB3.cell 1
  have y3_0 : w3.cell? ⟨w.heap.size, 0, none⟩ = some (.int .i64 5) := hB3.cell 0
  go_wp2_with fail
  refine (pen_textR g _ _ path w3 hp3.pen (by simp only [List.length_append, List.length_singleton]; omega)).mono ?_
  rintro e w4 ⟨rfl, h4⟩
  have hp4 := hp3.step h4
  have hB4 := hBx.kp hp4.kp hF
  have y4_2 : w4.cell? ⟨w.heap.size, 2, none⟩ = some (.string ⟨to_.toArray⟩) := hB4.cell 2
  have y4_0 : w4.cell? ⟨w.heap.size, 0, none⟩ = some (.int .i64 5) := hB4.cell 0
  go_wp2_with fail
  refine (pen_textR g _ _ to_ w4 hp4.pen (by simp only [List.length_append, List.length_singleton]; omega)).mono ?_
  rintro e w5 ⟨rfl, h5⟩
  have hp5 := hp4.step h5
  have hB5 := hBx.kp hp5.kp hF
  have hfin : l ++ [5] ++ (num path.length ++ path) ++ (num to_.length ++ to_) = l ++ enc ⟨5, path, to_, off, size, data, ps⟩ := by rw [HENC.out]; simp only [List.append_assoc]
  rw [hfin] at hp5
  go_wp2
  refine bodyPost_ret (results_none (by kernel_rfl) _ _ _) rfl ?_
  exact ⟨rfl, hp5.ahead hb02⟩
set_option maxRecDepth 100000 in
set_option maxHeartbeats 4000000 in
theorem event_write4 (path to_ : List UInt8) (off size : Int) (data : Nat) (ps : List Part) (A5 : Option Addr) (c5 : Nat) (A6 : Option Addr) (c6 : Nat) (g : Nat) (R : Nat → Prop) (l : List UInt8) (w : World) (hr : Rd w A6 (pcs ps)) (hl : ps.length ≤ 4611686018427387904)
    (hm : may ⟨4, path, to_, off, size, data, ps⟩ = true) (hp : PenR w g R l) (hR : ∀ k, R k → k < w.heap.size) (hA : ∀ ad, A6 = some ad → ¬ (ad.block = g ∨ R ad.block)) (hll : l.length + 30 * ps.length < 140737488300000) :
    Calls Try.prog 41 #[.pointer (some ⟨g, 0, none⟩), iv ⟨4, path, to_, off, size, data, ps⟩ A5 c5 A6 c6] w fun e w' => e = .returned (.tuple #[]) ∧ PenTo w g R (l ++ enc ⟨4, path, to_, off, size, data, ps⟩) w' := by
  have hp5 := fun (W : World) (hb : Below w.heap.size w W) => event_may ⟨4, path, to_, off, size, data, ps⟩ A5 c5 A6 c6 W (hr.below hb) hl
  rw [hm] at hp5
  simp only [iv_eq] at hp5 ⊢
  obtain ⟨⟨a1, a2, a3, a4, a5, a6, a7, a8⟩, ⟨b1, b2⟩, ⟨c1, c2⟩, d, e⟩ := (may_iff _).1 hm
  simp only at a1 a2 a3 a4 a5 a6 a7 a8 b1 b2 c1 c2 d
  have henc : enc ⟨4, path, to_, off, size, data, ps⟩ = [4] ++ (num path.length ++ path) ++ num size.toNat := by
    have : to_ = [] := by
      rcases a6 with h | h
      · omega
      · exact h
    subst this
    simp [enc]
  have HENC := Lib.hid henc
  have hn1 := num_10 path.length (by omega)
  have hn2 := num_10 to_.length (by omega)
  have hn3 := num_10 size.toNat (by omega)
  have hn4 := num_10 off.toNat (by omega)
  have HP := Lib.hid hp5
  have hglt := hp.lt
  have hF : ¬ (w.heap.size = g ∨ R w.heap.size) := by
    rintro (h | h)
    · omega
    · exact Nat.lt_irrefl _ (hR _ h)
  clear hp5 hm henc a5 e
  go_enter Try.func41, Try.ntmps41
  go_wp2_with fail
  refine (HP.out _ ?_).mono ?_
  · exact bal (Below.refl _ _) _
  rintro e w2 ⟨rfl, hb2⟩
  have hb02 := bn (bal (Below.refl w.heap.size w) _) hb2
  have hBx := (Blk.new w 68 #[.int .i64 4, .string ⟨path.toArray⟩, .string ⟨to_.toArray⟩, .int .i64 off, .int .i64 size, .slice A5 data c5, .slice A6 ps.length c6]).below hb2
  have hp2 := PenTo.refl (hp.keep hb02)
  have hr2 := hr.below hb02
  clear hb2 HP hp hr
  have x0 : w2.cell? ⟨w.heap.size, 0, none⟩ = some (.int .i64 4) := hBx.cell 0
  go_wp2_with fail
  refine (event_has 4 _).mono ?_
  rintro e _ ⟨rfl, rfl⟩
  go_wp2_with fail
  refine (pen_byteR g _ _ 4 _ rfl w2 hp2.pen (by omega)).mono ?_
  rintro e w3 ⟨rfl, h3⟩
  have hp3 := hp2.step h3
  have hB3 := hBx.kp hp3.kp hF
  have y3_1 : w3.cell? ⟨w.heap.size, 1, none⟩ = some (.string ⟨path.toArray⟩) := hB3.cell 1
  have y3_0 : w3.cell? ⟨w.heap.size, 0, none⟩ = some (.int .i64 4) := hB3.cell 0
  go_wp2_with fail
  refine (pen_textR g _ _ path w3 hp3.pen (by simp only [List.length_append, List.length_singleton]; omega)).mono ?_
  rintro e w4 ⟨rfl, h4⟩
  have hp4 := hp3.step h4
  have hB4 := hBx.kp hp4.kp hF
  have y4_4 : w4.cell? ⟨w.heap.size, 4, none⟩ = some (.int .i64 size) := hB4.cell 4
  have y4_0 : w4.cell? ⟨w.heap.size, 0, none⟩ = some (.int .i64 4) := hB4.cell 0
  go_wp2_with fail
  refine (pen_numR g _ _ size (by omega) (by omega) w4 hp4.pen (by simp only [List.length_append, List.length_singleton]; omega)).mono ?_
  rintro e w5 ⟨rfl, h5⟩
  have hp5 := hp4.step h5
  have hB5 := hBx.kp hp5.kp hF
  have hfin : l ++ [4] ++ (num path.length ++ path) ++ num size.toNat = l ++ enc ⟨4, path, to_, off, size, data, ps⟩ := by rw [HENC.out]; simp only [List.append_assoc]
  rw [hfin] at hp5
  go_wp2
  refine bodyPost_ret (results_none (by kernel_rfl) _ _ _) rfl ?_
  exact ⟨rfl, hp5.ahead hb02⟩
set_option maxRecDepth 100000 in
set_option maxHeartbeats 4000000 in
theorem event_write0 (op : Int) (t5 : (op == 5) = false) (t3 : (op == 3) = false) (t4 : (op == 4) = false) (path to_ : List UInt8) (off size : Int) (data : Nat) (ps : List Part) (A5 : Option Addr) (c5 : Nat) (A6 : Option Addr) (c6 : Nat) (g : Nat) (R : Nat → Prop) (l : List UInt8) (w : World) (hr : Rd w A6 (pcs ps)) (hl : ps.length ≤ 4611686018427387904)
    (hm : may ⟨op, path, to_, off, size, data, ps⟩ = true) (hp : PenR w g R l) (hR : ∀ k, R k → k < w.heap.size) (hA : ∀ ad, A6 = some ad → ¬ (ad.block = g ∨ R ad.block)) (hll : l.length + 30 * ps.length < 140737488300000) :
    Calls Try.prog 41 #[.pointer (some ⟨g, 0, none⟩), iv ⟨op, path, to_, off, size, data, ps⟩ A5 c5 A6 c6] w fun e w' => e = .returned (.tuple #[]) ∧ PenTo w g R (l ++ enc ⟨op, path, to_, off, size, data, ps⟩) w' := by
  have hp5 := fun (W : World) (hb : Below w.heap.size w W) => event_may ⟨op, path, to_, off, size, data, ps⟩ A5 c5 A6 c6 W (hr.below hb) hl
  rw [hm] at hp5
  simp only [iv_eq] at hp5 ⊢
  obtain ⟨⟨a1, a2, a3, a4, a5, a6, a7, a8⟩, ⟨b1, b2⟩, ⟨c1, c2⟩, d, e⟩ := (may_iff _).1 hm
  simp only at a1 a2 a3 a4 a5 a6 a7 a8 b1 b2 c1 c2 d
  have henc : enc ⟨op, path, to_, off, size, data, ps⟩ = [UInt8.ofNat op.toNat] ++ (num path.length ++ path) := by
    have k5 : ¬ op = 5 := by simpa using t5
    have k4 : ¬ op = 4 := by simpa using t4
    have k3 : ¬ op = 3 := by simpa using t3
    simp [enc, k5, k4, k3]
  have HENC := Lib.hid henc
  have hn1 := num_10 path.length (by omega)
  have hn2 := num_10 to_.length (by omega)
  have hn3 := num_10 size.toNat (by omega)
  have hn4 := num_10 off.toNat (by omega)
  have HP := Lib.hid hp5
  have hglt := hp.lt
  have hF : ¬ (w.heap.size = g ∨ R w.heap.size) := by
    rintro (h | h)
    · omega
    · exact Nat.lt_irrefl _ (hR _ h)
  clear hp5 hm henc a5 e
  go_enter Try.func41, Try.ntmps41
  go_wp2_with fail
  refine (HP.out _ ?_).mono ?_
  · exact bal (Below.refl _ _) _
  rintro e w2 ⟨rfl, hb2⟩
  have hb02 := bn (bal (Below.refl w.heap.size w) _) hb2
  have hBx := (Blk.new w 68 #[.int .i64 op, .string ⟨path.toArray⟩, .string ⟨to_.toArray⟩, .int .i64 off, .int .i64 size, .slice A5 data c5, .slice A6 ps.length c6]).below hb2
  have hp2 := PenTo.refl (hp.keep hb02)
  have hr2 := hr.below hb02
  clear hb2 HP hp hr
  have x0 : w2.cell? ⟨w.heap.size, 0, none⟩ = some (.int .i64 op) := hBx.cell 0
  go_wp2_with fail
  refine (event_has op _).mono ?_
  rintro e _ ⟨rfl, rfl⟩
  have hop : op = ((UInt8.ofNat op.toNat).toNat : Int) := by rw [UInt8.toNat_ofNat']; omega
  have HOP := Lib.hid hop
  clear hop
  go_wp2_with fail
  refine (pen_byteR g _ _ (UInt8.ofNat op.toNat) _ HOP.out w2 hp2.pen (by omega)).mono ?_
  rintro e w3 ⟨rfl, h3⟩
  have hp3 := hp2.step h3
  have hB3 := hBx.kp hp3.kp hF
  have y3_1 : w3.cell? ⟨w.heap.size, 1, none⟩ = some (.string ⟨path.toArray⟩) := hB3.cell 1
  have y3_0 : w3.cell? ⟨w.heap.size, 0, none⟩ = some (.int .i64 op) := hB3.cell 0
  go_wp2_with fail
  refine (pen_textR g _ _ path w3 hp3.pen (by simp only [List.length_append, List.length_singleton]; omega)).mono ?_
  rintro e w4 ⟨rfl, h4⟩
  have hp4 := hp3.step h4
  have hB4 := hBx.kp hp4.kp hF
  have hfin : l ++ [UInt8.ofNat op.toNat] ++ (num path.length ++ path) = l ++ enc ⟨op, path, to_, off, size, data, ps⟩ := by rw [HENC.out]; simp only [List.append_assoc]
  rw [hfin] at hp4
  go_wp2
  refine bodyPost_ret (results_none (by kernel_rfl) _ _ _) rfl ?_
  exact ⟨rfl, hp4.ahead hb02⟩
end Go.Proofs.Ytlgkcpgbmobacaa
