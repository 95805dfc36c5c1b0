/-
  event.Write of any item; event.Bytes.
-/
import Derived.Test.YtlgkcpgbmobacaaEvWr3
set_option linter.unusedSimpArgs false
set_option linter.unusedVariables false
namespace Go.Proofs.Ytlgkcpgbmobacaa
open Go.RowKit

theorem event_write (i : Item) (A5 : Option Addr) (c5 : Nat) (A6 : Option Addr) (c6 : Nat) (g : Nat) (R : Nat → Prop) (l : List UInt8) (w : World) (hr : Rd w A6 (pcs i.parts)) (hl : i.parts.length ≤ 4611686018427387904)
    (hm : may i = true) (hp : PenR w g R l) (hR : ∀ k, R k → k < w.heap.size) (hA : ∀ ad, A6 = some ad → ¬ (ad.block = g ∨ R ad.block)) (hll : l.length + 30 * i.parts.length < 140737488300000) :
    Calls Try.prog 41 #[.pointer (some ⟨g, 0, none⟩), iv i A5 c5 A6 c6] w fun e w' => e = .returned (.tuple #[]) ∧ PenTo w g R (l ++ enc i) w' := by
  obtain ⟨op, path, to_, off, size, data, ps⟩ := i
  by_cases h5 : op = 5
  · subst h5; exact event_write5 path to_ off size data ps A5 c5 A6 c6 g R l w hr hl hm hp hR hA hll
  · by_cases h3 : op = 3
    · subst h3; exact event_write3 path to_ off size data ps A5 c5 A6 c6 g R l w hr hl hm hp hR hA hll
    · by_cases h4 : op = 4
      · subst h4; exact event_write4 path to_ off size data ps A5 c5 A6 c6 g R l w hr hl hm hp hR hA hll
      · exact event_write0 op (beq_eq_false_iff_ne.2 h5) (beq_eq_false_iff_ne.2 h3) (beq_eq_false_iff_ne.2 h4) path to_ off size data ps A5 c5 A6 c6 g R l w hr hl hm hp hR hA hll

theorem pen_freshR (w : World) : PenR (w.alloc (.cells #[.slice none 0 0] 26)) w.heap.size (fun _ => False) [] := ⟨_, Blk.new _ _ _, Own.nil _ _ _, fun r h => by cases h⟩

set_option maxRecDepth 100000 in
set_option maxHeartbeats 4000000 in
theorem event_bytes_no (i : Item) (A5 : Option Addr) (c5 : Nat) (A6 : Option Addr) (c6 : Nat) (w : World) (hr : Rd w A6 (pcs i.parts)) (hl : i.parts.length ≤ 4611686018427387904) (hm : may i = false) :
    Calls Try.prog 39 #[iv i A5 c5 A6 c6] w fun e w' => e = .returned (.tuple #[.slice none 0 0, .int .i64 1]) ∧ Below w.heap.size w w' := by
  obtain ⟨op, path, to_, off, size, data, ps⟩ := i
  have hp := fun (W : World) (hb : Below w.heap.size w W) => event_may ⟨op, path, to_, off, size, data, ps⟩ A5 c5 A6 c6 W (hr.below hb) hl
  rw [hm] at hp
  simp only [iv_eq] at hp ⊢
  have HP := Lib.hid hp
  clear hp hr hm
  go_enter Try.func39, Try.ntmps39
  go_wp2_with fail
  refine (HP.out _ ?_).mono ?_
  · exact bal (Below.refl _ _) _
  rintro e w2 ⟨rfl, hb2⟩
  go_wp2
  go_ret2
  exact ⟨rfl, bn (bal (Below.refl _ _) _) hb2⟩

set_option maxRecDepth 100000 in
set_option maxHeartbeats 4000000 in
theorem event_bytes (i : Item) (A5 : Option Addr) (c5 : Nat) (A6 : Option Addr) (c6 : Nat) (w : World) (hr : Rd w A6 (pcs i.parts)) (hA6 : ∀ ad, A6 = some ad → ad.block < w.heap.size) (hl : i.parts.length ≤ 4000000000000) (hm : may i = true) :
    Calls Try.prog 39 #[iv i A5 c5 A6 c6] w fun e w' => ∃ v, e = .returned (.tuple #[v, .int .i64 0]) ∧ Own w' w.heap.size 5 v ((enc i).map eb) ∧ Below w.heap.size w w' := by
  have hle := enc_length i hm (by omega)
  have hw := fun (W : World) (g : Nat) (hb : Below w.heap.size w W) (hg : w.heap.size ≤ g) (hp : PenR W g (fun _ => False) []) => event_write i A5 c5 A6 c6 g (fun _ => False) [] W (hr.below hb) (by omega) hm hp (fun _ h => h.elim) (fun ad e h => by
    rcases h with h | h
    · have := hA6 ad e; omega
    · exact h) (by simp; omega)
  simp only [List.nil_append] at hw
  obtain ⟨L, hL⟩ : ∃ L, enc i = L := ⟨_, rfl⟩
  rw [hL] at hw hle ⊢
  clear hL
  obtain ⟨op, path, to_, off, size, data, ps⟩ := i
  have hp := fun (W : World) (hb : Below w.heap.size w W) => event_may ⟨op, path, to_, off, size, data, ps⟩ A5 c5 A6 c6 W (hr.below hb) (by simp only at hl ⊢; omega)
  rw [hm] at hp
  simp only [iv_eq] at hp hw hl hle ⊢
  have HP := Lib.hid hp
  have HW := Lib.hid hw
  clear hp hr hm hw
  go_enter Try.func39, Try.ntmps39
  go_wp2_with fail
  refine (HP.out _ ?_).mono ?_
  · exact bal (Below.refl _ _) _
  rintro e w2 ⟨rfl, hb2⟩
  have hb02 := bn (bal (Below.refl w.heap.size w) _) hb2
  have hBx := (Blk.new w 68 #[.int .i64 op, .string ⟨path.toArray⟩, .string ⟨to_.toArray⟩, .int .i64 off, .int .i64 size, .slice A5 data c5, .slice A6 ps.length c6]).below hb2
  have hz2 : w.heap.size + 1 ≤ w2.heap.size := by have := hBx.lt; omega
  have q0 : (w2.alloc (.cells #[.slice none 0 0] 26)).cell? ⟨w.heap.size, 0, none⟩ = some (.int .i64 op) := (hBx.alloc _).cell 0
  have q1 : (w2.alloc (.cells #[.slice none 0 0] 26)).cell? ⟨w.heap.size, 1, none⟩ = some (.string ⟨path.toArray⟩) := (hBx.alloc _).cell 1
  have q2 : (w2.alloc (.cells #[.slice none 0 0] 26)).cell? ⟨w.heap.size, 2, none⟩ = some (.string ⟨to_.toArray⟩) := (hBx.alloc _).cell 2
  have q3 : (w2.alloc (.cells #[.slice none 0 0] 26)).cell? ⟨w.heap.size, 3, none⟩ = some (.int .i64 off) := (hBx.alloc _).cell 3
  have q4 : (w2.alloc (.cells #[.slice none 0 0] 26)).cell? ⟨w.heap.size, 4, none⟩ = some (.int .i64 size) := (hBx.alloc _).cell 4
  have q5 : (w2.alloc (.cells #[.slice none 0 0] 26)).cell? ⟨w.heap.size, 5, none⟩ = some (.slice A5 data c5) := (hBx.alloc _).cell 5
  have q6 : (w2.alloc (.cells #[.slice none 0 0] 26)).cell? ⟨w.heap.size, 6, none⟩ = some (.slice A6 ps.length c6) := (hBx.alloc _).cell 6
  clear hb2
  go_wp2_with fail
  refine (HW.out _ w2.heap.size ?_ (by omega) (pen_freshR w2)).mono ?_
  · exact bal hb02 _
  rintro e w3 ⟨rfl, h3⟩
  have hp3 := h3.pen.at_ (B := w.heap.size) (fun k h => by
    rcases h with h | h
    · exact h.elim
    · have := h.1; simp at this; omega)
  have hb03 : Below w.heap.size w w3 := (bal hb02 _).trans (h3.kp.below (by simp; omega) (fun k h => by
    rcases h with h | h
    · omega
    · exact h.elim))
  go_wp2_with fail
  refine (pen_bytes _ _ _ w3 hp3 (by omega)).mono ?_
  rintro e w4 ⟨v4, rfl, ho4, hb4⟩
  go_wp2
  go_ret2
  exact ⟨_, rfl, ho4.lower hb03.size, bn hb03 hb4⟩
end Go.Proofs.Ytlgkcpgbmobacaa
