/-
  SuperKnown.
-/
import Derived.Test.YtbhhjphgbdaanaaLawSApart
import Derived.Test.YtbhhjphgbdaanaaSupQ
import Derived.Test.YtbhhjphgbdaanaaSupD
set_option linter.unusedSimpArgs false
set_option linter.unusedVariables false
namespace Go.Proofs.Ytbhhjphgbdaanaa
open Go.RowKit Go.Maps

instance (x : Int) : Decidable (wide x) := by unfold wide; exact inferInstance
theorem known_bad {w1 W7 : World} (hT : Blk W7 (w1.heap.size + 1 + 1 + 1 + 1 + 1 + 1) 32 #[.int .i64 (-1), .int .i64 0, .slice none 0 0, .int .i64 0, .int .u32 0, .slice none 0 0, .int .i64 0, .int .u32 0, .int .i64 0, .int .i64 (-1), .slice none 0 0, .int .i64 0, .int .u32 0, .slice none 0 0, .int .i64 0, .int .u32 0, .int .i64 2147483648, .int .i64 0, .slice none 0 0, .int .i64 0, .int .u32 0, .slice none 0 0, .int .i64 0, .int .u32 0, .int .i64 0, .int .i64 0, .slice none 0 0, .int .i64 1, .int .u32 0, .slice none 0 0, .int .i64 0, .int .u32 0, .int .i64 0, .int .i64 0, .slice (some ⟨w1.heap.size, 0, none⟩) 2 2, .int .i64 0, .int .u32 0, .slice none 0 0, .int .i64 0, .int .u32 0, .int .i64 0, .int .i64 0, .slice (some ⟨w1.heap.size + 1, 0, none⟩) 1 1, .int .i64 0, .int .u32 0, .slice (some ⟨w1.heap.size + 1 + 1, 0, none⟩) 1 1, .int .i64 0, .int .u32 0, .int .i64 0, .int .i64 0, .slice none 0 0, .int .i64 0, .int .u32 0, .slice (some ⟨w1.heap.size + 1 + 1 + 1, 0, none⟩) 1 1, .int .i64 0, .int .u32 0, .int .i64 0, .int .i64 0, .slice none 0 0, .int .i64 0, .int .u32 0, .slice (some ⟨w1.heap.size + 1 + 1 + 1 + 1, 0, none⟩) 1 1, .int .i64 0, .int .u32 0, .int .i64 0, .int .i64 0, .slice none 0 0, .int .i64 0, .int .u32 0, .slice (some ⟨w1.heap.size + 1 + 1 + 1 + 1 + 1, 0, none⟩) 1 1, .int .i64 9, .int .u32 0]) (hz : w1.heap.size + 1 + 1 + 1 + 1 + 1 + 1 < W7.heap.size)
    (R0 : Rd W7 (some ⟨w1.heap.size, 0, none⟩) ([1, 1].map ei)) (R1 : Rd W7 (some ⟨w1.heap.size + 1, 0, none⟩) ([1].map ei)) (R2 : Rd W7 (some ⟨w1.heap.size + 1 + 1, 0, none⟩) ([1].map ei)) (R3 : Rd W7 (some ⟨w1.heap.size + 1 + 1 + 1, 0, none⟩) ([96].map ei)) (R4 : Rd W7 (some ⟨w1.heap.size + 1 + 1 + 1 + 1, 0, none⟩) ([-1].map ei)) (R5 : Rd W7 (some ⟨w1.heap.size + 1 + 1 + 1 + 1 + 1, 0, none⟩) ([1].map ei)) :
    ∀ k : Nat, k < 9 → ∃ (s : Sup) (A : Option Addr) (c : Nat) (A2 : Option Addr) (c2 : Nat), (∀ V, Below W7.heap.size W7 V →
      V.cell? ⟨w1.heap.size + 1 + 1 + 1 + 1 + 1 + 1, k * 8, none⟩ = some (.int .i64 s.number) ∧ V.cell? ⟨w1.heap.size + 1 + 1 + 1 + 1 + 1 + 1, k * 8 + 1, none⟩ = some (.int .i64 s.boot) ∧ V.cell? ⟨w1.heap.size + 1 + 1 + 1 + 1 + 1 + 1, k * 8 + 2, none⟩ = some (.slice A s.jour.segs.length c) ∧ V.cell? ⟨w1.heap.size + 1 + 1 + 1 + 1 + 1 + 1, k * 8 + 3, none⟩ = some (.int .i64 s.jour.len)
      ∧ V.cell? ⟨w1.heap.size + 1 + 1 + 1 + 1 + 1 + 1, k * 8 + 4, none⟩ = some (.int .u32 (s.jour.last.toNat : Int)) ∧ V.cell? ⟨w1.heap.size + 1 + 1 + 1 + 1 + 1 + 1, k * 8 + 5, none⟩ = some (.slice A2 s.chunks.segs.length c2) ∧ V.cell? ⟨w1.heap.size + 1 + 1 + 1 + 1 + 1 + 1, k * 8 + 6, none⟩ = some (.int .i64 s.chunks.len) ∧ V.cell? ⟨w1.heap.size + 1 + 1 + 1 + 1 + 1 + 1, k * 8 + 7, none⟩ = some (.int .u32 (s.chunks.last.toNat : Int)))
      ∧ SArg W7 s A A2 ∧ supMay s 96 = false ∧ s.jour.segs.length ≤ 2 ∧ s.chunks.segs.length ≤ 2 := by
  intro k hk
  obtain rfl | rfl | rfl | rfl | rfl | rfl | rfl | rfl | rfl : k = 0 ∨ k = 1 ∨ k = 2 ∨ k = 3 ∨ k = 4 ∨ k = 5 ∨ k = 6 ∨ k = 7 ∨ k = 8 := by omega
  · refine ⟨⟨-1, 0, ⟨[], 0, 0#32⟩, ⟨[], 0, 0#32⟩⟩, none, 0, none, 0, fun V hb => ?_, ⟨by decide, by decide, Rd.nil _ _, Rd.nil _ _, by decide, by decide, by decide, by decide, (fun ad e => by cases e), (fun ad e => by cases e)⟩, by decide, by decide, by decide⟩
    have h := hT.below hb
    exact ⟨h.cell 0, h.cell 1, h.cell 2, h.cell 3, h.cell 4, h.cell 5, h.cell 6, h.cell 7⟩
  · refine ⟨⟨0, -1, ⟨[], 0, 0#32⟩, ⟨[], 0, 0#32⟩⟩, none, 0, none, 0, fun V hb => ?_, ⟨by decide, by decide, Rd.nil _ _, Rd.nil _ _, by decide, by decide, by decide, by decide, (fun ad e => by cases e), (fun ad e => by cases e)⟩, by decide, by decide, by decide⟩
    have h := hT.below hb
    exact ⟨h.cell 8, h.cell 9, h.cell 10, h.cell 11, h.cell 12, h.cell 13, h.cell 14, h.cell 15⟩
  · refine ⟨⟨2147483648, 0, ⟨[], 0, 0#32⟩, ⟨[], 0, 0#32⟩⟩, none, 0, none, 0, fun V hb => ?_, ⟨by decide, by decide, Rd.nil _ _, Rd.nil _ _, by decide, by decide, by decide, by decide, (fun ad e => by cases e), (fun ad e => by cases e)⟩, by decide, by decide, by decide⟩
    have h := hT.below hb
    exact ⟨h.cell 16, h.cell 17, h.cell 18, h.cell 19, h.cell 20, h.cell 21, h.cell 22, h.cell 23⟩
  · refine ⟨⟨0, 0, ⟨[], 1, 0#32⟩, ⟨[], 0, 0#32⟩⟩, none, 0, none, 0, fun V hb => ?_, ⟨by decide, by decide, Rd.nil _ _, Rd.nil _ _, by decide, by decide, by decide, by decide, (fun ad e => by cases e), (fun ad e => by cases e)⟩, by decide, by decide, by decide⟩
    have h := hT.below hb
    exact ⟨h.cell 24, h.cell 25, h.cell 26, h.cell 27, h.cell 28, h.cell 29, h.cell 30, h.cell 31⟩
  · refine ⟨⟨0, 0, ⟨[1, 1], 0, 0#32⟩, ⟨[], 0, 0#32⟩⟩, (some ⟨w1.heap.size, 0, none⟩), 2, none, 0, fun V hb => ?_, ⟨by decide, by decide, R0, Rd.nil _ _, by decide, by decide, by decide, by decide, (fun ad e => by cases e; simp only; omega), (fun ad e => by cases e)⟩, by decide, by decide, by decide⟩
    have h := hT.below hb
    exact ⟨h.cell 32, h.cell 33, h.cell 34, h.cell 35, h.cell 36, h.cell 37, h.cell 38, h.cell 39⟩
  · refine ⟨⟨0, 0, ⟨[1], 0, 0#32⟩, ⟨[1], 0, 0#32⟩⟩, (some ⟨w1.heap.size + 1, 0, none⟩), 1, (some ⟨w1.heap.size + 1 + 1, 0, none⟩), 1, fun V hb => ?_, ⟨by decide, by decide, R1, R2, by decide, by decide, by decide, by decide, (fun ad e => by cases e; simp only; omega), (fun ad e => by cases e; simp only; omega)⟩, by decide, by decide, by decide⟩
    have h := hT.below hb
    exact ⟨h.cell 40, h.cell 41, h.cell 42, h.cell 43, h.cell 44, h.cell 45, h.cell 46, h.cell 47⟩
  · refine ⟨⟨0, 0, ⟨[], 0, 0#32⟩, ⟨[96], 0, 0#32⟩⟩, none, 0, (some ⟨w1.heap.size + 1 + 1 + 1, 0, none⟩), 1, fun V hb => ?_, ⟨by decide, by decide, Rd.nil _ _, R3, by decide, by decide, by decide, by decide, (fun ad e => by cases e), (fun ad e => by cases e; simp only; omega)⟩, by decide, by decide, by decide⟩
    have h := hT.below hb
    exact ⟨h.cell 48, h.cell 49, h.cell 50, h.cell 51, h.cell 52, h.cell 53, h.cell 54, h.cell 55⟩
  · refine ⟨⟨0, 0, ⟨[], 0, 0#32⟩, ⟨[-1], 0, 0#32⟩⟩, none, 0, (some ⟨w1.heap.size + 1 + 1 + 1 + 1, 0, none⟩), 1, fun V hb => ?_, ⟨by decide, by decide, Rd.nil _ _, R4, by decide, by decide, by decide, by decide, (fun ad e => by cases e), (fun ad e => by cases e; simp only; omega)⟩, by decide, by decide, by decide⟩
    have h := hT.below hb
    exact ⟨h.cell 56, h.cell 57, h.cell 58, h.cell 59, h.cell 60, h.cell 61, h.cell 62, h.cell 63⟩
  · refine ⟨⟨0, 0, ⟨[], 0, 0#32⟩, ⟨[1], 9, 0#32⟩⟩, none, 0, (some ⟨w1.heap.size + 1 + 1 + 1 + 1 + 1, 0, none⟩), 1, fun V hb => ?_, ⟨by decide, by decide, Rd.nil _ _, R5, by decide, by decide, by decide, by decide, (fun ad e => by cases e), (fun ad e => by cases e; simp only; omega)⟩, by decide, by decide, by decide⟩
    have h := hT.below hb
    exact ⟨h.cell 64, h.cell 65, h.cell 66, h.cell 67, h.cell 68, h.cell 69, h.cell 70, h.cell 71⟩

/-- a slot without segments -/
def supNB (n b : Int) : Sup := ⟨n, b, ⟨[], 0, 0#32⟩, ⟨[], 0, 0#32⟩⟩
theorem supNB_may (n b : Int) (h0 : 0 ≤ n) (h1 : n ≤ 2147483647) (h2 : 0 ≤ b) (h3 : b ≤ 2147483647) (segs : Int) : supMay (supNB n b) segs = true := by
  unfold supMay supNB fitsL lenOk
  simp [segsOk, h0, h1, h2, h3]
theorem bytesNB_len (n b : Int) (h0 : 0 ≤ n) (h1 : n ≤ 2147483647) (h2 : 0 ≤ b) (h3 : b ≤ 2147483647) : (bytesB (supNB n b)).length = 256 := bytesB_len _ (mayF _ (supNB_may n b h0 h1 h2 h3 96)).len
theorem argNB (w : World) (n b : Int) (h0 : wide n) (h1 : wide b) : SArg w (supNB n b) none none :=
  ⟨h0, h1, Rd.nil _ _, Rd.nil _ _, (fun x h => by cases h), (fun x h => by cases h), (show wide 0 by decide), (show wide 0 by decide), (fun ad e => by cases e), (fun ad e => by cases e)⟩
theorem writeNB {w0 w : World} {g m : Nat} {P : Nat → Prop} {d : DSt} (hL : Live w0 w g P m d) (hn : m < 1000) (ho : d.ops < 1000) (slot : Nat) (sl : Int) (hsl : sl = (slot : Int)) (hs : slot ≤ 1) (n b : Int) (h0 : 0 ≤ n) (h1 : n ≤ 2147483647) (h2 : 0 ≤ b) (h3 : b ≤ 2147483647) {r : Int × DSt} (hr : wrK d (slot : Int) (bytesB (supNB n b)) 4 = r) :
    Calls Try.prog 25 #[.pointer (some ⟨g, 0, none⟩), .int .i64 sl, .agg #[.int .i64 n, .int .i64 b, .slice none 0 0, .int .i64 0, .int .u32 0, .slice none 0 0, .int .i64 0, .int .u32 0]] w (SupWPost w0 g m P r w) := by
  subst hr hsl
  exact super_write w0 g m P d slot (supNB n b) none 0 none 0 w hL (by omega) (by omega) hs (Rd.nil _ _) (Rd.nil _ _) (fun x h => by cases h) (fun x h => by cases h) (fun ad e => by cases e) (fun ad e => by cases e) (supNB_may n b h0 h1 h2 h3 96)
theorem writeOut (g : Nat) (w : World) : Calls Try.prog 25 #[.pointer (some ⟨g, 0, none⟩), .int .i64 (-1), .agg #[.int .i64 0, .int .i64 0, .slice none 0 0, .int .i64 0, .int .u32 0, .slice none 0 0, .int .i64 0, .int .u32 0]] w fun e w' => e = .returned (.int .i64 1) ∧ Below w.heap.size w w' :=
  super_write_out (some ⟨g, 0, none⟩) (-1) (supNB 0 0) none 0 none 0 w (by omega) (Rd.nil _ _) (Rd.nil _ _) (fun x h => by cases h) (fun x h => by cases h) (fun ad e => by cases e) (fun ad e => by cases e) (supNB_may 0 0 (by omega) (by omega) (by omega) (by omega) 96)
theorem bestNB {w0 w : World} {g m : Nat} {P : Nat → Prop} {d : DSt} (hL : Live w0 w g P m d) (segs n b r : Int) (hr : supBest d segs = (supNB n b, r)) :
    Calls Try.prog 24 #[.pointer (some ⟨g, 0, none⟩), .int .i64 segs] w fun e w' => ∃ A c A2 c2, e = .returned (.tuple #[.agg #[.int .i64 n, .int .i64 b, .slice A 0 c, .int .i64 0, .int .u32 0, .slice A2 0 c2, .int .i64 0, .int .u32 0], .int .i64 r]) ∧ Below w.heap.size w w' := by
  refine (super_best w0 g m P d segs w hL).mono ?_
  rintro e w' ⟨A, c, A2, c2, rfl, -, -, hb⟩
  rw [hr]
  exact ⟨A, c, A2, c2, rfl, hb⟩
theorem zeros_piece (i : Nat) (hi : i < 4) : piece (List.replicate 256 (0 : UInt8)) i = zeros64 := by
  unfold piece zeros64
  rw [List.drop_replicate, List.take_replicate]
  congr 1
  omega
theorem cur_new (k : Nat) (hk : k < 8) : curD (newD 8) (k : Int) = zeros64 := by
  rw [newD_live, curD_none _ _ k _ rfl]
  rw [List.getD_eq_getElem?_getD, List.getElem?_replicate, if_pos hk]
  rfl
theorem best_new : supBest (newD 8) 96 = (supNB 0 0, 13) := by
  unfold supBest
  rw [if_neg (by simp [newD])]
  rw [sup_read_live (d := newD 8) rfl (by simp [newD]) 0 (by omega) (b := List.replicate 256 0) List.length_replicate (fun i hi => ?_) 96 0 rfl, sup_read_live (d := newD 8) rfl (by simp [newD]) 1 (by omega) (b := List.replicate 256 0) List.length_replicate (fun i hi => ?_) 96 1 rfl, zeros_none]
  · rfl
  · rw [zeros_piece i hi, show ((1 : Nat) : Int) * 4 + (i : Int) = ((4 + i : Nat) : Int) by omega, cur_new _ (by omega)]
  · rw [zeros_piece i hi, show ((0 : Nat) : Int) * 4 + (i : Int) = ((i : Nat) : Int) by omega, cur_new _ (by omega)]
def st77a : DSt := liveD (List.replicate 8 zeros64) (caSlot (fun _ => none) 0 (bytesB (supNB 7 0)) 4) 4
def st77 : DSt := liveD (List.replicate 8 zeros64) (caSlot (caSlot (fun _ => none) 0 (bytesB (supNB 7 0)) 4) 1 (bytesB (supNB 7 3)) 4) 8
theorem wr77a : wrK (newD 8) ((0 : Nat) : Int) (bytesB (supNB 7 0)) 4 = (0, st77a) := by
  rw [newD_live, wr_live _ _ _ 0 _ (by simp) (by omega) (bytesNB_len 7 0 (by omega) (by omega) (by omega) (by omega)) 4 (by omega)]
  rfl
theorem wr77b : wrK st77a ((1 : Nat) : Int) (bytesB (supNB 7 3)) 4 = (0, st77) := by
  unfold st77a
  rw [wr_live _ _ _ 1 _ (by simp) (by omega) (bytesNB_len 7 3 (by omega) (by omega) (by omega) (by omega)) 4 (by omega)]
  rfl
theorem best77 : supBest st77 96 = (supNB 7 0, 0) := by
  unfold st77
  rw [best_two _ _ _ _ _ (by simp) (bytesNB_len 7 0 (by omega) (by omega) (by omega) (by omega)) (bytesNB_len 7 3 (by omega) (by omega) (by omega) (by omega)), (parseB_iff _ 96 (supNB 7 0)).2 ⟨supNB_may 7 0 (by omega) (by omega) (by omega) (by omega) _, rfl⟩, (parseB_iff _ 96 (supNB 7 3)).2 ⟨supNB_may 7 3 (by omega) (by omega) (by omega) (by omega) _, rfl⟩]
  rfl
def st5 (b : List UInt8) : DSt := liveD (List.replicate 5 zeros64) (fun y => if y = ((1 : Nat) : Int) * 4 + ((0 : Nat) : Int) then some ((b.drop (0 * 64)).take 64) else none) (0 + 1)
theorem wr5 (b : List UInt8) (hb : b.length = 256) : wrK (newD 5) ((1 : Nat) : Int) b 4 = (1, st5 b) := by
  have h1 : wrK (newD 5) ((1 : Nat) : Int) b 1 = (0, st5 b) := by
    rw [wrK_succ (by rfl), wrK, newD_live, write_live (k := 4) _ (by simp) (by simp) (by rw [List.length_take, List.length_drop]; omega)]
    rfl
  have h2 : wrK (newD 5) ((1 : Nat) : Int) b 2 = (1, st5 b) := by
    rw [wrK_succ (by rw [h1]), h1]
    unfold writeD
    rw [if_neg (by simp [st5, liveD]), if_neg (by simp [st5, liveD, thereB])]
  rw [wrK_stop (k := 2) (by rw [h2]; exact (by decide : (1 : Int) ≠ 0)) 4 (by omega), h2]
theorem read5 (b : List UInt8) : supRead (st5 b) ((1 : Nat) : Int) 96 = none := by
  unfold supRead
  rw [if_neg]
  rw [Bool.and_eq_true, List.all_eq_true]
  rintro ⟨-, h⟩
  have := h 1 (by simp)
  simp [readD, st5, liveD, thereB] at this
theorem bytes00 (w : World) : Calls Try.prog 19 #[.agg #[.int .i64 0, .int .i64 0, .slice none 0 0, .int .i64 0, .int .u32 0, .slice none 0 0, .int .i64 0, .int .u32 0]] w fun e w' => ∃ A' c', e = .returned (.tuple #[.slice A' 256 c', .int .i64 0]) ∧ 256 ≤ c' ∧ Own w' w.heap.size 5 (.slice A' 256 c') ((bytesB (supNB 0 0)).map eb) ∧ Below w.heap.size w w' :=
  arg_bytes (argNB w 0 0 (by decide) (by decide)) 0 0 (supNB_may 0 0 (by omega) (by omega) (by omega) (by omega) 96)
theorem parse_no255 {b : List UInt8} (hb : b.length = 255) (A : Option Addr) (c : Nat) (w : World) : Calls Try.prog 20 #[.slice A 255 c, .int .i64 96] w fun e w' => ∃ D d D2 d2, e = .returned (.tuple #[.agg #[.int .i64 0, .int .i64 0, .slice D 0 d, .int .i64 0, .int .u32 0, .slice D2 0 d2, .int .i64 0, .int .u32 0], .bool false]) ∧ Below w.heap.size w w' := by
  refine (super_parse_short b 96 A 255 c w hb (by omega) (by omega)).mono ?_
  rintro e w' ⟨q, D, d, D2, d2, ok, rfl, ho, hz, -, -, -, -, hbel⟩
  have hno : parseB b 96 = none := by unfold parseB; rw [if_neg (by omega)]
  rw [hno] at ho
  obtain rfl : ok = false := by cases ok; rfl; cases ho
  obtain rfl := hz rfl
  exact ⟨D, d, D2, d2, rfl, hbel⟩
theorem read_small {w0 w : World} {g m : Nat} {P : Nat → Prop} {b : List UInt8} (hL : Live w0 w g P m (st5 b)) :
    Calls Try.prog 26 #[.pointer (some ⟨g, 0, none⟩), .int .i64 1, .int .i64 96] w (OptPost none w) := by
  have h := super_read w0 g m P (st5 b) 1 96 w hL (by omega)
  rw [read5] at h
  exact h
set_option maxRecDepth 100000 in
set_option maxHeartbeats 8000000 in
theorem sknown_walk (W : World) : Calls Try.prog 4 #[] W fun e w' => e = .returned (.bool true) ∧ Below W.heap.size W w' := by
  go_enter Try.func4, Try.ntmps4
  go_wp2_with fail
  (with_reducible refine (law5_awake _).mono ?_)
  rintro e w1 ⟨rfl, hb⟩
  have z0 : ((w1.alloc (.cells #[.int .i64 1, .int .i64 1] 3))).heap.size = w1.heap.size + 1 := by simp
  have z1 : (((w1.alloc (.cells #[.int .i64 1, .int .i64 1] 3)).alloc (.cells #[.int .i64 1] 3))).heap.size = w1.heap.size + 1 + 1 := by simp
  have z2 : ((((w1.alloc (.cells #[.int .i64 1, .int .i64 1] 3)).alloc (.cells #[.int .i64 1] 3)).alloc (.cells #[.int .i64 1] 3))).heap.size = w1.heap.size + 1 + 1 + 1 := by simp
  have z3 : (((((w1.alloc (.cells #[.int .i64 1, .int .i64 1] 3)).alloc (.cells #[.int .i64 1] 3)).alloc (.cells #[.int .i64 1] 3)).alloc (.cells #[.int .i64 96] 3))).heap.size = w1.heap.size + 1 + 1 + 1 + 1 := by simp
  have z4 : ((((((w1.alloc (.cells #[.int .i64 1, .int .i64 1] 3)).alloc (.cells #[.int .i64 1] 3)).alloc (.cells #[.int .i64 1] 3)).alloc (.cells #[.int .i64 96] 3)).alloc (.cells #[.int .i64 (-1)] 3))).heap.size = w1.heap.size + 1 + 1 + 1 + 1 + 1 := by simp
  have z5 : (((((((w1.alloc (.cells #[.int .i64 1, .int .i64 1] 3)).alloc (.cells #[.int .i64 1] 3)).alloc (.cells #[.int .i64 1] 3)).alloc (.cells #[.int .i64 96] 3)).alloc (.cells #[.int .i64 (-1)] 3)).alloc (.cells #[.int .i64 1] 3))).heap.size = w1.heap.size + 1 + 1 + 1 + 1 + 1 + 1 := by simp
  have R0 : Rd (w1.alloc (.cells #[.int .i64 1, .int .i64 1] 3)) (some ⟨w1.heap.size, 0, none⟩) ([1, 1].map ei) := by
    have h := Rd.lit w1 3 (0, 0) ([1, 1].map ei)
    exact h
  replace R0 := R0.below (bal (Below.refl _ _) (.cells #[.int .i64 1] 3))
  replace R0 := R0.below (bal (Below.refl _ _) (.cells #[.int .i64 1] 3))
  replace R0 := R0.below (bal (Below.refl _ _) (.cells #[.int .i64 96] 3))
  replace R0 := R0.below (bal (Below.refl _ _) (.cells #[.int .i64 (-1)] 3))
  replace R0 := R0.below (bal (Below.refl _ _) (.cells #[.int .i64 1] 3))
  replace R0 := R0.below (bal (Below.refl _ _) (.cells #[.int .i64 (-1), .int .i64 0, .slice none 0 0, .int .i64 0, .int .u32 0, .slice none 0 0, .int .i64 0, .int .u32 0, .int .i64 0, .int .i64 (-1), .slice none 0 0, .int .i64 0, .int .u32 0, .slice none 0 0, .int .i64 0, .int .u32 0, .int .i64 2147483648, .int .i64 0, .slice none 0 0, .int .i64 0, .int .u32 0, .slice none 0 0, .int .i64 0, .int .u32 0, .int .i64 0, .int .i64 0, .slice none 0 0, .int .i64 1, .int .u32 0, .slice none 0 0, .int .i64 0, .int .u32 0, .int .i64 0, .int .i64 0, .slice (some ⟨w1.heap.size, 0, none⟩) 2 2, .int .i64 0, .int .u32 0, .slice none 0 0, .int .i64 0, .int .u32 0, .int .i64 0, .int .i64 0, .slice (some ⟨w1.heap.size + 1, 0, none⟩) 1 1, .int .i64 0, .int .u32 0, .slice (some ⟨w1.heap.size + 1 + 1, 0, none⟩) 1 1, .int .i64 0, .int .u32 0, .int .i64 0, .int .i64 0, .slice none 0 0, .int .i64 0, .int .u32 0, .slice (some ⟨w1.heap.size + 1 + 1 + 1, 0, none⟩) 1 1, .int .i64 0, .int .u32 0, .int .i64 0, .int .i64 0, .slice none 0 0, .int .i64 0, .int .u32 0, .slice (some ⟨w1.heap.size + 1 + 1 + 1 + 1, 0, none⟩) 1 1, .int .i64 0, .int .u32 0, .int .i64 0, .int .i64 0, .slice none 0 0, .int .i64 0, .int .u32 0, .slice (some ⟨w1.heap.size + 1 + 1 + 1 + 1 + 1, 0, none⟩) 1 1, .int .i64 9, .int .u32 0] 32))
  have R1 : Rd ((w1.alloc (.cells #[.int .i64 1, .int .i64 1] 3)).alloc (.cells #[.int .i64 1] 3)) (some ⟨w1.heap.size + 1, 0, none⟩) ([1].map ei) := by
    have h := Rd.lit (w1.alloc (.cells #[.int .i64 1, .int .i64 1] 3)) 3 (0, 0) ([1].map ei)
    rw [z0] at h
    exact h
  replace R1 := R1.below (bal (Below.refl _ _) (.cells #[.int .i64 1] 3))
  replace R1 := R1.below (bal (Below.refl _ _) (.cells #[.int .i64 96] 3))
  replace R1 := R1.below (bal (Below.refl _ _) (.cells #[.int .i64 (-1)] 3))
  replace R1 := R1.below (bal (Below.refl _ _) (.cells #[.int .i64 1] 3))
  replace R1 := R1.below (bal (Below.refl _ _) (.cells #[.int .i64 (-1), .int .i64 0, .slice none 0 0, .int .i64 0, .int .u32 0, .slice none 0 0, .int .i64 0, .int .u32 0, .int .i64 0, .int .i64 (-1), .slice none 0 0, .int .i64 0, .int .u32 0, .slice none 0 0, .int .i64 0, .int .u32 0, .int .i64 2147483648, .int .i64 0, .slice none 0 0, .int .i64 0, .int .u32 0, .slice none 0 0, .int .i64 0, .int .u32 0, .int .i64 0, .int .i64 0, .slice none 0 0, .int .i64 1, .int .u32 0, .slice none 0 0, .int .i64 0, .int .u32 0, .int .i64 0, .int .i64 0, .slice (some ⟨w1.heap.size, 0, none⟩) 2 2, .int .i64 0, .int .u32 0, .slice none 0 0, .int .i64 0, .int .u32 0, .int .i64 0, .int .i64 0, .slice (some ⟨w1.heap.size + 1, 0, none⟩) 1 1, .int .i64 0, .int .u32 0, .slice (some ⟨w1.heap.size + 1 + 1, 0, none⟩) 1 1, .int .i64 0, .int .u32 0, .int .i64 0, .int .i64 0, .slice none 0 0, .int .i64 0, .int .u32 0, .slice (some ⟨w1.heap.size + 1 + 1 + 1, 0, none⟩) 1 1, .int .i64 0, .int .u32 0, .int .i64 0, .int .i64 0, .slice none 0 0, .int .i64 0, .int .u32 0, .slice (some ⟨w1.heap.size + 1 + 1 + 1 + 1, 0, none⟩) 1 1, .int .i64 0, .int .u32 0, .int .i64 0, .int .i64 0, .slice none 0 0, .int .i64 0, .int .u32 0, .slice (some ⟨w1.heap.size + 1 + 1 + 1 + 1 + 1, 0, none⟩) 1 1, .int .i64 9, .int .u32 0] 32))
  have R2 : Rd (((w1.alloc (.cells #[.int .i64 1, .int .i64 1] 3)).alloc (.cells #[.int .i64 1] 3)).alloc (.cells #[.int .i64 1] 3)) (some ⟨w1.heap.size + 1 + 1, 0, none⟩) ([1].map ei) := by
    have h := Rd.lit ((w1.alloc (.cells #[.int .i64 1, .int .i64 1] 3)).alloc (.cells #[.int .i64 1] 3)) 3 (0, 0) ([1].map ei)
    rw [z1] at h
    exact h
  replace R2 := R2.below (bal (Below.refl _ _) (.cells #[.int .i64 96] 3))
  replace R2 := R2.below (bal (Below.refl _ _) (.cells #[.int .i64 (-1)] 3))
  replace R2 := R2.below (bal (Below.refl _ _) (.cells #[.int .i64 1] 3))
  replace R2 := R2.below (bal (Below.refl _ _) (.cells #[.int .i64 (-1), .int .i64 0, .slice none 0 0, .int .i64 0, .int .u32 0, .slice none 0 0, .int .i64 0, .int .u32 0, .int .i64 0, .int .i64 (-1), .slice none 0 0, .int .i64 0, .int .u32 0, .slice none 0 0, .int .i64 0, .int .u32 0, .int .i64 2147483648, .int .i64 0, .slice none 0 0, .int .i64 0, .int .u32 0, .slice none 0 0, .int .i64 0, .int .u32 0, .int .i64 0, .int .i64 0, .slice none 0 0, .int .i64 1, .int .u32 0, .slice none 0 0, .int .i64 0, .int .u32 0, .int .i64 0, .int .i64 0, .slice (some ⟨w1.heap.size, 0, none⟩) 2 2, .int .i64 0, .int .u32 0, .slice none 0 0, .int .i64 0, .int .u32 0, .int .i64 0, .int .i64 0, .slice (some ⟨w1.heap.size + 1, 0, none⟩) 1 1, .int .i64 0, .int .u32 0, .slice (some ⟨w1.heap.size + 1 + 1, 0, none⟩) 1 1, .int .i64 0, .int .u32 0, .int .i64 0, .int .i64 0, .slice none 0 0, .int .i64 0, .int .u32 0, .slice (some ⟨w1.heap.size + 1 + 1 + 1, 0, none⟩) 1 1, .int .i64 0, .int .u32 0, .int .i64 0, .int .i64 0, .slice none 0 0, .int .i64 0, .int .u32 0, .slice (some ⟨w1.heap.size + 1 + 1 + 1 + 1, 0, none⟩) 1 1, .int .i64 0, .int .u32 0, .int .i64 0, .int .i64 0, .slice none 0 0, .int .i64 0, .int .u32 0, .slice (some ⟨w1.heap.size + 1 + 1 + 1 + 1 + 1, 0, none⟩) 1 1, .int .i64 9, .int .u32 0] 32))
  have R3 : Rd ((((w1.alloc (.cells #[.int .i64 1, .int .i64 1] 3)).alloc (.cells #[.int .i64 1] 3)).alloc (.cells #[.int .i64 1] 3)).alloc (.cells #[.int .i64 96] 3)) (some ⟨w1.heap.size + 1 + 1 + 1, 0, none⟩) ([96].map ei) := by
    have h := Rd.lit (((w1.alloc (.cells #[.int .i64 1, .int .i64 1] 3)).alloc (.cells #[.int .i64 1] 3)).alloc (.cells #[.int .i64 1] 3)) 3 (0, 0) ([96].map ei)
    rw [z2] at h
    exact h
  replace R3 := R3.below (bal (Below.refl _ _) (.cells #[.int .i64 (-1)] 3))
  replace R3 := R3.below (bal (Below.refl _ _) (.cells #[.int .i64 1] 3))
  replace R3 := R3.below (bal (Below.refl _ _) (.cells #[.int .i64 (-1), .int .i64 0, .slice none 0 0, .int .i64 0, .int .u32 0, .slice none 0 0, .int .i64 0, .int .u32 0, .int .i64 0, .int .i64 (-1), .slice none 0 0, .int .i64 0, .int .u32 0, .slice none 0 0, .int .i64 0, .int .u32 0, .int .i64 2147483648, .int .i64 0, .slice none 0 0, .int .i64 0, .int .u32 0, .slice none 0 0, .int .i64 0, .int .u32 0, .int .i64 0, .int .i64 0, .slice none 0 0, .int .i64 1, .int .u32 0, .slice none 0 0, .int .i64 0, .int .u32 0, .int .i64 0, .int .i64 0, .slice (some ⟨w1.heap.size, 0, none⟩) 2 2, .int .i64 0, .int .u32 0, .slice none 0 0, .int .i64 0, .int .u32 0, .int .i64 0, .int .i64 0, .slice (some ⟨w1.heap.size + 1, 0, none⟩) 1 1, .int .i64 0, .int .u32 0, .slice (some ⟨w1.heap.size + 1 + 1, 0, none⟩) 1 1, .int .i64 0, .int .u32 0, .int .i64 0, .int .i64 0, .slice none 0 0, .int .i64 0, .int .u32 0, .slice (some ⟨w1.heap.size + 1 + 1 + 1, 0, none⟩) 1 1, .int .i64 0, .int .u32 0, .int .i64 0, .int .i64 0, .slice none 0 0, .int .i64 0, .int .u32 0, .slice (some ⟨w1.heap.size + 1 + 1 + 1 + 1, 0, none⟩) 1 1, .int .i64 0, .int .u32 0, .int .i64 0, .int .i64 0, .slice none 0 0, .int .i64 0, .int .u32 0, .slice (some ⟨w1.heap.size + 1 + 1 + 1 + 1 + 1, 0, none⟩) 1 1, .int .i64 9, .int .u32 0] 32))
  have R4 : Rd (((((w1.alloc (.cells #[.int .i64 1, .int .i64 1] 3)).alloc (.cells #[.int .i64 1] 3)).alloc (.cells #[.int .i64 1] 3)).alloc (.cells #[.int .i64 96] 3)).alloc (.cells #[.int .i64 (-1)] 3)) (some ⟨w1.heap.size + 1 + 1 + 1 + 1, 0, none⟩) ([-1].map ei) := by
    have h := Rd.lit ((((w1.alloc (.cells #[.int .i64 1, .int .i64 1] 3)).alloc (.cells #[.int .i64 1] 3)).alloc (.cells #[.int .i64 1] 3)).alloc (.cells #[.int .i64 96] 3)) 3 (0, 0) ([-1].map ei)
    rw [z3] at h
    exact h
  replace R4 := R4.below (bal (Below.refl _ _) (.cells #[.int .i64 1] 3))
  replace R4 := R4.below (bal (Below.refl _ _) (.cells #[.int .i64 (-1), .int .i64 0, .slice none 0 0, .int .i64 0, .int .u32 0, .slice none 0 0, .int .i64 0, .int .u32 0, .int .i64 0, .int .i64 (-1), .slice none 0 0, .int .i64 0, .int .u32 0, .slice none 0 0, .int .i64 0, .int .u32 0, .int .i64 2147483648, .int .i64 0, .slice none 0 0, .int .i64 0, .int .u32 0, .slice none 0 0, .int .i64 0, .int .u32 0, .int .i64 0, .int .i64 0, .slice none 0 0, .int .i64 1, .int .u32 0, .slice none 0 0, .int .i64 0, .int .u32 0, .int .i64 0, .int .i64 0, .slice (some ⟨w1.heap.size, 0, none⟩) 2 2, .int .i64 0, .int .u32 0, .slice none 0 0, .int .i64 0, .int .u32 0, .int .i64 0, .int .i64 0, .slice (some ⟨w1.heap.size + 1, 0, none⟩) 1 1, .int .i64 0, .int .u32 0, .slice (some ⟨w1.heap.size + 1 + 1, 0, none⟩) 1 1, .int .i64 0, .int .u32 0, .int .i64 0, .int .i64 0, .slice none 0 0, .int .i64 0, .int .u32 0, .slice (some ⟨w1.heap.size + 1 + 1 + 1, 0, none⟩) 1 1, .int .i64 0, .int .u32 0, .int .i64 0, .int .i64 0, .slice none 0 0, .int .i64 0, .int .u32 0, .slice (some ⟨w1.heap.size + 1 + 1 + 1 + 1, 0, none⟩) 1 1, .int .i64 0, .int .u32 0, .int .i64 0, .int .i64 0, .slice none 0 0, .int .i64 0, .int .u32 0, .slice (some ⟨w1.heap.size + 1 + 1 + 1 + 1 + 1, 0, none⟩) 1 1, .int .i64 9, .int .u32 0] 32))
  have R5 : Rd ((((((w1.alloc (.cells #[.int .i64 1, .int .i64 1] 3)).alloc (.cells #[.int .i64 1] 3)).alloc (.cells #[.int .i64 1] 3)).alloc (.cells #[.int .i64 96] 3)).alloc (.cells #[.int .i64 (-1)] 3)).alloc (.cells #[.int .i64 1] 3)) (some ⟨w1.heap.size + 1 + 1 + 1 + 1 + 1, 0, none⟩) ([1].map ei) := by
    have h := Rd.lit (((((w1.alloc (.cells #[.int .i64 1, .int .i64 1] 3)).alloc (.cells #[.int .i64 1] 3)).alloc (.cells #[.int .i64 1] 3)).alloc (.cells #[.int .i64 96] 3)).alloc (.cells #[.int .i64 (-1)] 3)) 3 (0, 0) ([1].map ei)
    rw [z4] at h
    exact h
  replace R5 := R5.below (bal (Below.refl _ _) (.cells #[.int .i64 (-1), .int .i64 0, .slice none 0 0, .int .i64 0, .int .u32 0, .slice none 0 0, .int .i64 0, .int .u32 0, .int .i64 0, .int .i64 (-1), .slice none 0 0, .int .i64 0, .int .u32 0, .slice none 0 0, .int .i64 0, .int .u32 0, .int .i64 2147483648, .int .i64 0, .slice none 0 0, .int .i64 0, .int .u32 0, .slice none 0 0, .int .i64 0, .int .u32 0, .int .i64 0, .int .i64 0, .slice none 0 0, .int .i64 1, .int .u32 0, .slice none 0 0, .int .i64 0, .int .u32 0, .int .i64 0, .int .i64 0, .slice (some ⟨w1.heap.size, 0, none⟩) 2 2, .int .i64 0, .int .u32 0, .slice none 0 0, .int .i64 0, .int .u32 0, .int .i64 0, .int .i64 0, .slice (some ⟨w1.heap.size + 1, 0, none⟩) 1 1, .int .i64 0, .int .u32 0, .slice (some ⟨w1.heap.size + 1 + 1, 0, none⟩) 1 1, .int .i64 0, .int .u32 0, .int .i64 0, .int .i64 0, .slice none 0 0, .int .i64 0, .int .u32 0, .slice (some ⟨w1.heap.size + 1 + 1 + 1, 0, none⟩) 1 1, .int .i64 0, .int .u32 0, .int .i64 0, .int .i64 0, .slice none 0 0, .int .i64 0, .int .u32 0, .slice (some ⟨w1.heap.size + 1 + 1 + 1 + 1, 0, none⟩) 1 1, .int .i64 0, .int .u32 0, .int .i64 0, .int .i64 0, .slice none 0 0, .int .i64 0, .int .u32 0, .slice (some ⟨w1.heap.size + 1 + 1 + 1 + 1 + 1, 0, none⟩) 1 1, .int .i64 9, .int .u32 0] 32))
  have hT := Blk.new ((((((w1.alloc (.cells #[.int .i64 1, .int .i64 1] 3)).alloc (.cells #[.int .i64 1] 3)).alloc (.cells #[.int .i64 1] 3)).alloc (.cells #[.int .i64 96] 3)).alloc (.cells #[.int .i64 (-1)] 3)).alloc (.cells #[.int .i64 1] 3)) 32 #[.int .i64 (-1), .int .i64 0, .slice none 0 0, .int .i64 0, .int .u32 0, .slice none 0 0, .int .i64 0, .int .u32 0, .int .i64 0, .int .i64 (-1), .slice none 0 0, .int .i64 0, .int .u32 0, .slice none 0 0, .int .i64 0, .int .u32 0, .int .i64 2147483648, .int .i64 0, .slice none 0 0, .int .i64 0, .int .u32 0, .slice none 0 0, .int .i64 0, .int .u32 0, .int .i64 0, .int .i64 0, .slice none 0 0, .int .i64 1, .int .u32 0, .slice none 0 0, .int .i64 0, .int .u32 0, .int .i64 0, .int .i64 0, .slice (some ⟨w1.heap.size, 0, none⟩) 2 2, .int .i64 0, .int .u32 0, .slice none 0 0, .int .i64 0, .int .u32 0, .int .i64 0, .int .i64 0, .slice (some ⟨w1.heap.size + 1, 0, none⟩) 1 1, .int .i64 0, .int .u32 0, .slice (some ⟨w1.heap.size + 1 + 1, 0, none⟩) 1 1, .int .i64 0, .int .u32 0, .int .i64 0, .int .i64 0, .slice none 0 0, .int .i64 0, .int .u32 0, .slice (some ⟨w1.heap.size + 1 + 1 + 1, 0, none⟩) 1 1, .int .i64 0, .int .u32 0, .int .i64 0, .int .i64 0, .slice none 0 0, .int .i64 0, .int .u32 0, .slice (some ⟨w1.heap.size + 1 + 1 + 1 + 1, 0, none⟩) 1 1, .int .i64 0, .int .u32 0, .int .i64 0, .int .i64 0, .slice none 0 0, .int .i64 0, .int .u32 0, .slice (some ⟨w1.heap.size + 1 + 1 + 1 + 1 + 1, 0, none⟩) 1 1, .int .i64 9, .int .u32 0]
  rw [z5] at hT
  have b7 : Below w1.heap.size w1 (((((((w1.alloc (.cells #[.int .i64 1, .int .i64 1] 3)).alloc (.cells #[.int .i64 1] 3)).alloc (.cells #[.int .i64 1] 3)).alloc (.cells #[.int .i64 96] 3)).alloc (.cells #[.int .i64 (-1)] 3)).alloc (.cells #[.int .i64 1] 3)).alloc (.cells #[.int .i64 (-1), .int .i64 0, .slice none 0 0, .int .i64 0, .int .u32 0, .slice none 0 0, .int .i64 0, .int .u32 0, .int .i64 0, .int .i64 (-1), .slice none 0 0, .int .i64 0, .int .u32 0, .slice none 0 0, .int .i64 0, .int .u32 0, .int .i64 2147483648, .int .i64 0, .slice none 0 0, .int .i64 0, .int .u32 0, .slice none 0 0, .int .i64 0, .int .u32 0, .int .i64 0, .int .i64 0, .slice none 0 0, .int .i64 1, .int .u32 0, .slice none 0 0, .int .i64 0, .int .u32 0, .int .i64 0, .int .i64 0, .slice (some ⟨w1.heap.size, 0, none⟩) 2 2, .int .i64 0, .int .u32 0, .slice none 0 0, .int .i64 0, .int .u32 0, .int .i64 0, .int .i64 0, .slice (some ⟨w1.heap.size + 1, 0, none⟩) 1 1, .int .i64 0, .int .u32 0, .slice (some ⟨w1.heap.size + 1 + 1, 0, none⟩) 1 1, .int .i64 0, .int .u32 0, .int .i64 0, .int .i64 0, .slice none 0 0, .int .i64 0, .int .u32 0, .slice (some ⟨w1.heap.size + 1 + 1 + 1, 0, none⟩) 1 1, .int .i64 0, .int .u32 0, .int .i64 0, .int .i64 0, .slice none 0 0, .int .i64 0, .int .u32 0, .slice (some ⟨w1.heap.size + 1 + 1 + 1 + 1, 0, none⟩) 1 1, .int .i64 0, .int .u32 0, .int .i64 0, .int .i64 0, .slice none 0 0, .int .i64 0, .int .u32 0, .slice (some ⟨w1.heap.size + 1 + 1 + 1 + 1 + 1, 0, none⟩) 1 1, .int .i64 9, .int .u32 0] 32)) := bal (bal (bal (bal (bal (bal (bal (Below.refl _ _) _) _) _) _) _) _) _
  go_wp2_with fail
  generalize (((((((w1.alloc (.cells #[.int .i64 1, .int .i64 1] 3)).alloc (.cells #[.int .i64 1] 3)).alloc (.cells #[.int .i64 1] 3)).alloc (.cells #[.int .i64 96] 3)).alloc (.cells #[.int .i64 (-1)] 3)).alloc (.cells #[.int .i64 1] 3)).alloc (.cells #[.int .i64 (-1), .int .i64 0, .slice none 0 0, .int .i64 0, .int .u32 0, .slice none 0 0, .int .i64 0, .int .u32 0, .int .i64 0, .int .i64 (-1), .slice none 0 0, .int .i64 0, .int .u32 0, .slice none 0 0, .int .i64 0, .int .u32 0, .int .i64 2147483648, .int .i64 0, .slice none 0 0, .int .i64 0, .int .u32 0, .slice none 0 0, .int .i64 0, .int .u32 0, .int .i64 0, .int .i64 0, .slice none 0 0, .int .i64 1, .int .u32 0, .slice none 0 0, .int .i64 0, .int .u32 0, .int .i64 0, .int .i64 0, .slice (some ⟨w1.heap.size, 0, none⟩) 2 2, .int .i64 0, .int .u32 0, .slice none 0 0, .int .i64 0, .int .u32 0, .int .i64 0, .int .i64 0, .slice (some ⟨w1.heap.size + 1, 0, none⟩) 1 1, .int .i64 0, .int .u32 0, .slice (some ⟨w1.heap.size + 1 + 1, 0, none⟩) 1 1, .int .i64 0, .int .u32 0, .int .i64 0, .int .i64 0, .slice none 0 0, .int .i64 0, .int .u32 0, .slice (some ⟨w1.heap.size + 1 + 1 + 1, 0, none⟩) 1 1, .int .i64 0, .int .u32 0, .int .i64 0, .int .i64 0, .slice none 0 0, .int .i64 0, .int .u32 0, .slice (some ⟨w1.heap.size + 1 + 1 + 1 + 1, 0, none⟩) 1 1, .int .i64 0, .int .u32 0, .int .i64 0, .int .i64 0, .slice none 0 0, .int .i64 0, .int .u32 0, .slice (some ⟨w1.heap.size + 1 + 1 + 1 + 1 + 1, 0, none⟩) 1 1, .int .i64 9, .int .u32 0] 32)) = W7 at *
  have HBAD := Lib.hid (known_bad hT hT.lt R0 R1 R2 R3 R4 R5)
  have hb7 := bn hb b7
  clear R0 R1 R2 R3 R4 R5 hT b7 z0 z1 z2 z3 z4 z5 hb
  have HB7 := Lib.hid hb7
  clear hb7
  obtain ⟨X, hX⟩ : ∃ X, w1.heap.size + 1 + 1 + 1 + 1 + 1 + 1 = X := ⟨_, rfl⟩
  rw [hX] at HBAD ⊢
  clear hX
  go_loopw [2] (fun i wr => ∃ k : Nat, k ≤ 9 ∧ i = .int .i64 (k : Int) ∧ Below W7.heap.size W7 wr) (fun i _ => 9 - (intOf i).toNat)
  case atStart => exact ⟨0, by omega, rfl, Below.refl _ _⟩
  case round =>
    obtain ⟨k, hk, rfl, hbr⟩ := hrel
    by_cases hlt : k < 9
    · obtain ⟨s, A, c, A2, c2, hcs, hA, hm, hl1, hl2⟩ := HBAD.out k hlt
      have HCS := Lib.hid hcs
      have hAr := hA.below hbr
      have HNO := Lib.hid (super_bytes_no s A c A2 c2 wr hAr.r1 hAr.r2 hAr.w1 hAr.w2 hAr.a1 hAr.a2 (by omega) (by omega) hm)
      have HMAY := Lib.hid (fun (V : World) (hb : Below W7.heap.size W7 V) => arg_may (hA.below hb) 96 c c2 (by omega) (by omega) (r := false) hm)
      unfold supV at HNO
      obtain ⟨x0, x1, x2, x3, x4, x5, x6, x7⟩ := hcs wr hbr
      have i0 : (0 : Int) ≤ (k : Int) := by omega
      have i1 : (k : Int) < 9 := by omega
      clear hcs hAr hA hm
      go_wp2_with fail
      (with_reducible refine HNO.out.mono ?_)
      rintro e w2 ⟨rfl, hb2⟩
      have hbr2 := bn hbr hb2
      clear x0 x1 x2 x3 x4 x5 x6 x7
      obtain ⟨x0, x1, x2, x3, x4, x5, x6, x7⟩ := HCS.out w2 hbr2
      go_wp2_with fail
      (with_reducible refine (HMAY.out _ hbr2).mono ?_)
      rintro e w3 ⟨rfl, hb3⟩
      have hbr3 := bn hbr2 hb3
      go_wp2_with fail
      go_roundw
      case rel => exact ⟨k + 1, by omega, by go_num, hbr3⟩
      case measure => simp [intOf]; try omega
    · obtain rfl : k = 9 := by omega
      have hb8 := bn HB7.out hbr
      clear hbr
      go_wp2_with fail
      (with_reducible refine (live_new hb8 8 8 rfl (by omega)).mono ?_)
      rintro e w10 ⟨g, P, rfl, hd, _, _⟩
      clear hb8
      go_wp2_with fail
      (with_reducible refine (bestNB hd 96 0 0 13 best_new).mono ?_)
      rintro e w11 ⟨A1, c1, A2, c2, rfl, hb11⟩
      have hd1 := (hd.below hb11).alloc (.cells #[.int .i64 0, .int .i64 0, .slice A1 0 c1, .int .i64 0, .int .u32 0, .slice A2 0 c2, .int .i64 0, .int .u32 0] 32)
      clear hd hb11
      go_wp2_with fail
      (with_reducible refine (writeNB hd1 (by omega) (by simp [newD]) 0 0 rfl (by omega) 7 0 (by omega) (by omega) (by omega) (by omega) wr77a).mono ?_)
      rintro e w12 ⟨rfl, hd2, -⟩
      clear hd1
      go_wp2_with fail
      (with_reducible refine (writeNB hd2 (by omega) (by simp [st77a, liveD]) 1 1 rfl (by omega) 7 3 (by omega) (by omega) (by omega) (by omega) wr77b).mono ?_)
      rintro e w13 ⟨rfl, hd3, -⟩
      clear hd2
      go_wp2_with fail
      (with_reducible refine (bestNB hd3 96 7 0 0 best77).mono ?_)
      rintro e w14 ⟨A3, c3, A4, c4, rfl, hb14⟩
      have hd4 := (hd3.below hb14).alloc (.cells #[.int .i64 7, .int .i64 0, .slice A3 0 c3, .int .i64 0, .int .u32 0, .slice A4 0 c4, .int .i64 0, .int .u32 0] 32)
      have T4 := Blk.new w14 32 #[.int .i64 7, .int .i64 0, .slice A3 0 c3, .int .i64 0, .int .u32 0, .slice A4 0 c4, .int .i64 0, .int .u32 0]
      obtain ⟨Y, hY⟩ : ∃ Y, w14.heap.size = Y := ⟨_, rfl⟩
      rw [hY] at T4
      clear hd3 hb14
      go_wp2_with fail
      generalize (w14.alloc (.cells #[.int .i64 7, .int .i64 0, .slice A3 0 c3, .int .i64 0, .int .u32 0, .slice A4 0 c4, .int .i64 0, .int .u32 0] 32)) = w15 at *
      have hb15 := hd4.bel
      clear hY hd4
      (with_reducible refine (writeOut g _).mono ?_)
      rintro e w16 ⟨rfl, hb16⟩
      have hbb16 := bn hb15 hb16
      replace T4 := T4.below hb16
      clear hb15 hb16
      go_wp2_with fail
      (with_reducible refine (live_new (Below.refl w16.heap.size w16) 5 5 rfl (by omega)).mono ?_)
      rintro e w17 ⟨g2, P2, rfl, he, _, _⟩
      go_wp2_with fail
      (with_reducible refine (writeNB he (by omega) (by simp [newD]) 1 1 rfl (by omega) 0 0 (by omega) (by omega) (by omega) (by omega) (wr5 _ (bytesNB_len 0 0 (by omega) (by omega) (by omega) (by omega)))).mono ?_)
      rintro e w18 ⟨rfl, he2, -⟩
      clear he
      go_wp2_with fail
      (with_reducible refine (read_small he2).mono ?_)
      rintro e w19 ⟨q, A5, c5, A6, c6, ok, rfl, ho, hz, -, -, -, -, hb19⟩
      obtain rfl : ok = false := by cases ok; rfl; cases ho
      obtain rfl := hz rfl
      have hb20 := bal (bn hbb16 (bn he2.bel hb19)) (.cells #[.int .i64 0, .int .i64 0, .slice A5 0 c5, .int .i64 0, .int .u32 0, .slice A6 0 c6, .int .i64 0, .int .u32 0] 32)
      replace T4 := T4.below (bal (bn he2.bel hb19) (.cells #[.int .i64 0, .int .i64 0, .slice A5 0 c5, .int .i64 0, .int .u32 0, .slice A6 0 c6, .int .i64 0, .int .u32 0] 32))
      clear hbb16 he2 hb19 ho hz
      unfold supV zeroS
      go_wp2_with fail
      generalize (w19.alloc _) = w20 at *
      (with_reducible refine (bytes00 _).mono ?_)
      rintro e w21 ⟨A7, c7, rfl, hc7, ho7, hb21⟩
      have hbb21 := bn hb20 hb21
      replace T4 := T4.below hb21
      have hl7 : ((bytesB (supNB 0 0)).drop 1).length = 255 := by rw [List.length_drop, bytesNB_len 0 0 (by omega) (by omega) (by omega) (by omega)]
      obtain ⟨A8, hcf, -, -⟩ := cut_from (P := Try.prog) 35 5 Try.underlying35 size_u8 A7 256 c7 1 (by omega) (by omega)
      simp only [show (1 : Int).toNat = 1 from rfl, show 256 - 1 = 255 from rfl] at hcf
      have HPN := Lib.hid (parse_no255 hl7 A8 (c7 - 1))
      generalize c7 - 1 = c8 at *
      clear hb20 hb21 ho7 hl7
      go_wp2_with fail
      (with_reducible refine (HPN.out _).mono ?_)
      rintro e w22 ⟨A9, c9, A10, c10, rfl, hb22⟩
      have hb23 := bal (bn hbb21 hb22) (.cells #[.int .i64 0, .int .i64 0, .slice A9 0 c9, .int .i64 0, .int .u32 0, .slice A10 0 c10, .int .i64 0, .int .u32 0] 32)
      replace T4 := T4.below (bal hb22 (.cells #[.int .i64 0, .int .i64 0, .slice A9 0 c9, .int .i64 0, .int .u32 0, .slice A10 0 c10, .int .i64 0, .int .u32 0] 32))
      have hYl := T4.lt
      clear hbb21 hb22
      go_upto_region 21 with (fail)
      generalize (w22.alloc _) = w23 at *
      have x1 : w23.cell? ⟨Y, 1, none⟩ = some (.int .i64 0) := T4.cell 1
      go_wp2
      go_ret
      exact ⟨rfl, hb23⟩
end Go.Proofs.Ytbhhjphgbdaanaa
