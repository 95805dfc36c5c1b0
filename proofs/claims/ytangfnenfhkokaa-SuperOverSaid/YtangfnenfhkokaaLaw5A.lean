/-
  law5.awake.
-/
import Derived.Test.YtangfnenfhkokaaLawSame
import Derived.Test.YtangfnenfhkokaaSupPlay
import Derived.Test.YtangfnenfhkokaaSupW
set_option linter.unusedSimpArgs false
set_option linter.unusedVariables false
namespace Go.Proofs.Ytangfnenfhkokaa
open Go.RowKit Go.Maps

theorem best_two (fl : List (List UInt8)) (ca : Int → Option (List UInt8)) (m : Int) (b0 b1 : List UInt8) (hf : fl.length = 8) (h0 : b0.length = 256) (h1 : b1.length = 256) (segs : Int) :
    supBest (liveD fl (caSlot (caSlot ca 0 b0 4) 1 b1 4) m) segs = bestOf (parseB b0 segs) (parseB b1 segs) := by
  unfold supBest
  rw [if_neg (by simp [liveD])]
  rw [sup_read_live (d := liveD fl (caSlot (caSlot ca 0 b0 4) 1 b1 4) m) rfl hf 0 (by omega) h0 (fun i hi => ?_) segs 0 rfl, sup_read_live (d := liveD fl (caSlot (caSlot ca 0 b0 4) 1 b1 4) m) rfl hf 1 (by omega) h1 (fun i hi => ?_) segs 1 rfl]
  · exact cur_slot fl _ m 1 b1 i hi
  · rw [cur_other fl _ m m 1 b1 _ (by omega)]
    exact cur_slot fl _ m 0 b0 i hi
def supN (n : Int) : Sup := ⟨n, 0, ⟨[], 0, 0#32⟩, ⟨[], 0, 0#32⟩⟩
theorem supN_may (n : Int) (h0 : 0 ≤ n) (h1 : n ≤ 2147483647) (segs : Int) : supMay (supN n) segs = true := by
  unfold supMay supN fitsL lenOk
  simp [segsOk, h0, h1]
theorem supV_N (n : Int) : supV (supN n) none 0 none 0 = .agg #[.int .i64 n, .int .i64 0, .slice none 0 0, .int .i64 0, .int .u32 0, .slice none 0 0, .int .i64 0, .int .u32 0] := rfl
theorem writeN {w0 w : World} {g n : Nat} {P : Nat → Prop} {d : DSt} (hL : Live w0 w g P n d) (hn : n < 1000) (ho : d.ops < 1000) (slot : Nat) (sl : Int) (hsl : sl = (slot : Int)) (hs : slot ≤ 1) (k : Int) (h0 : 0 ≤ k) (h1 : k ≤ 2147483647) {r : Int × DSt} (hr : wrK d (slot : Int) (bytesB (supN k)) 4 = r) :
    Calls Try.prog 32 #[.pointer (some ⟨g, 0, none⟩), .int .i64 sl, .agg #[.int .i64 k, .int .i64 0, .slice none 0 0, .int .i64 0, .int .u32 0, .slice none 0 0, .int .i64 0, .int .u32 0]] w (SupWPost w0 g n P r w) := by
  subst hr hsl
  have h := super_write w0 g n P d slot (supN k) none 0 none 0 w hL (by omega) (by omega) hs (Rd.nil _ _) (Rd.nil _ _) (fun x h => by cases h) (fun x h => by cases h) (fun ad e => by cases e) (fun ad e => by cases e) (supN_may k h0 h1 96)
  rw [supV_N] at h
  exact h
theorem mayN (w : World) : Calls Try.prog 56 #[.agg #[.int .i64 0, .int .i64 0, .slice none 0 0, .int .i64 0, .int .u32 0, .slice none 0 0, .int .i64 0, .int .u32 0], .int .i64 0] w fun e w' => e = .returned (.bool true) ∧ Below w.heap.size w w' := by
  have h := super_may (supN 0) 0 none 0 none 0 w (Rd.nil _ _) (Rd.nil _ _) (fun x h => by cases h) (fun x h => by cases h) (fun ad e => by cases e) (fun ad e => by cases e) (by simp [supN]) (by simp [supN])
  rw [supV_N, supN_may 0 (by omega) (by omega)] at h
  exact h
def st35 : DSt := liveD (List.replicate 8 zeros64) (caSlot (caSlot (fun _ => none) 0 (bytesB (supN 3)) 4) 1 (bytesB (supN 5)) 4) 8
theorem bytesN_len (n : Int) (h0 : 0 ≤ n) (h1 : n ≤ 2147483647) : (bytesB (supN n)).length = 256 := bytesB_len _ (mayF _ (supN_may n h0 h1 96)).len
theorem wr35a : wrK (newD 8) ((0 : Nat) : Int) (bytesB (supN 3)) 4 = (0, liveD (List.replicate 8 zeros64) (caSlot (fun _ => none) 0 (bytesB (supN 3)) 4) 4) := by
  rw [newD_live, wr_live _ _ _ 0 _ (by simp) (by omega) (bytesN_len 3 (by omega) (by omega)) 4 (by omega)]
  rfl
theorem wr35b : wrK (liveD (List.replicate 8 zeros64) (caSlot (fun _ => none) 0 (bytesB (supN 3)) 4) 4) ((1 : Nat) : Int) (bytesB (supN 5)) 4 = (0, st35) := by
  rw [wr_live _ _ _ 1 _ (by simp) (by omega) (bytesN_len 5 (by omega) (by omega)) 4 (by omega)]
  rfl
theorem best35 : supBest st35 0 = (supN 5, 0) := by
  unfold st35
  rw [best_two _ _ _ _ _ (by simp) (bytesN_len 3 (by omega) (by omega)) (bytesN_len 5 (by omega) (by omega)), (parseB_iff _ 0 (supN 3)).2 ⟨supN_may 3 (by omega) (by omega) _, rfl⟩, (parseB_iff _ 0 (supN 5)).2 ⟨supN_may 5 (by omega) (by omega) _, rfl⟩]
  rfl
theorem bestN {w0 w : World} {g n : Nat} {P : Nat → Prop} (hL : Live w0 w g P n st35) :
    Calls Try.prog 35 #[.pointer (some ⟨g, 0, none⟩), .int .i64 0] w fun e w' => ∃ A c A2 c2, e = .returned (.tuple #[.agg #[.int .i64 5, .int .i64 0, .slice A 0 c, .int .i64 0, .int .u32 0, .slice A2 0 c2, .int .i64 0, .int .u32 0], .int .i64 0]) ∧ Below w.heap.size w w' := by
  refine (super_best w0 g n P st35 0 w hL).mono ?_
  rintro e w' ⟨A, c, A2, c2, rfl, -, -, hb⟩
  rw [best35]
  exact ⟨A, c, A2, c2, rfl, hb⟩
set_option maxRecDepth 100000 in
set_option maxHeartbeats 4000000 in
theorem law5_awake (w : World) : Calls Try.prog 30 #[] w fun e w' => e = .returned (.bool true) ∧ Below w.heap.size w w' := by
  go_enter Try.func30, Try.ntmps30
  go_wp2_with fail
  (with_reducible refine (live_new (Below.refl _ _) 8 8 rfl (by omega)).mono ?_)
  rintro e w1 ⟨g, P, rfl, hd1, _, _⟩
  go_wp2_with fail
  (with_reducible refine (writeN hd1 (by omega) (by simp [newD]) 0 0 rfl (by omega) 3 (by omega) (by omega) wr35a).mono ?_)
  rintro e w2 ⟨rfl, hd2, -⟩
  go_wp2_with fail
  (with_reducible refine (writeN hd2 (by omega) (by simp [liveD]) 1 1 rfl (by omega) 5 (by omega) (by omega) wr35b).mono ?_)
  rintro e w3 ⟨rfl, hd3, -⟩
  go_wp2_with fail
  (with_reducible refine (bestN hd3).mono ?_)
  rintro e w4 ⟨A, c, A2, c2, rfl, hb4⟩
  go_wp2_with fail
  (with_reducible refine (mayN _).mono ?_)
  rintro e w5 ⟨rfl, hb5⟩
  have hb6 := bn (bal (bn hd3.bel hb4) _) hb5
  go_wp2
  go_ret
  exact ⟨rfl, hb6⟩
end Go.Proofs.Ytangfnenfhkokaa
