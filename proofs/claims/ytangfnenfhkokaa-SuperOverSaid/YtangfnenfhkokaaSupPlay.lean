/-
  Slots on a disk: what a write leaves there, what a read finds.
-/
import Derived.Test.YtangfnenfhkokaaSupSums
import Derived.Test.YtangfnenfhkokaaSupE
set_option linter.unusedSimpArgs false
set_option linter.unusedVariables false
namespace Go.Proofs.Ytangfnenfhkokaa
open Go.RowKit Go.Maps

/-- sector i of a slot's bytes -/
def piece (b : List UInt8) (i : Nat) : List UInt8 := (b.drop (i * 64)).take 64
theorem piece_len {b : List UInt8} (hb : b.length = 256) {i : Nat} (hi : i < 4) : (piece b i).length = 64 := by
  unfold piece
  rw [List.length_take, List.length_drop]
  omega
theorem pieces_join {b : List UInt8} (hb : b.length = 256) : ((List.range 4).map (piece b)).flatten = b := by
  have h := cuts_join 64 b 4
  rw [List.take_of_length_le (by omega)] at h
  exact h
/-- the cache after k sectors of a slot have been written -/
def caSlot (ca : Int → Option (List UInt8)) (slot : Nat) (b : List UInt8) (k : Nat) : Int → Option (List UInt8) :=
  fun y => if (slot : Int) * 4 ≤ y ∧ y < (slot : Int) * 4 + (k : Int) then some (piece b (y - (slot : Int) * 4).toNat) else ca y
theorem wr_live (fl : List (List UInt8)) (ca : Int → Option (List UInt8)) (m : Int) (slot : Nat) (b : List UInt8) (hf : fl.length = 8) (hs : slot ≤ 1) (hb : b.length = 256) :
    ∀ k : Nat, k ≤ 4 → wrK (liveD fl ca m) (slot : Int) b k = (0, liveD fl (caSlot ca slot b k) (m + (k : Int)))
  | 0, _ => by
    have : caSlot ca slot b 0 = ca := by
      funext y
      unfold caSlot
      rw [if_neg (by omega)]
    rw [this, wrK]
    simp
  | k + 1, hk => by
    have ih := wr_live fl ca m slot b hf hs hb k (by omega)
    rw [wrK_succ (by rw [ih]), ih]
    rw [write_live (k := slot * 4 + k) _ (by simp) (by omega) (by rw [List.length_take, List.length_drop]; omega)]
    have : (fun y => if y = (slot : Int) * 4 + (k : Int) then some ((b.drop (k * 64)).take 64) else caSlot ca slot b k y) = caSlot ca slot b (k + 1) := by
      funext y
      unfold caSlot
      by_cases e : y = (slot : Int) * 4 + (k : Int)
      · subst e
        rw [if_pos rfl, if_pos (by omega)]
        unfold piece
        rw [show ((slot : Int) * 4 + (k : Int) - (slot : Int) * 4).toNat = k by omega]
      · rw [if_neg e]
        by_cases c : (slot : Int) * 4 ≤ y ∧ y < (slot : Int) * 4 + (k : Int)
        · rw [if_pos c, if_pos (by omega)]
        · rw [if_neg c, if_neg (by omega)]
    rw [this]
    congr 2
    simp
    omega
theorem cur_slot (fl : List (List UInt8)) (ca : Int → Option (List UInt8)) (m : Int) (slot : Nat) (b : List UInt8) (i : Nat) (hi : i < 4) :
    curD (liveD fl (caSlot ca slot b 4) m) ((slot : Int) * 4 + (i : Int)) = piece b i := by
  have : caSlot ca slot b 4 ((slot : Int) * 4 + (i : Int)) = some (piece b i) := by
    unfold caSlot
    rw [if_pos (by omega), show ((slot : Int) * 4 + (i : Int) - (slot : Int) * 4).toNat = i by omega]
  unfold curD liveD
  simp only [this]
  rfl
theorem ca_other (ca : Int → Option (List UInt8)) (slot : Nat) (b : List UInt8) (y : Int) (h : y < (slot : Int) * 4 ∨ (slot : Int) * 4 + 4 ≤ y) : caSlot ca slot b 4 y = ca y := by
  unfold caSlot
  rw [if_neg (by omega)]
theorem cur_other (fl : List (List UInt8)) (ca : Int → Option (List UInt8)) (m m' : Int) (slot : Nat) (b : List UInt8) (y : Int) (h : y < (slot : Int) * 4 ∨ (slot : Int) * 4 + 4 ≤ y) :
    curD (liveD fl (caSlot ca slot b 4) m) y = curD (liveD fl ca m') y := by
  unfold curD liveD
  simp only [ca_other ca slot b y h]
/-- a slot whose sectors hold b reads as b does -/
theorem sup_read_live {d : DSt} (hd : d.dead = false) (hf : d.fl.length = 8) (slot : Nat) (hs : slot ≤ 1) {b : List UInt8} (hb : b.length = 256) (h : ∀ i : Nat, i < 4 → curD d ((slot : Int) * 4 + (i : Int)) = piece b i) (segs : Int) (sl : Int) (hsl : sl = (slot : Int)) :
    supRead d sl segs = parseB b segs := by
  subst hsl
  have hr : ∀ i : Nat, i < 4 → readD d ((slot : Int) * 4 + (i : Int)) = (piece b i, 0) := fun i hi => by
    rw [readD_live hd (k := slot * 4 + i) _ (by simp) (by omega), h i hi]
  have hsec : secs d (slot : Int) 4 = (List.range 4).map (piece b) := by
    unfold secs
    apply List.map_congr_left
    intro i hi
    rw [hr i (List.mem_range.1 hi)]
  unfold supRead
  rw [hsec, pieces_join hb, if_pos]
  rw [Bool.and_eq_true, decide_eq_true_iff, List.all_eq_true]
  refine ⟨by omega, fun i hi => ?_⟩
  rw [hr i (List.mem_range.1 hi)]
  rfl
/-- the sign of a slot -/
theorem bytesB_sign (s : Sup) (h : (penB s).length ≤ 220) : (bytesB s)[4]? = some 84 := by
  have h1 := inB_at (bytesB s) (bytesB_len s h) 0 (by omega)
  rw [bytesB_inB s h] at h1
  rw [← h1]
  unfold plainB midB penB
  simp
theorem zeros_none (segs : Int) : parseB (List.replicate 256 0) segs = none := by
  cases e : parseB (List.replicate 256 0) segs with
  | none => rfl
  | some s =>
    obtain ⟨h1, h2⟩ := (parseB_iff _ _ _).1 e
    have h3 := bytesB_sign s (mayF s (supMay_mono s (min segs 96) 96 (by omega) h1)).len
    rw [h2, List.getElem?_replicate] at h3
    cases h3
end Go.Proofs.Ytangfnenfhkokaa
