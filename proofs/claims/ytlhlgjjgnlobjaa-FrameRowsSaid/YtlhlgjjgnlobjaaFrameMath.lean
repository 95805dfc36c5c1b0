/-
  Plain facts on frames: what a frame is, what the bytes at the beginning of a row are.
-/
import Derived.Test.YtlhlgjjgnlobjaaCrcMath
set_option linter.unusedSimpArgs false
set_option linter.unusedVariables false
namespace Go.Proofs.Ytlhlgjjgnlobjaa
namespace Frame
open Crc

/-- how many bytes the frame of a record of n bytes has; 0: there is none -/
def size (n : Int) : Int := if n < 1 then 0 else if 16384 < n then 0 else n + 16
def head (boot : W) (l : List UInt8) : List UInt8 := four (BitVec.ofNat 32 l.length) ++ four boot
/-- the frame of l behind last -/
def mk (last : W) (boot : W) (l : List UInt8) : List UInt8 := head boot l ++ four (next last (head boot l)) ++ l ++ four (next last l)
theorem head_length (boot : W) (l : List UInt8) : (head boot l).length = 8 := rfl
theorem mk_length (last : W) (boot : W) (l : List UInt8) : (mk last boot l).length = l.length + 16 := by
  simp [mk, head_length, four_length]; omega
def num (l : List UInt8) : W := le4 (l.getD 0 0) (l.getD 1 0) (l.getD 2 0) (l.getD 3 0)
theorem num_four (x : W) (l : List UInt8) : num (four x ++ l) = x := (four_iff x _ _ _ _).1 rfl
theorem four_num (l : List UInt8) (h : 4 ≤ l.length) : four (num l) = l.take 4 := by
  match l, h with
  | a :: b :: c :: d :: l, _ => exact (four_iff _ a b c d).2 rfl

/-- the record at the beginning of b, behind last: it, its boot, the next last -/
def read (last : W) (b : List UInt8) : Option (List UInt8 × W × W) :=
  if b.length < 12 then none
  else if size (num b).toNat = 0 ∨ (b.length : Int) < size (num b).toNat then none
  else if (num (b.drop 4)).toNat < 2147483648 ∧ mk last (num (b.drop 4)) ((b.drop 12).take (num b).toNat) = b.take ((num b).toNat + 16) then
    some ((b.drop 12).take (num b).toNat, num (b.drop 4), next last ((b.drop 12).take (num b).toNat))
  else none
theorem size_ok (n : Int) (h1 : 1 ≤ n) (h2 : n ≤ 16384) : size n = n + 16 := by unfold size; rw [if_neg (by omega), if_neg (by omega)]
theorem mk_take (last boot : W) (l more : List UInt8) : (mk last boot l ++ more).take (l.length + 16) = mk last boot l := by
  rw [← mk_length last boot l, List.take_left']
  rfl
theorem mk_num (last boot : W) (l more : List UInt8) : num (mk last boot l ++ more) = BitVec.ofNat 32 l.length := by
  unfold mk head
  simp only [List.append_assoc]
  exact num_four _ _
theorem mk_boot (last boot : W) (l more : List UInt8) : num ((mk last boot l ++ more).drop 4) = boot := by
  unfold mk head
  simp only [List.append_assoc]
  rw [List.drop_append_of_le_length (by simp [four_length]), show (four (BitVec.ofNat 32 l.length)).drop 4 = [] from rfl, List.nil_append]
  exact num_four _ _
theorem mk_data (last boot : W) (l more : List UInt8) : ((mk last boot l ++ more).drop 12).take l.length = l := by
  have h : mk last boot l ++ more = (head boot l ++ four (next last (head boot l))) ++ (l ++ (four (next last l) ++ more)) := by
    unfold mk; simp only [List.append_assoc]
  rw [h]
  have hl : (head boot l ++ four (next last (head boot l))).length = 12 := rfl
  rw [← hl, List.drop_left, List.take_left]
/-- what was framed is read, whatever stands behind -/
theorem read_mk (last boot : W) (hb : boot.toNat < 2147483648) (l more : List UInt8) (h1 : 1 ≤ l.length) (h2 : l.length ≤ 16384) : read last (mk last boot l ++ more) = some (l, boot, next last l) := by
  have hlen : (mk last boot l ++ more).length = l.length + 16 + more.length := by rw [List.length_append, mk_length]
  have hN : (num (mk last boot l ++ more)).toNat = l.length := by rw [mk_num, BitVec.toNat_ofNat]; omega
  unfold read
  rw [if_neg (by omega), hN, size_ok _ (by omega) (by omega), if_neg (by omega), mk_boot, mk_data, mk_take, if_pos ⟨hb, rfl⟩]

theorem read_short (last : W) (l : List UInt8) (h : l.length < 17) : read last l = none := by
  unfold read
  by_cases h12 : l.length < 12
  · rw [if_pos h12]
  · rw [if_neg h12, if_pos]
    unfold size
    by_cases h1 : ((num l).toNat : Int) < 1
    · rw [if_pos h1]; simp
    · rw [if_neg h1]
      by_cases h2 : (16384 : Int) < (num l).toNat
      · rw [if_pos h2]; simp
      · rw [if_neg h2]; omega
theorem read_bad (last : W) (l : List UInt8) (h : (num l).toNat < 1 ∨ 16384 < (num l).toNat ∨ 2147483648 ≤ (num (l.drop 4)).toNat ∨ l.length < (num l).toNat + 16) : read last l = none := by
  unfold read
  by_cases h12 : l.length < 12
  · rw [if_pos h12]
  · rw [if_neg h12]
    by_cases hs : size (num l).toNat = 0 ∨ (l.length : Int) < size (num l).toNat
    · rw [if_pos hs]
    · rw [if_neg hs, if_neg]
      rintro ⟨h1, _⟩
      unfold size at hs
      rcases h with h | h | h | h
      · rw [if_pos (by omega)] at hs; simp at hs
      · rw [if_neg (by omega), if_pos (by omega)] at hs; simp at hs
      · omega
      · by_cases h3 : ((num l).toNat : Int) < 1
        · rw [if_pos h3] at hs; simp at hs
        · rw [if_neg h3] at hs
          by_cases h4 : (16384 : Int) < (num l).toNat
          · rw [if_pos h4] at hs; simp at hs
          · rw [if_neg h4] at hs; omega
theorem read_good (last : W) (l : List UInt8) (h1 : 1 ≤ (num l).toNat) (h2 : (num l).toNat ≤ 16384) (h3 : (num (l.drop 4)).toNat < 2147483648) (h4 : (num l).toNat + 16 ≤ l.length) :
    read last l = if mk last (num (l.drop 4)) ((l.drop 12).take (num l).toNat) = l.take ((num l).toNat + 16) then some ((l.drop 12).take (num l).toNat, num (l.drop 4), next last ((l.drop 12).take (num l).toNat)) else none := by
  unfold read
  rw [if_neg (by omega), size_ok _ (by omega) (by omega), if_neg (by omega)]
  by_cases h : mk last (num (l.drop 4)) ((l.drop 12).take (num l).toNat) = l.take ((num l).toNat + 16)
  · rw [if_pos ⟨h3, h⟩, if_pos h]
  · rw [if_neg (fun hh => h hh.2), if_neg h]

end Frame
end Go.Proofs.Ytlhlgjjgnlobjaa
