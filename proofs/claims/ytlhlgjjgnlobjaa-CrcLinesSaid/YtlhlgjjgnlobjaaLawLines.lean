/-
  CrcLines: the walk of the law.
-/
import Derived.Test.YtlhlgjjgnlobjaaLawA
set_option linter.unusedSimpArgs false
set_option linter.unusedVariables false
namespace Go.Proofs.Ytlhlgjjgnlobjaa
open Go.RowKit

theorem xor8_of (a b : UInt8) : bits .xor .u8 (a.toNat : Int) (b.toNat : Int) = ((a.toNat ^^^ b.toNat : Nat) : Int) :=
  (bits_xor8 a.toNat b.toNat a.toNat_lt b.toNat_lt).1
def mix (a b d : List UInt8) (n k : Nat) : List UInt8 := (List.range n).map fun i => if i < k then a.getD i 0 ^^^ b.getD i 0 ^^^ d.getD i 0 else 0
theorem mix_zero (a b d : List UInt8) (n : Nat) : (mix a b d n 0).map eb = List.replicate n (.int .u8 0) := by
  unfold mix
  apply List.ext_getElem
  · simp
  · intro i h1 h2
    simp [eb]
theorem mix_set (a b d : List UInt8) (n k : Nat) (hk : k < n) (ha : n ≤ a.length) (hb : n ≤ b.length) (hd : n ≤ d.length) :
    ((mix a b d n k).map eb).set k (.int .u8 (((a[k]'(by omega)) ^^^ (b[k]'(by omega)) ^^^ (d[k]'(by omega))).toNat : Int)) = (mix a b d n (k + 1)).map eb := by
  unfold mix
  apply List.ext_getElem
  · simp
  · intro i h1 h2
    have hi : i < n := by simpa using h2
    rw [List.getElem_set]
    by_cases e : k = i
    · subst e
      simp [eb, List.getD_eq_getElem?_getD, List.getElem?_eq_getElem (show k < a.length by omega), List.getElem?_eq_getElem (show k < b.length by omega), List.getElem?_eq_getElem (show k < d.length by omega)]
    · rw [if_neg e]
      simp only [List.getElem_map, List.getElem_range]
      by_cases h : i < k
      · rw [if_pos h, if_pos (by omega)]
      · rw [if_neg h, if_neg (by omega)]

theorem mix_all (a b d : List UInt8) (n : Nat) (ha : n ≤ a.length) (hb : n ≤ b.length) (hd : n ≤ d.length) :
    mix a b d n n = (List.range n).map fun i => (a.take n).getD i 0 ^^^ (b.take n).getD i 0 ^^^ (d.take n).getD i 0 := by
  unfold mix
  apply List.map_congr_left
  intro i hi
  have : i < n := by simpa using hi
  rw [if_pos this]
  simp [List.getD_eq_getElem?_getD, List.getElem?_take, this]
theorem lines_sum (a b d : List UInt8) (n : Nat) (ha : n ≤ a.length) (hb : n ≤ b.length) (hd : n ≤ d.length) :
    Crc.next 0#32 (a.take n) ^^^ Crc.next 0#32 (b.take n) ^^^ Crc.next 0#32 (d.take n) = Crc.next 0#32 (mix a b d n n) := by
  rw [mix_all a b d n ha hb hd]
  have h := Crc.run_xor3 0#32 (a.take n) (b.take n) (d.take n) n (by simp; omega) (by simp; omega) (by simp; omega) (~~~0#32) (~~~0#32) (~~~0#32)
  have e : (~~~0#32 : Crc.W) ^^^ ~~~0#32 ^^^ ~~~0#32 = ~~~0#32 := by decide
  rw [e] at h
  unfold Crc.next
  rw [h]
  apply BitVec.eq_of_getLsbD_eq
  intro i hi
  simp only [BitVec.getLsbD_xor, BitVec.getLsbD_not, hi, decide_true, Bool.true_and]
  generalize (Crc.run (~~~0#32) (a.take n)).getLsbD i = p
  generalize (Crc.run (~~~0#32) (b.take n)).getLsbD i = q
  generalize (Crc.run (~~~0#32) (d.take n)).getLsbD i = r
  cases p <;> cases q <;> cases r <;> rfl

set_option maxRecDepth 100000 in
set_option maxHeartbeats 2000000 in
theorem lines_walk (A0 : Option Addr) (m0 c0 : Nat) (l0 : List UInt8) (hm0 : l0.length = m0) (A1 : Option Addr) (m1 c1 : Nat) (l1 : List UInt8) (hm1 : l1.length = m1) (A2 : Option Addr) (m2 c2 : Nat) (l2 : List UInt8) (hm2 : l2.length = m2) (w : World)
    (hl0 : l0.length ≤ maxLen) (hl1 : l1.length ≤ maxLen) (hl2 : l2.length ≤ maxLen) (hc0 : l0.length ≤ c0) (hc1 : l1.length ≤ c1) (hc2 : l2.length ≤ c2) (hr0 : RB w A0 l0) (hr1 : RB w A1 l1) (hr2 : RB w A2 l2) :
    Calls Try.prog 7 #[.slice A0 m0 c0, .slice A1 m1 c1, .slice A2 m2 c2] w fun e w' => e = .returned (.bool true) ∧ Below w.heap.size w w' := by
  subst hm0 hm1 hm2
  unfold maxLen at hl0 hl1 hl2
  obtain ⟨m, hm⟩ : ∃ m : Nat, (if l2.length < l1.length then (l2.length : Int) else (l1.length : Int)) = (m : Int) := ⟨if l2.length < l1.length then l2.length else l1.length, by split <;> rfl⟩
  obtain ⟨n, hn⟩ : ∃ n : Nat, (if m < l0.length then (m : Int) else (l0.length : Int)) = (n : Int) := ⟨if m < l0.length then m else l0.length, by split <;> rfl⟩
  have hn0 : n ≤ l0.length := by split at hn <;> omega
  have hnm : n ≤ m := by split at hn <;> omega
  have hm1 : m ≤ l1.length := by split at hm <;> omega
  have hm2 : m ≤ l2.length := by split at hm <;> omega
  by_cases h5 : 2000 < n
  · go_enter Try.func7, Try.ntmps7
    go_wp2_with (go_at_call 15; refine (law1_awake _).mono ?_; rintro e w1 ⟨rfl, hb1⟩)
    go_ret
    exact ⟨rfl, hb1⟩
  · have hmk := make_run (P := Try.prog) 22 5 (.int .u8 0) 1 Try.underlying22 info_u8 rfl (n : Int) (by omega) (by omega) (by omega)
    go_enter Try.func7, Try.ntmps7
    go_wp2_with (go_at_call 15; refine (law1_awake _).mono ?_; rintro e w1 ⟨rfl, hb1⟩)
    have hB0 : Blk (w1.alloc (.cells (Array.replicate n (Value.int .u8 0)) 5)) w1.heap.size 5 (Array.replicate n (Value.int .u8 0)) := Blk.new _ _ _
    have hbw := bal hb1 (.cells (Array.replicate n (Value.int .u8 0)) 5)
    have hg0 := hb1.size
    generalize w1.alloc (.cells (Array.replicate n (Value.int .u8 0)) 5) = W at *
    generalize w1.heap.size = g at *
    clear hmk hm hn
    have e0 : Array.replicate n (Value.int .u8 0) = ((mix l0 l1 l2 n 0).map eb).toArray := by
      rw [mix_zero]; simp
    rw [e0] at hB0
    clear e0
    go_loopw [9] (fun i wr => ∃ k : Nat, k ≤ n ∧ i = .int .i64 k ∧ Blk wr g 5 ((mix l0 l1 l2 n k).map eb).toArray ∧ Below w.heap.size w wr) (fun i _ => n - (intOf i).toNat)
    case atStart => exact ⟨0, by omega, rfl, hB0, hbw⟩
    case round =>
      clear hB0 hbw
      obtain ⟨k, hk, rfl, hB, hb⟩ := hrel
      by_cases hlt : k < n
      · have q0 := (hr0.below hb)
        have q1 := (hr1.below hb)
        have q2 := (hr2.below hb)
        obtain ⟨ad0, rfl⟩ := q0.some_of (by omega)
        obtain ⟨ad1, rfl⟩ := q1.some_of (by omega)
        obtain ⟨ad2, rfl⟩ := q2.some_of (by omega)
        have x0 := q0.at_ k (by omega)
        have x1 := q1.at_ k (by omega)
        have x2 := q2.at_ k (by omega)
        have hcell : wr.cell? ⟨g, k, none⟩ = some _ := (hB.cell k).trans (Array.getElem?_eq_getElem (by simp [mix]; exact hlt))
        have hfz := hB.frozen k
        have e1 := xor8_of (l0[k]'(by omega)) (l1[k]'(by omega))
        have e2 := xor8_of ((l0[k]'(by omega)) ^^^ (l1[k]'(by omega))) (l2[k]'(by omega))
        rw [UInt8.toNat_xor] at e2
        have hset := Lib.hid (mix_set l0 l1 l2 n k hlt (by omega) (by omega) (by omega))
        generalize hy0 : l0[k]'(by omega) = y0 at *
        generalize hy1 : l1[k]'(by omega) = y1 at *
        generalize hy2 : l2[k]'(by omega) = y2 at *
        generalize (List.map eb (mix l0 l1 l2 n k)).toArray[k]'(by simp [mix]; exact hlt) = old at *
        clear hy0 hy1 hy2 q0 q1 q2
        go_wp2
        go_region
        go_wp2
        go_roundw
        case rel =>
          refine ⟨k + 1, by omega, by go_num, ?_, (hb.setCell hg0 _).drew⟩
          have := hB.set k (.int .u8 ((y0 ^^^ y1 ^^^ y2).toNat : Int))
          rw [List.setIfInBounds_toArray, hset.out, UInt8.toNat_xor, UInt8.toNat_xor] at this
          exact this
        case measure => simp [intOf]; try omega
      · obtain rfl : k = n := by omega
        clear hlt
        have t0 := (hr0.below hb).take k
        have t1 := (hr1.below hb).take k
        have t2 := (hr2.below hb).take k
        have tx : RB wr (some ⟨g, 0, none⟩) (mix l0 l1 l2 k k) := (Blk.own hB (Nat.zero_le _) (Nat.le_refl _) (by simp) (by simp [mix]; unfold maxLen; omega) (List.take_of_length_le (by simp))).bytes_at
        have s0 := cut_to (P := Try.prog) 22 5 Try.underlying22 size_u8 A0 l0.length c0 k (by omega) (by omega)
        have s1 := cut_to (P := Try.prog) 22 5 Try.underlying22 size_u8 A1 l1.length c1 k (by omega) (by omega)
        have s2 := cut_to (P := Try.prog) 22 5 Try.underlying22 size_u8 A2 l2.length c2 k (by omega) (by omega)
        have n0 : (l0.take k).length = k := by simp; omega
        have n1 : (l1.take k).length = k := by simp; omega
        have n2 : (l2.take k).length = k := by simp; omega
        have nx : (mix l0 l1 l2 k k).length = k := by simp [mix]
        have hsum := lines_sum l0 l1 l2 k (by omega) (by omega) (by omega)
        have N0 := Lib.hid n0
        have N1 := Lib.hid n1
        have N2 := Lib.hid n2
        have NX := Lib.hid nx
        have HS := Lib.hid hsum
        clear n0 n1 n2 nx hsum
        have hx1 := bits_xor32 (Crc.next 0#32 (l0.take k)) (Crc.next 0#32 (l1.take k))
        have hx2 := bits_xor32 (Crc.next 0#32 (l0.take k) ^^^ Crc.next 0#32 (l1.take k)) (Crc.next 0#32 (l2.take k))
        rw [HS.out] at hx2
        rw [BitVec.toNat_xor] at hx1 hx2
        have hk := bdr (Below.refl wr.heap.size wr)
        go_wp2
        go_region_held (fun w2 => Below wr.heap.size wr w2) (first | exact hk | assumption) (first
          | (go_at_call 16; (with_reducible refine (crc_sum A0 k c0 (l0.take k) _ N0.out (by rw [N0.out]; unfold maxLen; omega) (t0.below hk)).mono ?_); rintro e w' ⟨rfl, hb'⟩; replace hk := bn hk hb'; clear hb')
          | (go_at_call 16; (with_reducible refine (crc_sum A1 k c1 (l1.take k) _ N1.out (by rw [N1.out]; unfold maxLen; omega) (t1.below hk)).mono ?_); rintro e w' ⟨rfl, hb'⟩; replace hk := bn hk hb'; clear hb')
          | (go_at_call 16; (with_reducible refine (crc_sum A2 k c2 (l2.take k) _ N2.out (by rw [N2.out]; unfold maxLen; omega) (t2.below hk)).mono ?_); rintro e w' ⟨rfl, hb'⟩; replace hk := bn hk hb'; clear hb')
          | (go_at_call 16; (with_reducible refine (crc_sum (some ⟨g, 0, none⟩) k k (mix l0 l1 l2 k k) _ NX.out (by rw [NX.out]; unfold maxLen; omega) (tx.below hk)).mono ?_); rintro e w' ⟨rfl, hb'⟩; replace hk := bn hk hb'; clear hb'))
        go_wp2
        go_ret
        exact ⟨rfl, bn hb hk⟩
end Go.Proofs.Ytlhlgjjgnlobjaa
