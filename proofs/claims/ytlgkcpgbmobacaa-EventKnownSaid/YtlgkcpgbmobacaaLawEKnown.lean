/-
  What EventKnown calls and gives.
-/
import Derived.Test.YtlgkcpgbmobacaaLaw12P
set_option linter.unusedSimpArgs false
set_option linter.unusedVariables false
namespace Go.Proofs.Ytlgkcpgbmobacaa
open Go.RowKit

def rep (k : Nat) : List UInt8 := List.replicate k 97
theorem rep_length (k : Nat) : (rep k).length = k := by simp [rep]
theorem rep_next (k : Nat) : (⟨(rep k).toArray⟩ : ByteArray) ++ ⟨#[97]⟩ = ⟨(rep (k + 1)).toArray⟩ := by
  have : rep (k + 1) = rep k ++ [97] := by unfold rep; rw [List.replicate_succ']
  rw [this]
  apply ByteArray.ext
  simp
theorem rep_none : (⟨#[]⟩ : ByteArray) = ⟨(rep 0).toArray⟩ := rfl
def strLen : Value → Nat
  | .string b => b.size
  | _ => 0

/-- the k-th item of a row of bad ones -/
def BadAt (W : World) (S k : Nat) : Prop := ∃ (it : Item) (A5 : Option Addr) (c5 : Nat) (A6 : Option Addr) (c6 : Nat),
  W.cell? ⟨S, k * 7, none⟩ = some (.int .i64 it.op) ∧ W.cell? ⟨S, k * 7 + 1, none⟩ = some (.string ⟨it.path.toArray⟩) ∧ W.cell? ⟨S, k * 7 + 2, none⟩ = some (.string ⟨it.to_.toArray⟩) ∧ W.cell? ⟨S, k * 7 + 3, none⟩ = some (.int .i64 it.off) ∧ W.cell? ⟨S, k * 7 + 4, none⟩ = some (.int .i64 it.size) ∧
  W.cell? ⟨S, k * 7 + 5, none⟩ = some (.slice A5 it.data c5) ∧ W.cell? ⟨S, k * 7 + 6, none⟩ = some (.slice A6 it.parts.length c6) ∧ may it = false ∧ Rd W A6 (pcs it.parts) ∧ it.parts.length ≤ 1
theorem enc_known3 : enc ⟨3, [47, 97], [], 300, 0, 0, [⟨0, 5, 7, 1⟩]⟩ = [3, 2, 47, 97, 172, 2, 1, 5, 7, 1] := by
  have h2 : num 2 = [2] := num_small 2 (by decide)
  have h1 : num 1 = [1] := num_small 1 (by decide)
  have h5 : num 5 = [5] := num_small 5 (by decide)
  have h7 : num 7 = [7] := num_small 7 (by decide)
  simp [enc, encParts, encPart, h1, h2, h5, h7, num_300]
theorem enc_known5 : enc ⟨5, [], [120], 0, 0, 0, []⟩ = [5, 0, 1, 120] := by
  have h1 : num 1 = [1] := num_small 1 (by decide)
  have h0 : num 0 = [0] := num_small 0 (by decide)
  simp [enc, h1, h0]
theorem field_parts (v0 v1 v2 v3 v4 v5 v6 : Value) (W : World) : (Instr.field 68 (.agg #[v0, v1, v2, v3, v4, v5, v6]) 1).run Try.prog W = .ok v6 W := by kernel_rfl

set_option maxRecDepth 100000 in
set_option maxHeartbeats 1000000 in
theorem eknown_walk (w : World) :
    Calls Try.prog 10 #[] w fun e w' => e = .returned (.bool true) ∧ Below w.heap.size w w' := by
  have hfld := field_parts
  go_enter Try.func10, Try.ntmps10
  go_wp2_with fail
  refine (law14_awake _).mono ?_
  rintro e w1 ⟨rfl, hb1⟩
  go_wp2
  go_loop [1] (fun s => ∃ k : Nat, k ≤ 65 ∧ s = .string ⟨(rep k).toArray⟩) (fun s => 65 - strLen s)
  case atStart => exact ⟨0, by omega, rfl⟩
  case round =>
    obtain ⟨k, hk, rfl⟩ := hrel
    have hlen := rep_length k
    have hnext := rep_next k
    by_cases hlt : k < 65
    · have hlt2 : (k : Int) ≤ 64 := by omega
      go_wp2
      go_round
      case rel => exact ⟨k + 1, by omega, by first | rw [hnext] | rfl⟩
      case measure =>
        first | rw [hnext] | skip
        simp [strLen, ByteArray.size, rep_length]
        omega
    · obtain rfl : k = 65 := by omega
      clear hnext
      generalize rep 65 = L at *
      have hm1 := fun W => law14_made ⟨0, [], [], 0, 0, 0, [⟨0, 1, 1, 0⟩]⟩ none 0 (some ⟨w1.heap.size + 1, 0, none⟩) 1 W (by decide)
      simp only [iv_eq, List.length_singleton] at hm1
      have HM1 := Lib.hid hm1
      clear hm1
      go_wp2_with fail
      (with_reducible refine (HM1.out _ ?_).mono ?_)
      · have h := Rd.lit (w1.alloc (.cells #[.int .u8 1] 5)) 81 (0, 0) (pcs [⟨0, 1, 1, 0⟩])
        rw [size_more] at h
        exact h
      rintro e w2 ⟨A1, c1, rfl, hr1, ha1, hb2⟩
      simp only [iv_eq, List.length_singleton]
      have hb02 := bn (bal (bal hb1 (.cells #[.int .u8 1] 5)) (.cells #[.int .i64 0, .int .i64 1, .int .i64 1, .int .i64 0] 81)) hb2
      clear hb2 HM1
      have hm1 := fun W => law14_made ⟨0, [], [], 0, 0, 0, [⟨0, 65, 1, 0⟩]⟩ none 0 (some ⟨w2.heap.size, 0, none⟩) 1 W (by decide)
      simp only [iv_eq, List.length_singleton] at hm1
      have HM1 := Lib.hid hm1
      clear hm1
      go_wp2_with fail
      (with_reducible refine (HM1.out _ ?_).mono ?_)
      · exact Rd.lit w2 81 (0, 0) (pcs [⟨0, 65, 1, 0⟩])
      rintro e w3 ⟨A2, c2, rfl, hr2, ha2, hb3⟩
      simp only [iv_eq, List.length_singleton]
      have hb03 := bn (bal hb02 (.cells #[.int .i64 0, .int .i64 65, .int .i64 1, .int .i64 0] 81)) hb3
      have hr13 := hr1.below (bn (bal (Below.refl _ _) (.cells #[.int .i64 0, .int .i64 65, .int .i64 1, .int .i64 0] 81)) hb3)
      clear hb3 HM1 hb02 hr1
      go_wp2
      have hB := Blk.new w3 68 #[.int .i64 0, .string ⟨([] : List UInt8).toArray⟩, .string ⟨([] : List UInt8).toArray⟩, .int .i64 0, .int .i64 0, .slice none 0 0, .slice none 0 0, .int .i64 9, .string ⟨([] : List UInt8).toArray⟩, .string ⟨([] : List UInt8).toArray⟩, .int .i64 0, .int .i64 0, .slice none 0 0, .slice none 0 0, .int .i64 1, .string ⟨([] : List UInt8).toArray⟩, .string ⟨([47, 97] : List UInt8).toArray⟩, .int .i64 0, .int .i64 0, .slice none 0 0, .slice none 0 0, .int .i64 1, .string ⟨([] : List UInt8).toArray⟩, .string ⟨([] : List UInt8).toArray⟩, .int .i64 1, .int .i64 0, .slice none 0 0, .slice none 0 0, .int .i64 3, .string ⟨([] : List UInt8).toArray⟩, .string ⟨([] : List UInt8).toArray⟩, .int .i64 0, .int .i64 1, .slice none 0 0, .slice none 0 0, .int .i64 3, .string ⟨([] : List UInt8).toArray⟩, .string ⟨([] : List UInt8).toArray⟩, .int .i64 0, .int .i64 0, .slice (some ⟨w1.heap.size, 0, none⟩) 1 1, .slice none 0 0, .int .i64 3, .string ⟨([] : List UInt8).toArray⟩, .string ⟨([] : List UInt8).toArray⟩, .int .i64 (-1), .int .i64 0, .slice none 0 0, .slice none 0 0, .int .i64 4, .string ⟨([] : List UInt8).toArray⟩, .string ⟨([] : List UInt8).toArray⟩, .int .i64 0, .int .i64 1099511627777, .slice none 0 0, .slice none 0 0, .int .i64 8, .string ⟨L.toArray⟩, .string ⟨([] : List UInt8).toArray⟩, .int .i64 0, .int .i64 0, .slice none 0 0, .slice none 0 0, .int .i64 2, .string ⟨([] : List UInt8).toArray⟩, .string ⟨([] : List UInt8).toArray⟩, .int .i64 0, .int .i64 0, .slice none 0 0, .slice A1 1 c1, .int .i64 3, .string ⟨([] : List UInt8).toArray⟩, .string ⟨([] : List UInt8).toArray⟩, .int .i64 0, .int .i64 0, .slice none 0 0, .slice A2 1 c2]
      have hb4 := bal (Below.refl w3.heap.size w3) (.cells #[.int .i64 0, .string ⟨([] : List UInt8).toArray⟩, .string ⟨([] : List UInt8).toArray⟩, .int .i64 0, .int .i64 0, .slice none 0 0, .slice none 0 0, .int .i64 9, .string ⟨([] : List UInt8).toArray⟩, .string ⟨([] : List UInt8).toArray⟩, .int .i64 0, .int .i64 0, .slice none 0 0, .slice none 0 0, .int .i64 1, .string ⟨([] : List UInt8).toArray⟩, .string ⟨([47, 97] : List UInt8).toArray⟩, .int .i64 0, .int .i64 0, .slice none 0 0, .slice none 0 0, .int .i64 1, .string ⟨([] : List UInt8).toArray⟩, .string ⟨([] : List UInt8).toArray⟩, .int .i64 1, .int .i64 0, .slice none 0 0, .slice none 0 0, .int .i64 3, .string ⟨([] : List UInt8).toArray⟩, .string ⟨([] : List UInt8).toArray⟩, .int .i64 0, .int .i64 1, .slice none 0 0, .slice none 0 0, .int .i64 3, .string ⟨([] : List UInt8).toArray⟩, .string ⟨([] : List UInt8).toArray⟩, .int .i64 0, .int .i64 0, .slice (some ⟨w1.heap.size, 0, none⟩) 1 1, .slice none 0 0, .int .i64 3, .string ⟨([] : List UInt8).toArray⟩, .string ⟨([] : List UInt8).toArray⟩, .int .i64 (-1), .int .i64 0, .slice none 0 0, .slice none 0 0, .int .i64 4, .string ⟨([] : List UInt8).toArray⟩, .string ⟨([] : List UInt8).toArray⟩, .int .i64 0, .int .i64 1099511627777, .slice none 0 0, .slice none 0 0, .int .i64 8, .string ⟨L.toArray⟩, .string ⟨([] : List UInt8).toArray⟩, .int .i64 0, .int .i64 0, .slice none 0 0, .slice none 0 0, .int .i64 2, .string ⟨([] : List UInt8).toArray⟩, .string ⟨([] : List UInt8).toArray⟩, .int .i64 0, .int .i64 0, .slice none 0 0, .slice A1 1 c1, .int .i64 3, .string ⟨([] : List UInt8).toArray⟩, .string ⟨([] : List UInt8).toArray⟩, .int .i64 0, .int .i64 0, .slice none 0 0, .slice A2 1 c2] 68)
      generalize w3.alloc (.cells #[.int .i64 0, .string ⟨([] : List UInt8).toArray⟩, .string ⟨([] : List UInt8).toArray⟩, .int .i64 0, .int .i64 0, .slice none 0 0, .slice none 0 0, .int .i64 9, .string ⟨([] : List UInt8).toArray⟩, .string ⟨([] : List UInt8).toArray⟩, .int .i64 0, .int .i64 0, .slice none 0 0, .slice none 0 0, .int .i64 1, .string ⟨([] : List UInt8).toArray⟩, .string ⟨([47, 97] : List UInt8).toArray⟩, .int .i64 0, .int .i64 0, .slice none 0 0, .slice none 0 0, .int .i64 1, .string ⟨([] : List UInt8).toArray⟩, .string ⟨([] : List UInt8).toArray⟩, .int .i64 1, .int .i64 0, .slice none 0 0, .slice none 0 0, .int .i64 3, .string ⟨([] : List UInt8).toArray⟩, .string ⟨([] : List UInt8).toArray⟩, .int .i64 0, .int .i64 1, .slice none 0 0, .slice none 0 0, .int .i64 3, .string ⟨([] : List UInt8).toArray⟩, .string ⟨([] : List UInt8).toArray⟩, .int .i64 0, .int .i64 0, .slice (some ⟨w1.heap.size, 0, none⟩) 1 1, .slice none 0 0, .int .i64 3, .string ⟨([] : List UInt8).toArray⟩, .string ⟨([] : List UInt8).toArray⟩, .int .i64 (-1), .int .i64 0, .slice none 0 0, .slice none 0 0, .int .i64 4, .string ⟨([] : List UInt8).toArray⟩, .string ⟨([] : List UInt8).toArray⟩, .int .i64 0, .int .i64 1099511627777, .slice none 0 0, .slice none 0 0, .int .i64 8, .string ⟨L.toArray⟩, .string ⟨([] : List UInt8).toArray⟩, .int .i64 0, .int .i64 0, .slice none 0 0, .slice none 0 0, .int .i64 2, .string ⟨([] : List UInt8).toArray⟩, .string ⟨([] : List UInt8).toArray⟩, .int .i64 0, .int .i64 0, .slice none 0 0, .slice A1 1 c1, .int .i64 3, .string ⟨([] : List UInt8).toArray⟩, .string ⟨([] : List UInt8).toArray⟩, .int .i64 0, .int .i64 0, .slice none 0 0, .slice A2 1 c2] 68) = W4 at *
      have hR1 := hr13.below hb4
      have hR2 := hr2.below hb4
      have hb04 := bn hb03 hb4
      have HLM : may ⟨8, L, [], 0, 0, 0, []⟩ = false := by
        cases hm : may ⟨8, L, [], 0, 0, 0, []⟩ with
        | false => rfl
        | true =>
          have := ((may_iff _).1 hm).1.2.2.1
          simp only at this
          omega
      generalize w3.heap.size = S at *
      have hall : ∀ k, k < 11 → BadAt W4 S k := by
        intro k hk
        match k, hk with
        | 0, _ => exact ⟨⟨0, [], [], 0, 0, 0, []⟩, none, 0, none, 0, hB.cell (0 * 7), hB.cell (0 * 7 + 1), hB.cell (0 * 7 + 2), hB.cell (0 * 7 + 3), hB.cell (0 * 7 + 4), hB.cell (0 * 7 + 5), hB.cell (0 * 7 + 6), (by decide +kernel), Rd.nil _ _, by simp⟩
        | 1, _ => exact ⟨⟨9, [], [], 0, 0, 0, []⟩, none, 0, none, 0, hB.cell (1 * 7), hB.cell (1 * 7 + 1), hB.cell (1 * 7 + 2), hB.cell (1 * 7 + 3), hB.cell (1 * 7 + 4), hB.cell (1 * 7 + 5), hB.cell (1 * 7 + 6), (by decide +kernel), Rd.nil _ _, by simp⟩
        | 2, _ => exact ⟨⟨1, [], [47, 97], 0, 0, 0, []⟩, none, 0, none, 0, hB.cell (2 * 7), hB.cell (2 * 7 + 1), hB.cell (2 * 7 + 2), hB.cell (2 * 7 + 3), hB.cell (2 * 7 + 4), hB.cell (2 * 7 + 5), hB.cell (2 * 7 + 6), (by decide +kernel), Rd.nil _ _, by simp⟩
        | 3, _ => exact ⟨⟨1, [], [], 1, 0, 0, []⟩, none, 0, none, 0, hB.cell (3 * 7), hB.cell (3 * 7 + 1), hB.cell (3 * 7 + 2), hB.cell (3 * 7 + 3), hB.cell (3 * 7 + 4), hB.cell (3 * 7 + 5), hB.cell (3 * 7 + 6), (by decide +kernel), Rd.nil _ _, by simp⟩
        | 4, _ => exact ⟨⟨3, [], [], 0, 1, 0, []⟩, none, 0, none, 0, hB.cell (4 * 7), hB.cell (4 * 7 + 1), hB.cell (4 * 7 + 2), hB.cell (4 * 7 + 3), hB.cell (4 * 7 + 4), hB.cell (4 * 7 + 5), hB.cell (4 * 7 + 6), (by decide +kernel), Rd.nil _ _, by simp⟩
        | 5, _ => exact ⟨⟨3, [], [], 0, 0, 1, []⟩, (some ⟨w1.heap.size, 0, none⟩), 1, none, 0, hB.cell (5 * 7), hB.cell (5 * 7 + 1), hB.cell (5 * 7 + 2), hB.cell (5 * 7 + 3), hB.cell (5 * 7 + 4), hB.cell (5 * 7 + 5), hB.cell (5 * 7 + 6), (by decide +kernel), Rd.nil _ _, by simp⟩
        | 6, _ => exact ⟨⟨3, [], [], -1, 0, 0, []⟩, none, 0, none, 0, hB.cell (6 * 7), hB.cell (6 * 7 + 1), hB.cell (6 * 7 + 2), hB.cell (6 * 7 + 3), hB.cell (6 * 7 + 4), hB.cell (6 * 7 + 5), hB.cell (6 * 7 + 6), (by decide +kernel), Rd.nil _ _, by simp⟩
        | 7, _ => exact ⟨⟨4, [], [], 0, 1099511627777, 0, []⟩, none, 0, none, 0, hB.cell (7 * 7), hB.cell (7 * 7 + 1), hB.cell (7 * 7 + 2), hB.cell (7 * 7 + 3), hB.cell (7 * 7 + 4), hB.cell (7 * 7 + 5), hB.cell (7 * 7 + 6), (by decide +kernel), Rd.nil _ _, by simp⟩
        | 8, _ => exact ⟨⟨8, L, [], 0, 0, 0, []⟩, none, 0, none, 0, hB.cell (8 * 7), hB.cell (8 * 7 + 1), hB.cell (8 * 7 + 2), hB.cell (8 * 7 + 3), hB.cell (8 * 7 + 4), hB.cell (8 * 7 + 5), hB.cell (8 * 7 + 6), HLM, Rd.nil _ _, by simp⟩
        | 9, _ => exact ⟨⟨2, [], [], 0, 0, 0, [⟨0, 1, 1, 0⟩]⟩, none, 0, A1, c1, hB.cell (9 * 7), hB.cell (9 * 7 + 1), hB.cell (9 * 7 + 2), hB.cell (9 * 7 + 3), hB.cell (9 * 7 + 4), hB.cell (9 * 7 + 5), hB.cell (9 * 7 + 6), (by decide +kernel), hR1, by simp⟩
        | 10, _ => exact ⟨⟨3, [], [], 0, 0, 0, [⟨0, 65, 1, 0⟩]⟩, none, 0, A2, c2, hB.cell (10 * 7), hB.cell (10 * 7 + 1), hB.cell (10 * 7 + 2), hB.cell (10 * 7 + 3), hB.cell (10 * 7 + 4), hB.cell (10 * 7 + 5), hB.cell (10 * 7 + 6), (by decide +kernel), hR2, by simp⟩
        | k + 11, hk => omega
      have HALL := Lib.hid hall
      clear hall hB hR1 hR2 HLM hr13 hr2 hb4 hb03 hfld
      go_loopw [3] (fun i wr => ∃ k : Nat, k ≤ 11 ∧ i = .int .i64 (k : Int) ∧ Below W4.heap.size W4 wr) (fun i _ => 11 - (intOf i).toNat)
      case atStart => exact ⟨0, Nat.zero_le _, rfl, Below.refl _ _⟩
      case round =>
        obtain ⟨k, hk, rfl, hbr⟩ := hrel
        by_cases hlt : k < 11
        · obtain ⟨it, A5, c5, A6, c6, x0, x1, x2, x3, x4, x5, x6, hm, hrd, hlen⟩ := HALL.out k hlt
          have i0 : (0 : Int) ≤ (k : Int) := by omega
          have i1 : (k : Int) < 11 := by omega
          have y0 := (hbr.cell (block_lt_of_cell x0)).trans x0
          have y1 := (hbr.cell (block_lt_of_cell x1)).trans x1
          have y2 := (hbr.cell (block_lt_of_cell x2)).trans x2
          have y3 := (hbr.cell (block_lt_of_cell x3)).trans x3
          have y4 := (hbr.cell (block_lt_of_cell x4)).trans x4
          have y5 := (hbr.cell (block_lt_of_cell x5)).trans x5
          have y6 := (hbr.cell (block_lt_of_cell x6)).trans x6
          have hby := fun W (h : Below W4.heap.size W4 W) => event_bytes_no it A5 c5 A6 c6 W (hrd.below h) (by omega) hm
          have hmy := fun W (h : Below W4.heap.size W4 W) => event_may it A5 c5 A6 c6 W (hrd.below h) (by omega)
          simp only [hm] at hmy
          obtain ⟨op, path, to_, off, size, data, ps⟩ := it
          simp only [iv_eq] at hby hmy y0 y1 y2 y3 y4 y5 y6
          have HBY := Lib.hid hby
          have HMY := Lib.hid hmy
          clear hby hmy x0 x1 x2 x3 x4 x5 x6 hm hrd
          go_wp2_with fail
          (with_reducible refine (HBY.out _ ?_).mono ?_)
          · exact hbr
          rintro e w5 ⟨rfl, hb5⟩
          have z0 := (hb5.cell (block_lt_of_cell y0)).trans y0
          have z1 := (hb5.cell (block_lt_of_cell y1)).trans y1
          have z2 := (hb5.cell (block_lt_of_cell y2)).trans y2
          have z3 := (hb5.cell (block_lt_of_cell y3)).trans y3
          have z4 := (hb5.cell (block_lt_of_cell y4)).trans y4
          have z5 := (hb5.cell (block_lt_of_cell y5)).trans y5
          have z6 := (hb5.cell (block_lt_of_cell y6)).trans y6
          have hbr5 := bn hbr hb5
          go_wp2_with fail
          (with_reducible refine (HMY.out _ ?_).mono ?_)
          · exact hbr5
          rintro e w6 ⟨rfl, hb6⟩
          have hbr6 := bn hbr5 hb6
          go_wp2
          go_roundw
          case rel => exact ⟨k + 1, by omega, by go_num, hbr6⟩
          case measure => simp [intOf]; try omega
        · obtain rfl : k = 11 := by omega
          have hb := bn hb04 hbr
          clear hb04 hbr HALL
          have hm1 := fun W => law14_made ⟨3, [47, 97], [], 300, 0, 0, [⟨0, 5, 7, 1⟩]⟩ none 0 (some ⟨wr.heap.size, 0, none⟩) 1 W (by decide)
          simp only [iv_eq, List.length_singleton] at hm1
          have HM1 := Lib.hid hm1
          have he3 := enc_known3
          have he5 := enc_known5
          have HE3 := Lib.hid he3
          have HE5 := Lib.hid he5
          clear hm1 he3 he5
          go_wp2_with fail
          (with_reducible refine (HM1.out _ ?_).mono ?_)
          · exact Rd.lit wr 81 (0, 0) (pcs [⟨0, 5, 7, 1⟩])
          rintro e w5 ⟨A5, c5, rfl, hr5, ha5, hb5⟩
          simp only [iv_eq, List.length_singleton]
          have hb05 := bn (bal hb _) hb5
          have hby := event_bytes ⟨3, [47, 97], [], 300, 0, 0, [⟨0, 5, 7, 1⟩]⟩ none 0 A5 c5 w5 hr5 (fun ad e => (ha5 ad e).2) (by simp) (by decide +kernel)
          rw [HE3.out] at hby
          simp only [iv_eq, List.length_singleton] at hby
          have HBY := Lib.hid hby
          clear hby hr5 ha5 hb5 HM1 hb
          go_wp2_with fail
          (with_reducible refine HBY.out.mono ?_)
          rintro e w6 ⟨v6, rfl, ho6, hb6⟩
          obtain ⟨A6, c6, rfl, k6, r6⟩ := ho6.bytes
          have hb06 := bn hb05 hb6
          have hby := fun W => event_bytes ⟨5, [], [120], 0, 0, 0, []⟩ none 0 none 0 W (Rd.nil _ _) (fun ad e => by cases e) (by simp) (by decide +kernel)
          simp only [HE5.out, iv_eq, List.length_nil] at hby
          have HBZ := Lib.hid hby
          clear hby HBY ho6 hb6
          go_wp2_with fail
          (with_reducible refine (HBZ.out _).mono ?_)
          rintro e w7 ⟨v7, rfl, ho7, hb7⟩
          obtain ⟨A7, c7, rfl, k7, r7⟩ := ho7.bytes
          have hb07 := bn hb06 hb7
          have r67 := r6.below hb7
          clear HBZ ho7 hb7
          go_wp2_with fail
          refine (event_parse none 0 0 [] w7 rfl (by simp) (RB.nil _ _)).mono ?_
          rintro e w8 ⟨it, ok, B5, d5, B6, d6, rfl, hok, hit, hrd, had, hb8⟩
          obtain rfl : ok = false := by
            cases ok with
            | false => rfl
            | true =>
              have := (hok.1 rfl).2
              exact absurd this (by decide +kernel)
          rw [show (if false = true then (0 : Int) else 2) = 2 from rfl]
          obtain ⟨op, path, to_, off, size, data, ps⟩ := it
          simp only [iv_eq]
          have hv6 := fun o : Obj => run_str_try (w8.alloc o) A6 c6 10 [3, 2, 47, 97, 172, 2, 1, 5, 7, 1] rfl ((r67.below hb8).below (bal (Below.refl _ _) _))
          have hv7 := fun o : Obj => run_str_try (w8.alloc o) A7 c7 4 [5, 0, 1, 120] rfl ((r7.below hb8).below (bal (Below.refl _ _) _))
          have hb08 := bn hb07 hb8
          clear hok hit hrd had
          go_wp2
          go_ret
          exact ⟨rfl, bal hb08 _⟩
end Go.Proofs.Ytlgkcpgbmobacaa
