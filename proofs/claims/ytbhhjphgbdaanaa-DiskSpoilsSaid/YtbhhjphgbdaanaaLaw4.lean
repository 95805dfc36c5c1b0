/-
  Layer 4: full; awake.
-/
import Derived.Test.YtbhhjphgbdaanaaLive
set_option linter.unusedSimpArgs false
set_option linter.unusedVariables false
namespace Go.Proofs.Ytbhhjphgbdaanaa
open Go.RowKit Go.Maps

def fillB (b : List UInt8) (k : Nat) : List UInt8 := (List.range 64).map fun i => if i < k ∧ b ≠ [] then b.getD (i % b.length) 0 else 0
def fullB (b : List UInt8) : List UInt8 := fillB b 64
theorem fillB_len (b : List UInt8) (k : Nat) : (fillB b k).length = 64 := by simp [fillB]
theorem fullB_len (b : List UInt8) : (fullB b).length = 64 := fillB_len b 64
theorem fillB_zero (b : List UInt8) : fillB b 0 = zeros64 := by
  unfold fillB zeros64
  refine List.ext_getElem? fun i => ?_
  rw [List.getElem?_map, List.getElem?_replicate]
  by_cases h : i < 64
  · rw [List.getElem?_range h, if_pos h]
    simp only [Option.map_some]
    rw [if_neg (by omega)]
  · rw [if_neg h, List.getElem?_eq_none (by rw [List.length_range]; omega)]
    rfl
theorem fillB_step (b : List UInt8) (k : Nat) (hk : k < 64) (hb : b ≠ []) : (fillB b k).set k (b.getD (k % b.length) 0) = fillB b (k + 1) := by
  refine List.ext_getElem? fun i => ?_
  rw [List.getElem?_set]
  unfold fillB
  rw [List.length_map, List.length_range]
  by_cases e : k = i
  · subst e
    rw [if_pos rfl, if_pos hk, List.getElem?_map, List.getElem?_range hk]
    simp [hb]
  · rw [if_neg e]
    by_cases h : i < 64
    · rw [List.getElem?_map, List.getElem?_map, List.getElem?_range h]
      simp only [Option.map_some, Option.some.injEq]
      by_cases h1 : i < k
      · rw [if_pos ⟨h1, hb⟩, if_pos ⟨by omega, hb⟩]
      · rw [if_neg (by omega), if_neg (by omega)]
    · rw [List.getElem?_eq_none (by simp; omega), List.getElem?_eq_none (by simp; omega)]
theorem fillB_nil (k : Nat) : fillB [] k = zeros64 := by rw [← fillB_zero []]; simp [fillB]
theorem eb_set (l : List UInt8) (k : Nat) (x : UInt8) : (l.map eb).toArray.setIfInBounds k (eb x) = ((l.set k x).map eb).toArray := by
  rw [List.map_set]; simp
set_option maxRecDepth 100000 in
set_option maxHeartbeats 2000000 in
theorem law4_full (A : Option Addr) (m c : Nat) (b : List UInt8) (w : World) (hm : b.length = m) (hl : b.length ≤ 9223372036854775807) (hr : RB w A b) :
    Calls Try.prog 31 #[.slice A m c] w fun e w' => ∃ v, e = .returned v ∧ Own w' w.heap.size 5 v ((fullB b).map eb) ∧ Below w.heap.size w w' := by
  subst hm
  have hm64 := fun W : World => make_run (P := Try.prog) 35 5 (.int .u8 0) 1 Try.underlying35 info_u8 rfl 64 (by omega) (by omega) (by omega) W
  simp only [show ((64 : Int)).toNat = 64 from rfl] at hm64
  have hz : (Array.replicate 64 (Value.int .u8 0)) = ((fillB b 0).map eb).toArray := by rw [fillB_zero]; unfold zeros64; rw [List.map_replicate, List.toArray_replicate]; rfl
  have h1 := Blk.new w 5 (Array.replicate 64 (.int .u8 0))
  have k1 := bal (Below.refl w.heap.size w) (.cells (Array.replicate 64 (.int .u8 0)) 5)
  have HR := Lib.hid fun W (hb : Below w.heap.size w W) => hr.below hb
  have H1 := Lib.hid h1
  have K1 := Lib.hid k1
  have HZ := Lib.hid hz
  have hfin : ∀ W, Blk W w.heap.size 5 ((fullB b).map eb).toArray → Own W w.heap.size 5 (.slice (some ⟨w.heap.size, 0, none⟩) 64 64) ((fullB b).map eb) := fun W h => by
    have := Blk.own (B := w.heap.size) (cs := (fullB b).map eb) (cap := 64) h (Nat.le_refl _) (by rw [List.length_map, fullB_len]; omega) (by simp [fullB_len]) (by unfold maxLen; omega) (by simp only [List.toList_toArray, List.length_map]; exact List.take_of_length_le (by rw [List.length_map]; exact Nat.le_refl _))
    rw [List.length_map, fullB_len] at this
    exact this
  have HFIN := Lib.hid hfin
  have hz' : (w.alloc (.cells (Array.replicate 64 (.int .u8 0)) 5)).heap.size = w.heap.size + 1 := size_more' _ _
  clear h1 k1 hr hfin hz
  go_enter Try.func31, Try.ntmps31
  go_wp2
  generalize (w.alloc (.cells (Array.replicate 64 (.int .u8 0)) 5)) = W1 at *
  have h1 := H1.out
  rw [HZ.out] at h1
  replace H1 := Lib.hid h1
  clear hm64 h1 HZ
  by_cases hb0 : b = []
  · subst hb0
    go_wp2
    go_loopw [4] (fun i wr => i = .int .i64 0 ∧ wr = W1) (fun i _ => 64 - (intOf i).toNat)
    case atStart => exact ⟨rfl, rfl⟩
    case round =>
      obtain ⟨rfl, hw⟩ := hrel
      subst hw
      have HO := H1.out
      rw [fillB_nil, ← fillB_nil 64] at HO
      have HO2 := Lib.hid (HFIN.out _ HO)
      clear HO
      go_wp2
      go_ret
      exact ⟨_, rfl, HO2.out, K1.out⟩
  · have hbl : 0 < b.length := List.length_pos_iff.2 hb0
    obtain ⟨ba, oa, rfl, hblt, hcell⟩ := Rd.lit_at (HR.out _ K1.out) 0 (by rw [List.length_map]; exact hbl)
    have hcp : (0 : Int) < (b.length : Int) := by omega
    have hcn : (b.length : Int) ≠ 0 := by omega
    clear hcell hblt
    go_loopw [4] (fun i wr => ∃ k : Nat, k ≤ 64 ∧ i = .int .i64 (k : Int) ∧ Blk wr w.heap.size 5 ((fillB b k).map eb).toArray ∧ Below w.heap.size w wr) (fun i _ => 64 - (intOf i).toNat)
    case atStart => exact ⟨0, by omega, rfl, H1.out, K1.out⟩
    case round =>
      clear H1 K1
      obtain ⟨k, hk, rfl, hB, hb⟩ := hrel
      by_cases hlt : k < 64
      · obtain ⟨kk, hkk⟩ : ∃ kk, kk = k % b.length := ⟨_, rfl⟩
        have hkl : kk < b.length := by rw [hkk]; exact Nat.mod_lt _ hbl
        have hrem : Int.tmod (k : Int) (b.length : Int) = (kk : Int) := by rw [hkk]; exact (Int.ofNat_tmod ..).symm
        obtain ⟨ba', oa', e, _, hcc⟩ := Rd.lit_at (HR.out _ hb) 0 (by rw [List.length_map]; exact hbl)
        cases e
        have hcx := hcc kk (by rw [List.length_map]; exact hkl)
        rw [List.getElem_map] at hcx
        obtain ⟨x, hx⟩ : ∃ x, b.getD kk 0 = x := ⟨_, rfl⟩
        have hbx : b[kk] = x := by rw [← hx]; simp [List.getD_eq_getElem?_getD, List.getElem?_eq_getElem hkl]
        rw [hbx] at hcx
        unfold eb at hcx
        have hst := fillB_step b k hlt hb0
        rw [← hkk, hx] at hst
        have i0 : (0 : Int) ≤ (k : Int) := by omega
        have i1 : (k : Int) < 64 := by omega
        have k0 : (0 : Int) ≤ (kk : Int) := by omega
        have k1 : (kk : Int) < (b.length : Int) := by omega
        obtain ⟨old, hold⟩ : ∃ old, wr.cell? ⟨w.heap.size, k, none⟩ = some old := by
          rw [hB.cell k]
          exact ⟨_, Array.getElem?_eq_getElem (by simp [fillB_len]; exact hlt)⟩
        have fz := hB.frozen k
        have HBN := Lib.hid (hB.set k (eb x))
        rw [eb_set, hst] at HBN
        unfold eb at HBN
        have HBB : Hid (Below w.heap.size w (wr.setCell ⟨w.heap.size, k, none⟩ (.int .u8 (x.toNat : Int)))) := Lib.hid (hb.setCell (Nat.le_refl _) _)
        clear hcc hbx hst hkk hx hB hb
        go_wp2
        go_roundw
        case rel => exact ⟨k + 1, by omega, by go_num, HBN.out, HBB.out⟩
        case measure => simp [intOf]; try omega
      · obtain rfl : k = 64 := by omega
        have HO2 := Lib.hid (HFIN.out _ hB)
        have HB := Lib.hid hb
        clear hB hb
        go_wp2
        go_ret
        exact ⟨_, rfl, HO2.out, HB.out⟩

theorem burnD_ok {s : DSt} (hf : s.fuse < 0) : burnD s = (0, ⟨s.fl, s.ca, s.fuse, s.dead, s.ops + 1⟩) := by
  unfold burnD
  rw [if_neg (by omega), if_neg (by omega)]
theorem fresh_not {P : Nat → Prop} {B : Nat} {w : World} {A : Option Addr} {n c : Nat} {cs : List Value} (hP : ∀ j, P j → j < B) (ho : Own w B 5 (.slice A n c) cs) : ∀ ad, A = some ad → ¬ P ad.block := fun ad e f => by
  have h1 := (ho.typed ad.block (by rw [e]; rfl)).1
  have h2 := hP _ f
  omega
/-- all of a disk's blocks lie from B on -/
def From (B : Nat) (P : Nat → Prop) : Prop := ∀ j, P j → B ≤ j
theorem From.grow {B : Nat} {P : Nat → Prop} (h : From B P) {w w' : World} (hB : B ≤ w.heap.size) : From B (fun j => P j ∨ (w.heap.size ≤ j ∧ j < w'.heap.size)) := fun j hj => by
  rcases hj with hj | hj
  · exact h j hj
  · omega
theorem WritePost.below {w0 w w' : World} {B g n : Nat} {P : Nat → Prop} {r : Int × DSt} {e : Ending} (h : WritePost w g P n r e w') (hb : Below B w0 w) (hBw : B ≤ w0.heap.size) (hP : From B P) : Below B w0 w' := hb.trans (h.2.1.below (Nat.le_trans hBw hb.size) fun j hj => hP j hj)
/-- the first test of each law -/
def s1A : DSt := putD (burnD (newD 2)).2 ((1 : Nat) : Int) (fullB [7])
theorem s1A_ok : DOk s1A := ((DOk.new (by omega : 2 ≤ 776)).burn (by simp [newD])).put (by simp [thereB, burnD_fl, newD]) (fullB_len _)
theorem s1A_eq : writeD (newD 2) 1 (fullB [7]) = (0, s1A) := writeD_ok rfl (k := 1) 1 rfl (by simp [newD]) (fullB_len _) (by simp [newD])
theorem s1A_len : s1A.fl.length = 2 := by simp [s1A, putD, burnD_fl, newD]
theorem s1A_ops : s1A.ops = 1 := by simp [s1A, putD, burnD, newD]
theorem s1A_crash (c : UInt8) (ks : List Int) : crashAt s1A [c] ks 1 = afterB zeros64 (fullB [7]) c.toNat := by
  rw [crashAt_one]
  have h1 : s1A.ca ((1 : Nat) : Int) = some (fullB [7]) := by simp [s1A, putD]
  have h2 : s1A.fl.getD 1 [] = zeros64 := by simp [s1A, putD, burnD_fl, newD, List.getD_eq_getElem?_getD, List.getElem?_replicate]
  rw [h1, h2]
theorem s1A_bytes : (afterB zeros64 (fullB [7]) (0 : UInt8).toNat).getD 0 9 = 0 ∧ (afterB zeros64 (fullB [7]) (1 : UInt8).toNat).getD 63 9 = 7 ∧ (afterB zeros64 (fullB [7]) (23 : UInt8).toNat).getD 4 9 = 7 ∧ (afterB zeros64 (fullB [7]) (23 : UInt8).toNat).getD 5 9 = 0 := by decide
/-- what Crash gives of s1A, read at 1 -/
def CrashRead (w : World) (l : List UInt8) (e : Ending) (w' : World) : Prop := ∃ v, e = .returned (.tuple #[v, .int .i64 0]) ∧ Own w' w.heap.size 5 v (l.map eb) ∧ Below w.heap.size w w'
theorem crash_read {w : World} {g n : Nat} {P : Nat → Prop} {s : DSt} (ch : List UInt8) (ks : List Int) (h : Disk w g P n (crashD s ch ks)) (ok : DOk s) {k : Nat} (x : Int) (hx : x = (k : Int)) (hk : k < s.fl.length) :
    Calls Try.prog 27 #[.pointer (some ⟨g, 0, none⟩), .int .i64 x] w (CrashRead w (crashAt s ch ks k)) := by
  have h1 := disk_read g P n _ x w h (ok.crash ch ks)
  rw [readD_crash ch ks x hx hk] at h1
  exact h1
set_option maxRecDepth 100000 in
set_option maxHeartbeats 4000000 in
theorem law4_awake (w : World) :
    Calls Try.prog 29 #[] w fun e w' => e = .returned (.bool true) ∧ Below w.heap.size w w' := by
  have HBY := Lib.hid s1A_bytes
  have HL : Hid (∀ c : UInt8, (afterB zeros64 (fullB [7]) c.toNat).length = 64) := Lib.hid fun c => afterB_len (by simp only [zeros64, List.length_replicate]) (fullB_len _) _ (UInt8.toNat_lt _)
  go_enter Try.func29, Try.ntmps29
  go_wp2_with fail
  (with_reducible refine (disk_new' 2 2 rfl (by omega) w).mono ?_)
  rintro e w1 ⟨g, rfl, hd1, hb1⟩
  have hz1 := hb1.size
  have hd2 := hd1.below (bal (Below.refl w1.heap.size w1) (.cells #[.int .u8 7] 5))
  have hb2 := bal hb1 (.cells #[.int .u8 7] 5)
  go_wp2_with fail
  (with_reducible refine (law4_full _ 1 1 [7] _ rfl (by simp) (lit1 w1 7 7 rfl)).mono ?_)
  rintro e w3 ⟨v3, rfl, ho3, hb3⟩
  obtain ⟨A3, c3, rfl, _, hr3⟩ := ho3.bytes
  rw [fullB_len] at ho3 ⊢
  have hd3 := hd2.below hb3
  have hb3w := bn hb2 hb3
  have HW := Lib.hid (disk_write g _ 0 (newD 2) 1 A3 64 c3 (fullB [7]) w3 (fullB_len _) hr3 (by rw [fullB_len]; omega) hd3 (DOk.new (by omega)) (by omega))
  rw [s1A_eq] at HW
  clear hd1 hd2 hb1 hb2 hb3 ho3 hr3 hd3
  go_wp2_with fail
  (with_reducible refine HW.out.mono ?_)
  rintro e w4 ⟨rfl, hk4, hd4⟩
  have hb4 : Below w.heap.size w w4 := hb3w.trans (hk4.below hb3w.size fun j hj => hj.1)
  simp only at hd4
  generalize hP4 : (fun j => (w.heap.size ≤ j ∧ j < w1.heap.size) ∨ (w3.heap.size ≤ j ∧ j < w4.heap.size)) = P4 at *
  clear hk4 HW hP4 hb3w
  -- the first crash
  go_wp2_with fail
  (with_reducible refine (disk_crash g P4 1 s1A _ 1 1 [0] _ rfl (by simp) (lit1 w4 0 0 rfl) (hd4.below (bal (Below.refl _ _) _)) s1A_ok (by omega)).mono ?_)
  rintro e w5 ⟨g5, ks5, rfl, _, _, hd5, hb5⟩
  have hb5w := bn (bal hb4 _) hb5
  have hd5' := (hd4.below (bal (Below.refl _ _) _)).below hb5
  go_wp2_with fail
  (with_reducible refine (crash_read [0] ks5 hd5 s1A_ok (k := 1) 1 rfl (by rw [s1A_len]; omega)).mono ?_)
  rintro e w6 ⟨v6, rfl, ho6, hb6⟩
  rw [s1A_crash] at ho6
  obtain ⟨A6, c6, rfl, _, hr6⟩ := ho6.bytes
  rw [HL.out] at ho6 ⊢
  have hd6 := hd5'.below hb6
  have hb6w := bn hb5w hb6
  clear hd5 hb5 hb5w hd5' hb6 ho6 hd4 hb4
  -- the second
  go_wp2_with fail
  (with_reducible refine (disk_crash g P4 1 s1A _ 1 1 [1] _ rfl (by simp) (lit1 w6 1 1 rfl) (hd6.below (bal (Below.refl _ _) _)) s1A_ok (by omega)).mono ?_)
  rintro e w7 ⟨g7, ks7, rfl, _, _, hd7, hb7⟩
  have hb7w := bn (bal hb6w _) hb7
  have hd7' := (hd6.below (bal (Below.refl _ _) _)).below hb7
  have hr67 := (hr6.below (bal (Below.refl _ _) _)).below hb7
  go_wp2_with fail
  (with_reducible refine (crash_read [1] ks7 hd7 s1A_ok (k := 1) 1 rfl (by rw [s1A_len]; omega)).mono ?_)
  rintro e w8 ⟨v8, rfl, ho8, hb8⟩
  rw [s1A_crash] at ho8
  obtain ⟨A8, c8, rfl, _, hr8⟩ := ho8.bytes
  rw [HL.out] at ho8 ⊢
  have hd8 := hd7'.below hb8
  have hb8w := bn hb7w hb8
  have hr68 := hr67.below hb8
  clear hd7 hb7 hb7w hd7' hb8 ho8 hd6 hb6w hr6 hr67
  -- the third
  go_wp2_with fail
  (with_reducible refine (disk_crash g P4 1 s1A _ 1 1 [23] _ rfl (by simp) (lit1 w8 23 23 rfl) (hd8.below (bal (Below.refl _ _) _)) s1A_ok (by omega)).mono ?_)
  rintro e w9 ⟨g9, ks9, rfl, _, _, hd9, hb9⟩
  have hb9w := bn (bal hb8w _) hb9
  have hd9' := (hd8.below (bal (Below.refl _ _) _)).below hb9
  have hr69 := (hr68.below (bal (Below.refl _ _) _)).below hb9
  have hr89 := (hr8.below (bal (Below.refl _ _) _)).below hb9
  go_wp2_with fail
  (with_reducible refine (crash_read [23] ks9 hd9 s1A_ok (k := 1) 1 rfl (by rw [s1A_len]; omega)).mono ?_)
  rintro e w10 ⟨v10, rfl, ho10, hb10⟩
  rw [s1A_crash] at ho10
  obtain ⟨A10, c10, rfl, _, hr10⟩ := ho10.bytes
  rw [HL.out] at ho10 ⊢
  have hd10 := hd9'.below hb10
  have hb10w := bn hb9w hb10
  obtain ⟨b6, o6, rfl, x6⟩ := (hr69.below hb10).byte 0 (by rw [HL.out]; omega) _ HBY.out.1
  obtain ⟨b8, o8, rfl, x8⟩ := (hr89.below hb10).byte 63 (by rw [HL.out]; omega) _ HBY.out.2.1
  obtain ⟨b10, o10, rfl, x10⟩ := hr10.byte 4 (by rw [HL.out]; omega) _ HBY.out.2.2.1
  obtain ⟨b10', o10', e10, x11⟩ := hr10.byte 5 (by rw [HL.out]; omega) _ HBY.out.2.2.2
  cases e10
  have q6 : w10.cell? ⟨b6, o6, none⟩ = some (.int .u8 0) := x6
  have q8 : w10.cell? ⟨b8, o8 + 63, none⟩ = some (.int .u8 7) := x8
  have q10 : w10.cell? ⟨b10, o10 + 4, none⟩ = some (.int .u8 7) := x10
  have q11 : w10.cell? ⟨b10, o10 + 5, none⟩ = some (.int .u8 0) := x11
  clear x6 x8 x10 x11
  have hops : w10.cell? ⟨g, 4, none⟩ = some (.int .i64 1) := by
    obtain ⟨L, M, fv, fc, h⟩ := hd10
    have := h.blk.cell 4
    rw [s1A_ops] at this
    simpa using this
  clear hd9 hb9 hb9w hd9' hb10 ho10 hd8 hb8w hr8 hr68 hr69 hr89 hr10 hd10
  go_wp2_with fail
  (with_reducible refine (disk_ops g 1 w10 hops).mono ?_)
  rintro e _ ⟨rfl, rfl⟩
  go_wp2
  go_ret
  exact ⟨rfl, hb10w⟩
end Go.Proofs.Ytbhhjphgbdaanaa
