/-
  super.Bytes.
-/
import Derived.Test.YtangfnenfhkokaaSeq
import Derived.Test.YtangfnenfhkokaaSupP
import Derived.RangeFuncBox
set_option linter.unusedSimpArgs false
set_option linter.unusedVariables false
namespace Go.Proofs.Ytangfnenfhkokaa
open Go.RowKit Go.Maps Go.Shelf
attribute [local go_sem] Oper.semAt_some

set_option maxRecDepth 100000 in
set_option maxHeartbeats 4000000 in
theorem slices_chunk (A : Option Addr) (n c k : Nat) (hk : 0 < k) (w : World) :
    Calls Try.prog 49 #[.slice A n c, .int .i64 (k : Int)] w fun e w' => e = .returned (.func (.func 83) #[] #[.pointer (some ⟨w.heap.size, 0, none⟩), .pointer (some ⟨w.heap.size + 1, 0, none⟩)]) ∧ w' = (w.alloc (.cells #[.slice A n c] 42)).alloc (.cells #[.int .i64 (k : Int)] 3) := by
  go_enter Try.func49, Try.ntmps49
  go_wp2
  go_ret
  exact ⟨rfl, rfl⟩
/-- the loop's own: the variable's box; the row that it holds; all else as it was -/
theorem box_from {k m : Nat} {W0 : World} {bo : Nat} {t e : TypeId} {f : List (Cut k m) → List Value} (hbo : bo < W0.heap.size) :
    OwnFrom W0.heap.size (fun (pre : List (Cut k m)) W => ∃ v, Blk W bo t #[v] ∧ Own W W0.heap.size e v (f pre) ∧ Kp (fun j => j = bo ∨ W0.heap.size ≤ j) W0 W) := by
  rintro s X Y row ⟨v, hb, ho, hk⟩ hg hr
  have hne : ∀ i, i < W0.heap.size → row ≠ some i := fun i hi e => by have := (hr i e).1; omega
  refine ⟨v, (hg.block bo hb.lt (hne bo hbo).symm).trans hb, ?_, ?_⟩
  · refine World.ownsRow.kept ho hg ?_
    rcases ho.2 with ⟨rfl, _⟩ | ⟨g, cap, cur, rfl, _, hgb, _⟩
    · exact .inl rfl
    · refine .inr fun e' => ?_
      obtain ⟨_, o, ho, hc⟩ := hr g (by simpa [Value.ownBlock] using e'.symm)
      rw [hgb] at ho; cases ho; cases hc
  · refine ⟨hg.os.trans hk.os, hg.tape.trans hk.tape, hg.output.trans hk.output, Nat.le_trans hk.size hg.size, fun i hi hF => ?_⟩
    rw [hg.block i (Nat.lt_of_lt_of_le hi hk.size) (hne i hi).symm]
    exact hk.block i hi hF
theorem kp_put {W0 : World} {G : Nat → Prop} (hG : ∀ j, W0.heap.size ≤ j → G j) : ∀ (W : World) (l : Nat) (o o' : Obj), W0.heap.size ≤ l → W.heap[l]? = some o → o.isCells = false → o.isWalk = false → Kp G W (W.putObj l o') := by
  intro W l o o' hl h _ _
  have hg := grownBy_putObj' W l o'
  exact ⟨hg.os, hg.tape, hg.output, hg.size, fun i hi hF => hg.block i hi fun e => hF (hG i (by cases e; exact hl))⟩
def sect (k : Nat) (E L : List UInt8) (os : List Nat) : List UInt8 := os.flatMap fun o => E ++ (L.drop o).take k ++ E
theorem sect_snoc (k : Nat) (E L : List UInt8) (os : List Nat) (o : Nat) : sect k E L (os ++ [o]) = sect k E L os ++ (E ++ (L.drop o).take k ++ E) := by unfold sect; simp
/-- the number of a slot as a word -/
def numW (s : Sup) : Crc.W := BitVec.ofNat 32 s.number.toNat
def bytesB (s : Sup) : List UInt8 := sect 56 (four (numW s)) (plainB s) (cutsOf 56 4)
def BytesPost (s : Sup) (w : World) (e : Ending) (w' : World) : Prop := ∃ v, e = .returned (.tuple #[v, .int .i64 0]) ∧ Own w' w.heap.size 5 v ((bytesB s).map eb) ∧ Below w.heap.size w w'
theorem sect_len (k : Nat) (E L : List UInt8) (os : List Nat) : (sect k E L os).length ≤ os.length * (2 * E.length + k) := by
  induction os with
  | nil => simp [sect]
  | cons o os ih =>
    have : sect k E L (o :: os) = (E ++ (L.drop o).take k ++ E) ++ sect k E L os := by unfold sect; simp
    rw [this, List.length_append, List.length_append, List.length_append, List.length_take, List.length_cons, Nat.succ_mul]
    omega
theorem RB.cut {w : World} {ad : Addr} {l : List UInt8} (h : RB w (some ad) l) (o k : Nat) : RB w (some (ad.add o)) ((l.drop o).take k) := by
  intro i u hi
  rw [List.map_take, List.map_drop, List.getElem?_take] at hi
  split at hi
  · rw [List.getElem?_drop] at hi
    obtain ⟨ad', e, hc⟩ := h (o + i) u hi
    cases e
    exact ⟨_, rfl, by rw [add_add]; exact hc⟩
  · cases hi
theorem keeps_below {B : Nat} {W W' : World} (hb : Below W.heap.size W W') : KeepsFrom B W W' := ⟨hb.size, fun k o _ hk _ => (hb.block k (Array.getElem?_eq_some_iff.1 hk).1).trans hk⟩
set_option maxRecDepth 100000 in
set_option maxHeartbeats 4000000 in
theorem super_bytes_no (s : Sup) (A : Option Addr) (c : Nat) (A2 : Option Addr) (c2 : Nat) (w : World) (h1 : Rd w A (s.jour.segs.map ei)) (h2 : Rd w A2 (s.chunks.segs.map ei)) (hw1 : ∀ x ∈ s.jour.segs, wide x) (hw2 : ∀ x ∈ s.chunks.segs, wide x)
    (hA : ∀ ad, A = some ad → ad.block < w.heap.size) (hA2 : ∀ ad, A2 = some ad → ad.block < w.heap.size) (hl1 : s.jour.segs.length ≤ 100000000000) (hl2 : s.chunks.segs.length ≤ 100000000000) (hm : supMay s 96 = false) :
    Calls Try.prog 57 #[supV s A c A2 c2] w fun e w' => e = .returned (.tuple #[.slice none 0 0, .int .i64 1]) ∧ Below w.heap.size w w' := by
  have hC := fun (W : World) (hb : Below w.heap.size w W) => super_may s 96 A c A2 c2 W (h1.below hb) (h2.below hb) hw1 hw2 (fun ad e => by have := hA ad e; have := hb.size; omega) (fun ad e => by have := hA2 ad e; have := hb.size; omega) hl1 hl2
  rw [show min (96 : Int) 96 = 96 from rfl, hm] at hC
  have HC := Lib.hid hC
  clear hC h1 h2 hw1 hw2 hA hA2 hl1 hl2 hm
  obtain ⟨nu, bo, ⟨l1, n1, s1⟩, ⟨l2, n2, s2⟩⟩ := s
  unfold supV at *
  simp only at HC ⊢
  go_enter Try.func57, Try.ntmps57
  go_wp2_with fail
  (with_reducible refine (HC.out _ ?_).mono ?_)
  · exact bal (Below.refl _ _) _
  rintro e w2 ⟨rfl, hb2⟩
  go_wp2
  go_ret2
  exact ⟨rfl, bn (bal (Below.refl _ _) _) hb2⟩
set_option maxRecDepth 100000 in
set_option maxHeartbeats 4000000 in
theorem super_bytes (s : Sup) (A : Option Addr) (c : Nat) (A2 : Option Addr) (c2 : Nat) (w : World) (h1 : Rd w A (s.jour.segs.map ei)) (h2 : Rd w A2 (s.chunks.segs.map ei)) (hw1 : ∀ x ∈ s.jour.segs, wide x) (hw2 : ∀ x ∈ s.chunks.segs, wide x)
    (hA : ∀ ad, A = some ad → ad.block < w.heap.size) (hA2 : ∀ ad, A2 = some ad → ad.block < w.heap.size) (hl1 : s.jour.segs.length ≤ 100000000000) (hl2 : s.chunks.segs.length ≤ 100000000000) (hn1 : wide s.jour.len) (hn2 : wide s.chunks.len) (hm : supMay s 96 = true) (hlen : (penB s).length ≤ 220) :
    Calls Try.prog 57 #[supV s A c A2 c2] w (BytesPost s w) := by
  have hC := fun (W : World) (hb : Below w.heap.size w W) => super_may s 96 A c A2 c2 W (h1.below hb) (h2.below hb) hw1 hw2 (fun ad e => by have := hA ad e; have := hb.size; omega) (fun ad e => by have := hA2 ad e; have := hb.size; omega) hl1 hl2
  rw [show min (96 : Int) 96 = 96 from rfl, hm] at hC
  have HC := Lib.hid hC
  have hnum : 0 ≤ s.number ∧ s.number ≤ 2147483647 ∧ 0 ≤ s.boot ∧ s.boot ≤ 2147483647 := by
    unfold supMay at hm
    rw [Bool.and_eq_true] at hm
    exact of_decide_eq_true hm.1
  have hP := fun (W : World) (hb : Below w.heap.size w W) => super_plain s A c A2 c2 W (h1.below hb) (h2.below hb) hw1 hw2 (fun ad e => by have := hA ad e; have := hb.size; omega) (fun ad e => by have := hA2 ad e; have := hb.size; omega) (by unfold wide; omega) (by unfold wide; omega) hn1 hn2 hlen
  have HP := Lib.hid hP
  have hpl := plainB_len s hlen
  have hbb : bytesB s = sect 56 (four (numW s)) (plainB s) (cutsOf 56 4) := rfl
  have hnw : (numW s).toNat = s.number.toNat := by unfold numW; rw [BitVec.toNat_ofNat]; omega
  unfold BytesPost
  unfold PlainPost at HP
  have HBB := Lib.hid hbb
  generalize bytesB s = BB at *
  generalize plainB s = PB at *
  generalize numW s = nw at *
  have HPL := Lib.hid hpl
  have HNW := Lib.hid hnw
  clear hC hP hm hn1 hn2 hl1 hl2 hw1 hw2 hA hA2 h1 h2 hlen hpl hnw hbb
  obtain ⟨nu, bo, ⟨l1, n1, s1⟩, ⟨l2, n2, s2⟩⟩ := s
  unfold supV at *
  simp only at HC HP hnum HNW ⊢
  obtain ⟨u1, u2, u3, u4⟩ := hnum
  clear u3 u4
  refine (callsIn_wide (n := 3)).1 ?_
  refine callsIn_of_wp_marks Try.func57 rfl trivial ?_ rfl
  simp only [Try.ntmps57, List.size_toArray, List.length_cons, List.length_nil, Nat.reduceAdd, Nat.reduceSub, Array.replicate_succ, Array.replicate_zero, List.push_toArray, List.append_toArray, List.nil_append, List.cons_append]
  have b1 := bal (Below.refl w.heap.size w) (.cells #[.int .i64 nu, .int .i64 bo, .slice A l1.length c, .int .i64 n1, .int .u32 (s1.toNat : Int), .slice A2 l2.length c2, .int .i64 n2, .int .u32 (s2.toNat : Int)] 68)
  have B1 := Blk.new w 68 #[.int .i64 nu, .int .i64 bo, .slice A l1.length c, .int .i64 n1, .int .u32 (s1.toNat : Int), .slice A2 l2.length c2, .int .i64 n2, .int .u32 (s2.toNat : Int)]
  gi_wp2_with fail
  refine ⟨trivial, ?_⟩
  (with_reducible refine (callsIn_wide.2 (HC.out _ b1)).mono ?_)
  rintro e w2 ⟨rfl, hb2⟩
  have b2 := bn b1 hb2
  have B2 := B1.below hb2
  have x0 : w2.cell? ⟨w.heap.size, 0, none⟩ = some (.int .i64 nu) := B2.cell 0
  have hwr : IntKind.u32.wrap nu = nu := by simp [IntKind.wrap, IntKind.bits, IntKind.signed]; omega
  have hlt2 := B2.lt
  clear B1 b1 hb2
  gi_wp2_with fail
  refine ⟨trivial, ?_⟩
  refine (callsIn_wide.2 (crc_bytes nw _ (by rw [HNW.out]; omega) w2)).mono ?_
  rintro e w3 ⟨v3, rfl, ho3, hb3⟩
  obtain ⟨A3, c3, rfl, hc3, r3, hA3⟩ := ho3.read
  rw [List.length_map, four_len] at hc3 ⊢
  have b3 := bn b2 hb3
  have B3 := B2.below hb3
  clear ho3 x0
  have x0 : w3.cell? ⟨w.heap.size, 0, none⟩ = some (.int .i64 nu) := B3.cell 0
  have x1 : w3.cell? ⟨w.heap.size, 1, none⟩ = some (.int .i64 bo) := B3.cell 1
  have x2 : w3.cell? ⟨w.heap.size, 2, none⟩ = some (.slice A l1.length c) := B3.cell 2
  have x3 : w3.cell? ⟨w.heap.size, 3, none⟩ = some (.int .i64 n1) := B3.cell 3
  have x4 : w3.cell? ⟨w.heap.size, 4, none⟩ = some (.int .u32 (s1.toNat : Int)) := B3.cell 4
  have x5 : w3.cell? ⟨w.heap.size, 5, none⟩ = some (.slice A2 l2.length c2) := B3.cell 5
  have x6 : w3.cell? ⟨w.heap.size, 6, none⟩ = some (.int .i64 n2) := B3.cell 6
  have x7 : w3.cell? ⟨w.heap.size, 7, none⟩ = some (.int .u32 (s2.toNat : Int)) := B3.cell 7
  have hlt3 := B3.lt
  have b4 := bal b3 (.cells #[.slice A3 4 c3] 42)
  have b5 := bal b4 (.cells #[.slice none 0 0] 42)
  have z3 := size_more' w3 (.cells #[.slice A3 4 c3] 42)
  have z4 := size_more' (w3.alloc (.cells #[.slice A3 4 c3] 42)) (.cells #[.slice none 0 0] 42)
  have E5 := (Blk.new w3 42 #[.slice A3 4 c3]).alloc (.cells #[.slice none 0 0] 42)
  have O5 := Blk.new (w3.alloc (.cells #[.slice A3 4 c3] 42)) 42 #[.slice none 0 0]
  have r5 := (r3.below (bal (Below.refl _ _) (.cells #[.slice A3 4 c3] 42))).below (bal (Below.refl _ _) (.cells #[.slice none 0 0] 42))
  rw [z3] at z4 O5
  gi_wp2_with fail
  generalize ((w3.alloc (.cells #[.slice A3 4 c3] 42)).alloc (.cells #[.slice none 0 0] 42)) = w5 at *
  refine ⟨trivial, ?_⟩
  (with_reducible refine (callsIn_wide.2 (HP.out _ b5)).mono ?_)
  rintro e w6 ⟨v6, rfl, ho6, hb6⟩
  obtain ⟨A6, c6, rfl, hc6, r6, hA6⟩ := ho6.read
  rw [List.length_map] at hc6 ⊢
  rw [HPL.out] at hc6 ⊢
  have b6 := bn b5 hb6
  have E6 := E5.below hb6
  have O6 := O5.below hb6
  have r36 := r5.below hb6
  have hs6 := hb6.size
  have r3' := r3
  clear x0 x1 x2 x3 x4 x5 x6 x7 b4 b5 E5 O5 r5 r3 ho6
  gi_wp2_with fail
  refine ⟨trivial, ?_⟩
  refine (callsIn_wide.2 (slices_chunk A6 224 c6 56 (by omega) w6)).mono ?_
  rintro e w8 ⟨rfl, rfl⟩
  obtain ⟨ad6, rfl⟩ := RB.some_of r6 (by rw [HPL.out]; omega)
  have S8 := (Blk.new w6 42 #[.slice (some ad6) 224 c6]).alloc (.cells #[.int .i64 (56 : Int)] 3)
  have N8 := Blk.new (w6.alloc (.cells #[.slice (some ad6) 224 c6] 42)) 3 #[.int .i64 (56 : Int)]
  have k8 := bal (bal (Below.refl w6.heap.size w6) (.cells #[.slice (some ad6) 224 c6] 42)) (.cells #[.int .i64 (56 : Int)] 3)
  have z7 := size_more' w6 (.cells #[.slice (some ad6) 224 c6] 42)
  have z8 := size_more' (w6.alloc (.cells #[.slice (some ad6) 224 c6] 42)) (.cells #[.int .i64 (56 : Int)] 3)
  rw [z7] at N8 z8
  have E8 := E6.below k8
  have O8 := O6.below k8
  have r38 := r36.below k8
  have r68 : RB _ _ PB := RB.below r6 k8
  have b8 := bn b6 k8
  have hs3 : w.heap.size ≤ w3.heap.size := b3.size
  gi_wp2_with fail
  generalize ((w6.alloc (.cells #[.slice (some ad6) 224 c6] 42)).alloc (.cells #[.int .i64 (56 : Int)] 3)) = W0 at *
  have HA3 : ∀ ad, A3 = some ad → ad.block < w3.heap.size := fun ad e => by subst e; exact Rd.lt r3' rfl (by intro e; have := congrArg List.length e; rw [List.length_map, four_len] at this; cases this)
  have HA6 : ad6.block < w6.heap.size ∧ w5.heap.size ≤ ad6.block := ⟨Rd.lt r6 rfl (by intro e; have := congrArg List.length e; rw [List.length_map, HPL.out] at this; cases this), hA6 _ rfl⟩
  have hst := chunk_stops Fence.wide (3 - 1) trivial rfl (by omega) w6.heap.size (w6.heap.size + 1) ad6 56 4 224 c6 rfl (fun j => j = w3.heap.size + 1 ∨ W0.heap.size ≤ j) (by omega) (by omega) hc6 (by omega) W0 (S8.cell 0) (N8.cell 0) (by omega) (by omega)
  refine wpIn_rangeFunc_ownG rfl (by omega) (gf := 83) (lb := #[.pointer (some ⟨w6.heap.size, 0, none⟩), .pointer (some ⟨w6.heap.size + 1, 0, none⟩)]) rfl trivial (enters_of Try.func83 (by kernel_rfl) rfl) hst
    (fun h k => h.trans k fun _ _ h => h) (kp_put fun j h => .inr h) (Below.refl _ _) (fun _ => rfl)
    (fun pre W => ∃ v, Blk W (w3.heap.size + 1) 42 #[v] ∧ Own W W0.heap.size 5 v ((sect 56 (four nw) PB (pre.map (·.1))).map eb) ∧ Kp (fun j => j = w3.heap.size + 1 ∨ W0.heap.size ≤ j) W0 W)
    (fun _ _ _ => False) (box_from (f := fun pre : List (Cut 56 224) => (sect 56 (four nw) PB (pre.map (·.1))).map eb) (by omega)) (fun _ _ _ _ _ hs _ _ => hs)
    ⟨_, O8, Own.nil _ _ _, Kp.refl _ _⟩
    (fun x => { tmps := #[.agg #[.int .i64 nu, .int .i64 bo, .slice A l1.length c, .int .i64 n1, .int .u32 (s1.toNat : Int), .slice A2 l2.length c2, .int .i64 n2, .int .u32 (s2.toNat : Int)], .pointer (some ⟨w.heap.size, 0, none⟩), .slice none 0 0, .int .i64 0, .pointer (some ⟨w3.heap.size, 0, none⟩), .pointer (some ⟨w3.heap.size + 1, 0, none⟩), .slice (some (ad6.add x.1)) 56 56, .agg #[.int .i64 nu, .int .i64 bo, .slice A l1.length c, .int .i64 n1, .int .u32 (s1.toNat : Int), .slice A2 l2.length c2, .int .i64 n2, .int .u32 (s2.toNat : Int)], .bool true, .bool false, .pointer (some ⟨w.heap.size, 0, none⟩), .int .i64 nu, .int .u32 nu, .slice A3 4 c3, .agg #[.int .i64 nu, .int .i64 bo, .slice A l1.length c, .int .i64 n1, .int .u32 (s1.toNat : Int), .slice A2 l2.length c2, .int .i64 n2, .int .u32 (s2.toNat : Int)], .slice (some ad6) 224 c6, .func (.func 83) #[] #[.pointer (some ⟨w6.heap.size, 0, none⟩), .pointer (some ⟨w6.heap.size + 1, 0, none⟩)], .slice (some (ad6.add x.1)) 56 56, undef, undef, undef, undef, undef, undef, undef], defers := [] }) ?assign ?body ?done ?stop
  case assign =>
    intro l x W K hK
    unfold cutE
    gi_wp2
    exact hK
  case body =>
    rintro l pre x W ⟨v, hb, ho, hk⟩ hlt
    obtain ⟨o, hox⟩ := x
    have hsn := sect_snoc 56 (four nw) PB (pre.map (·.1)) o
    have hsl := sect_len 56 (four nw) PB (pre.map (·.1))
    rw [List.length_map, four_len] at hsl
    have hpt : ((PB.drop o).take 56).length = 56 := by rw [List.length_take, List.length_drop, HPL.out]; omega
    have rP : RB W _ _ := RB.cut (RB.kp r68 hk fun ad e => by cases e; omega) o 56
    have rE : RB W A3 (four nw) := RB.kp r38 hk fun ad e => by have := HA3 ad e; omega
    have E9 := E8.kp hk (by omega)
    obtain ⟨Av, cv, rfl, hcv, rv⟩ := ho.bytes
    have y4 : W.cell? ⟨w3.heap.size, 0, none⟩ = some (.slice A3 4 c3) := E9.cell 0
    have y5 := hb.cell 0
    simp only [List.map_append, List.map_cons, List.map_nil] at hsn ⊢
    generalize sect 56 (four nw) PB (pre.map (·.1)) = S at *
    generalize hS2 : sect 56 (four nw) PB (pre.map (·.1) ++ [o]) = S2 at *
    have hlf := four_len nw
    generalize four nw = E at *
    have HS2 := Lib.hid hS2
    clear hS2
    generalize (PB.drop o).take 56 = T at *
    obtain ⟨sl, hsl2⟩ : ∃ sl, S.length = sl := ⟨_, rfl⟩
    rw [hsl2] at y5 hcv hsl hb ho
    have hcc : ∀ W2 : World, Below W.heap.size W W2 → Rd W2 (some ⟨W.heap.size, 0, none⟩) [.slice Av sl cv, .slice A3 4 c3, .slice (some (ad6.add o)) 56 56, .slice A3 4 c3] → Calls Try.prog 79 #[.slice (some ⟨W.heap.size, 0, none⟩) 4 4] W2 fun e w' => ∃ v, e = .returned v ∧ Own w' W2.heap.size 5 v (S2.map eb) ∧ Below W2.heap.size W2 w' := fun W2 hb2 hr2 => by
      have hfl : [S, E, T, E].flatten = S2 := by rw [hsn]; simp
      rw [← hfl]
      exact concat_bytes (some ⟨W.heap.size, 0, none⟩) 4 4 [.slice Av sl cv, .slice A3 4 c3, .slice (some (ad6.add o)) 56 56, .slice A3 4 c3] [S, E, T, E] W2 rfl hr2
        (AreB.cons ⟨Av, cv, by rw [hsl2], by omega, rv.below hb2⟩ (AreB.cons ⟨A3, c3, by rw [hlf], by omega, rE.below hb2⟩ (AreB.cons ⟨_, 56, by rw [hpt], by omega, rP.below hb2⟩ (AreB.cons ⟨A3, c3, by rw [hlf], by omega, rE.below hb2⟩ (AreB.nil _)))))
        (by simp only [List.flatten_cons, List.flatten_nil, List.length_append, List.length_nil, hsl2, hlf, hpt]; omega) (by omega)
    have HCC := Lib.hid hcc
    have hszk := hk.size
    clear hcc hsn hlf hpt hsl2 rv rP rE E9
    gi_wp2_with fail
    refine ⟨trivial, ?_⟩
    refine (CallsIn.inRound l (callsIn_wide.2 (HCC.out _ (bal (Below.refl _ _) _) (Rd.lit W _ _ _)))).mono ?_
    rintro e w9 ⟨v9, rfl, ho9, hb9⟩
    have hb10 := bn (bal (Below.refl W.heap.size W) _) hb9
    have O9 := hb.below hb10
    have y9 := O9.cell 0
    have hz9 := hb10.size
    obtain ⟨A9, c9, rfl, hc9, rv9⟩ := ho9.bytes
    have f9 := O9.frozen 0
    have O10 := O9.set 0 (.slice A9 S2.length c9)
    have ho10 : Own (w9.setCell ⟨w3.heap.size + 1, 0, none⟩ (.slice A9 S2.length c9)) W0.heap.size 5 (.slice A9 S2.length c9) (S2.map eb) :=
      Own.other (ho9.lower (by simp; omega)) (Ne.symm (ho9.no_blk O9 (by decide))) _
    have hk10 : Kp (fun j => j = w3.heap.size + 1 ∨ W0.heap.size ≤ j) W (w9.setCell ⟨w3.heap.size + 1, 0, none⟩ (.slice A9 S2.length c9)) := Kp.setCell (kp_of hb10) 0 _ (.inl rfl)
    have hf10 : KeepsFrom W0.heap.size W (w9.setCell ⟨w3.heap.size + 1, 0, none⟩ (.slice A9 S2.length c9)) := (keeps_below hb10).trans (KeepsFrom.of_grownBy (grownBy_setCell' _ _ _) fun j e => by cases e; omega)
    clear ho9 rv9 hb9
    gi_wp2
    exact ⟨hf10, hk10, ⟨_, O10, by rw [List.map_append, List.map_cons, List.map_nil, HS2.out]; exact ho10, hk.trans hk10 fun _ _ h => h⟩⟩
  case done =>
    rintro D ys W hD hys ⟨v, hb, ho, hk⟩ hK
    have hc := hb.cell 0
    rw [hys, ← HBB.out] at ho
    have hbW : Below w.heap.size w W := b8.trans (hk.below (by omega) fun j hj => by omega)
    gi_wp2
    refine ⟨by simp, .inl ⟨_, _, rfl, run_takeDeferred hK, ?_⟩⟩
    refine ⟨_, results_tmp2 rfl _ _ _, v, rfl, Own.lower (ownsRow_putObj ho _ hK rfl) (by omega), hbW.trans (belowK_b (w := W0) (by omega) W D _ _ hD hK rfl rfl)⟩
  case stop =>
    rintro D c pre W _ _ h _
    exact h.elim
end Go.Proofs.Ytangfnenfhkokaa
