/-
  SuperOver.
-/
import Derived.Test.YtangfnenfhkokaaSupTear
set_option linter.unusedSimpArgs false
set_option linter.unusedVariables false
namespace Go.Proofs.Ytangfnenfhkokaa
open Go.RowKit Go.Maps

theorem box_kp {W0 V : World} {F : Nat → Prop} {g : Nat} {e : TypeId} {v0 v1 v2 v3 v4 v5 v6 v7 : Value} (h : Blk W0 g e #[v0, v1, v2, v3, v4, v5, v6, v7]) (hk : Kp F W0 V) (hg : ¬ F g) :
    V.cell? ⟨g, 0, none⟩ = some v0 ∧ V.cell? ⟨g, 1, none⟩ = some v1 ∧ V.cell? ⟨g, 2, none⟩ = some v2 ∧ V.cell? ⟨g, 3, none⟩ = some v3 ∧ V.cell? ⟨g, 4, none⟩ = some v4 ∧ V.cell? ⟨g, 5, none⟩ = some v5 ∧ V.cell? ⟨g, 6, none⟩ = some v6 ∧ V.cell? ⟨g, 7, none⟩ = some v7 := by
  have h := h.kp hk hg
  exact ⟨h.cell 0, h.cell 1, h.cell 2, h.cell 3, h.cell 4, h.cell 5, h.cell 6, h.cell 7⟩

theorem two_boxes (W0 : World) (e : TypeId) (c1 c2 : Array Value) : Blk ((W0.alloc (.cells c1 e)).alloc (.cells c2 e)).drew W0.heap.size e c1 ∧ Blk ((W0.alloc (.cells c1 e)).alloc (.cells c2 e)).drew (W0.heap.size + 1) e c2 ∧ Below W0.heap.size W0 ((W0.alloc (.cells c1 e)).alloc (.cells c2 e)).drew := by
  refine ⟨(Blk.new W0 e c1).alloc _, ?_, bdr (bal (bal (Below.refl _ _) _) _)⟩
  have := Blk.new (W0.alloc (.cells c1 e)) e c2
  rw [size_more'] at this
  exact this
theorem Blk.drewS {w : World} {g : Nat} {e : TypeId} {cs : Array Value} (h : Blk w g e cs) : Blk w.drew g e cs := h
theorem make256 (w : World) : Own (w.alloc (.cells (Array.replicate 256 (.int .u8 0)) 5)) w.heap.size 5 (.slice (some ⟨w.heap.size, 0, none⟩) 256 256) ((List.replicate 256 (0 : UInt8)).map eb) := by
  have hz : (Array.replicate 256 (Value.int .u8 0)) = ((List.replicate 256 (0 : UInt8)).map eb).toArray := by rw [List.map_replicate, List.toArray_replicate]; rfl
  have h1 := Blk.new w 5 (Array.replicate 256 (.int .u8 0))
  rw [hz] at h1 ⊢
  have := Blk.own (B := w.heap.size) (cs := (List.replicate 256 (0 : UInt8)).map eb) (cap := 256) h1 (Nat.le_refl _) (by rw [List.length_map, List.length_replicate]; omega) (by rw [List.size_toArray, List.length_map, List.length_replicate]) (by unfold maxLen; omega) (by rw [List.toList_toArray]; exact List.take_of_length_le (Nat.le_refl _))
  rw [List.length_map, List.length_replicate] at this
  exact this
/-- what lay there -/
def fitB (old : List UInt8) : List UInt8 := lay (List.replicate 256 0) 0 (old.take 256)
theorem fitB_len (old : List UInt8) : (fitB old).length = 256 := by
  unfold fitB
  rw [lay_length _ _ _ (by rw [List.length_take, List.length_replicate]; omega)]
  exact List.length_replicate
theorem flO_get (a : Sup) (X : List UInt8) (k : Nat) (hk : k < 8) : (((List.range (List.replicate 8 zeros64).length).map fun i : Nat => (caSlot (caSlot (fun _ => none) 1 X 4) 0 (bytesB a) 4 (i : Int)).getD ((List.replicate 8 zeros64).getD i []))).getD k [] = (caSlot (caSlot (fun _ => none) 1 X 4) 0 (bytesB a) 4 (k : Int)).getD zeros64 := by
  rw [List.getD_eq_getElem?_getD, List.getElem?_map, List.getElem?_range (by simpa using hk)]
  simp only [Option.map_some, Option.getD_some]
  rw [List.getD_eq_getElem?_getD, List.getElem?_replicate, if_pos hk]
  rfl
theorem over_writes {a b : Sup} (ha : supMay a 96 = true) (hb : supMay b 96 = true) (a5 : a.number = 5) (b6 : b.number = 6) {X : List UInt8} (hX : X.length = 256) (h0 : ∀ i, i < 4 → (piece X i)[0]? ≠ some 6 ∧ (piece X i)[60]? ≠ some 6) (hno : parseB X 96 = none) :
    ∃ d1 d2 d3 : DSt, wrK (wrK (newD 8) ((1 : Nat) : Int) X 4).2 ((0 : Nat) : Int) (bytesB a) 4 = (0, d1) ∧ d1.ops < 1000 ∧ flushD d1 = (0, d2) ∧ d2.ops < 1000 ∧ wrK d2 ((1 : Nat) : Int) (bytesB b) 4 = (0, d3) ∧ ∀ ch ks, supBest (crashD d3 ch ks) 96 = (a, 0) ∨ supBest (crashD d3 ch ks) 96 = (b, 0) := by
  have hBA := bytesB_len a (mayF a ha).len
  have hBB := bytesB_len b (mayF b hb).len
  have e0 : wrK (newD 8) ((1 : Nat) : Int) X 4 = (0, liveD (List.replicate 8 zeros64) (caSlot (fun _ => none) 1 X 4) (0 + ((4 : Nat) : Int))) := by
    rw [newD_live]
    exact wr_live _ _ _ 1 _ (by simp) (by omega) hX 4 (by omega)
  rw [e0]
  have hfl : ((List.range (List.replicate 8 zeros64).length).map fun i : Nat => (caSlot (caSlot (fun _ => none) 1 X 4) 0 (bytesB a) 4 (i : Int)).getD ((List.replicate 8 zeros64).getD i [])).length = 8 := by simp
  refine ⟨liveD (List.replicate 8 zeros64) (caSlot (caSlot (fun _ => none) 1 X 4) 0 (bytesB a) 4) (0 + ((4 : Nat) : Int) + ((4 : Nat) : Int)), _, _, wr_live _ _ _ 0 _ (by simp) (by omega) hBA 4 (by omega), by simp [liveD], flush_live _ _ _, by simp [liveD], wr_live _ _ _ 1 _ hfl (by omega) hBB 4 (by omega), fun ch ks => ?_⟩
  refine torn_best ha hb a5 b6 _ _ X hfl hX (fun i hi => ?_) (fun i hi => ?_) h0 hno ch ks
  · rw [flO_get a X i (by omega)]
    unfold caSlot
    rw [if_pos (by omega), show ((i : Int) - ((0 : Nat) : Int) * 4).toNat = i by omega]
    rfl
  · rw [flO_get a X (4 + i) (by omega)]
    unfold caSlot
    rw [if_neg (by omega), if_pos (by omega), show (((4 + i : Nat) : Int) - ((1 : Nat) : Int) * 4).toNat = i by omega]
    rfl
theorem over_ok {X : List UInt8} (hX : X.length = 256) (k : Nat) (hk : k ≤ 4) : (wrK (newD 8) ((1 : Nat) : Int) X k).1 = 0 ∧ (wrK (newD 8) ((1 : Nat) : Int) X k).2.ops = (k : Int) := by
  rw [newD_live, wr_live _ _ _ 1 _ (by simp) (by omega) hX k hk]
  exact ⟨rfl, by simp [liveD]⟩
set_option maxRecDepth 100000 in
set_option maxHeartbeats 8000000 in
theorem sover_walk (a : Sup) (A : Option Addr) (c : Nat) (A2 : Option Addr) (c2 : Nat) (b : Sup) (B : Option Addr) (d : Nat) (B2 : Option Addr) (d2 : Nat) (AO : Option Addr) (mo co : Nat) (old : List UInt8) (hmo : old.length = mo) (AC : Option Addr) (m cc : Nat) (ch : List UInt8) (hm : ch.length = m) (W : World) (h : SArg W a A A2) (h' : SArg W b B B2) (hro : RB W AO old) (hrc : RB W AC ch) (hmaxo : mo ≤ 9223372036854775807) (hmax : m ≤ 9223372036854775807) :
    Calls Try.prog 10 #[.agg #[.int .i64 a.number, .int .i64 a.boot, .slice A a.jour.segs.length c, .int .i64 a.jour.len, .int .u32 (a.jour.last.toNat : Int), .slice A2 a.chunks.segs.length c2, .int .i64 a.chunks.len, .int .u32 (a.chunks.last.toNat : Int), .int .i64 b.number, .int .i64 b.boot, .slice B b.jour.segs.length d, .int .i64 b.jour.len, .int .u32 (b.jour.last.toNat : Int), .slice B2 b.chunks.segs.length d2, .int .i64 b.chunks.len, .int .u32 (b.chunks.last.toNat : Int)], .slice AO mo co, .slice AC m cc] W fun e w' => e = .returned (.bool true) ∧ Below W.heap.size W w' := by
  have P0 := Blk.new W 76 #[.int .i64 a.number, .int .i64 a.boot, .slice A a.jour.segs.length c, .int .i64 a.jour.len, .int .u32 (a.jour.last.toNat : Int), .slice A2 a.chunks.segs.length c2, .int .i64 a.chunks.len, .int .u32 (a.chunks.last.toNat : Int), .int .i64 b.number, .int .i64 b.boot, .slice B b.jour.segs.length d, .int .i64 b.jour.len, .int .u32 (b.jour.last.toNat : Int), .slice B2 b.chunks.segs.length d2, .int .i64 b.chunks.len, .int .u32 (b.chunks.last.toNat : Int)]
  have b0 := bal (Below.refl W.heap.size W) (.cells #[.int .i64 a.number, .int .i64 a.boot, .slice A a.jour.segs.length c, .int .i64 a.jour.len, .int .u32 (a.jour.last.toNat : Int), .slice A2 a.chunks.segs.length c2, .int .i64 a.chunks.len, .int .u32 (a.chunks.last.toNat : Int), .int .i64 b.number, .int .i64 b.boot, .slice B b.jour.segs.length d, .int .i64 b.jour.len, .int .u32 (b.jour.last.toNat : Int), .slice B2 b.chunks.segs.length d2, .int .i64 b.chunks.len, .int .u32 (b.chunks.last.toNat : Int)] 76)
  go_enter Try.func10, Try.ntmps10
  go_wp2_with fail
  generalize (W.alloc (.cells #[.int .i64 a.number, .int .i64 a.boot, .slice A a.jour.segs.length c, .int .i64 a.jour.len, .int .u32 (a.jour.last.toNat : Int), .slice A2 a.chunks.segs.length c2, .int .i64 a.chunks.len, .int .u32 (a.chunks.last.toNat : Int), .int .i64 b.number, .int .i64 b.boot, .slice B b.jour.segs.length d, .int .i64 b.jour.len, .int .u32 (b.jour.last.toNat : Int), .slice B2 b.chunks.segs.length d2, .int .i64 b.chunks.len, .int .u32 (b.chunks.last.toNat : Int)] 76)) = Wa at *
  (with_reducible refine (law5_awake _).mono ?_)
  rintro e w1 ⟨rfl, hb⟩
  have hbW := bn b0 hb
  have P1 := P0.below hb
  have hT1 := P1.lt
  clear P0 hb b0
  go_upto_region 3 with (fail)
  go_cut [7, 8] (fun s7 s8 wx => ∃ X Y, s7 = .pointer (some ⟨X, 0, none⟩) ∧ s8 = .pointer (some ⟨Y, 0, none⟩) ∧ Blk wx X 64 #[.int .i64 a.number, .int .i64 a.boot, .slice A a.jour.segs.length c, .int .i64 a.jour.len, .int .u32 (a.jour.last.toNat : Int), .slice A2 a.chunks.segs.length c2, .int .i64 a.chunks.len, .int .u32 (a.chunks.last.toNat : Int)] ∧ Blk wx Y 64 #[.int .i64 b.number, .int .i64 b.boot, .slice B b.jour.segs.length d, .int .i64 b.jour.len, .int .u32 (b.jour.last.toNat : Int), .slice B2 b.chunks.segs.length d2, .int .i64 b.chunks.len, .int .u32 (b.chunks.last.toNat : Int)] ∧ X ≠ Y ∧ w1.heap.size ≤ X ∧ w1.heap.size ≤ Y ∧ Below w1.heap.size w1 wx)
  case first =>
    have HKP : Hid (∀ V, Blk V W.heap.size 76 #[.int .i64 a.number, .int .i64 a.boot, .slice A a.jour.segs.length c, .int .i64 a.jour.len, .int .u32 (a.jour.last.toNat : Int), .slice A2 a.chunks.segs.length c2, .int .i64 a.chunks.len, .int .u32 (a.chunks.last.toNat : Int), .int .i64 b.number, .int .i64 b.boot, .slice B b.jour.segs.length d, .int .i64 b.jour.len, .int .u32 (b.jour.last.toNat : Int), .slice B2 b.chunks.segs.length d2, .int .i64 b.chunks.len, .int .u32 (b.chunks.last.toNat : Int)] → (V.cell? ⟨W.heap.size, 0, none⟩ = some (.int .i64 a.number) ∧ V.cell? ⟨W.heap.size, 1, none⟩ = some (.int .i64 a.boot) ∧ V.cell? ⟨W.heap.size, 2, none⟩ = some (.slice A a.jour.segs.length c) ∧ V.cell? ⟨W.heap.size, 3, none⟩ = some (.int .i64 a.jour.len) ∧ V.cell? ⟨W.heap.size, 4, none⟩ = some (.int .u32 (a.jour.last.toNat : Int)) ∧ V.cell? ⟨W.heap.size, 5, none⟩ = some (.slice A2 a.chunks.segs.length c2) ∧ V.cell? ⟨W.heap.size, 6, none⟩ = some (.int .i64 a.chunks.len) ∧ V.cell? ⟨W.heap.size, 7, none⟩ = some (.int .u32 (a.chunks.last.toNat : Int))) ∧ (V.cell? ⟨W.heap.size, 8, none⟩ = some (.int .i64 b.number) ∧ V.cell? ⟨W.heap.size, 9, none⟩ = some (.int .i64 b.boot) ∧ V.cell? ⟨W.heap.size, 10, none⟩ = some (.slice B b.jour.segs.length d) ∧ V.cell? ⟨W.heap.size, 11, none⟩ = some (.int .i64 b.jour.len) ∧ V.cell? ⟨W.heap.size, 12, none⟩ = some (.int .u32 (b.jour.last.toNat : Int)) ∧ V.cell? ⟨W.heap.size, 13, none⟩ = some (.slice B2 b.chunks.segs.length d2) ∧ V.cell? ⟨W.heap.size, 14, none⟩ = some (.int .i64 b.chunks.len) ∧ V.cell? ⟨W.heap.size, 15, none⟩ = some (.int .u32 (b.chunks.last.toNat : Int)))) := Lib.hid fun V h => ⟨⟨h.cell 0, h.cell 1, h.cell 2, h.cell 3, h.cell 4, h.cell 5, h.cell 6, h.cell 7⟩, ⟨h.cell 8, h.cell 9, h.cell 10, h.cell 11, h.cell 12, h.cell 13, h.cell 14, h.cell 15⟩⟩
    clear h h' hro hrc hbW
    go_region_held (fun V => (V.cell? ⟨W.heap.size, 0, none⟩ = some (.int .i64 a.number) ∧ V.cell? ⟨W.heap.size, 1, none⟩ = some (.int .i64 a.boot) ∧ V.cell? ⟨W.heap.size, 2, none⟩ = some (.slice A a.jour.segs.length c) ∧ V.cell? ⟨W.heap.size, 3, none⟩ = some (.int .i64 a.jour.len) ∧ V.cell? ⟨W.heap.size, 4, none⟩ = some (.int .u32 (a.jour.last.toNat : Int)) ∧ V.cell? ⟨W.heap.size, 5, none⟩ = some (.slice A2 a.chunks.segs.length c2) ∧ V.cell? ⟨W.heap.size, 6, none⟩ = some (.int .i64 a.chunks.len) ∧ V.cell? ⟨W.heap.size, 7, none⟩ = some (.int .u32 (a.chunks.last.toNat : Int))) ∧ (V.cell? ⟨W.heap.size, 8, none⟩ = some (.int .i64 b.number) ∧ V.cell? ⟨W.heap.size, 9, none⟩ = some (.int .i64 b.boot) ∧ V.cell? ⟨W.heap.size, 10, none⟩ = some (.slice B b.jour.segs.length d) ∧ V.cell? ⟨W.heap.size, 11, none⟩ = some (.int .i64 b.jour.len) ∧ V.cell? ⟨W.heap.size, 12, none⟩ = some (.int .u32 (b.jour.last.toNat : Int)) ∧ V.cell? ⟨W.heap.size, 13, none⟩ = some (.slice B2 b.chunks.segs.length d2) ∧ V.cell? ⟨W.heap.size, 14, none⟩ = some (.int .i64 b.chunks.len) ∧ V.cell? ⟨W.heap.size, 15, none⟩ = some (.int .u32 (b.chunks.last.toNat : Int)))) (exact HKP.out _ (by repeat (first | (with_reducible exact P1) | (with_reducible refine Blk.drewS ?_) | (with_reducible refine Blk.alloc ?_ _) | (with_reducible refine Blk.other ?_ (by simp; try omega) _)))) (fail)
    all_goals (go_wp2_with fail; go_meet)
    · exact ⟨_, _, rfl, rfl, (two_boxes w1 _ _ _).1, (two_boxes w1 _ _ _).2.1, by omega, by omega, by omega, (two_boxes w1 _ _ _).2.2⟩
    · exact ⟨_, _, rfl, rfl, (two_boxes w1 _ _ _).2.1, (two_boxes w1 _ _ _).1, by omega, by omega, by omega, (two_boxes w1 _ _ _).2.2⟩
  case rest =>
    obtain ⟨X, Y, rfl, rfl, hX, hY, hne, hXl, hYl, hbc⟩ := hcut
    have hbW := bn hbW hbc
    have u0 := hX.frozen 0
    have u1 := hY.frozen 0
    have x0 := hX.cell 0
    have y0 := hY.cell 0
    have hXs := hX.lt
    have hYs := hY.lt
    have B4 : Blk (wc.setCell ⟨X, 0, none⟩ (.int .i64 5)) X 64 #[.int .i64 5, .int .i64 a.boot, .slice A a.jour.segs.length c, .int .i64 a.jour.len, .int .u32 (a.jour.last.toNat : Int), .slice A2 a.chunks.segs.length c2, .int .i64 a.chunks.len, .int .u32 (a.chunks.last.toNat : Int)] := hX.set 0 (.int .i64 5)
    have B5 := B4.other (a := ⟨Y, 0, none⟩) (by simp; omega) (.int .i64 6)
    have C4 := hY.other (a := ⟨X, 0, none⟩) (by simp; omega) (.int .i64 5)
    have C5 : Blk ((wc.setCell ⟨X, 0, none⟩ (.int .i64 5)).setCell ⟨Y, 0, none⟩ (.int .i64 6)) Y 64 #[.int .i64 6, .int .i64 b.boot, .slice B b.jour.segs.length d, .int .i64 b.jour.len, .int .u32 (b.jour.last.toNat : Int), .slice B2 b.chunks.segs.length d2, .int .i64 b.chunks.len, .int .u32 (b.chunks.last.toNat : Int)] := C4.set 0 (.int .i64 6)
    have hbW4 : Below W.heap.size W ((wc.setCell ⟨X, 0, none⟩ (.int .i64 5)).setCell ⟨Y, 0, none⟩ (.int .i64 6)) := (hbW.setCell (by show W.heap.size ≤ X; omega) _).setCell (by show W.heap.size ≤ Y; omega) _
    have hsz4 : ((wc.setCell ⟨X, 0, none⟩ (.int .i64 5)).setCell ⟨Y, 0, none⟩ (.int .i64 6)).heap.size = wc.heap.size := by simp
    clear B4 C4 P1
    go_upto_region 5 with (fail)
    generalize ((wc.setCell ⟨X, 0, none⟩ (.int .i64 5)).setCell ⟨Y, 0, none⟩ (.int .i64 6)) = w4 at *
    obtain ⟨N, hN⟩ : ∃ N, w4.heap.size = N := ⟨_, rfl⟩
    have hXN : X < N := by omega
    have hYN : Y < N := by omega
    clear u0 u1 hsz4 x0 y0 hX hY
    have h5 : a.number = a.number := rfl
    obtain ⟨a5, n5, o5, j5, k5⟩ : ∃ s : Sup, s.number = 5 ∧ s.boot = a.boot ∧ s.jour = a.jour ∧ s.chunks = a.chunks := ⟨⟨5, a.boot, a.jour, a.chunks⟩, rfl, rfl, rfl, rfl⟩
    obtain ⟨b6, n6, o6, j6, k6⟩ : ∃ s : Sup, s.number = 6 ∧ s.boot = b.boot ∧ s.jour = b.jour ∧ s.chunks = b.chunks := ⟨⟨6, b.boot, b.jour, b.chunks⟩, rfl, rfl, rfl, rfl⟩
    have B6 : Blk w4 X 64 #[.int .i64 a5.number, .int .i64 a5.boot, .slice A a5.jour.segs.length c, .int .i64 a5.jour.len, .int .u32 (a5.jour.last.toNat : Int), .slice A2 a5.chunks.segs.length c2, .int .i64 a5.chunks.len, .int .u32 (a5.chunks.last.toNat : Int)] := by rw [n5, o5, j5, k5]; exact B5
    have C6 : Blk w4 Y 64 #[.int .i64 b6.number, .int .i64 b6.boot, .slice B b6.jour.segs.length d, .int .i64 b6.jour.len, .int .u32 (b6.jour.last.toNat : Int), .slice B2 b6.chunks.segs.length d2, .int .i64 b6.chunks.len, .int .u32 (b6.chunks.last.toNat : Int)] := by rw [n6, o6, j6, k6]; exact C5
    have s5 : SArg W a5 A A2 := ⟨by rw [n5]; unfold wide; omega, by rw [o5]; exact h.boot, by rw [j5]; exact h.r1, by rw [k5]; exact h.r2, by rw [j5]; exact h.w1, by rw [k5]; exact h.w2, by rw [j5]; exact h.l1, by rw [k5]; exact h.l2, h.a1, h.a2⟩
    have s6 : SArg W b6 B B2 := ⟨by rw [n6]; unfold wide; omega, by rw [o6]; exact h'.boot, by rw [j6]; exact h'.r1, by rw [k6]; exact h'.r2, by rw [j6]; exact h'.w1, by rw [k6]; exact h'.w2, by rw [j6]; exact h'.l1, by rw [k6]; exact h'.l2, h'.a1, h'.a2⟩
    have HA := Lib.hid (fun (V : World) (hb : Below W.heap.size W V) => s5.below hb)
    have HA2 := Lib.hid (fun (V : World) (hb : Below W.heap.size W V) => s6.below hb)
    have HC := Lib.hid (fun (V : World) (hk : Kp (fun j => N ≤ j) w4 V) => box_kp B6 hk (by omega))
    have HD := Lib.hid (fun (V : World) (hk : Kp (fun j => N ≤ j) w4 V) => box_kp C6 hk (by omega))
    have hbW := hbW4
    have hN4 : N ≤ w4.heap.size := by omega
    have hWN : W.heap.size ≤ N := by have := hbW.size; omega
    clear hbW4 hN hXN hYN hT1 hne hXl hYl hXs hYs hbc
    have hk := Kp.refl (fun j => N ≤ j) w4
    obtain ⟨x0, x1, x2, x3, x4, x5, x6, x7⟩ := HC.out _ hk
    obtain ⟨y0, y1, y2, y3, y4, y5, y6, y7⟩ := HD.out _ hk
    have q1 : a5.jour.segs.length = a.jour.segs.length := by rw [j5]
    have q2 : a5.chunks.segs.length = a.chunks.segs.length := by rw [k5]
    have q3 : b6.jour.segs.length = b.jour.segs.length := by rw [j6]
    have q4 : b6.chunks.segs.length = b.chunks.segs.length := by rw [k6]
    have HN5 := Lib.hid n5
    have HN6 := Lib.hid n6
    clear n5 o5 j5 k5 n6 o6 j6 k6 B5 C5 B6 C6 s5 s6 q1 q2 q3 q4 h5
    by_cases g00 : (1000 : Int) < (mo : Int)
    · go_wp2
      go_ret
      exact ⟨rfl, hbW⟩
    by_cases g0 : (100 : Int) < (m : Int)
    · go_wp2
      go_ret
      exact ⟨rfl, hbW⟩
    by_cases g1 : (100 : Int) < (a5.jour.segs.length : Int)
    · go_wp2
      go_ret
      exact ⟨rfl, hbW⟩
    by_cases g2 : (100 : Int) < (b6.jour.segs.length : Int)
    · go_wp2
      go_ret
      exact ⟨rfl, hbW⟩
    by_cases g3 : (100 : Int) < (a5.chunks.segs.length : Int)
    · go_wp2
      go_ret
      exact ⟨rfl, hbW⟩
    by_cases g4 : (100 : Int) < (b6.chunks.segs.length : Int)
    · go_wp2
      go_ret
      exact ⟨rfl, hbW⟩
    cases hm1 : supMay a5 96 with
    | false =>
      have HRM := Lib.hid (arg_rmay (HA.out w4 hbW) 96 c c2 (by omega) (by omega) (by omega) hm1)
      go_wp2_with fail
      (with_reducible refine HRM.out.mono ?_)
      rintro e w5 ⟨rfl, hb'⟩
      replace hbW := bn hbW hb'
      go_wp2
      go_ret
      exact ⟨rfl, hbW⟩
    | true =>
      have HRM := Lib.hid (arg_rmay (HA.out w4 hbW) 96 c c2 (by omega) (by omega) (by omega) hm1)
      go_wp2_with fail
      (with_reducible refine HRM.out.mono ?_)
      rintro e w5 ⟨rfl, hb'⟩
      replace hbW := bn hbW hb'
      replace hk := hk.trans (kp_of hb') (fun j _ h => Nat.le_trans hN4 h)
      clear hb' x0 x1 x2 x3 x4 x5 x6 x7 y0 y1 y2 y3 y4 y5 y6 y7 HRM
      obtain ⟨y0, y1, y2, y3, y4, y5, y6, y7⟩ := HD.out _ hk
      cases hm2 : supMay b6 96 with
      | false =>
        have HRM := Lib.hid (arg_rmay (HA2.out w5 hbW) 96 d d2 (by omega) (by omega) (by omega) hm2)
        go_wp2_with fail
        (with_reducible refine HRM.out.mono ?_)
        rintro e w6 ⟨rfl, hb'⟩
        replace hbW := bn hbW hb'
        go_wp2
        go_ret
        exact ⟨rfl, hbW⟩
      | true =>
        have HRM := Lib.hid (arg_rmay (HA2.out w5 hbW) 96 d d2 (by omega) (by omega) (by omega) hm2)
        go_wp2_with fail
        (with_reducible refine HRM.out.mono ?_)
        rintro e wm ⟨rfl, hb'⟩
        replace hbW := bn hbW hb'
        replace hk := hk.trans (kp_of hb') (fun j _ h => Nat.le_trans (Nat.le_trans hN4 hk.size) h)
        clear hb' y0 y1 y2 y3 y4 y5 y6 y7 HRM
        go_wp2_with fail
        (with_reducible refine (live_new hbW 8 8 rfl (by omega)).mono ?_)
        rintro e wd ⟨g, P, rfl, hLd, hPd, hb'⟩
        have hNm := Nat.le_trans hN4 hk.size
        have hPl := Lib.hid hLd.disk.lt
        replace hbW := bn hbW hb'
        replace hk := hk.trans (kp_of hb') (fun j _ h => Nat.le_trans hNm h)
        have hNd := Nat.le_trans hN4 hk.size
        have hPN : Hid (∀ j, P j → N ≤ j ∧ j ≠ wd.heap.size) := Lib.hid fun j hj => ⟨Nat.le_trans hNm (hPd j hj), Nat.ne_of_lt (hPl.out j hj)⟩
        clear hb' hPd hPl hNm
        have hm256 := fun W : World => make_run (P := Try.prog) 42 5 (.int .u8 0) 1 Try.underlying42 info_u8 rfl 256 (by omega) (by omega) (by omega) W
        simp only [show ((256 : Int)).toNat = 256 from rfl] at hm256
        have hoz := make256 wd
        have hbz := bal (Below.refl wd.heap.size wd) (.cells (Array.replicate 256 (.int .u8 0)) 5)
        have hzs : (wd.alloc (.cells (Array.replicate 256 (.int .u8 0)) 5)).heap.size = wd.heap.size + 1 := size_more' _ _
        have hLz := hLd.below hbz
        have hkz := hk.trans (kp_of hbz) (fun j _ h => Nat.le_trans hNd h)
        have hbWz := bn hbW hbz
        obtain ⟨Q, hQ⟩ : ∃ Q, wd.heap.size = Q := ⟨_, rfl⟩
        have HRO := Lib.hid fun V (hb : Below W.heap.size W V) => hro.below hb
        have HRC := Lib.hid fun V (hb : Below W.heap.size W V) => hrc.below hb
        clear hLd hbW hk hbz hro hrc
        go_upto_region 11 with (fail)
        rw [hQ] at hoz hzs hPN hNd
        try rw [hQ]
        generalize (wd.alloc (.cells (Array.replicate 256 (.int .u8 0)) 5)) = wz at *
        clear hm256 hQ
        have HCP := Lib.hid (copy_own hoz 0 (some ⟨Q, 0, none⟩) AO 256 256 mo co (old.take 256) (by rw [List.length_take, hmo]; exact Nat.min_comm _ _) (RB.take (HRO.out _ hbWz) 256) (fun _ => ⟨Q, rfl, rfl⟩) (by rw [List.length_take, List.length_replicate]; omega) 3)
        have hfit : lay (List.replicate 256 0) 0 (old.take 256) = fitB old := rfl
        rw [hfit] at HCP
        clear hoz hfit
        go_wp2_with (refine wpList_copy_ex rfl (.tmp 83) (.tmp 84) 42 42 rfl _ _ rfl rfl (old.take 256).length HCP.out ?_; rintro wy ⟨hoy, hky, hzy⟩)
        have hXX := fitB_len old
        generalize fitB old = XX at *
        have hLy := hLz.kp hky (fun j hj e => by have : Q = j := Option.some.inj e; exact (hPN.out j hj).2 this.symm) (fun j e => by have : Q = j := Option.some.inj e; omega)
        have hkyy := hkz.trans hky (fun j _ e => by have : Q = j := Option.some.inj e; omega)
        have hry := hoy.bytes_at
        have HXX := Lib.hid hXX
        have HOV := Lib.hid (fun k hk => over_ok hXX k hk)
        have hQy : Q < wy.heap.size := by omega
        clear hLz hky hkz hbWz hoy hzy hzs HCP hXX
        go_wp2_with fail
        go_loopw [12] (fun i wr => ∃ (k : Nat) (P' : Nat → Prop), k ≤ 4 ∧ i = .int .i64 (k : Int) ∧ Live W wr g P' k (wrK (newD 8) ((1 : Nat) : Int) XX k).2 ∧ Hid (∀ j, P' j → N ≤ j ∧ j ≠ Q) ∧ Kp (fun j => N ≤ j) w4 wr ∧ RB wr (some ⟨Q, 0, none⟩) XX ∧ Hid (∀ i, i < k → (piece XX i)[0]? ≠ some 6 ∧ (piece XX i)[60]? ≠ some 6) ∧ Q < wr.heap.size) (fun i _ => 4 - (intOf i).toNat)
        case atStart => exact ⟨0, P, by omega, rfl, hLy, hPN, hkyy, hry, Lib.hid (fun i hi => by omega), hQy⟩
        case round =>
          clear hLy hkyy hry hQy hPN
          obtain ⟨k, P', hk4, rfl, hL, hPN, hk, hr, hch, hQr⟩ := hrel
          by_cases hlt : k < 4
          · obtain ⟨A', hcm, hcr, -⟩ := cut_mid (P := Try.prog) 42 5 Try.underlying42 size_u8 (some ⟨Q, 0, none⟩) 256 256 ((k : Int) * 64) (((k : Int) + 1) * 64) (by omega) (by omega) (by omega)
            rw [show (((k : Int) + 1) * 64).toNat - ((k : Int) * 64).toNat = 64 by omega, show ((k : Int) * 64).toNat = k * 64 by omega] at hcm
            rw [show ((k : Int) * 64).toNat = k * 64 by omega] at hcr
            have rc := hcr wr _ (by rw [List.length_map, HXX.out]; exact Nat.le_refl _) hr
            rw [← List.map_drop] at rc
            have rc2 : RB wr A' (piece XX k) := RB.take rc 64
            have hl64 := piece_len HXX.out hlt
            obtain ⟨v0, hv0⟩ : ∃ v, (piece XX k).getD 0 9 = v := ⟨_, rfl⟩
            obtain ⟨v6, hv6⟩ : ∃ v, (piece XX k).getD 60 9 = v := ⟨_, rfl⟩
            obtain ⟨bb, oo, rfl, z0⟩ := rc2.byte 0 (by omega) v0 hv0
            obtain ⟨bb', oo', e6, z6⟩ := rc2.byte 60 (by omega) v6 hv6
            cases e6
            rw [Nat.add_zero] at z0
            have hst := wrK_succ (HOV.out k hk4).1
            obtain ⟨d', hd'⟩ : ∃ d', wrK (newD 8) ((1 : Nat) : Int) XX (k + 1) = (0, d') := ⟨_, Prod.ext (HOV.out (k + 1) (by omega)).1 rfl⟩
            rw [hd', show ((1 : Nat) : Int) * 4 + (k : Int) = 4 + (k : Int) by omega] at hst
            have HW := Lib.hid (live_write hL (4 + (k : Int)) _ 64 (256 - k * 64) (piece XX k) hl64 rc2 (by omega) (by omega) (by rw [(HOV.out k hk4).2]; omega) hst.symm)
            have HBW := Lib.hid hL.bel
            have HD' := Lib.hid hd'
            have hPlt := Lib.hid hL.disk.lt
            have hch2 : v0.toNat ≠ 6 → v6.toNat ≠ 6 → Hid (∀ i, i < k + 1 → (piece XX i)[0]? ≠ some 6 ∧ (piece XX i)[60]? ≠ some 6) := fun n0 n6 => Lib.hid fun i hi => by
              by_cases e : i < k
              · exact hch.out i e
              · obtain rfl : i = k := by omega
                constructor
                · intro f
                  rw [List.getD_eq_getElem?_getD, f] at hv0
                  exact n0 (by rw [← hv0]; rfl)
                · intro f
                  rw [List.getD_eq_getElem?_getD, f] at hv6
                  exact n6 (by rw [← hv6]; rfl)
            have HCH := Lib.hid hch2
            generalize v0.toNat = n0 at *
            generalize v6.toNat = n6 at *
            clear hcr rc rc2 hl64 hst hd' hL hv0 hv6 hch2 hch
            by_cases e0 : n0 = 6
            · subst e0
              go_wp2
              go_ret
              exact ⟨rfl, HBW.out⟩
            · have t0 : (n0 : Int) ≠ 6 := by omega
              have tb0 : ((n0 : Int) == 6) = false := by simp; omega
              by_cases e6 : n6 = 6
              · subst e6
                go_wp2
                go_ret
                exact ⟨rfl, HBW.out⟩
              · have t6 : (n6 : Int) ≠ 6 := by omega
                have tb6 : ((n6 : Int) == 6) = false := by simp; omega
                go_wp2_with fail
                (with_reducible refine HW.out.mono ?_)
                rintro e wv ⟨rfl, hLv, hkv⟩
                have hrv := hr.kp hkv (fun ad e f => by cases e; exact (hPN.out _ f).2 rfl)
                have hkk := hk.trans hkv (fun j _ f => (hPN.out j f).1)
                have hsz := hkv.size
                have hNr := Nat.le_trans hN4 hk.size
                clear hr hk hkv z0 z6
                go_wp2
                go_roundw
                case rel =>
                  refine ⟨k + 1, _, by omega, by go_num, by rw [HD'.out]; exact hLv, Lib.hid fun j hj => ?_, hkk, hrv, HCH.out e0 e6, by omega⟩
                  rcases hj with hj | hj
                  · exact hPN.out j hj
                  · omega
                case measure => simp [intOf]; try omega
          · obtain rfl : k = 4 := by omega
            obtain ⟨hz, hops⟩ := HOV.out 4 hk4
            obtain ⟨D0, hD0⟩ : ∃ D0, (wrK (newD 8) ((1 : Nat) : Int) XX 4).2 = D0 := ⟨_, rfl⟩
            have HOVW := Lib.hid (fun hno => over_writes hm1 hm2 HN5.out HN6.out HXX.out hch.out hno)
            rw [hD0] at hL hops HOVW
            have HP := Lib.hid (super_parse XX 96 (some ⟨Q, 0, none⟩) 256 wr HXX.out (by omega) hr)
            have hbW := hL.bel
            clear hz HOV hD0
            go_wp2_with fail
            (with_reducible refine HP.out.mono ?_)
            rintro e wp ⟨q, D, e1, D2, e2, ok, rfl, hpo, -, -, -, -, -, hb'⟩
            have hbx := bal hb' (.cells #[.int .i64 q.number, .int .i64 q.boot, .slice D q.jour.segs.length e1, .int .i64 q.jour.len, .int .u32 (q.jour.last.toNat : Int), .slice D2 q.chunks.segs.length e2, .int .i64 q.chunks.len, .int .u32 (q.chunks.last.toNat : Int)] 68)
            have hL6 := hL.below hbx
            have hNr := Nat.le_trans hN4 hk.size
            replace hk := hk.trans (kp_of hbx) (fun j _ h => Nat.le_trans hNr h)
            replace hbW := bn hbW hbx
            have HM1 := Lib.hid hm1
            have HM2 := Lib.hid hm2
            unfold supV
            clear hL hb' hbx hr HP hm1 hm2 hNr
            go_upto_region 19 with (fail)
            generalize (wp.alloc (.cells #[.int .i64 q.number, .int .i64 q.boot, .slice D q.jour.segs.length e1, .int .i64 q.jour.len, .int .u32 (q.jour.last.toNat : Int), .slice D2 q.chunks.segs.length e2, .int .i64 q.chunks.len, .int .u32 (q.chunks.last.toNat : Int)] 68)) = w6 at *
            cases ok with
            | true =>
              go_wp2
              go_ret
              exact ⟨rfl, hbW⟩
            | false =>
              obtain ⟨f1, f2, f3, hw1, ho1, hf, ho2, hw2, hbest⟩ := HOVW.out (by simpa using hpo)
              have hP : ∀ j, P' j → N ≤ j := fun j hj => (hPN.out j hj).1
              have HOPS : Hid (D0.ops < 1000) := Lib.hid (by omega)
              have hopos := hops
              clear HOVW hpo hops hopos
              have HW1 := Lib.hid hw1
              have HFL := Lib.hid hf
              have HW2 := Lib.hid hw2
              have HBEST := Lib.hid hbest
              clear hw1 hf hw2 hbest
              obtain ⟨x0, x1, x2, x3, x4, x5, x6, x7⟩ := HC.out _ hk
              go_wp2_with fail
              (with_reducible refine (arg_made a5 A c A2 c2 _).mono ?_)
              rintro e w7 ⟨rfl, hb'⟩
              replace hbW := bn hbW hb'
              replace hk := hk.trans (kp_of hb') (fun _ _ h => h)
              have hL7 := hL6.below hb'
              clear hb' x0 x1 x2 x3 x4 x5 x6 x7 hL6
              have hN7 := Nat.le_trans hN4 hk.size
              go_wp2_with fail
              (with_reducible refine (arg_write hL7 (by omega) HOPS.out 0 0 rfl (by omega) (HA.out _ hbW) c c2 HM1.out HW1.out).mono ?_)
              rintro e w8 ⟨rfl, hL8, hkp⟩
              replace hbW := hL8.bel
              replace hk := hk.trans hkp (fun j _ hj => hP j hj)
              clear hkp hL7
              go_wp2_with fail
              (with_reducible refine (live_flush hL8 (by omega) HFL.out).mono ?_)
              rintro e w9 ⟨rfl, hL9, hkp⟩
              replace hbW := hL9.bel
              replace hk := hk.trans hkp (fun j _ hj => by rcases hj with hj | hj; exact hP j hj; exact Nat.le_trans hN7 hj.1)
              clear hkp hL8
              obtain ⟨y0, y1, y2, y3, y4, y5, y6, y7⟩ := HD.out _ hk
              go_wp2_with fail
              (with_reducible refine (arg_made b6 B d B2 d2 _).mono ?_)
              rintro e w10 ⟨rfl, hb'⟩
              replace hbW := bn hbW hb'
              replace hk := hk.trans (kp_of hb') (fun _ _ h => h)
              have hL10 := hL9.below hb'
              clear hb' y0 y1 y2 y3 y4 y5 y6 y7 hL9
              go_wp2_with fail
              (with_reducible refine (arg_write hL10 (by omega) ho2 1 1 rfl (by omega) (HA2.out _ hbW) d d2 HM2.out HW2.out).mono ?_)
              rintro e w11 ⟨rfl, hL11, hkp⟩
              replace hbW := hL11.bel
              replace hk := hk.trans hkp (fun j _ hj => by rcases hj with hj | hj; exact hP j hj; exact Nat.le_trans hN7 hj.1)
              clear hkp hL10
              go_wp2_with fail
              (with_reducible refine (live_crash hL11 AC m cc ch hm (by omega) (HRC.out _ hbW) (by omega)).mono ?_)
              rintro e w12 ⟨g2, ks, P2, rfl, _, _, hLc, _, hb'⟩
              replace hbW := bn hbW hb'
              replace hk := hk.trans (kp_of hb') (fun _ _ h => h)
              have HSB := Lib.hid (super_best W g2 0 P2 _ 96 w12 hLc)
              clear hb' hL11 hLc
              rcases HBEST.out ch ks with hbe | hbe
              · skip
                have HBE : Hid (Calls Try.prog 35 #[.pointer (some ⟨g2, 0, none⟩), .int .i64 96] w12 (BestPost (a5, 0) w12)) := Lib.hid (by have h1 := HSB.out; rw [hbe] at h1; exact h1)
                clear HSB hbe
                go_wp2_with fail
                (with_reducible refine HBE.out.mono ?_)
                rintro e wp ⟨D, q1, D2, q2, rfl, hq1, hq2, hb'⟩
                have hX := bal (bn hbW hb') (.cells #[.int .i64 a5.number, .int .i64 a5.boot, .slice D a5.jour.segs.length q1, .int .i64 a5.jour.len, .int .u32 (a5.jour.last.toNat : Int), .slice D2 a5.chunks.segs.length q2, .int .i64 a5.chunks.len, .int .u32 (a5.chunks.last.toNat : Int)] 68)
                have hkx := (hk.trans (kp_of hb') (fun _ _ h => h)).trans (kp_of (bal (Below.refl wp.heap.size wp) (.cells #[.int .i64 a5.number, .int .i64 a5.boot, .slice D a5.jour.segs.length q1, .int .i64 a5.jour.len, .int .u32 (a5.jour.last.toNat : Int), .slice D2 a5.chunks.segs.length q2, .int .i64 a5.chunks.len, .int .u32 (a5.chunks.last.toNat : Int)] 68))) (fun _ _ h => h)
                have X1 := Blk.new wp 68 #[.int .i64 a5.number, .int .i64 a5.boot, .slice D a5.jour.segs.length q1, .int .i64 a5.jour.len, .int .u32 (a5.jour.last.toNat : Int), .slice D2 a5.chunks.segs.length q2, .int .i64 a5.chunks.len, .int .u32 (a5.chunks.last.toNat : Int)]
                have bx := bal (Below.refl wp.heap.size wp) (.cells #[.int .i64 a5.number, .int .i64 a5.boot, .slice D a5.jour.segs.length q1, .int .i64 a5.jour.len, .int .u32 (a5.jour.last.toNat : Int), .slice D2 a5.chunks.segs.length q2, .int .i64 a5.chunks.len, .int .u32 (a5.chunks.last.toNat : Int)] 68)
                have hA := HA.out _ hX
                have HS := Lib.hid (law5_same a5 a5 D q1 D2 q2 A c A2 c2 _ (hq1.below bx) (hq2.below bx) hA.r1 hA.r2 (by omega) (by omega))
                have HS2 := Lib.hid (fun (V : World) (hV : Below (wp.alloc (.cells #[.int .i64 a5.number, .int .i64 a5.boot, .slice D a5.jour.segs.length q1, .int .i64 a5.jour.len, .int .u32 (a5.jour.last.toNat : Int), .slice D2 a5.chunks.segs.length q2, .int .i64 a5.chunks.len, .int .u32 (a5.chunks.last.toNat : Int)] 68)).heap.size (wp.alloc (.cells #[.int .i64 a5.number, .int .i64 a5.boot, .slice D a5.jour.segs.length q1, .int .i64 a5.jour.len, .int .u32 (a5.jour.last.toNat : Int), .slice D2 a5.chunks.segs.length q2, .int .i64 a5.chunks.len, .int .u32 (a5.chunks.last.toNat : Int)] 68)) V) => law5_same a5 b6 D q1 D2 q2 B d B2 d2 V ((hq1.below bx).below hV) ((hq2.below bx).below hV) (HA2.out _ (bn hX hV)).r1 (HA2.out _ (bn hX hV)).r2 (by omega) (by omega))
                have HKX := Lib.hid (fun (V : World) (hV : Below (wp.alloc (.cells #[.int .i64 a5.number, .int .i64 a5.boot, .slice D a5.jour.segs.length q1, .int .i64 a5.jour.len, .int .u32 (a5.jour.last.toNat : Int), .slice D2 a5.chunks.segs.length q2, .int .i64 a5.chunks.len, .int .u32 (a5.chunks.last.toNat : Int)] 68)).heap.size (wp.alloc (.cells #[.int .i64 a5.number, .int .i64 a5.boot, .slice D a5.jour.segs.length q1, .int .i64 a5.jour.len, .int .u32 (a5.jour.last.toNat : Int), .slice D2 a5.chunks.segs.length q2, .int .i64 a5.chunks.len, .int .u32 (a5.chunks.last.toNat : Int)] 68)) V) => box_cells X1 hV)
                unfold supV at HS HS2
                unfold supV
                obtain ⟨x0, x1, x2, x3, x4, x5, x6, x7⟩ := HC.out _ hkx
                obtain ⟨z0, z1, z2, z3, z4, z5, z6, z7⟩ := HKX.out _ (Below.refl _ _)
                clear hq1 hq2 hb' hA bx X1
                go_upto_region 22 with (fail)
                generalize (wp.alloc (.cells #[.int .i64 a5.number, .int .i64 a5.boot, .slice D a5.jour.segs.length q1, .int .i64 a5.jour.len, .int .u32 (a5.jour.last.toNat : Int), .slice D2 a5.chunks.segs.length q2, .int .i64 a5.chunks.len, .int .u32 (a5.chunks.last.toNat : Int)] 68)) = wx at *
                go_wp2_with fail
                (with_reducible refine HS.out.mono ?_)
                rintro e w13 ⟨rs, rfl, hrs, hb13⟩
                have hX13 := bn hX hb13
                have hrs' := hrs.2 rfl
                subst hrs'
                clear hrs
                go_wp2
                go_ret
                exact ⟨rfl, hX13⟩
              · skip
                have HBE : Hid (Calls Try.prog 35 #[.pointer (some ⟨g2, 0, none⟩), .int .i64 96] w12 (BestPost (b6, 0) w12)) := Lib.hid (by have h1 := HSB.out; rw [hbe] at h1; exact h1)
                clear HSB hbe
                go_wp2_with fail
                (with_reducible refine HBE.out.mono ?_)
                rintro e wp ⟨D, q1, D2, q2, rfl, hq1, hq2, hb'⟩
                have hX := bal (bn hbW hb') (.cells #[.int .i64 b6.number, .int .i64 b6.boot, .slice D b6.jour.segs.length q1, .int .i64 b6.jour.len, .int .u32 (b6.jour.last.toNat : Int), .slice D2 b6.chunks.segs.length q2, .int .i64 b6.chunks.len, .int .u32 (b6.chunks.last.toNat : Int)] 68)
                have hkx := (hk.trans (kp_of hb') (fun _ _ h => h)).trans (kp_of (bal (Below.refl wp.heap.size wp) (.cells #[.int .i64 b6.number, .int .i64 b6.boot, .slice D b6.jour.segs.length q1, .int .i64 b6.jour.len, .int .u32 (b6.jour.last.toNat : Int), .slice D2 b6.chunks.segs.length q2, .int .i64 b6.chunks.len, .int .u32 (b6.chunks.last.toNat : Int)] 68))) (fun _ _ h => h)
                have X1 := Blk.new wp 68 #[.int .i64 b6.number, .int .i64 b6.boot, .slice D b6.jour.segs.length q1, .int .i64 b6.jour.len, .int .u32 (b6.jour.last.toNat : Int), .slice D2 b6.chunks.segs.length q2, .int .i64 b6.chunks.len, .int .u32 (b6.chunks.last.toNat : Int)]
                have bx := bal (Below.refl wp.heap.size wp) (.cells #[.int .i64 b6.number, .int .i64 b6.boot, .slice D b6.jour.segs.length q1, .int .i64 b6.jour.len, .int .u32 (b6.jour.last.toNat : Int), .slice D2 b6.chunks.segs.length q2, .int .i64 b6.chunks.len, .int .u32 (b6.chunks.last.toNat : Int)] 68)
                have hA := HA.out _ hX
                have HS := Lib.hid (law5_same b6 a5 D q1 D2 q2 A c A2 c2 _ (hq1.below bx) (hq2.below bx) hA.r1 hA.r2 (by omega) (by omega))
                have HS2 := Lib.hid (fun (V : World) (hV : Below (wp.alloc (.cells #[.int .i64 b6.number, .int .i64 b6.boot, .slice D b6.jour.segs.length q1, .int .i64 b6.jour.len, .int .u32 (b6.jour.last.toNat : Int), .slice D2 b6.chunks.segs.length q2, .int .i64 b6.chunks.len, .int .u32 (b6.chunks.last.toNat : Int)] 68)).heap.size (wp.alloc (.cells #[.int .i64 b6.number, .int .i64 b6.boot, .slice D b6.jour.segs.length q1, .int .i64 b6.jour.len, .int .u32 (b6.jour.last.toNat : Int), .slice D2 b6.chunks.segs.length q2, .int .i64 b6.chunks.len, .int .u32 (b6.chunks.last.toNat : Int)] 68)) V) => law5_same b6 b6 D q1 D2 q2 B d B2 d2 V ((hq1.below bx).below hV) ((hq2.below bx).below hV) (HA2.out _ (bn hX hV)).r1 (HA2.out _ (bn hX hV)).r2 (by omega) (by omega))
                have HKX := Lib.hid (fun (V : World) (hV : Below (wp.alloc (.cells #[.int .i64 b6.number, .int .i64 b6.boot, .slice D b6.jour.segs.length q1, .int .i64 b6.jour.len, .int .u32 (b6.jour.last.toNat : Int), .slice D2 b6.chunks.segs.length q2, .int .i64 b6.chunks.len, .int .u32 (b6.chunks.last.toNat : Int)] 68)).heap.size (wp.alloc (.cells #[.int .i64 b6.number, .int .i64 b6.boot, .slice D b6.jour.segs.length q1, .int .i64 b6.jour.len, .int .u32 (b6.jour.last.toNat : Int), .slice D2 b6.chunks.segs.length q2, .int .i64 b6.chunks.len, .int .u32 (b6.chunks.last.toNat : Int)] 68)) V) => box_cells X1 hV)
                unfold supV at HS HS2
                unfold supV
                obtain ⟨x0, x1, x2, x3, x4, x5, x6, x7⟩ := HC.out _ hkx
                obtain ⟨z0, z1, z2, z3, z4, z5, z6, z7⟩ := HKX.out _ (Below.refl _ _)
                clear hq1 hq2 hb' hA bx X1
                go_upto_region 22 with (fail)
                generalize (wp.alloc (.cells #[.int .i64 b6.number, .int .i64 b6.boot, .slice D b6.jour.segs.length q1, .int .i64 b6.jour.len, .int .u32 (b6.jour.last.toNat : Int), .slice D2 b6.chunks.segs.length q2, .int .i64 b6.chunks.len, .int .u32 (b6.chunks.last.toNat : Int)] 68)) = wx at *
                go_wp2_with fail
                (with_reducible refine HS.out.mono ?_)
                rintro e w13 ⟨rs, rfl, hrs, hb13⟩
                have hX13 := bn hX hb13
                clear hrs x0 x1 x2 x3 x4 x5 x6 x7 z0 z1 z2 z3 z4 z5 z6 z7
                cases rs with
                | true =>
                  go_wp2
                  go_ret
                  exact ⟨rfl, hX13⟩
                | false =>
                  obtain ⟨y0, y1, y2, y3, y4, y5, y6, y7⟩ := HD.out _ (hkx.trans (kp_of hb13) (fun _ _ h => h))
                  obtain ⟨z0, z1, z2, z3, z4, z5, z6, z7⟩ := HKX.out _ hb13
                  go_wp2_with fail
                  (with_reducible refine (HS2.out _ hb13).mono ?_)
                  rintro e w14 ⟨rs, rfl, hrs, hb14⟩
                  have hX14 := bn hX13 hb14
                  have hrs' := hrs.2 rfl
                  subst hrs'
                  clear hrs
                  go_wp2
                  go_ret
                  exact ⟨rfl, hX14⟩

section
open Go.ChangeShapes Go.WideShapes Go.ChangeAt Go.Deep
set_option maxRecDepth 100000 in
theorem row_ltT {w : World} {r : Reach} {b0 : Nat} {ts : List TypeId} {T : TypeId} {cs : Array Value} (hts : Try.prog.cellTypes Try.prog.depth T = some ts) (h : Row.okWide Try.prog w r b0 T cs) (i : Nat) (hi : ts[i % ts.length]? = some 35) {A : Option Addr} {n c : Nat} (hv : cs[i]? = some (.slice A n c)) :
    ∀ ad, A = some ad → ad.block < w.heap.size := by
  obtain ⟨ts', h1, -, h2⟩ := h
  rw [hts] at h1
  cases h1
  obtain ⟨u, hu, hc⟩ := h2 i _ hv
  rw [hi] at hu
  cases hu
  rintro ad rfl
  simp only [Cell.okWide, Cell.ok, Try.underlying35] at hc
  exact has_lt hc.2.2
set_option maxRecDepth 100000 in
/-- two slots as an argument -/
theorem open_super2 {H : Type} {enc : TypeId × Value → H} {w : World} {r : Reach} {b0 base : Nat} {held : Bool} {v : Value} {dt : DataW H} {p : List MemPlace} (hv : Value.okWide Try.prog w r b0 76 v) (h : DataW.Trod enc Try.prog w base (fun _ => true) held 76 v dt p) :
    ∃ (a : Sup) (A : Option Addr) (c : Nat) (A2 : Option Addr) (c2 : Nat) (b : Sup) (B : Option Addr) (d : Nat) (B2 : Option Addr) (d2 : Nat), v = .agg #[.int .i64 a.number, .int .i64 a.boot, .slice A a.jour.segs.length c, .int .i64 a.jour.len, .int .u32 (a.jour.last.toNat : Int), .slice A2 a.chunks.segs.length c2, .int .i64 a.chunks.len, .int .u32 (a.chunks.last.toNat : Int), .int .i64 b.number, .int .i64 b.boot, .slice B b.jour.segs.length d, .int .i64 b.jour.len, .int .u32 (b.jour.last.toNat : Int), .slice B2 b.chunks.segs.length d2, .int .i64 b.chunks.len, .int .u32 (b.chunks.last.toNat : Int)] ∧ SArg w a A A2 ∧ SArg w b B B2 := by
  obtain ⟨cs, rfl, hsz, hrow⟩ : ∃ cs, v = .agg cs ∧ cs.size = Try.prog.cellsOf 76 ∧ Row.okWide Try.prog w r b0 76 cs := by
    simp only [Value.okWide, Try.underlying76] at hv
    obtain ⟨cs, h1, h2, h3⟩ := hv
    exact ⟨cs, h1, h2, h3⟩
  obtain ⟨fuel, hf⟩ := h
  obtain ⟨xs, m, _, _, hl, hxn, hel⟩ := DataW.trod_array Try.underlying76 hf
  have hcl : (Value.agg cs).cells.toList = cs.toList := rfl
  have hce : Try.prog.cellsOf 64 = 8 := by kernel_rfl
  have h16' : cs.size = 16 := hsz.trans (by kernel_rfl)
  have h16 : cs.toList.length = 16 := by rw [Array.length_toList]; exact h16'
  rw [hcl] at hl hel
  have e0 := hel 0 (by omega)
  have e1 := hel 1 (by omega)
  rw [hce, List.getElem?_eq_getElem (by omega : 0 < xs.length)] at e0
  rw [hce, List.getElem?_eq_getElem (by omega : 1 < xs.length)] at e1
  obtain ⟨a, A, c, A2, c2, q0, ha1, ha2, ha3, ha4⟩ := trod_super e0
  obtain ⟨b, B, d, B2, d2, q1, hb1, hb2, hb3, hb4⟩ := trod_super e1
  have hcs : cs = #[.int .i64 a.number, .int .i64 a.boot, .slice A a.jour.segs.length c, .int .i64 a.jour.len, .int .u32 (a.jour.last.toNat : Int), .slice A2 a.chunks.segs.length c2, .int .i64 a.chunks.len, .int .u32 (a.chunks.last.toNat : Int), .int .i64 b.number, .int .i64 b.boot, .slice B b.jour.segs.length d, .int .i64 b.jour.len, .int .u32 (b.jour.last.toNat : Int), .slice B2 b.chunks.segs.length d2, .int .i64 b.chunks.len, .int .u32 (b.chunks.last.toNat : Int)] := by
    apply Array.toList_inj.1
    have t1 : cs.toList = cs.toList.take 8 ++ (cs.toList.drop 8).take 8 := by
      rw [List.take_of_length_le (l := cs.toList.drop 8) (by rw [List.length_drop]; omega), List.take_append_drop]
    rw [Nat.zero_mul, List.drop_zero] at q0
    rw [Nat.one_mul] at q1
    rw [t1, q0, q1]
    rfl
  subst hcs
  have hct : Try.prog.cellTypes Try.prog.depth 76 = some [3, 3, 35, 3, 36, 35, 3, 36, 3, 3, 35, 3, 36, 35, 3, 36] := by kernel_rfl
  refine ⟨a, A, c, A2, c2, b, B, d, B2, d2, rfl, SArg.mk' ha1 ha2 ha3 ha4 ?_ ?_, SArg.mk' hb1 hb2 hb3 hb4 ?_ ?_⟩
  · exact row_ltT hct hrow 2 rfl rfl
  · exact row_ltT hct hrow 5 rfl rfl
  · exact row_ltT hct hrow 10 rfl rfl
  · exact row_ltT hct hrow 13 rfl rfl
end
end Go.Proofs.Ytangfnenfhkokaa
