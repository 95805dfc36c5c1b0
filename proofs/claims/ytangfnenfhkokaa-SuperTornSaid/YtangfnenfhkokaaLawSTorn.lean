/-
  SuperTorn.
-/
import Derived.Test.YtangfnenfhkokaaSupTear
set_option linter.unusedSimpArgs false
set_option linter.unusedVariables false
namespace Go.Proofs.Ytangfnenfhkokaa
open Go.RowKit Go.Maps

theorem box_kp {W0 V : World} {F : Nat → Prop} {g : Nat} {e : TypeId} {v0 v1 v2 v3 v4 v5 v6 v7 : Value} (h : Blk W0 g e #[v0, v1, v2, v3, v4, v5, v6, v7]) (hk : Kp F W0 V) (hg : ¬ F g) :
    V.cell? ⟨g, 0, none⟩ = some v0 ∧ V.cell? ⟨g, 1, none⟩ = some v1 ∧ V.cell? ⟨g, 2, none⟩ = some v2 ∧ V.cell? ⟨g, 3, none⟩ = some v3 ∧ V.cell? ⟨g, 4, none⟩ = some v4 ∧ V.cell? ⟨g, 5, none⟩ = some v5 ∧ V.cell? ⟨g, 6, none⟩ = some v6 ∧ V.cell? ⟨g, 7, none⟩ = some v7 := by
  have h := h.kp hk hg
  exact ⟨h.cell 0, h.cell 1, h.cell 2, h.cell 3, h.cell 4, h.cell 5, h.cell 6, h.cell 7⟩
set_option maxRecDepth 100000 in
set_option maxHeartbeats 8000000 in
theorem storn_walk (a : Sup) (A : Option Addr) (c : Nat) (A2 : Option Addr) (c2 : Nat) (b : Sup) (B : Option Addr) (d : Nat) (B2 : Option Addr) (d2 : Nat) (AC : Option Addr) (m cc : Nat) (ch : List UInt8) (hm : ch.length = m) (W : World) (h : SArg W a A A2) (h' : SArg W b B B2) (hrc : RB W AC ch) (hmax : m ≤ 9223372036854775807) :
    Calls Try.prog 9 #[supV a A c A2 c2, supV b B d B2 d2, .slice AC m cc] W fun e w' => e = .returned (.bool true) ∧ Below W.heap.size W w' := by
  unfold supV
  have B0 := (Blk.new W 64 #[.int .i64 a.number, .int .i64 a.boot, .slice A a.jour.segs.length c, .int .i64 a.jour.len, .int .u32 (a.jour.last.toNat : Int), .slice A2 a.chunks.segs.length c2, .int .i64 a.chunks.len, .int .u32 (a.chunks.last.toNat : Int)]).alloc (.cells #[.int .i64 b.number, .int .i64 b.boot, .slice B b.jour.segs.length d, .int .i64 b.jour.len, .int .u32 (b.jour.last.toNat : Int), .slice B2 b.chunks.segs.length d2, .int .i64 b.chunks.len, .int .u32 (b.chunks.last.toNat : Int)] 64)
  have C0 := Blk.new (W.alloc (.cells #[.int .i64 a.number, .int .i64 a.boot, .slice A a.jour.segs.length c, .int .i64 a.jour.len, .int .u32 (a.jour.last.toNat : Int), .slice A2 a.chunks.segs.length c2, .int .i64 a.chunks.len, .int .u32 (a.chunks.last.toNat : Int)] 64)) 64 #[.int .i64 b.number, .int .i64 b.boot, .slice B b.jour.segs.length d, .int .i64 b.jour.len, .int .u32 (b.jour.last.toNat : Int), .slice B2 b.chunks.segs.length d2, .int .i64 b.chunks.len, .int .u32 (b.chunks.last.toNat : Int)]
  rw [size_more'] at C0
  have b0 := bal (bal (Below.refl W.heap.size W) (.cells #[.int .i64 a.number, .int .i64 a.boot, .slice A a.jour.segs.length c, .int .i64 a.jour.len, .int .u32 (a.jour.last.toNat : Int), .slice A2 a.chunks.segs.length c2, .int .i64 a.chunks.len, .int .u32 (a.chunks.last.toNat : Int)] 64)) (.cells #[.int .i64 b.number, .int .i64 b.boot, .slice B b.jour.segs.length d, .int .i64 b.jour.len, .int .u32 (b.jour.last.toNat : Int), .slice B2 b.chunks.segs.length d2, .int .i64 b.chunks.len, .int .u32 (b.chunks.last.toNat : Int)] 64)
  go_enter Try.func9, Try.ntmps9
  go_wp2_with fail
  generalize ((W.alloc (.cells #[.int .i64 a.number, .int .i64 a.boot, .slice A a.jour.segs.length c, .int .i64 a.jour.len, .int .u32 (a.jour.last.toNat : Int), .slice A2 a.chunks.segs.length c2, .int .i64 a.chunks.len, .int .u32 (a.chunks.last.toNat : Int)] 64)).alloc (.cells #[.int .i64 b.number, .int .i64 b.boot, .slice B b.jour.segs.length d, .int .i64 b.jour.len, .int .u32 (b.jour.last.toNat : Int), .slice B2 b.chunks.segs.length d2, .int .i64 b.chunks.len, .int .u32 (b.chunks.last.toNat : Int)] 64)) = W0 at *
  (with_reducible refine (law5_awake _).mono ?_)
  rintro e w1 ⟨rfl, hb⟩
  have hbW := bn b0 hb
  have B1 := B0.below hb
  have C1 := C0.below hb
  have hT1 := C1.lt
  clear B0 C0 hb
  obtain ⟨x0, x1, x2, x3, x4, x5, x6, x7⟩ := box_cells B1 (Below.refl _ _)
  obtain ⟨y0, y1, y2, y3, y4, y5, y6, y7⟩ := box_cells C1 (Below.refl _ _)
  by_cases g0 : (100 : Int) < (m : Int)
  · go_wp2
    go_ret
    exact ⟨rfl, hbW⟩
  by_cases g1 : (100 : Int) < (a.jour.segs.length : Int)
  · go_wp2
    go_ret
    exact ⟨rfl, hbW⟩
  by_cases g2 : (100 : Int) < (b.jour.segs.length : Int)
  · go_wp2
    go_ret
    exact ⟨rfl, hbW⟩
  by_cases g3 : (100 : Int) < (a.chunks.segs.length : Int)
  · go_wp2
    go_ret
    exact ⟨rfl, hbW⟩
  by_cases g4 : (100 : Int) < (b.chunks.segs.length : Int)
  · go_wp2
    go_ret
    exact ⟨rfl, hbW⟩
  go_wp2_with fail
  (with_reducible refine (live_new hbW 8 8 rfl (by omega)).mono ?_)
  rintro e w2 ⟨g, P, rfl, hL, hP, hb'⟩
  have B2' := B1.below hb'
  have C2' := C1.below hb'
  obtain ⟨N, hN⟩ : ∃ N, w1.heap.size = N := ⟨_, rfl⟩
  have hN2 := hb'.size
  rw [hN] at hT1 hP hN2
  clear hb' x0 x1 x2 x3 x4 x5 x6 x7 y0 y1 y2 y3 y4 y5 y6 y7 B1 C1 hbW hN
  obtain ⟨x0, x1, x2, x3, x4, x5, x6, x7⟩ := box_cells B2' (Below.refl _ _)
  obtain ⟨y0, y1, y2, y3, y4, y5, y6, y7⟩ := box_cells C2' (Below.refl _ _)
  have u0 := B2'.frozen 0
  have u1 := C2'.frozen 0
  have hk4 : Kp (fun j => j = W.heap.size ∨ j = W.heap.size + 1) w2 ((w2.setCell ⟨W.heap.size, 0, none⟩ (.int .i64 5)).setCell ⟨W.heap.size + 1, 0, none⟩ (.int .i64 6)) := Kp.setCell (Kp.setCell (Kp.refl _ _) 0 _ (.inl rfl)) 0 _ (.inr rfl)
  have hL4 := hL.kp hk4 (fun j hj e => by have := hP j hj; omega) (fun j e => by omega)
  have B4 : Blk (w2.setCell ⟨W.heap.size, 0, none⟩ (.int .i64 5)) W.heap.size 64 #[.int .i64 5, .int .i64 a.boot, .slice A a.jour.segs.length c, .int .i64 a.jour.len, .int .u32 (a.jour.last.toNat : Int), .slice A2 a.chunks.segs.length c2, .int .i64 a.chunks.len, .int .u32 (a.chunks.last.toNat : Int)] := B2'.set 0 (.int .i64 5)
  have B5 := B4.other (a := ⟨W.heap.size + 1, 0, none⟩) (by simp) (.int .i64 6)
  have C4 := C2'.other (a := ⟨W.heap.size, 0, none⟩) (by simp) (.int .i64 5)
  have C5 : Blk ((w2.setCell ⟨W.heap.size, 0, none⟩ (.int .i64 5)).setCell ⟨W.heap.size + 1, 0, none⟩ (.int .i64 6)) (W.heap.size + 1) 64 #[.int .i64 6, .int .i64 b.boot, .slice B b.jour.segs.length d, .int .i64 b.jour.len, .int .u32 (b.jour.last.toNat : Int), .slice B2 b.chunks.segs.length d2, .int .i64 b.chunks.len, .int .u32 (b.chunks.last.toNat : Int)] := C4.set 0 (.int .i64 6)
  have hN4 := Nat.le_trans hN2 hk4.size
  clear B4 C4 hk4 hL B2' C2' hN2
  go_upto_region 9 with (fail)
  clear x0 x1 x2 x3 x4 x5 x6 x7 y0 y1 y2 y3 y4 y5 y6 y7 u0 u1
  generalize ((w2.setCell ⟨W.heap.size, 0, none⟩ (.int .i64 5)).setCell ⟨W.heap.size + 1, 0, none⟩ (.int .i64 6)) = w4 at *
  obtain ⟨a5, n5, o5, j5, k5⟩ : ∃ s : Sup, s.number = 5 ∧ s.boot = a.boot ∧ s.jour = a.jour ∧ s.chunks = a.chunks := ⟨⟨5, a.boot, a.jour, a.chunks⟩, rfl, rfl, rfl, rfl⟩
  obtain ⟨b6, n6, o6, j6, k6⟩ : ∃ s : Sup, s.number = 6 ∧ s.boot = b.boot ∧ s.jour = b.jour ∧ s.chunks = b.chunks := ⟨⟨6, b.boot, b.jour, b.chunks⟩, rfl, rfl, rfl, rfl⟩
  have B6 : Blk w4 W.heap.size 64 #[.int .i64 a5.number, .int .i64 a5.boot, .slice A a5.jour.segs.length c, .int .i64 a5.jour.len, .int .u32 (a5.jour.last.toNat : Int), .slice A2 a5.chunks.segs.length c2, .int .i64 a5.chunks.len, .int .u32 (a5.chunks.last.toNat : Int)] := by rw [n5, o5, j5, k5]; exact B5
  have C6 : Blk w4 (W.heap.size + 1) 64 #[.int .i64 b6.number, .int .i64 b6.boot, .slice B b6.jour.segs.length d, .int .i64 b6.jour.len, .int .u32 (b6.jour.last.toNat : Int), .slice B2 b6.chunks.segs.length d2, .int .i64 b6.chunks.len, .int .u32 (b6.chunks.last.toNat : Int)] := by rw [n6, o6, j6, k6]; exact C5
  have s5 : SArg W a5 A A2 := ⟨by rw [n5]; unfold wide; omega, by rw [o5]; exact h.boot, by rw [j5]; exact h.r1, by rw [k5]; exact h.r2, by rw [j5]; exact h.w1, by rw [k5]; exact h.w2, by rw [j5]; exact h.l1, by rw [k5]; exact h.l2, h.a1, h.a2⟩
  have s6 : SArg W b6 B B2 := ⟨by rw [n6]; unfold wide; omega, by rw [o6]; exact h'.boot, by rw [j6]; exact h'.r1, by rw [k6]; exact h'.r2, by rw [j6]; exact h'.w1, by rw [k6]; exact h'.w2, by rw [j6]; exact h'.l1, by rw [k6]; exact h'.l2, h'.a1, h'.a2⟩
  have HA := Lib.hid (fun (V : World) (hb : Below W.heap.size W V) => s5.below hb)
  have HA2 := Lib.hid (fun (V : World) (hb : Below W.heap.size W V) => s6.below hb)
  have HC := Lib.hid (fun (V : World) (hk : Kp (fun j => N ≤ j) w4 V) => box_kp B6 hk (by omega))
  have HD := Lib.hid (fun (V : World) (hk : Kp (fun j => N ≤ j) w4 V) => box_kp C6 hk (by omega))
  have l1 : a5.jour.segs.length ≤ 100 := by rw [j5]; omega
  have l2 : a5.chunks.segs.length ≤ 100 := by rw [k5]; omega
  have l3 : b6.jour.segs.length ≤ 100 := by rw [j6]; omega
  have l4 : b6.chunks.segs.length ≤ 100 := by rw [k6]; omega
  have HN5 := Lib.hid n5
  have HN6 := Lib.hid n6
  clear n5 o5 j5 k5 n6 o6 j6 k6 B5 C5 B6 C6 s5 s6
  have hk := Kp.refl (fun j => N ≤ j) w4
  have hbW := hL4.bel
  obtain ⟨x0, x1, x2, x3, x4, x5, x6, x7⟩ := HC.out _ hk
  cases hm1 : supMay a5 96 with
  | false =>
    have HRM := Lib.hid (arg_rmay (HA.out w4 hbW) 96 c c2 (by omega) (by omega) (by omega) hm1)
    go_wp2_with fail
    (with_reducible refine HRM.out.mono ?_)
    rintro e w5 ⟨rfl, hb'⟩
    replace hbW := bn hbW hb'
    go_wp2
    go_ret
    exact ⟨rfl, hbW⟩
  | true =>
    have HRM := Lib.hid (arg_rmay (HA.out w4 hbW) 96 c c2 (by omega) (by omega) (by omega) hm1)
    go_wp2_with fail
    (with_reducible refine HRM.out.mono ?_)
    rintro e w5 ⟨rfl, hb'⟩
    replace hbW := bn hbW hb'
    replace hk := hk.trans (kp_of hb') (fun _ _ h => h)
    have hL5 := hL4.below hb'
    clear hb' x0 x1 x2 x3 x4 x5 x6 x7 HRM hL4
    obtain ⟨y0, y1, y2, y3, y4, y5, y6, y7⟩ := HD.out _ hk
    cases hm2 : supMay b6 96 with
    | false =>
      have HRM := Lib.hid (arg_rmay (HA2.out w5 hbW) 96 d d2 (by omega) (by omega) (by omega) hm2)
      go_wp2_with fail
      (with_reducible refine HRM.out.mono ?_)
      rintro e w6 ⟨rfl, hb'⟩
      replace hbW := bn hbW hb'
      go_wp2
      go_ret
      exact ⟨rfl, hbW⟩
    | true =>
      have HRM := Lib.hid (arg_rmay (HA2.out w5 hbW) 96 d d2 (by omega) (by omega) (by omega) hm2)
      go_wp2_with fail
      (with_reducible refine HRM.out.mono ?_)
      rintro e w6 ⟨rfl, hb'⟩
      replace hbW := bn hbW hb'
      replace hk := hk.trans (kp_of hb') (fun _ _ h => h)
      have hL6 := hL5.below hb'
      clear hb' y0 y1 y2 y3 y4 y5 y6 y7 HRM hL5
      obtain ⟨e1, e2, e3, hw1, ho1, hf, ho2, hw2, hbest⟩ := three_writes hm1 hm2 HN5.out HN6.out
      have HW1 := Lib.hid hw1
      have HFL := Lib.hid hf
      have HW2 := Lib.hid hw2
      have HBEST := Lib.hid hbest
      have HM1 := Lib.hid hm1
      have HM2 := Lib.hid hm2
      clear hw1 hf hw2 hbest hm1 hm2
      obtain ⟨x0, x1, x2, x3, x4, x5, x6, x7⟩ := HC.out _ hk
      go_wp2_with fail
      (with_reducible refine (arg_made a5 A c A2 c2 _).mono ?_)
      rintro e w7 ⟨rfl, hb'⟩
      replace hbW := bn hbW hb'
      replace hk := hk.trans (kp_of hb') (fun _ _ h => h)
      have hL7 := hL6.below hb'
      clear hb' x0 x1 x2 x3 x4 x5 x6 x7 hL6
      have hN7 := Nat.le_trans hN4 hk.size
      go_wp2_with fail
      (with_reducible refine (arg_write hL7 (by omega) (by simp [newD]) 0 0 rfl (by omega) (HA.out _ hbW) c c2 HM1.out HW1.out).mono ?_)
      rintro e w8 ⟨rfl, hL8, hkp⟩
      replace hbW := hL8.bel
      replace hk := hk.trans hkp (fun j _ hj => hP j hj)
      clear hkp hL7
      go_wp2_with fail
      (with_reducible refine (live_flush hL8 (by omega) HFL.out).mono ?_)
      rintro e w9 ⟨rfl, hL9, hkp⟩
      replace hbW := hL9.bel
      replace hk := hk.trans hkp (fun j _ hj => by rcases hj with hj | hj; exact hP j hj; exact Nat.le_trans hN7 hj.1)
      clear hkp hL8
      obtain ⟨y0, y1, y2, y3, y4, y5, y6, y7⟩ := HD.out _ hk
      go_wp2_with fail
      (with_reducible refine (arg_made b6 B d B2 d2 _).mono ?_)
      rintro e w10 ⟨rfl, hb'⟩
      replace hbW := bn hbW hb'
      replace hk := hk.trans (kp_of hb') (fun _ _ h => h)
      have hL10 := hL9.below hb'
      clear hb' y0 y1 y2 y3 y4 y5 y6 y7 hL9
      go_wp2_with fail
      (with_reducible refine (arg_write hL10 (by omega) ho2 1 1 rfl (by omega) (HA2.out _ hbW) d d2 HM2.out HW2.out).mono ?_)
      rintro e w11 ⟨rfl, hL11, hkp⟩
      replace hbW := hL11.bel
      replace hk := hk.trans hkp (fun j _ hj => by rcases hj with hj | hj; exact hP j hj; exact Nat.le_trans hN7 hj.1)
      clear hkp hL10
      go_wp2_with fail
      (with_reducible refine (live_crash hL11 AC m cc ch hm (by omega) (hrc.below hbW) (by omega)).mono ?_)
      rintro e w12 ⟨g2, ks, P2, rfl, _, _, hLc, _, hb'⟩
      replace hbW := bn hbW hb'
      replace hk := hk.trans (kp_of hb') (fun _ _ h => h)
      have HSB := Lib.hid (super_best W g2 0 P2 _ 96 w12 hLc)
      clear hb' hL11 hLc
      rcases HBEST.out ch ks with hbe | hbe
      · skip
        have HBE : Hid (Calls Try.prog 35 #[.pointer (some ⟨g2, 0, none⟩), .int .i64 96] w12 (BestPost (a5, 0) w12)) := Lib.hid (by have h1 := HSB.out; rw [hbe] at h1; exact h1)
        clear HSB hbe
        go_wp2_with fail
        (with_reducible refine HBE.out.mono ?_)
        rintro e wp ⟨D, q1, D2, q2, rfl, hq1, hq2, hb'⟩
        have hX := bal (bn hbW hb') (.cells #[.int .i64 a5.number, .int .i64 a5.boot, .slice D a5.jour.segs.length q1, .int .i64 a5.jour.len, .int .u32 (a5.jour.last.toNat : Int), .slice D2 a5.chunks.segs.length q2, .int .i64 a5.chunks.len, .int .u32 (a5.chunks.last.toNat : Int)] 68)
        have hkx := (hk.trans (kp_of hb') (fun _ _ h => h)).trans (kp_of (bal (Below.refl wp.heap.size wp) (.cells #[.int .i64 a5.number, .int .i64 a5.boot, .slice D a5.jour.segs.length q1, .int .i64 a5.jour.len, .int .u32 (a5.jour.last.toNat : Int), .slice D2 a5.chunks.segs.length q2, .int .i64 a5.chunks.len, .int .u32 (a5.chunks.last.toNat : Int)] 68))) (fun _ _ h => h)
        have X1 := Blk.new wp 68 #[.int .i64 a5.number, .int .i64 a5.boot, .slice D a5.jour.segs.length q1, .int .i64 a5.jour.len, .int .u32 (a5.jour.last.toNat : Int), .slice D2 a5.chunks.segs.length q2, .int .i64 a5.chunks.len, .int .u32 (a5.chunks.last.toNat : Int)]
        have bx := bal (Below.refl wp.heap.size wp) (.cells #[.int .i64 a5.number, .int .i64 a5.boot, .slice D a5.jour.segs.length q1, .int .i64 a5.jour.len, .int .u32 (a5.jour.last.toNat : Int), .slice D2 a5.chunks.segs.length q2, .int .i64 a5.chunks.len, .int .u32 (a5.chunks.last.toNat : Int)] 68)
        have hA := HA.out _ hX
        have HS := Lib.hid (law5_same a5 a5 D q1 D2 q2 A c A2 c2 _ (hq1.below bx) (hq2.below bx) hA.r1 hA.r2 (by omega) (by omega))
        have HS2 := Lib.hid (fun (V : World) (hV : Below (wp.alloc (.cells #[.int .i64 a5.number, .int .i64 a5.boot, .slice D a5.jour.segs.length q1, .int .i64 a5.jour.len, .int .u32 (a5.jour.last.toNat : Int), .slice D2 a5.chunks.segs.length q2, .int .i64 a5.chunks.len, .int .u32 (a5.chunks.last.toNat : Int)] 68)).heap.size (wp.alloc (.cells #[.int .i64 a5.number, .int .i64 a5.boot, .slice D a5.jour.segs.length q1, .int .i64 a5.jour.len, .int .u32 (a5.jour.last.toNat : Int), .slice D2 a5.chunks.segs.length q2, .int .i64 a5.chunks.len, .int .u32 (a5.chunks.last.toNat : Int)] 68)) V) => law5_same a5 b6 D q1 D2 q2 B d B2 d2 V ((hq1.below bx).below hV) ((hq2.below bx).below hV) (HA2.out _ (bn hX hV)).r1 (HA2.out _ (bn hX hV)).r2 (by omega) (by omega))
        have HKX := Lib.hid (fun (V : World) (hV : Below (wp.alloc (.cells #[.int .i64 a5.number, .int .i64 a5.boot, .slice D a5.jour.segs.length q1, .int .i64 a5.jour.len, .int .u32 (a5.jour.last.toNat : Int), .slice D2 a5.chunks.segs.length q2, .int .i64 a5.chunks.len, .int .u32 (a5.chunks.last.toNat : Int)] 68)).heap.size (wp.alloc (.cells #[.int .i64 a5.number, .int .i64 a5.boot, .slice D a5.jour.segs.length q1, .int .i64 a5.jour.len, .int .u32 (a5.jour.last.toNat : Int), .slice D2 a5.chunks.segs.length q2, .int .i64 a5.chunks.len, .int .u32 (a5.chunks.last.toNat : Int)] 68)) V) => box_cells X1 hV)
        unfold supV at HS HS2
        unfold supV
        obtain ⟨x0, x1, x2, x3, x4, x5, x6, x7⟩ := HC.out _ hkx
        obtain ⟨z0, z1, z2, z3, z4, z5, z6, z7⟩ := HKX.out _ (Below.refl _ _)
        clear hq1 hq2 hb' hA bx X1
        go_upto_region 14 with (fail)
        generalize (wp.alloc (.cells #[.int .i64 a5.number, .int .i64 a5.boot, .slice D a5.jour.segs.length q1, .int .i64 a5.jour.len, .int .u32 (a5.jour.last.toNat : Int), .slice D2 a5.chunks.segs.length q2, .int .i64 a5.chunks.len, .int .u32 (a5.chunks.last.toNat : Int)] 68)) = wx at *
        go_wp2_with fail
        (with_reducible refine HS.out.mono ?_)
        rintro e w13 ⟨rs, rfl, hrs, hb13⟩
        have hX13 := bn hX hb13
        have hrs' := hrs.2 rfl
        subst hrs'
        clear hrs
        go_wp2
        go_ret
        exact ⟨rfl, hX13⟩
      · skip
        have HBE : Hid (Calls Try.prog 35 #[.pointer (some ⟨g2, 0, none⟩), .int .i64 96] w12 (BestPost (b6, 0) w12)) := Lib.hid (by have h1 := HSB.out; rw [hbe] at h1; exact h1)
        clear HSB hbe
        go_wp2_with fail
        (with_reducible refine HBE.out.mono ?_)
        rintro e wp ⟨D, q1, D2, q2, rfl, hq1, hq2, hb'⟩
        have hX := bal (bn hbW hb') (.cells #[.int .i64 b6.number, .int .i64 b6.boot, .slice D b6.jour.segs.length q1, .int .i64 b6.jour.len, .int .u32 (b6.jour.last.toNat : Int), .slice D2 b6.chunks.segs.length q2, .int .i64 b6.chunks.len, .int .u32 (b6.chunks.last.toNat : Int)] 68)
        have hkx := (hk.trans (kp_of hb') (fun _ _ h => h)).trans (kp_of (bal (Below.refl wp.heap.size wp) (.cells #[.int .i64 b6.number, .int .i64 b6.boot, .slice D b6.jour.segs.length q1, .int .i64 b6.jour.len, .int .u32 (b6.jour.last.toNat : Int), .slice D2 b6.chunks.segs.length q2, .int .i64 b6.chunks.len, .int .u32 (b6.chunks.last.toNat : Int)] 68))) (fun _ _ h => h)
        have X1 := Blk.new wp 68 #[.int .i64 b6.number, .int .i64 b6.boot, .slice D b6.jour.segs.length q1, .int .i64 b6.jour.len, .int .u32 (b6.jour.last.toNat : Int), .slice D2 b6.chunks.segs.length q2, .int .i64 b6.chunks.len, .int .u32 (b6.chunks.last.toNat : Int)]
        have bx := bal (Below.refl wp.heap.size wp) (.cells #[.int .i64 b6.number, .int .i64 b6.boot, .slice D b6.jour.segs.length q1, .int .i64 b6.jour.len, .int .u32 (b6.jour.last.toNat : Int), .slice D2 b6.chunks.segs.length q2, .int .i64 b6.chunks.len, .int .u32 (b6.chunks.last.toNat : Int)] 68)
        have hA := HA.out _ hX
        have HS := Lib.hid (law5_same b6 a5 D q1 D2 q2 A c A2 c2 _ (hq1.below bx) (hq2.below bx) hA.r1 hA.r2 (by omega) (by omega))
        have HS2 := Lib.hid (fun (V : World) (hV : Below (wp.alloc (.cells #[.int .i64 b6.number, .int .i64 b6.boot, .slice D b6.jour.segs.length q1, .int .i64 b6.jour.len, .int .u32 (b6.jour.last.toNat : Int), .slice D2 b6.chunks.segs.length q2, .int .i64 b6.chunks.len, .int .u32 (b6.chunks.last.toNat : Int)] 68)).heap.size (wp.alloc (.cells #[.int .i64 b6.number, .int .i64 b6.boot, .slice D b6.jour.segs.length q1, .int .i64 b6.jour.len, .int .u32 (b6.jour.last.toNat : Int), .slice D2 b6.chunks.segs.length q2, .int .i64 b6.chunks.len, .int .u32 (b6.chunks.last.toNat : Int)] 68)) V) => law5_same b6 b6 D q1 D2 q2 B d B2 d2 V ((hq1.below bx).below hV) ((hq2.below bx).below hV) (HA2.out _ (bn hX hV)).r1 (HA2.out _ (bn hX hV)).r2 (by omega) (by omega))
        have HKX := Lib.hid (fun (V : World) (hV : Below (wp.alloc (.cells #[.int .i64 b6.number, .int .i64 b6.boot, .slice D b6.jour.segs.length q1, .int .i64 b6.jour.len, .int .u32 (b6.jour.last.toNat : Int), .slice D2 b6.chunks.segs.length q2, .int .i64 b6.chunks.len, .int .u32 (b6.chunks.last.toNat : Int)] 68)).heap.size (wp.alloc (.cells #[.int .i64 b6.number, .int .i64 b6.boot, .slice D b6.jour.segs.length q1, .int .i64 b6.jour.len, .int .u32 (b6.jour.last.toNat : Int), .slice D2 b6.chunks.segs.length q2, .int .i64 b6.chunks.len, .int .u32 (b6.chunks.last.toNat : Int)] 68)) V) => box_cells X1 hV)
        unfold supV at HS HS2
        unfold supV
        obtain ⟨x0, x1, x2, x3, x4, x5, x6, x7⟩ := HC.out _ hkx
        obtain ⟨z0, z1, z2, z3, z4, z5, z6, z7⟩ := HKX.out _ (Below.refl _ _)
        clear hq1 hq2 hb' hA bx X1
        go_upto_region 14 with (fail)
        generalize (wp.alloc (.cells #[.int .i64 b6.number, .int .i64 b6.boot, .slice D b6.jour.segs.length q1, .int .i64 b6.jour.len, .int .u32 (b6.jour.last.toNat : Int), .slice D2 b6.chunks.segs.length q2, .int .i64 b6.chunks.len, .int .u32 (b6.chunks.last.toNat : Int)] 68)) = wx at *
        go_wp2_with fail
        (with_reducible refine HS.out.mono ?_)
        rintro e w13 ⟨rs, rfl, hrs, hb13⟩
        have hX13 := bn hX hb13
        clear hrs x0 x1 x2 x3 x4 x5 x6 x7 z0 z1 z2 z3 z4 z5 z6 z7
        cases rs with
        | true =>
          go_wp2
          go_ret
          exact ⟨rfl, hX13⟩
        | false =>
          obtain ⟨y0, y1, y2, y3, y4, y5, y6, y7⟩ := HD.out _ (hkx.trans (kp_of hb13) (fun _ _ h => h))
          obtain ⟨z0, z1, z2, z3, z4, z5, z6, z7⟩ := HKX.out _ hb13
          go_wp2_with fail
          (with_reducible refine (HS2.out _ hb13).mono ?_)
          rintro e w14 ⟨rs, rfl, hrs, hb14⟩
          have hX14 := bn hX13 hb14
          have hrs' := hrs.2 rfl
          subst hrs'
          clear hrs
          go_wp2
          go_ret
          exact ⟨rfl, hX14⟩
end Go.Proofs.Ytangfnenfhkokaa
