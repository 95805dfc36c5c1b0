/-
  What the laws of layer 5 call: Made, awake.
-/
import Derived.Test.YtangfnenfhkokaaSupE
set_option linter.unusedSimpArgs false
set_option linter.unusedVariables false
namespace Go.Proofs.Ytangfnenfhkokaa
open Go.RowKit Go.Maps

theorem made1_res {tmps : Array Value} {w : World} {T : Nat} {v0 v1 v2 : Value} (h2 : tmps[2]?.getD undef = .pointer (some ⟨T, 0, none⟩)) (h : Blk w T 38 #[v0, v1, v2]) :
    (results Try.f58 tmps).run Try.prog w = .ok (.agg #[v0, v1, v2]) w := by
  have c0 : w.cell? ⟨T, 0, none⟩ = some v0 := h.cell 0
  have c1 : w.cell? ⟨T, 1, none⟩ = some v1 := h.cell 1
  have c2 : w.cell? ⟨T, 2, none⟩ = some v2 := h.cell 2
  simp [results, Try.results58, go_sem, h2, c0, c1, c2]
set_option maxRecDepth 100000 in
set_option maxHeartbeats 4000000 in
theorem made1 (l : SLog) (A : Option Addr) (c : Nat) (w : World) :
    Calls Try.prog 58 #[logV l A c] w fun e w' => e = .returned (logV l A c) ∧ Below w.heap.size w w' := by
  obtain ⟨l, n, s⟩ := l
  unfold logV
  simp only
  have b1 := bal (bal (Below.refl w.heap.size w) (.cells #[.slice A l.length c, .int .i64 n, .int .u32 (s.toNat : Int)] 62)) (.cells #[.slice A l.length c, .int .i64 n, .int .u32 (s.toNat : Int)] 38)
  have T1 := Blk.new (w.alloc (.cells #[.slice A l.length c, .int .i64 n, .int .u32 (s.toNat : Int)] 62)) 38 #[.slice A l.length c, .int .i64 n, .int .u32 (s.toNat : Int)]
  rw [size_more'] at T1
  go_enter Try.func58, Try.ntmps58
  go_wp2
  refine bodyPost_ret (made1_res (T := w.heap.size + 1) rfl T1) rfl ?_
  exact ⟨rfl, b1⟩
theorem made_res {tmps : Array Value} {w : World} {T : Nat} {v0 v1 v2 v3 v4 v5 v6 v7 : Value} (h2 : tmps[2]?.getD undef = .pointer (some ⟨T, 0, none⟩)) (h : Blk w T 68 #[v0, v1, v2, v3, v4, v5, v6, v7]) :
    (results Try.f33 tmps).run Try.prog w = .ok (.agg #[v0, v1, v2, v3, v4, v5, v6, v7]) w := by
  have c0 : w.cell? ⟨T, 0, none⟩ = some v0 := h.cell 0
  have c1 : w.cell? ⟨T, 1, none⟩ = some v1 := h.cell 1
  have c2 : w.cell? ⟨T, 2, none⟩ = some v2 := h.cell 2
  have c3 : w.cell? ⟨T, 3, none⟩ = some v3 := h.cell 3
  have c4 : w.cell? ⟨T, 4, none⟩ = some v4 := h.cell 4
  have c5 : w.cell? ⟨T, 5, none⟩ = some v5 := h.cell 5
  have c6 : w.cell? ⟨T, 6, none⟩ = some v6 := h.cell 6
  have c7 : w.cell? ⟨T, 7, none⟩ = some v7 := h.cell 7
  simp [results, Try.results33, go_sem, h2, c0, c1, c2, c3, c4, c5, c6, c7]
theorem made_keep {w : World} {b T : Nat} {e : TypeId} {v0 v1 v2 v3 v4 v5 v6 v7 : Value} (h : Blk w b e #[v0, v1, v2, v3, v4, v5, v6, v7]) (hne : b ≠ T) (a0 a1 a2 a3 a4 a5 a6 a7 : Value) :
    ((((((((w.setCell ⟨T, 0, none⟩ a0).setCell ⟨T, 1, none⟩ a1).setCell ⟨T, 2, none⟩ a2).setCell ⟨T, 3, none⟩ a3).setCell ⟨T, 4, none⟩ a4).setCell ⟨T, 5, none⟩ a5).setCell ⟨T, 6, none⟩ a6).setCell ⟨T, 7, none⟩ a7).cell? ⟨b, 0, none⟩ = some v0 ∧ ((((((((w.setCell ⟨T, 0, none⟩ a0).setCell ⟨T, 1, none⟩ a1).setCell ⟨T, 2, none⟩ a2).setCell ⟨T, 3, none⟩ a3).setCell ⟨T, 4, none⟩ a4).setCell ⟨T, 5, none⟩ a5).setCell ⟨T, 6, none⟩ a6).setCell ⟨T, 7, none⟩ a7).cell? ⟨b, 1, none⟩ = some v1 ∧ ((((((((w.setCell ⟨T, 0, none⟩ a0).setCell ⟨T, 1, none⟩ a1).setCell ⟨T, 2, none⟩ a2).setCell ⟨T, 3, none⟩ a3).setCell ⟨T, 4, none⟩ a4).setCell ⟨T, 5, none⟩ a5).setCell ⟨T, 6, none⟩ a6).setCell ⟨T, 7, none⟩ a7).cell? ⟨b, 2, none⟩ = some v2 ∧ ((((((((w.setCell ⟨T, 0, none⟩ a0).setCell ⟨T, 1, none⟩ a1).setCell ⟨T, 2, none⟩ a2).setCell ⟨T, 3, none⟩ a3).setCell ⟨T, 4, none⟩ a4).setCell ⟨T, 5, none⟩ a5).setCell ⟨T, 6, none⟩ a6).setCell ⟨T, 7, none⟩ a7).cell? ⟨b, 3, none⟩ = some v3 ∧ ((((((((w.setCell ⟨T, 0, none⟩ a0).setCell ⟨T, 1, none⟩ a1).setCell ⟨T, 2, none⟩ a2).setCell ⟨T, 3, none⟩ a3).setCell ⟨T, 4, none⟩ a4).setCell ⟨T, 5, none⟩ a5).setCell ⟨T, 6, none⟩ a6).setCell ⟨T, 7, none⟩ a7).cell? ⟨b, 4, none⟩ = some v4 ∧ ((((((((w.setCell ⟨T, 0, none⟩ a0).setCell ⟨T, 1, none⟩ a1).setCell ⟨T, 2, none⟩ a2).setCell ⟨T, 3, none⟩ a3).setCell ⟨T, 4, none⟩ a4).setCell ⟨T, 5, none⟩ a5).setCell ⟨T, 6, none⟩ a6).setCell ⟨T, 7, none⟩ a7).cell? ⟨b, 5, none⟩ = some v5 ∧ ((((((((w.setCell ⟨T, 0, none⟩ a0).setCell ⟨T, 1, none⟩ a1).setCell ⟨T, 2, none⟩ a2).setCell ⟨T, 3, none⟩ a3).setCell ⟨T, 4, none⟩ a4).setCell ⟨T, 5, none⟩ a5).setCell ⟨T, 6, none⟩ a6).setCell ⟨T, 7, none⟩ a7).cell? ⟨b, 6, none⟩ = some v6 ∧ ((((((((w.setCell ⟨T, 0, none⟩ a0).setCell ⟨T, 1, none⟩ a1).setCell ⟨T, 2, none⟩ a2).setCell ⟨T, 3, none⟩ a3).setCell ⟨T, 4, none⟩ a4).setCell ⟨T, 5, none⟩ a5).setCell ⟨T, 6, none⟩ a6).setCell ⟨T, 7, none⟩ a7).cell? ⟨b, 7, none⟩ = some v7 := by
  have h2 := h.kp (kp_set8 (Kp.refl (fun j => j = T) w) rfl a0 a1 a2 a3 a4 a5 a6 a7) hne
  exact ⟨h2.cell 0, h2.cell 1, h2.cell 2, h2.cell 3, h2.cell 4, h2.cell 5, h2.cell 6, h2.cell 7⟩
set_option maxRecDepth 100000 in
set_option maxHeartbeats 4000000 in
theorem law5_made (s : Sup) (A : Option Addr) (c : Nat) (A2 : Option Addr) (c2 : Nat) (w : World) :
    Calls Try.prog 33 #[supV s A c A2 c2] w fun e w' => e = .returned (supV s A c A2 c2) ∧ Below w.heap.size w w' := by
  obtain ⟨nu, bo, ⟨l1, n1, s1⟩, ⟨l2, n2, s2⟩⟩ := s
  have hm1 := fun W => made1 ⟨l1, n1, s1⟩ A c W
  have hm2 := fun W => made1 ⟨l2, n2, s2⟩ A2 c2 W
  unfold supV
  unfold logV at hm1 hm2
  simp only at hm1 hm2 ⊢
  have HM1 := Lib.hid hm1
  have HM2 := Lib.hid hm2
  clear hm1 hm2
  go_enter Try.func33, Try.ntmps33
  have B0 := (Blk.new w 64 #[.int .i64 nu, .int .i64 bo, .slice A l1.length c, .int .i64 n1, .int .u32 (s1.toNat : Int), .slice A2 l2.length c2, .int .i64 n2, .int .u32 (s2.toNat : Int)]).alloc (.cells #[.int .i64 0, .int .i64 0, .slice none 0 0, .int .i64 0, .int .u32 0, .slice none 0 0, .int .i64 0, .int .u32 0] 68)
  have T0 := Blk.new (w.alloc (.cells #[.int .i64 nu, .int .i64 bo, .slice A l1.length c, .int .i64 n1, .int .u32 (s1.toNat : Int), .slice A2 l2.length c2, .int .i64 n2, .int .u32 (s2.toNat : Int)] 64)) 68 #[.int .i64 0, .int .i64 0, .slice none 0 0, .int .i64 0, .int .u32 0, .slice none 0 0, .int .i64 0, .int .u32 0]
  rw [size_more'] at T0
  have b1 := bal (bal (Below.refl w.heap.size w) (.cells #[.int .i64 nu, .int .i64 bo, .slice A l1.length c, .int .i64 n1, .int .u32 (s1.toNat : Int), .slice A2 l2.length c2, .int .i64 n2, .int .u32 (s2.toNat : Int)] 64)) (.cells #[.int .i64 0, .int .i64 0, .slice none 0 0, .int .i64 0, .int .u32 0, .slice none 0 0, .int .i64 0, .int .u32 0] 68)
  go_upto_region 2 with (fail)
  generalize ((w.alloc (.cells #[.int .i64 nu, .int .i64 bo, .slice A l1.length c, .int .i64 n1, .int .u32 (s1.toNat : Int), .slice A2 l2.length c2, .int .i64 n2, .int .u32 (s2.toNat : Int)] 64)).alloc (.cells #[.int .i64 0, .int .i64 0, .slice none 0 0, .int .i64 0, .int .u32 0, .slice none 0 0, .int .i64 0, .int .u32 0] 68)) = W at *
  have x0 : W.cell? ⟨w.heap.size, 0, none⟩ = some (.int .i64 nu) := B0.cell 0
  have x1 : W.cell? ⟨w.heap.size, 1, none⟩ = some (.int .i64 bo) := B0.cell 1
  have x2 : W.cell? ⟨w.heap.size, 2, none⟩ = some (.slice A l1.length c) := B0.cell 2
  have x3 : W.cell? ⟨w.heap.size, 3, none⟩ = some (.int .i64 n1) := B0.cell 3
  have x4 : W.cell? ⟨w.heap.size, 4, none⟩ = some (.int .u32 (s1.toNat : Int)) := B0.cell 4
  have x5 : W.cell? ⟨w.heap.size, 5, none⟩ = some (.slice A2 l2.length c2) := B0.cell 5
  have x6 : W.cell? ⟨w.heap.size, 6, none⟩ = some (.int .i64 n2) := B0.cell 6
  have x7 : W.cell? ⟨w.heap.size, 7, none⟩ = some (.int .u32 (s2.toNat : Int)) := B0.cell 7
  have u0 := T0.frozen 0
  have u1 := T0.frozen 1
  have u2 := T0.frozen 2
  have u3 := T0.frozen 3
  have u4 := T0.frozen 4
  have u5 := T0.frozen 5
  have u6 := T0.frozen 6
  have u7 := T0.frozen 7
  have hlt : w.heap.size + 1 < W.heap.size := T0.lt
  go_region_held3 (fun V => V.cell? ⟨w.heap.size, 0, none⟩ = some (.int .i64 nu) ∧ V.cell? ⟨w.heap.size, 1, none⟩ = some (.int .i64 bo) ∧ V.cell? ⟨w.heap.size, 2, none⟩ = some (.slice A l1.length c) ∧ V.cell? ⟨w.heap.size, 3, none⟩ = some (.int .i64 n1) ∧ V.cell? ⟨w.heap.size, 4, none⟩ = some (.int .u32 (s1.toNat : Int)) ∧ V.cell? ⟨w.heap.size, 5, none⟩ = some (.slice A2 l2.length c2) ∧ V.cell? ⟨w.heap.size, 6, none⟩ = some (.int .i64 n2) ∧ V.cell? ⟨w.heap.size, 7, none⟩ = some (.int .u32 (s2.toNat : Int)))
    (first | (with_reducible exact ⟨z0, z1, z2, z3, z4, z5, z6, z7⟩) | (with_reducible exact ⟨y0, y1, y2, y3, y4, y5, y6, y7⟩) | (with_reducible refine made_keep YB (by omega) _ _ _ _ _ _ _ _) | (with_reducible refine made_keep ZB (by omega) _ _ _ _ _ _ _ _) | exact ⟨x0, x1, x2, x3, x4, x5, x6, x7⟩)
    ((first
      | (go_simp; (with_reducible refine (HM1.out _).mono ?_); rintro e w1 ⟨rfl, hb⟩; (first | have ZB := Blk.below YB hb | have ZB := Blk.below (Blk.drew' B0) hb); (first | have ZT := Blk.below YT hb | have ZT := Blk.below (Blk.drew' T0) hb); (first | have Zb := bn Yb hb | have Zb := bn (bdr b1) hb); have z0 : w1.cell? ⟨w.heap.size, 0, none⟩ = some (Value.int .i64 nu) := ZB.cell 0; have z1 : w1.cell? ⟨w.heap.size, 1, none⟩ = some (Value.int .i64 bo) := ZB.cell 1; have z2 : w1.cell? ⟨w.heap.size, 2, none⟩ = some (Value.slice A l1.length c) := ZB.cell 2; have z3 : w1.cell? ⟨w.heap.size, 3, none⟩ = some (Value.int .i64 n1) := ZB.cell 3; have z4 : w1.cell? ⟨w.heap.size, 4, none⟩ = some (Value.int .u32 (s1.toNat : Int)) := ZB.cell 4; have z5 : w1.cell? ⟨w.heap.size, 5, none⟩ = some (Value.slice A2 l2.length c2) := ZB.cell 5; have z6 : w1.cell? ⟨w.heap.size, 6, none⟩ = some (Value.int .i64 n2) := ZB.cell 6; have z7 : w1.cell? ⟨w.heap.size, 7, none⟩ = some (Value.int .u32 (s2.toNat : Int)) := ZB.cell 7; have tw10 : w1.cell? ⟨w.heap.size + 1, 0, none⟩ = some (Value.int .i64 0) := ZT.cell 0; have uw10 := ZT.frozen 0; have tw11 : w1.cell? ⟨w.heap.size + 1, 1, none⟩ = some (Value.int .i64 0) := ZT.cell 1; have uw11 := ZT.frozen 1; have tw12 : w1.cell? ⟨w.heap.size + 1, 2, none⟩ = some (Value.slice none 0 0) := ZT.cell 2; have uw12 := ZT.frozen 2; have tw13 : w1.cell? ⟨w.heap.size + 1, 3, none⟩ = some (Value.int .i64 0) := ZT.cell 3; have uw13 := ZT.frozen 3; have tw14 : w1.cell? ⟨w.heap.size + 1, 4, none⟩ = some (Value.int .u32 0) := ZT.cell 4; have uw14 := ZT.frozen 4; have tw15 : w1.cell? ⟨w.heap.size + 1, 5, none⟩ = some (Value.slice none 0 0) := ZT.cell 5; have uw15 := ZT.frozen 5; have tw16 : w1.cell? ⟨w.heap.size + 1, 6, none⟩ = some (Value.int .i64 0) := ZT.cell 6; have uw16 := ZT.frozen 6; have tw17 : w1.cell? ⟨w.heap.size + 1, 7, none⟩ = some (Value.int .u32 0) := ZT.cell 7; have uw17 := ZT.frozen 7)
      | (go_simp; (with_reducible refine (HM2.out _).mono ?_); rintro e w2 ⟨rfl, hb⟩; (first | have YB := Blk.below ZB hb | have YB := Blk.below (Blk.drew' B0) hb); (first | have YT := Blk.below ZT hb | have YT := Blk.below (Blk.drew' T0) hb); (first | have Yb := bn Zb hb | have Yb := bn (bdr b1) hb); have y0 : w2.cell? ⟨w.heap.size, 0, none⟩ = some (Value.int .i64 nu) := YB.cell 0; have y1 : w2.cell? ⟨w.heap.size, 1, none⟩ = some (Value.int .i64 bo) := YB.cell 1; have y2 : w2.cell? ⟨w.heap.size, 2, none⟩ = some (Value.slice A l1.length c) := YB.cell 2; have y3 : w2.cell? ⟨w.heap.size, 3, none⟩ = some (Value.int .i64 n1) := YB.cell 3; have y4 : w2.cell? ⟨w.heap.size, 4, none⟩ = some (Value.int .u32 (s1.toNat : Int)) := YB.cell 4; have y5 : w2.cell? ⟨w.heap.size, 5, none⟩ = some (Value.slice A2 l2.length c2) := YB.cell 5; have y6 : w2.cell? ⟨w.heap.size, 6, none⟩ = some (Value.int .i64 n2) := YB.cell 6; have y7 : w2.cell? ⟨w.heap.size, 7, none⟩ = some (Value.int .u32 (s2.toNat : Int)) := YB.cell 7; have tw20 : w2.cell? ⟨w.heap.size + 1, 0, none⟩ = some (Value.int .i64 0) := YT.cell 0; have uw20 := YT.frozen 0; have tw21 : w2.cell? ⟨w.heap.size + 1, 1, none⟩ = some (Value.int .i64 0) := YT.cell 1; have uw21 := YT.frozen 1; have tw22 : w2.cell? ⟨w.heap.size + 1, 2, none⟩ = some (Value.slice none 0 0) := YT.cell 2; have uw22 := YT.frozen 2; have tw23 : w2.cell? ⟨w.heap.size + 1, 3, none⟩ = some (Value.int .i64 0) := YT.cell 3; have uw23 := YT.frozen 3; have tw24 : w2.cell? ⟨w.heap.size + 1, 4, none⟩ = some (Value.int .u32 0) := YT.cell 4; have uw24 := YT.frozen 4; have tw25 : w2.cell? ⟨w.heap.size + 1, 5, none⟩ = some (Value.slice none 0 0) := YT.cell 5; have uw25 := YT.frozen 5; have tw26 : w2.cell? ⟨w.heap.size + 1, 6, none⟩ = some (Value.int .i64 0) := YT.cell 6; have uw26 := YT.frozen 6; have tw27 : w2.cell? ⟨w.heap.size + 1, 7, none⟩ = some (Value.int .u32 0) := YT.cell 7; have uw27 := YT.frozen 7)))
  all_goals go_wp2
  all_goals first
    | (refine bodyPost_ret (made_res (T := w.heap.size + 1) rfl (blk_set8 YT)) rfl ?_
       exact ⟨rfl, below_set8 Yb (by omega) _ _ _ _ _ _ _ _⟩)
    | (refine bodyPost_ret (made_res (T := w.heap.size + 1) rfl (blk_set8 ZT)) rfl ?_
       exact ⟨rfl, below_set8 Zb (by omega) _ _ _ _ _ _ _ _⟩)
end Go.Proofs.Ytangfnenfhkokaa
