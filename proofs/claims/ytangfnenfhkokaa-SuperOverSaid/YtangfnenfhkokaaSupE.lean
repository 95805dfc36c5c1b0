/-
  super.Best.
-/
import Derived.Test.YtangfnenfhkokaaSupD
set_option linter.unusedSimpArgs false
set_option linter.unusedVariables false
namespace Go.Proofs.Ytangfnenfhkokaa
open Go.RowKit Go.Maps

def bestOf : Option Sup → Option Sup → Sup × Int
  | some a, some b => if a.number < b.number then (b, 0) else (a, 0)
  | none, some b => (b, 0)
  | some a, none => (a, 0)
  | none, none => (zeroS, 13)
def supBest (d : DSt) (segs : Int) : Sup × Int := if d.dead then (zeroS, 15) else bestOf (supRead d 0 segs) (supRead d 1 segs)
def BestPost (r : Sup × Int) (w : World) (e : Ending) (w' : World) : Prop :=
  ∃ A c A2 c2, e = .returned (.tuple #[supV r.1 A c A2 c2, .int .i64 r.2]) ∧ Rd w' A (r.1.jour.segs.map ei) ∧ Rd w' A2 (r.1.chunks.segs.map ei) ∧ Below w.heap.size w w'
theorem best_res {tmps : Array Value} {w : World} {T : Nat} {b : Int} {v0 v1 v2 v3 v4 v5 v6 v7 : Value} (h2 : tmps[4]?.getD undef = .pointer (some ⟨T, 0, none⟩)) (h3 : tmps[5]?.getD undef = .int .i64 b) (h : Blk w T 68 #[v0, v1, v2, v3, v4, v5, v6, v7]) :
    (results Try.f35 tmps).run Try.prog w = .ok (.tuple #[.agg #[v0, v1, v2, v3, v4, v5, v6, v7], .int .i64 b]) w := by
  have c0 : w.cell? ⟨T, 0, none⟩ = some v0 := h.cell 0
  have c1 : w.cell? ⟨T, 1, none⟩ = some v1 := h.cell 1
  have c2 : w.cell? ⟨T, 2, none⟩ = some v2 := h.cell 2
  have c3 : w.cell? ⟨T, 3, none⟩ = some v3 := h.cell 3
  have c4 : w.cell? ⟨T, 4, none⟩ = some v4 := h.cell 4
  have c5 : w.cell? ⟨T, 5, none⟩ = some v5 := h.cell 5
  have c6 : w.cell? ⟨T, 6, none⟩ = some v6 := h.cell 6
  have c7 : w.cell? ⟨T, 7, none⟩ = some v7 := h.cell 7
  simp [results, Try.results35, go_sem, h2, h3, c0, c1, c2, c3, c4, c5, c6, c7]
/-- a slot's cells -/
def supA (s : Sup) (A : Option Addr) (c : Nat) (A2 : Option Addr) (c2 : Nat) : Array Value :=
  #[.int .i64 s.number, .int .i64 s.boot, .slice A s.jour.segs.length c, .int .i64 s.jour.len, .int .u32 (s.jour.last.toNat : Int), .slice A2 s.chunks.segs.length c2, .int .i64 s.chunks.len, .int .u32 (s.chunks.last.toNat : Int)]
theorem supV_agg (s : Sup) (A : Option Addr) (c : Nat) (A2 : Option Addr) (c2 : Nat) : supV s A c A2 c2 = .agg #[.int .i64 s.number, .int .i64 s.boot, .slice A s.jour.segs.length c, .int .i64 s.jour.len, .int .u32 (s.jour.last.toNat : Int), .slice A2 s.chunks.segs.length c2, .int .i64 s.chunks.len, .int .u32 (s.chunks.last.toNat : Int)] := rfl
set_option maxRecDepth 100000 in
set_option maxHeartbeats 4000000 in
theorem super_best (w0 : World) (g n : Nat) (P : Nat → Prop) (d : DSt) (segs : Int) (w : World) (hL : Live w0 w g P n d) :
    Calls Try.prog 35 #[.pointer (some ⟨g, 0, none⟩), .int .i64 segs] w (BestPost (supBest d segs) w) := by
  have b1 := bal (Below.refl w.heap.size w) (.cells #[.int .i64 0, .int .i64 0, .slice none 0 0, .int .i64 0, .int .u32 0, .slice none 0 0, .int .i64 0, .int .u32 0] 68)
  have T0 := Blk.new w 68 #[.int .i64 0, .int .i64 0, .slice none 0 0, .int .i64 0, .int .u32 0, .slice none 0 0, .int .i64 0, .int .u32 0]
  have z1 := size_more' w (.cells #[.int .i64 0, .int .i64 0, .slice none 0 0, .int .i64 0, .int .u32 0, .slice none 0 0, .int .i64 0, .int .u32 0] 68)
  have hL1 := hL.below b1
  go_enter Try.func35, Try.ntmps35
  go_wp2_with fail
  refine (live_dead hL1).mono ?_
  rintro e _ ⟨rfl, rfl⟩
  cases hd : d.dead with
  | true =>
    have hres : supBest d segs = (zeroS, 15) := by unfold supBest; rw [hd]; rfl
    have HRES := Lib.hid hres
    clear hres
    go_wp2
    refine bodyPost_ret (best_res (T := w.heap.size) rfl rfl T0) rfl ?_
    exact ⟨none, 0, none, 0, by rw [HRES.out]; rfl, by rw [HRES.out]; exact Rd.nil _ _, by rw [HRES.out]; exact Rd.nil _ _, b1⟩
  | false =>
    have hres : supBest d segs = bestOf (supRead d 0 segs) (supRead d 1 segs) := by unfold supBest; rw [hd]; rfl
    have HRES := Lib.hid hres
    clear hres
    generalize (w.alloc (.cells #[.int .i64 0, .int .i64 0, .slice none 0 0, .int .i64 0, .int .u32 0, .slice none 0 0, .int .i64 0, .int .u32 0] 68)) = W1 at *
    have h1 : Calls Try.prog 60 #[.pointer (some ⟨g, 0, none⟩), .int .i64 0, .int .i64 segs] W1 (OptPost (supRead d 0 segs) W1) := super_read w0 g n P d 0 segs W1 hL1 (by omega)
    go_wp2_with fail
    (with_reducible refine h1.mono ?_)
    unfold OptPost
    rintro e w2 ⟨s, A1, c1, A2, c2, ok, rfl, ho, hz, q1, q2, p1, p2, hb2⟩
    rw [supV_agg]
    have hb3 := bal (Below.refl w2.heap.size w2) (.cells #[.int .i64 s.number, .int .i64 s.boot, .slice A1 s.jour.segs.length c1, .int .i64 s.jour.len, .int .u32 (s.jour.last.toNat : Int), .slice A2 s.chunks.segs.length c2, .int .i64 s.chunks.len, .int .u32 (s.chunks.last.toNat : Int)] 68)
    have hL3 := (hL1.below hb2).below hb3
    have Q3 := Blk.new w2 68 #[.int .i64 s.number, .int .i64 s.boot, .slice A1 s.jour.segs.length c1, .int .i64 s.jour.len, .int .u32 (s.jour.last.toNat : Int), .slice A2 s.chunks.segs.length c2, .int .i64 s.chunks.len, .int .u32 (s.chunks.last.toNat : Int)]
    have h2 : ∀ W, Live w0 W g P n d → Calls Try.prog 60 #[.pointer (some ⟨g, 0, none⟩), .int .i64 1, .int .i64 segs] W (OptPost (supRead d 1 segs) W) := fun W h => super_read w0 g n P d 1 segs W h (by omega)
    have H2 := Lib.hid (h2 _ hL3)
    clear h1 h2
    go_wp2_with fail
    (with_reducible refine H2.out.mono ?_)
    unfold OptPost
    rintro e w4 ⟨t, B1, d1, B2, d2, ok2, rfl, ho2, hz2, r1, r2, s1, s2, hb4⟩
    rw [supV_agg]
    have HO := Lib.hid ho
    have HO2 := Lib.hid ho2
    have hb5 := bal (Below.refl w4.heap.size w4) (.cells #[.int .i64 t.number, .int .i64 t.boot, .slice B1 t.jour.segs.length d1, .int .i64 t.jour.len, .int .u32 (t.jour.last.toNat : Int), .slice B2 t.chunks.segs.length d2, .int .i64 t.chunks.len, .int .u32 (t.chunks.last.toNat : Int)] 68)
    have R5 := Blk.new w4 68 #[.int .i64 t.number, .int .i64 t.boot, .slice B1 t.jour.segs.length d1, .int .i64 t.jour.len, .int .u32 (t.jour.last.toNat : Int), .slice B2 t.chunks.segs.length d2, .int .i64 t.chunks.len, .int .u32 (t.chunks.last.toNat : Int)]
    have Q5 := (Q3.below hb4).below hb5
    have T5 := (((T0.below hb2).below hb3).below hb4).below hb5
    have q15 := ((q1.below hb3).below hb4).below hb5
    have q25 := ((q2.below hb3).below hb4).below hb5
    have r15 := r1.below hb5
    have r25 := r2.below hb5
    have b5 := bn (bn (bn (bn b1 hb2) hb3) hb4) hb5
    have hz1 := hb2.size
    have hz3 := hb3.size
    have hz4 := hb4.size
    clear ho ho2 hz hz2 q1 q2 r1 r2 hb3 hb4 hb5 Q3 H2 hL3 hL1 T0 b1
    go_upto_region 7 with (fail)
    generalize (w4.alloc (.cells #[.int .i64 t.number, .int .i64 t.boot, .slice B1 t.jour.segs.length d1, .int .i64 t.jour.len, .int .u32 (t.jour.last.toNat : Int), .slice B2 t.chunks.segs.length d2, .int .i64 t.chunks.len, .int .u32 (t.chunks.last.toNat : Int)] 68)) = W5 at *
    have t0 : W5.cell? ⟨w.heap.size, 0, none⟩ = some (.int .i64 0) := T5.cell 0
    have u0 := T5.frozen 0
    have t1 : W5.cell? ⟨w.heap.size, 1, none⟩ = some (.int .i64 0) := T5.cell 1
    have u1 := T5.frozen 1
    have t2 : W5.cell? ⟨w.heap.size, 2, none⟩ = some (.slice none 0 0) := T5.cell 2
    have u2 := T5.frozen 2
    have t3 : W5.cell? ⟨w.heap.size, 3, none⟩ = some (.int .i64 0) := T5.cell 3
    have u3 := T5.frozen 3
    have t4 : W5.cell? ⟨w.heap.size, 4, none⟩ = some (.int .u32 0) := T5.cell 4
    have u4 := T5.frozen 4
    have t5 : W5.cell? ⟨w.heap.size, 5, none⟩ = some (.slice none 0 0) := T5.cell 5
    have u5 := T5.frozen 5
    have t6 : W5.cell? ⟨w.heap.size, 6, none⟩ = some (.int .i64 0) := T5.cell 6
    have u6 := T5.frozen 6
    have t7 : W5.cell? ⟨w.heap.size, 7, none⟩ = some (.int .u32 0) := T5.cell 7
    have u7 := T5.frozen 7
    have x0 : W5.cell? ⟨w2.heap.size, 0, none⟩ = some (.int .i64 s.number) := Q5.cell 0
    have x1 : W5.cell? ⟨w2.heap.size, 1, none⟩ = some (.int .i64 s.boot) := Q5.cell 1
    have x2 : W5.cell? ⟨w2.heap.size, 2, none⟩ = some (.slice A1 s.jour.segs.length c1) := Q5.cell 2
    have x3 : W5.cell? ⟨w2.heap.size, 3, none⟩ = some (.int .i64 s.jour.len) := Q5.cell 3
    have x4 : W5.cell? ⟨w2.heap.size, 4, none⟩ = some (.int .u32 (s.jour.last.toNat : Int)) := Q5.cell 4
    have x5 : W5.cell? ⟨w2.heap.size, 5, none⟩ = some (.slice A2 s.chunks.segs.length c2) := Q5.cell 5
    have x6 : W5.cell? ⟨w2.heap.size, 6, none⟩ = some (.int .i64 s.chunks.len) := Q5.cell 6
    have x7 : W5.cell? ⟨w2.heap.size, 7, none⟩ = some (.int .u32 (s.chunks.last.toNat : Int)) := Q5.cell 7
    have y0 : W5.cell? ⟨w4.heap.size, 0, none⟩ = some (.int .i64 t.number) := R5.cell 0
    have y1 : W5.cell? ⟨w4.heap.size, 1, none⟩ = some (.int .i64 t.boot) := R5.cell 1
    have y2 : W5.cell? ⟨w4.heap.size, 2, none⟩ = some (.slice B1 t.jour.segs.length d1) := R5.cell 2
    have y3 : W5.cell? ⟨w4.heap.size, 3, none⟩ = some (.int .i64 t.jour.len) := R5.cell 3
    have y4 : W5.cell? ⟨w4.heap.size, 4, none⟩ = some (.int .u32 (t.jour.last.toNat : Int)) := R5.cell 4
    have y5 : W5.cell? ⟨w4.heap.size, 5, none⟩ = some (.slice B2 t.chunks.segs.length d2) := R5.cell 5
    have y6 : W5.cell? ⟨w4.heap.size, 6, none⟩ = some (.int .i64 t.chunks.len) := R5.cell 6
    have y7 : W5.cell? ⟨w4.heap.size, 7, none⟩ = some (.int .u32 (t.chunks.last.toNat : Int)) := R5.cell 7
    cases ok with
    | true =>
      cases ok2 with
      | true =>
        by_cases hlt : s.number < t.number
        · have hfin : supBest d segs = (t, 0) := by rw [HRES.out, HO.out, HO2.out]; simp [bestOf, hlt]
          have HFIN := Lib.hid hfin
          clear hfin
          have HS := kp_set8 (Kp.refl (fun j => j = w.heap.size) W5) rfl (.int .i64 t.number) (.int .i64 t.boot) (.slice B1 t.jour.segs.length d1) (.int .i64 t.jour.len) (.int .u32 (t.jour.last.toNat : Int)) (.slice B2 t.chunks.segs.length d2) (.int .i64 t.chunks.len) (.int .u32 (t.chunks.last.toNat : Int))
          go_wp2
          refine bodyPost_ret (best_res (T := w.heap.size) rfl rfl (blk_set8 T5)) rfl ?_
          rw [HFIN.out]
          exact ⟨B1, d1, B2, d2, rfl, Rd.kp r15 HS (fun ad e h => by have := s1 ad e; omega), Rd.kp r25 HS (fun ad e h => by have := s2 ad e; omega), below_set8 b5 (Nat.le_refl _) _ _ _ _ _ _ _ _⟩
        · have hfin : supBest d segs = (s, 0) := by rw [HRES.out, HO.out, HO2.out]; simp [bestOf, hlt]
          have HFIN := Lib.hid hfin
          clear hfin
          have HS := kp_set8 (Kp.refl (fun j => j = w.heap.size) W5) rfl (.int .i64 s.number) (.int .i64 s.boot) (.slice A1 s.jour.segs.length c1) (.int .i64 s.jour.len) (.int .u32 (s.jour.last.toNat : Int)) (.slice A2 s.chunks.segs.length c2) (.int .i64 s.chunks.len) (.int .u32 (s.chunks.last.toNat : Int))
          go_wp2
          refine bodyPost_ret (best_res (T := w.heap.size) rfl rfl (blk_set8 T5)) rfl ?_
          rw [HFIN.out]
          exact ⟨A1, c1, A2, c2, rfl, Rd.kp q15 HS (fun ad e h => by have := p1 ad e; omega), Rd.kp q25 HS (fun ad e h => by have := p2 ad e; omega), below_set8 b5 (Nat.le_refl _) _ _ _ _ _ _ _ _⟩
      | false =>
        have hfin : supBest d segs = (s, 0) := by rw [HRES.out, HO.out, HO2.out]; simp [bestOf]
        have HFIN := Lib.hid hfin
        clear hfin
        have HS := kp_set8 (Kp.refl (fun j => j = w.heap.size) W5) rfl (.int .i64 s.number) (.int .i64 s.boot) (.slice A1 s.jour.segs.length c1) (.int .i64 s.jour.len) (.int .u32 (s.jour.last.toNat : Int)) (.slice A2 s.chunks.segs.length c2) (.int .i64 s.chunks.len) (.int .u32 (s.chunks.last.toNat : Int))
        go_wp2
        refine bodyPost_ret (best_res (T := w.heap.size) rfl rfl (blk_set8 T5)) rfl ?_
        rw [HFIN.out]
        exact ⟨A1, c1, A2, c2, rfl, Rd.kp q15 HS (fun ad e h => by have := p1 ad e; omega), Rd.kp q25 HS (fun ad e h => by have := p2 ad e; omega), below_set8 b5 (Nat.le_refl _) _ _ _ _ _ _ _ _⟩
    | false =>
      cases ok2 with
      | true =>
        have hfin : supBest d segs = (t, 0) := by rw [HRES.out, HO.out, HO2.out]; simp [bestOf]
        have HFIN := Lib.hid hfin
        clear hfin
        have HS := kp_set8 (Kp.refl (fun j => j = w.heap.size) W5) rfl (.int .i64 t.number) (.int .i64 t.boot) (.slice B1 t.jour.segs.length d1) (.int .i64 t.jour.len) (.int .u32 (t.jour.last.toNat : Int)) (.slice B2 t.chunks.segs.length d2) (.int .i64 t.chunks.len) (.int .u32 (t.chunks.last.toNat : Int))
        go_wp2
        refine bodyPost_ret (best_res (T := w.heap.size) rfl rfl (blk_set8 T5)) rfl ?_
        rw [HFIN.out]
        exact ⟨B1, d1, B2, d2, rfl, Rd.kp r15 HS (fun ad e h => by have := s1 ad e; omega), Rd.kp r25 HS (fun ad e h => by have := s2 ad e; omega), below_set8 b5 (Nat.le_refl _) _ _ _ _ _ _ _ _⟩
      | false =>
        have hfin : supBest d segs = (zeroS, 13) := by rw [HRES.out, HO.out, HO2.out]; simp [bestOf]
        have HFIN := Lib.hid hfin
        clear hfin
        go_wp2
        refine bodyPost_ret (best_res (T := w.heap.size) rfl rfl (blk_set8 T5)) rfl ?_
        rw [HFIN.out]
        exact ⟨none, 0, none, 0, rfl, Rd.nil _ _, Rd.nil _ _, below_set8 b5 (Nat.le_refl _) _ _ _ _ _ _ _ _⟩
end Go.Proofs.Ytangfnenfhkokaa
