/-
  Layer 12: Made, Same, awake.
-/
import Derived.Test.YtpnfgnddlfkfaaaRefWr2
import Derived.Test.YtpnfgnddlfkfaaaLaw10
import Derived.Deep.RegionHeld
set_option linter.unusedSimpArgs false
set_option linter.unusedVariables false
namespace Go.Proofs.Ytpnfgnddlfkfaaa
open Go.RowKit Go.Maps

theorem res_made {P : Program} {g : Func} {tmps : Array Value} {w : World} {r : Nat} {T : Nat} {v0 v1 : Value} (hres : g.results = #[.cell r 46]) (hP : P = Try.prog) (h4 : tmps[r]?.getD undef = .pointer (some ⟨T, 0, none⟩)) (h : Blk w T 46 #[v0, v1]) :
    (results g tmps).run P w = .ok (.agg #[v0, v1]) w := by
  subst hP
  have c0 : w.cell? ⟨T, 0, none⟩ = some v0 := h.cell 0
  have c1 : w.cell? ⟨T, 1, none⟩ = some v1 := h.cell 1
  simp [results, hres, go_sem, h4, c0, c1]
set_option maxRecDepth 100000 in
set_option maxHeartbeats 1000000 in
theorem law12_made (size : Int) (A : Option Addr) (n c : Nat) (ps : List Part) (w : World) (hn : ps.length = n) (hl : n ≤ 1000) (hr : Rd w A (pcs ps)) :
    Calls Try.prog 28 #[bv size A n c] w fun e w' => ∃ A' c', e = .returned (bv size A' n c') ∧ Rd w' A' (pcs ps) ∧ Below w.heap.size w w' := by
  subst hn
  unfold bv
  have hB0 := (Blk.new w 61 #[.int .i64 size, .slice A ps.length c]).alloc (.cells #[.int .i64 0, .slice none 0 0] 46)
  have hT0 := Blk.new (w.alloc (.cells #[.int .i64 size, .slice A ps.length c] 61)) 46 #[.int .i64 0, .slice none 0 0]
  rw [size_more'] at hT0
  have hb0 := bal (bal (Below.refl w.heap.size w) (.cells #[.int .i64 size, .slice A ps.length c] 61)) (.cells #[.int .i64 0, .slice none 0 0] 46)
  go_enter Try.func28, Try.ntmps28
  go_wp2_with fail
  generalize ((w.alloc (.cells #[.int .i64 size, .slice A ps.length c] 61)).alloc (.cells #[.int .i64 0, .slice none 0 0] 46)) = W0 at *
  have hkd := bdr (Below.refl W0.heap.size W0)
  have hBd := hB0.below hkd
  have hTd := hT0.below hkd
  have hbd := hb0.trans (hkd.mono hb0.size)
  have HC := Lib.hid (law12_parts A ps.length c ps W0.drew rfl hl (hr.below hbd))
  have HK : Hid (∀ W, Blk W w.heap.size 61 #[.int .i64 size, .slice A ps.length c] → W.cell? ⟨w.heap.size, 0, none⟩ = some (.int .i64 size) ∧ W.cell? ⟨w.heap.size, 1, none⟩ = some (.slice A ps.length c)) := fun W h => ⟨h.cell 0, h.cell 1⟩
  clear hkd hr hB0 hT0 hb0
  go_region_held (fun W => W.cell? ⟨w.heap.size, 0, none⟩ = some (.int .i64 size) ∧ W.cell? ⟨w.heap.size, 1, none⟩ = some (.slice A ps.length c)) (first | (with_reducible exact HK.out _ hBd) | (with_reducible exact HK.out _ hB1) | (with_reducible exact HK.out _ (HS.out _ _))) ((go_at_call 29; (with_reducible refine HC.out.mono ?_); rintro e w1 ⟨A1, c1, rfl, hp1, hb1⟩; have hB1 := hBd.below hb1; have hT1 := hTd.below hb1; have HS := Lib.hid (fun v0 v1 => hB1.kp (kp_set2 w1 (w.heap.size + 1) v0 v1) (by omega)); have t0 : w1.cell? ⟨w.heap.size + 1, 0, none⟩ = some (.int .i64 0) := hT1.cell 0; have u0 := hT1.frozen 0; have t1 : w1.cell? ⟨w.heap.size + 1, 1, none⟩ = some (.slice none 0 0) := hT1.cell 1; have u1 := hT1.frozen 1))
  go_wp2
  have z0 := hTd.lt
  obtain ⟨A9, c9, e9, _, hr9, had9⟩ := ORow.read hp1
  cases e9
  refine bodyPost_ret (res_made (T := w.heap.size + 1) Try.results28 rfl rfl (v0 := .int .i64 size) (v1 := .slice A1 ps.length c1) (blk_set2 hT1)) rfl ?_
  exact ⟨A1, c1, rfl, hr9.kp (kp_set2 w1 _ _ _) fun ad e h => (by have := (had9 ad e).1; omega), ((hbd.trans (hb1.mono hbd.size)).setCell (by simp only; omega) _).setCell (by simp only; omega) _⟩

theorem two_blk2 (W0 : World) (e e2 : TypeId) (c1 c2 : Array Value) : Blk ((W0.alloc (.cells c1 e)).alloc (.cells c2 e2)).drew W0.heap.size e c1 ∧ Blk ((W0.alloc (.cells c1 e)).alloc (.cells c2 e2)).drew (W0.heap.size + 1) e2 c2 ∧ Below W0.heap.size W0 ((W0.alloc (.cells c1 e)).alloc (.cells c2 e2)).drew := by
  refine ⟨(Blk.new W0 e c1).alloc _, ?_, bdr (bal (bal (Below.refl _ _) _) _)⟩
  have := Blk.new (W0.alloc (.cells c1 e)) e2 c2
  rw [size_more'] at this
  exact this
set_option maxRecDepth 100000 in
set_option maxHeartbeats 2000000 in
/-- two bodies of the same pieces are one -/
theorem law12_same (size : Int) (ps : List Part) (A : Option Addr) (c : Nat) (A2 : Option Addr) (c2 : Nat) (n : Nat) (w : World) (hn : ps.length = n) (hl : n ≤ 1000000) (hr : Rd w A (pcs ps)) (hr2 : Rd w A2 (pcs ps)) :
    Calls Try.prog 31 #[bv size A n c, bv size A2 n c2] w fun e w' => e = .returned (.bool true) ∧ Below w.heap.size w w' := by
  subst hn
  unfold bv
  have hBa := (Blk.new w 46 #[.int .i64 size, .slice A ps.length c]).alloc (.cells #[.int .i64 size, .slice A2 ps.length c2] 61)
  have hBb := Blk.new (w.alloc (.cells #[.int .i64 size, .slice A ps.length c] 46)) 61 #[.int .i64 size, .slice A2 ps.length c2]
  rw [size_more'] at hBb
  have hb0 := bal (bal (Below.refl w.heap.size w) (.cells #[.int .i64 size, .slice A ps.length c] 46)) (.cells #[.int .i64 size, .slice A2 ps.length c2] 61)
  have HR := Lib.hid hr
  have HR2 := Lib.hid hr2
  clear hr hr2
  go_enter Try.func31, Try.ntmps31
  go_wp2
  generalize ((w.alloc (.cells #[.int .i64 size, .slice A ps.length c] 46)).alloc (.cells #[.int .i64 size, .slice A2 ps.length c2] 61)) = W0 at *
  have HBA := Lib.hid hBa
  have HBB := Lib.hid hBb
  have HB0 := Lib.hid hb0
  clear hBa hBb hb0
  go_loopw [5] (fun i wr => ∃ k : Nat, k ≤ ps.length ∧ i = .int .i64 (k : Int) ∧ Below W0.heap.size W0 wr) (fun i _ => ps.length - (intOf i).toNat)
  case atStart => exact ⟨0, Nat.zero_le _, rfl, Below.refl _ _⟩
  case round =>
    obtain ⟨k, hk, rfl, hb⟩ := hrel
    have hbw := bn HB0.out hb
    have ca : wr.cell? ⟨w.heap.size, 1, none⟩ = some (.slice A ps.length c) := (HBA.out.below hb).cell 1
    have cb : wr.cell? ⟨w.heap.size + 1, 1, none⟩ = some (.slice A2 ps.length c2) := (HBB.out.below hb).cell 1
    by_cases hlt : k < ps.length
    · obtain ⟨ba, oa, rfl, hba, hca⟩ := part_at HR.out k hlt
      obtain ⟨bb, ob, rfl, hbb, hcb⟩ := part_at HR2.out k hlt
      have i0 : (0 : Int) ≤ (k : Int) := by omega
      have i1 : (k : Int) < (ps.length : Int) := by omega
      generalize ps[k] = q at *
      have HCL : Hid (∀ W : World, Below wr.heap.size wr W → W.cell? ⟨w.heap.size, 1, none⟩ = some (.slice (some ⟨ba, oa, none⟩) ps.length c) ∧ W.cell? ⟨w.heap.size + 1, 1, none⟩ = some (.slice (some ⟨bb, ob, none⟩) ps.length c2) ∧ W.cell? ⟨ba, oa + k * 4, none⟩ = some (.int .i64 q.off) ∧ W.cell? ⟨ba, oa + k * 4 + 1, none⟩ = some (.int .i64 q.len) ∧ W.cell? ⟨ba, oa + k * 4 + 2, none⟩ = some (.int .i64 q.chunk) ∧ W.cell? ⟨ba, oa + k * 4 + 3, none⟩ = some (.int .i64 q.at_) ∧ W.cell? ⟨bb, ob + k * 4, none⟩ = some (.int .i64 q.off) ∧ W.cell? ⟨bb, ob + k * 4 + 1, none⟩ = some (.int .i64 q.len) ∧ W.cell? ⟨bb, ob + k * 4 + 2, none⟩ = some (.int .i64 q.chunk) ∧ W.cell? ⟨bb, ob + k * 4 + 3, none⟩ = some (.int .i64 q.at_)) := fun W h =>
        have hW := bn hbw h
        ⟨(h.cell (block_lt_of_cell ca)).trans ca, (h.cell (block_lt_of_cell cb)).trans cb, (hca W hW).1, (hca W hW).2.1, (hca W hW).2.2.1, (hca W hW).2.2.2, (hcb W hW).1, (hcb W hW).2.1, (hcb W hW).2.2.1, (hcb W hW).2.2.2⟩
      clear hca hcb
      go_wp2_with fail
      clear ca cb
      go_cut [6, 7] (fun s6 s7 wx => ∃ X Y, s6 = .pointer (some ⟨X, 0, none⟩) ∧ s7 = .pointer (some ⟨Y, 0, none⟩) ∧ Blk wx X 50 #[.int .i64 q.off, .int .i64 q.len, .int .i64 q.chunk, .int .i64 q.at_] ∧ Blk wx Y 85 #[.int .i64 q.off, .int .i64 q.len, .int .i64 q.chunk, .int .i64 q.at_] ∧ Below wr.heap.size wr wx)
      case first =>
        go_region_held (fun W => W.cell? ⟨w.heap.size, 1, none⟩ = some (.slice (some ⟨ba, oa, none⟩) ps.length c) ∧ W.cell? ⟨w.heap.size + 1, 1, none⟩ = some (.slice (some ⟨bb, ob, none⟩) ps.length c2) ∧ W.cell? ⟨ba, oa + k * 4, none⟩ = some (.int .i64 q.off) ∧ W.cell? ⟨ba, oa + k * 4 + 1, none⟩ = some (.int .i64 q.len) ∧ W.cell? ⟨ba, oa + k * 4 + 2, none⟩ = some (.int .i64 q.chunk) ∧ W.cell? ⟨ba, oa + k * 4 + 3, none⟩ = some (.int .i64 q.at_) ∧ W.cell? ⟨bb, ob + k * 4, none⟩ = some (.int .i64 q.off) ∧ W.cell? ⟨bb, ob + k * 4 + 1, none⟩ = some (.int .i64 q.len) ∧ W.cell? ⟨bb, ob + k * 4 + 2, none⟩ = some (.int .i64 q.chunk) ∧ W.cell? ⟨bb, ob + k * 4 + 3, none⟩ = some (.int .i64 q.at_)) (exact HCL.out _ (by repeat (first | (with_reducible exact Below.refl _ _) | (with_reducible refine Below.drew ?_) | (with_reducible refine Below.alloc ?_ (by simp) _) | (with_reducible refine Below.setCell ?_ (by simp) _)))) (fail)
        all_goals (go_wp2_with fail; go_meet)
        · exact ⟨_, _, rfl, rfl, (two_blk2 wr _ _ _ _).1, (two_blk2 wr _ _ _ _).2.1, (two_blk2 wr _ _ _ _).2.2⟩
        · exact ⟨_, _, rfl, rfl, (two_blk2 wr _ _ _ _).2.1, (two_blk2 wr _ _ _ _).1, (two_blk2 wr _ _ _ _).2.2⟩
      case rest =>
        obtain ⟨X, Y, rfl, rfl, hX, hY, hbx⟩ := hcut
        have x0 : wc.cell? ⟨X, 0, none⟩ = some (.int .i64 q.off) := hX.cell 0
        have y0 : wc.cell? ⟨Y, 0, none⟩ = some (.int .i64 q.off) := hY.cell 0
        have x1 : wc.cell? ⟨X, 1, none⟩ = some (.int .i64 q.len) := hX.cell 1
        have y1 : wc.cell? ⟨Y, 1, none⟩ = some (.int .i64 q.len) := hY.cell 1
        have x2 : wc.cell? ⟨X, 2, none⟩ = some (.int .i64 q.chunk) := hX.cell 2
        have y2 : wc.cell? ⟨Y, 2, none⟩ = some (.int .i64 q.chunk) := hY.cell 2
        have x3 : wc.cell? ⟨X, 3, none⟩ = some (.int .i64 q.at_) := hX.cell 3
        have y3 : wc.cell? ⟨Y, 3, none⟩ = some (.int .i64 q.at_) := hY.cell 3
        have hbrx := bn hb hbx
        clear hX hY hbx HCL hb hbw
        go_wp2
        go_roundw
        case rel => exact ⟨k + 1, by omega, by go_num, hbrx⟩
        case measure => simp [intOf]; try omega
    · obtain rfl : k = ps.length := by omega
      go_wp2
      go_ret
      exact ⟨rfl, hbw⟩
end Go.Proofs.Ytpnfgnddlfkfaaa
