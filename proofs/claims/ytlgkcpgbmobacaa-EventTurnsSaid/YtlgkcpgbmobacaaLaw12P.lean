/-
  Pieces and items as the program has them: Parts, Made, Small.
-/
import Derived.Test.YtlgkcpgbmobacaaLaw14
import Derived.Deep.RegionHeldLaw
set_option linter.unusedSimpArgs false
set_option linter.unusedVariables false
namespace Go.Proofs.Ytlgkcpgbmobacaa
open Go.RowKit

set_option maxRecDepth 100000 in
set_option maxHeartbeats 600000 in
theorem law12_parts (A : Option Addr) (n c : Nat) (ps : List Part) (w : World) (hn : ps.length = n) (hl : n ≤ 1000) (hr : Rd w A (pcs ps)) :
    Calls Try.prog 52 #[.slice A n c] w fun e w' => ∃ v, e = .returned v ∧ PRow w' w.heap.size v ps ∧ Below w.heap.size w w' := by
  subst hn
  go_enter Try.func52, Try.ntmps52
  go_wp2
  go_loopw [3, 4] (fun v i wr => ∃ k : Nat, k ≤ ps.length ∧ i = .int .i64 (k : Int) ∧ PRow wr w.heap.size v (ps.take k) ∧ Below w.heap.size w wr) (fun _ i _ => ps.length - (intOf i).toNat)
  case atStart => exact ⟨0, Nat.zero_le _, rfl, PRow.nil _ _, Below.refl _ _⟩
  case round =>
    obtain ⟨k, hk, rfl, hp, hb⟩ := hrel
    by_cases hlt : k < ps.length
    · have hs1 : ps.take (k + 1) = ps.take k ++ [ps[k]] := List.take_succ_eq_append_getElem hlt
      obtain ⟨b, o6, rfl, x0, x1, x2, x3⟩ := parts_at (hr.below hb) k hlt
      have i0 : (0 : Int) ≤ (k : Int) := by omega
      have i1 : (k : Int) < (ps.length : Int) := by omega
      have hkl : (ps.take k).length = k := by rw [List.length_take]; omega
      obtain ⟨q, hq⟩ : ∃ q, ps[k] = q := ⟨_, rfl⟩
      rw [hq] at x0 x1 x2 x3 hs1
      have HS1 := Lib.hid hs1
      clear hs1 hq
      obtain ⟨A9, c9, rfl, _, _⟩ := hp.read
      have hkd := bdr (Below.refl wr.heap.size wr)
      have hp0 := hp.kp (F := fun _ => False) (Kp.of hkd) (fun _ h => h.elim)
      have hzb := hb.size
      obtain ⟨v', w2, hrun, hp2, hb2⟩ := append_part wr.drew w.heap.size _ _ q hp0 (by omega) (by simpa using hzb)
      rw [← HS1.out] at hp2
      obtain ⟨A8, c8, rfl, _, _⟩ := hp2.read
      have hkl2 : (ps.take (k + 1)).length = k + 1 := by rw [List.length_take]; omega
      rw [hkl] at hrun
      rw [hkl2] at hrun hp2
      have HRN := Lib.hid hrun
      have hka := bal hkd (.cells #[.int .i64 q.off, .int .i64 q.len, .int .i64 q.chunk, .int .i64 q.at_] 95)
      have hlb : b < w.heap.size := by
        have := hr 0 _ (pcs_get ps 0 (by omega)).1
        obtain ⟨ad, e, hc⟩ := this
        cases e
        have := block_lt_of_cell hc
        simpa [Addr.add] using this
      have hcell : ∀ W : World, Below w.heap.size wr W → W.cell? ⟨b, o6 + k * 4, none⟩ = some (.int .i64 q.off) ∧ W.cell? ⟨b, o6 + k * 4 + 1, none⟩ = some (.int .i64 q.len) ∧ W.cell? ⟨b, o6 + k * 4 + 2, none⟩ = some (.int .i64 q.chunk) ∧ W.cell? ⟨b, o6 + k * 4 + 3, none⟩ = some (.int .i64 q.at_) :=
        fun W h => ⟨(h.cell (p := ⟨b, o6 + k * 4, none⟩) hlb).trans x0, (h.cell (p := ⟨b, o6 + k * 4 + 1, none⟩) hlb).trans x1, (h.cell (p := ⟨b, o6 + k * 4 + 2, none⟩) hlb).trans x2, (h.cell (p := ⟨b, o6 + k * 4 + 3, none⟩) hlb).trans x3⟩
      have HCL := Lib.hid hcell
      have hk0 := hkd.mono hzb
      have hk1 := hka.mono hzb
      have hk2 := hk0.trans hb2
      rw [hkl]
      clear hcell hrun hkl hkl2 hkd hka hp hp0 x0 x1 x2 x3 hlb hzb
      go_wp2
      go_region_held_law (fun W => W.cell? ⟨b, o6 + k * 4, none⟩ = some (.int .i64 q.off) ∧ W.cell? ⟨b, o6 + k * 4 + 1, none⟩ = some (.int .i64 q.len) ∧ W.cell? ⟨b, o6 + k * 4 + 2, none⟩ = some (.int .i64 q.chunk) ∧ W.cell? ⟨b, o6 + k * 4 + 3, none⟩ = some (.int .i64 q.at_)) (first | exact HCL.out _ hk0 | exact HCL.out _ hk1 | exact HCL.out _ hk2) (refine step_append_run (by rfl) _ _ 66 66 (by rfl) _ _ _ _ (by rfl) (by rfl) HRN.out ?_)
      go_wp2
      go_roundw
      case rel => exact ⟨k + 1, by omega, by go_num, hp2, hb.trans (hk0.trans hb2)⟩
      case measure => simp [intOf]; try omega
    · obtain rfl : k = ps.length := by omega
      rw [List.take_length] at hp
      go_wp2
      go_ret
      exact ⟨_, rfl, hp, hb⟩

set_option maxRecDepth 100000 in
set_option maxHeartbeats 600000 in
theorem law14_small (i : Item) (A5 : Option Addr) (c5 : Nat) (A6 : Option Addr) (c6 : Nat) (w : World) (h1 : i.path.length ≤ 9223372036854775807) (h2 : i.to_.length ≤ 9223372036854775807) (h3 : i.parts.length ≤ 9223372036854775807) (h4 : i.data ≤ 9223372036854775807) :
    Calls Try.prog 37 #[iv i A5 c5 A6 c6] w fun e w' => e = .returned (.bool (decide (i.path.length ≤ 500 ∧ i.to_.length ≤ 500 ∧ i.parts.length ≤ 100 ∧ i.data ≤ 500))) ∧ Below w.heap.size w w' := by
  obtain ⟨op, path, to_, off, size, data, ps⟩ := i
  simp only [iv_eq] at h1 h2 h3 h4 ⊢
  go_enter Try.func37, Try.ntmps37
  go_wp2
  all_goals go_ret
  all_goals refine ⟨ret_bool ?_, bal (Below.refl _ _) _⟩
  all_goals (rw [Bool.eq_iff_iff]; simp only [decide_eq_true_eq, Bool.and_eq_true, Bool.false_eq_true, false_iff]; omega)

theorem made_res {tmps : Array Value} {w : World} {T : Nat} {v0 v1 v2 v3 v4 v5 v6 : Value} (h2 : tmps[2]?.getD undef = .pointer (some ⟨T, 0, none⟩)) (h : Blk w T 68 #[v0, v1, v2, v3, v4, v5, v6]) :
    (results Try.f40 tmps).run Try.prog w = .ok (.agg #[v0, v1, v2, v3, v4, v5, v6]) w := by
  have c0 : w.cell? ⟨T, 0, none⟩ = some v0 := h.cell 0
  have c1 : w.cell? ⟨T, 1, none⟩ = some v1 := h.cell 1
  have c2 : w.cell? ⟨T, 2, none⟩ = some v2 := h.cell 2
  have c3 : w.cell? ⟨T, 3, none⟩ = some v3 := h.cell 3
  have c4 : w.cell? ⟨T, 4, none⟩ = some v4 := h.cell 4
  have c5 : w.cell? ⟨T, 5, none⟩ = some v5 := h.cell 5
  have c6 : w.cell? ⟨T, 6, none⟩ = some v6 := h.cell 6
  simp [results, Try.results40, go_sem, h2, c0, c1, c2, c3, c4, c5, c6]

set_option maxRecDepth 100000 in
set_option maxHeartbeats 600000 in
theorem law14_made (i : Item) (A5 : Option Addr) (c5 : Nat) (A6 : Option Addr) (c6 : Nat) (w : World) (hl : i.parts.length ≤ 1000) (hr : Rd w A6 (pcs i.parts)) :
    Calls Try.prog 40 #[iv i A5 c5 A6 c6] w fun e w' => ∃ A c, e = .returned (iv i A5 c5 A c) ∧ Rd w' A (pcs i.parts) ∧ (∀ ad, A = some ad → w.heap.size ≤ ad.block ∧ ad.block < w'.heap.size) ∧ Below w.heap.size w w' := by
  obtain ⟨op, path, to_, off, size, data, ps⟩ := i
  simp only [iv_eq] at hl hr ⊢
  have hB0 := (Blk.new w 61 #[.int .i64 op, .string ⟨path.toArray⟩, .string ⟨to_.toArray⟩, .int .i64 off, .int .i64 size, .slice A5 data c5, .slice A6 ps.length c6]).alloc (.cells #[.int .i64 0, .string ⟨([] : List UInt8).toArray⟩, .string ⟨([] : List UInt8).toArray⟩, .int .i64 0, .int .i64 0, .slice none 0 0, .slice none 0 0] 68)
  have hT0 := Blk.new (w.alloc (.cells #[.int .i64 op, .string ⟨path.toArray⟩, .string ⟨to_.toArray⟩, .int .i64 off, .int .i64 size, .slice A5 data c5, .slice A6 ps.length c6] 61)) 68 #[.int .i64 0, .string ⟨([] : List UInt8).toArray⟩, .string ⟨([] : List UInt8).toArray⟩, .int .i64 0, .int .i64 0, .slice none 0 0, .slice none 0 0]
  rw [size_more] at hT0
  have hb0 := bal (bal (Below.refl w.heap.size w) (.cells #[.int .i64 op, .string ⟨path.toArray⟩, .string ⟨to_.toArray⟩, .int .i64 off, .int .i64 size, .slice A5 data c5, .slice A6 ps.length c6] 61)) (.cells #[.int .i64 0, .string ⟨([] : List UInt8).toArray⟩, .string ⟨([] : List UInt8).toArray⟩, .int .i64 0, .int .i64 0, .slice none 0 0, .slice none 0 0] 68)
  have hB0 := (Blk.new w 61 #[.int .i64 op, .string ⟨path.toArray⟩, .string ⟨to_.toArray⟩, .int .i64 off, .int .i64 size, .slice A5 data c5, .slice A6 ps.length c6]).alloc (.cells #[.int .i64 0, .string ⟨([] : List UInt8).toArray⟩, .string ⟨([] : List UInt8).toArray⟩, .int .i64 0, .int .i64 0, .slice none 0 0, .slice none 0 0] 68)
  have hT0 := Blk.new (w.alloc (.cells #[.int .i64 op, .string ⟨path.toArray⟩, .string ⟨to_.toArray⟩, .int .i64 off, .int .i64 size, .slice A5 data c5, .slice A6 ps.length c6] 61)) 68 #[.int .i64 0, .string ⟨([] : List UInt8).toArray⟩, .string ⟨([] : List UInt8).toArray⟩, .int .i64 0, .int .i64 0, .slice none 0 0, .slice none 0 0]
  rw [size_more] at hT0
  have hb0 := bal (bal (Below.refl w.heap.size w) (.cells #[.int .i64 op, .string ⟨path.toArray⟩, .string ⟨to_.toArray⟩, .int .i64 off, .int .i64 size, .slice A5 data c5, .slice A6 ps.length c6] 61)) (.cells #[.int .i64 0, .string ⟨([] : List UInt8).toArray⟩, .string ⟨([] : List UInt8).toArray⟩, .int .i64 0, .int .i64 0, .slice none 0 0, .slice none 0 0] 68)
  have hB0 := (Blk.new w 61 #[.int .i64 op, .string ⟨path.toArray⟩, .string ⟨to_.toArray⟩, .int .i64 off, .int .i64 size, .slice A5 data c5, .slice A6 ps.length c6]).alloc (.cells #[.int .i64 0, .string ⟨([] : List UInt8).toArray⟩, .string ⟨([] : List UInt8).toArray⟩, .int .i64 0, .int .i64 0, .slice none 0 0, .slice none 0 0] 68)
  have hT0 := Blk.new (w.alloc (.cells #[.int .i64 op, .string ⟨path.toArray⟩, .string ⟨to_.toArray⟩, .int .i64 off, .int .i64 size, .slice A5 data c5, .slice A6 ps.length c6] 61)) 68 #[.int .i64 0, .string ⟨([] : List UInt8).toArray⟩, .string ⟨([] : List UInt8).toArray⟩, .int .i64 0, .int .i64 0, .slice none 0 0, .slice none 0 0]
  rw [size_more] at hT0
  have hb0 := bal (bal (Below.refl w.heap.size w) (.cells #[.int .i64 op, .string ⟨path.toArray⟩, .string ⟨to_.toArray⟩, .int .i64 off, .int .i64 size, .slice A5 data c5, .slice A6 ps.length c6] 61)) (.cells #[.int .i64 0, .string ⟨([] : List UInt8).toArray⟩, .string ⟨([] : List UInt8).toArray⟩, .int .i64 0, .int .i64 0, .slice none 0 0, .slice none 0 0] 68)
  go_enter Try.func40, Try.ntmps40
  go_wp2_with fail
  generalize ((w.alloc (.cells #[.int .i64 op, .string ⟨path.toArray⟩, .string ⟨to_.toArray⟩, .int .i64 off, .int .i64 size, .slice A5 data c5, .slice A6 ps.length c6] 61)).alloc (.cells #[.int .i64 0, .string ⟨([] : List UInt8).toArray⟩, .string ⟨([] : List UInt8).toArray⟩, .int .i64 0, .int .i64 0, .slice none 0 0, .slice none 0 0] 68)) = W0 at *
  have hkd := bdr (Below.refl W0.heap.size W0)
  have hBd := hB0.below hkd
  have hTd := hT0.below hkd
  have hbd := hb0.trans (hkd.mono hb0.size)
  have HC := Lib.hid (law12_parts A6 ps.length c6 ps W0.drew rfl hl (hr.below hbd))
  have HK : Hid (∀ W, Blk W w.heap.size 61 #[.int .i64 op, .string ⟨path.toArray⟩, .string ⟨to_.toArray⟩, .int .i64 off, .int .i64 size, .slice A5 data c5, .slice A6 ps.length c6] → W.cell? ⟨w.heap.size, 0, none⟩ = some (.int .i64 op) ∧ W.cell? ⟨w.heap.size, 1, none⟩ = some (.string ⟨path.toArray⟩) ∧ W.cell? ⟨w.heap.size, 2, none⟩ = some (.string ⟨to_.toArray⟩) ∧ W.cell? ⟨w.heap.size, 3, none⟩ = some (.int .i64 off) ∧ W.cell? ⟨w.heap.size, 4, none⟩ = some (.int .i64 size) ∧ W.cell? ⟨w.heap.size, 5, none⟩ = some (.slice A5 data c5) ∧ W.cell? ⟨w.heap.size, 6, none⟩ = some (.slice A6 ps.length c6)) := fun W h => ⟨h.cell 0, h.cell 1, h.cell 2, h.cell 3, h.cell 4, h.cell 5, h.cell 6⟩
  clear hkd hr hB0 hT0 hb0
  go_region_held (fun W => W.cell? ⟨w.heap.size, 0, none⟩ = some (.int .i64 op) ∧ W.cell? ⟨w.heap.size, 1, none⟩ = some (.string ⟨path.toArray⟩) ∧ W.cell? ⟨w.heap.size, 2, none⟩ = some (.string ⟨to_.toArray⟩) ∧ W.cell? ⟨w.heap.size, 3, none⟩ = some (.int .i64 off) ∧ W.cell? ⟨w.heap.size, 4, none⟩ = some (.int .i64 size) ∧ W.cell? ⟨w.heap.size, 5, none⟩ = some (.slice A5 data c5) ∧ W.cell? ⟨w.heap.size, 6, none⟩ = some (.slice A6 ps.length c6)) (first | (with_reducible exact HK.out _ hBd) | (with_reducible exact HK.out _ hB1) | (with_reducible exact HK.out _ (HS.out _ _ _ _ _ _ _))) ((go_at_call 52; (with_reducible refine HC.out.mono ?_); rintro e w1 ⟨v1, rfl, hp1, hb1⟩; obtain ⟨A, c, rfl, hrd, had⟩ := hp1.read; have hB1 := hBd.below hb1; have hT1 := hTd.below hb1; have HS := Lib.hid (fun v0 v1 v2 v3 v4 v5 v6 => hB1.kp (kp_set7 w1 (w.heap.size + 1) v0 v1 v2 v3 v4 v5 v6) (by omega)); have t0 : w1.cell? ⟨w.heap.size + 1, 0, none⟩ = some (.int .i64 0) := hT1.cell 0; have u0 := hT1.frozen 0; have t1 : w1.cell? ⟨w.heap.size + 1, 1, none⟩ = some (.string ⟨([] : List UInt8).toArray⟩) := hT1.cell 1; have u1 := hT1.frozen 1; have t2 : w1.cell? ⟨w.heap.size + 1, 2, none⟩ = some (.string ⟨([] : List UInt8).toArray⟩) := hT1.cell 2; have u2 := hT1.frozen 2; have t3 : w1.cell? ⟨w.heap.size + 1, 3, none⟩ = some (.int .i64 0) := hT1.cell 3; have u3 := hT1.frozen 3; have t4 : w1.cell? ⟨w.heap.size + 1, 4, none⟩ = some (.int .i64 0) := hT1.cell 4; have u4 := hT1.frozen 4; have t5 : w1.cell? ⟨w.heap.size + 1, 5, none⟩ = some (.slice none 0 0) := hT1.cell 5; have u5 := hT1.frozen 5; have t6 : w1.cell? ⟨w.heap.size + 1, 6, none⟩ = some (.slice none 0 0) := hT1.cell 6; have u6 := hT1.frozen 6))
  go_wp2
  refine bodyPost_ret (made_res (T := w.heap.size + 1) rfl (v0 := .int .i64 op) (v1 := .string ⟨path.toArray⟩) (v2 := .string ⟨to_.toArray⟩) (v3 := .int .i64 off) (v4 := .int .i64 size) (v5 := .slice A5 data c5) (v6 := .slice A ps.length c) (blk_set7 hT1)) rfl ?_
  have z0 : w.heap.size + 1 < W0.drew.heap.size := hTd.lt
  refine ⟨A, c, rfl, hrd.kp (kp_set7 _ _ _ _ _ _ _ _ _) (fun ad e h => by have := (had ad e).1; omega), fun ad e => ⟨by have := (had ad e).1; omega, by simpa [World.setCell] using (had ad e).2⟩, (hbd.trans (hb1.mono (by omega))).trans (below_set7 _ _ _ (by omega) _ _ _ _ _ _ _)⟩
end Go.Proofs.Ytlgkcpgbmobacaa
