/-
  law14.Same.
-/
import Derived.Test.YtlgkcpgbmobacaaLaw12P
set_option linter.unusedSimpArgs false
set_option linter.unusedVariables false
namespace Go.Proofs.Ytlgkcpgbmobacaa
open Go.RowKit

def SamePost (w : World) (a b : Item) (e : Ending) (w' : World) : Prop :=
  ∃ r, e = .returned (.bool r) ∧ (r = true ↔ a.op = b.op ∧ a.path = b.path ∧ a.to_ = b.to_ ∧ a.off = b.off ∧ a.size = b.size ∧ a.data = 0 ∧ a.parts = b.parts) ∧ Below w.heap.size w w'
theorem SamePost.mk {w : World} {a b : Item} {e : Ending} {w' : World} (r : Bool) (he : e = .returned (.bool r)) (h : r = true ↔ a.op = b.op ∧ a.path = b.path ∧ a.to_ = b.to_ ∧ a.off = b.off ∧ a.size = b.size ∧ a.data = 0 ∧ a.parts = b.parts) (hb : Below w.heap.size w w') : SamePost w a b e w' := ⟨r, he, h, hb⟩
theorem two_blk (W0 : World) (e : TypeId) (c1 c2 : Array Value) : Blk ((W0.alloc (.cells c1 e)).alloc (.cells c2 e)).drew W0.heap.size e c1 ∧ Blk ((W0.alloc (.cells c1 e)).alloc (.cells c2 e)).drew (W0.heap.size + 1) e c2 ∧ Below W0.heap.size W0 ((W0.alloc (.cells c1 e)).alloc (.cells c2 e)).drew := by
  refine ⟨(Blk.new W0 e c1).alloc _, ?_, bdr (bal (bal (Below.refl _ _) _) _)⟩
  have := Blk.new (W0.alloc (.cells c1 e)) e c2
  rw [size_more] at this
  exact this
theorem two_blk2 (W0 : World) (e e' : TypeId) (c1 c2 : Array Value) : Blk ((W0.alloc (.cells c1 e)).alloc (.cells c2 e')).drew W0.heap.size e c1 ∧ Blk ((W0.alloc (.cells c1 e)).alloc (.cells c2 e')).drew (W0.heap.size + 1) e' c2 ∧ Below W0.heap.size W0 ((W0.alloc (.cells c1 e)).alloc (.cells c2 e')).drew := by
  refine ⟨(Blk.new W0 e c1).alloc _, ?_, bdr (bal (bal (Below.refl _ _) _) _)⟩
  have := Blk.new (W0.alloc (.cells c1 e)) e' c2
  rw [size_more] at this
  exact this
theorem Blk.drew {w : World} {g : Nat} {e : TypeId} {cs : Array Value} (h : Blk w g e cs) : Blk w.drew g e cs := h

set_option maxRecDepth 100000 in
set_option maxHeartbeats 600000 in
theorem law14_same (a b : Item) (A5 : Option Addr) (c5 : Nat) (A6 : Option Addr) (c6 : Nat) (B5 : Option Addr) (d5 : Nat) (B6 : Option Addr) (d6 : Nat) (w : World) (hla : a.parts.length ≤ 1000) (hlb : b.parts.length ≤ 9223372036854775807) (hda : a.data ≤ 9223372036854775807) (hra : Rd w A6 (pcs a.parts)) (hrb : Rd w B6 (pcs b.parts)) :
    Calls Try.prog 46 #[iv a A5 c5 A6 c6, iv b B5 d5 B6 d6] w fun e w' => SamePost w a b e w' := by
  obtain ⟨op, path, to_, off, size, data, ps⟩ := a
  obtain ⟨op2, path2, to2, off2, size2, data2, ps2⟩ := b
  simp only [iv_eq] at hla hlb hda hra hrb ⊢
  have hBa := (Blk.new w 68 #[.int .i64 op, .string ⟨path.toArray⟩, .string ⟨to_.toArray⟩, .int .i64 off, .int .i64 size, .slice A5 data c5, .slice A6 ps.length c6]).alloc (.cells #[.int .i64 op2, .string ⟨path2.toArray⟩, .string ⟨to2.toArray⟩, .int .i64 off2, .int .i64 size2, .slice B5 data2 d5, .slice B6 ps2.length d6] 61)
  have hBb := Blk.new (w.alloc (.cells #[.int .i64 op, .string ⟨path.toArray⟩, .string ⟨to_.toArray⟩, .int .i64 off, .int .i64 size, .slice A5 data c5, .slice A6 ps.length c6] 68)) 61 #[.int .i64 op2, .string ⟨path2.toArray⟩, .string ⟨to2.toArray⟩, .int .i64 off2, .int .i64 size2, .slice B5 data2 d5, .slice B6 ps2.length d6]
  rw [size_more] at hBb
  have hb0 := bal (bal (Below.refl w.heap.size w) (.cells #[.int .i64 op, .string ⟨path.toArray⟩, .string ⟨to_.toArray⟩, .int .i64 off, .int .i64 size, .slice A5 data c5, .slice A6 ps.length c6] 68)) (.cells #[.int .i64 op2, .string ⟨path2.toArray⟩, .string ⟨to2.toArray⟩, .int .i64 off2, .int .i64 size2, .slice B5 data2 d5, .slice B6 ps2.length d6] 61)
  go_enter Try.func46, Try.ntmps46
  go_wp2_with fail
  generalize hW0 : ((w.alloc (.cells #[.int .i64 op, .string ⟨path.toArray⟩, .string ⟨to_.toArray⟩, .int .i64 off, .int .i64 size, .slice A5 data c5, .slice A6 ps.length c6] 68)).alloc (.cells #[.int .i64 op2, .string ⟨path2.toArray⟩, .string ⟨to2.toArray⟩, .int .i64 off2, .int .i64 size2, .slice B5 data2 d5, .slice B6 ps2.length d6] 61)) = W0 at *
  clear hW0
  go_cut [5, 6] (fun s5 s6 wx => ∃ X Y, s5 = .pointer (some ⟨X, 0, none⟩) ∧ s6 = .pointer (some ⟨Y, 0, none⟩) ∧ Blk wx X 58 #[.int .i64 op, .string ⟨path.toArray⟩, .string ⟨to_.toArray⟩, .int .i64 off, .int .i64 size, .slice A5 data c5] ∧ Blk wx Y 58 #[.int .i64 op2, .string ⟨path2.toArray⟩, .string ⟨to2.toArray⟩, .int .i64 off2, .int .i64 size2, .slice B5 data2 d5] ∧ Below W0.heap.size W0 wx)
  case first =>
    have hkd := bdr (Below.refl W0.heap.size W0)
    have hBad := hBa.below hkd
    have hBbd := hBb.below hkd
    have HKa : Hid (∀ W, Blk W w.heap.size 68 #[.int .i64 op, .string ⟨path.toArray⟩, .string ⟨to_.toArray⟩, .int .i64 off, .int .i64 size, .slice A5 data c5, .slice A6 ps.length c6] → W.cell? ⟨w.heap.size, 0, none⟩ = some (.int .i64 op) ∧ W.cell? ⟨w.heap.size, 1, none⟩ = some (.string ⟨path.toArray⟩) ∧ W.cell? ⟨w.heap.size, 2, none⟩ = some (.string ⟨to_.toArray⟩) ∧ W.cell? ⟨w.heap.size, 3, none⟩ = some (.int .i64 off) ∧ W.cell? ⟨w.heap.size, 4, none⟩ = some (.int .i64 size) ∧ W.cell? ⟨w.heap.size, 5, none⟩ = some (.slice A5 data c5)) := fun W h => ⟨h.cell 0, h.cell 1, h.cell 2, h.cell 3, h.cell 4, h.cell 5⟩
    have HKb : Hid (∀ W, Blk W (w.heap.size + 1) 61 #[.int .i64 op2, .string ⟨path2.toArray⟩, .string ⟨to2.toArray⟩, .int .i64 off2, .int .i64 size2, .slice B5 data2 d5, .slice B6 ps2.length d6] → W.cell? ⟨w.heap.size + 1, 0, none⟩ = some (.int .i64 op2) ∧ W.cell? ⟨w.heap.size + 1, 1, none⟩ = some (.string ⟨path2.toArray⟩) ∧ W.cell? ⟨w.heap.size + 1, 2, none⟩ = some (.string ⟨to2.toArray⟩) ∧ W.cell? ⟨w.heap.size + 1, 3, none⟩ = some (.int .i64 off2) ∧ W.cell? ⟨w.heap.size + 1, 4, none⟩ = some (.int .i64 size2) ∧ W.cell? ⟨w.heap.size + 1, 5, none⟩ = some (.slice B5 data2 d5)) := fun W h => ⟨h.cell 0, h.cell 1, h.cell 2, h.cell 3, h.cell 4, h.cell 5⟩
    have zb := hBbd.lt
    clear hra hrb hb0 hBad hBbd
    go_region_held (fun W => (W.cell? ⟨w.heap.size, 0, none⟩ = some (.int .i64 op) ∧ W.cell? ⟨w.heap.size, 1, none⟩ = some (.string ⟨path.toArray⟩) ∧ W.cell? ⟨w.heap.size, 2, none⟩ = some (.string ⟨to_.toArray⟩) ∧ W.cell? ⟨w.heap.size, 3, none⟩ = some (.int .i64 off) ∧ W.cell? ⟨w.heap.size, 4, none⟩ = some (.int .i64 size) ∧ W.cell? ⟨w.heap.size, 5, none⟩ = some (.slice A5 data c5)) ∧ (W.cell? ⟨w.heap.size + 1, 0, none⟩ = some (.int .i64 op2) ∧ W.cell? ⟨w.heap.size + 1, 1, none⟩ = some (.string ⟨path2.toArray⟩) ∧ W.cell? ⟨w.heap.size + 1, 2, none⟩ = some (.string ⟨to2.toArray⟩) ∧ W.cell? ⟨w.heap.size + 1, 3, none⟩ = some (.int .i64 off2) ∧ W.cell? ⟨w.heap.size + 1, 4, none⟩ = some (.int .i64 size2) ∧ W.cell? ⟨w.heap.size + 1, 5, none⟩ = some (.slice B5 data2 d5))) (exact ⟨HKa.out _ (by repeat (first | (with_reducible exact hBa) | (with_reducible refine Blk.drew ?_) | (with_reducible refine Blk.alloc ?_ _) | (with_reducible refine Blk.other ?_ (by simp; try omega) _))), HKb.out _ (by repeat (first | (with_reducible exact hBb) | (with_reducible refine Blk.drew ?_) | (with_reducible refine Blk.alloc ?_ _) | (with_reducible refine Blk.other ?_ (by simp; try omega) _)))⟩) (fail)
    all_goals (go_wp2_with fail; go_meet)
    · exact ⟨_, _, rfl, rfl, (two_blk W0 _ _ _).1, (two_blk W0 _ _ _).2.1, (two_blk W0 _ _ _).2.2⟩
    · exact ⟨_, _, rfl, rfl, (two_blk W0 _ _ _).2.1, (two_blk W0 _ _ _).1, (two_blk W0 _ _ _).2.2⟩
  case rest =>
    obtain ⟨X, Y, rfl, rfl, hX, hY, hb1⟩ := hcut
    have ha6 : wc.cell? ⟨w.heap.size, 6, none⟩ = some (.slice A6 ps.length c6) := (hBa.below hb1).cell 6
    have hb6 : wc.cell? ⟨w.heap.size + 1, 6, none⟩ = some (.slice B6 ps2.length d6) := (hBb.below hb1).cell 6
    have x0 : wc.cell? ⟨X, 0, none⟩ = some (.int .i64 op) := hX.cell 0
    have y0 : wc.cell? ⟨Y, 0, none⟩ = some (.int .i64 op2) := hY.cell 0
    have x1 : wc.cell? ⟨X, 1, none⟩ = some (.string ⟨path.toArray⟩) := hX.cell 1
    have y1 : wc.cell? ⟨Y, 1, none⟩ = some (.string ⟨path2.toArray⟩) := hY.cell 1
    have x2 : wc.cell? ⟨X, 2, none⟩ = some (.string ⟨to_.toArray⟩) := hX.cell 2
    have y2 : wc.cell? ⟨Y, 2, none⟩ = some (.string ⟨to2.toArray⟩) := hY.cell 2
    have x3 : wc.cell? ⟨X, 3, none⟩ = some (.int .i64 off) := hX.cell 3
    have y3 : wc.cell? ⟨Y, 3, none⟩ = some (.int .i64 off2) := hY.cell 3
    have x4 : wc.cell? ⟨X, 4, none⟩ = some (.int .i64 size) := hX.cell 4
    have y4 : wc.cell? ⟨Y, 4, none⟩ = some (.int .i64 size2) := hY.cell 4
    have x5 : wc.cell? ⟨X, 5, none⟩ = some (.slice A5 data c5) := hX.cell 5
    have y5 : wc.cell? ⟨Y, 5, none⟩ = some (.slice B5 data2 d5) := hY.cell 5
    have hb0c := hb0.trans (hb1.mono hb0.size)
    have hrac := hra.below hb0c
    have hrbc := hrb.below hb0c
    clear hra hrb hBa hBb hb0 hb1 hX hY
    go_wp2_with fail
    all_goals first
      | (have z : ¬op = op2 := by with_reducible assumption
         go_ret
         refine SamePost.mk false rfl ⟨(fun h => by cases h), ?_⟩ hb0c
         rintro ⟨g1, g2, g3, g4, g5, g6, g7⟩
         exact (z g1).elim)
      | (have z : ¬path = path2 := by with_reducible assumption
         go_ret
         refine SamePost.mk false rfl ⟨(fun h => by cases h), ?_⟩ hb0c
         rintro ⟨g1, g2, g3, g4, g5, g6, g7⟩
         exact (z g2).elim)
      | (have z : ¬to_ = to2 := by with_reducible assumption
         go_ret
         refine SamePost.mk false rfl ⟨(fun h => by cases h), ?_⟩ hb0c
         rintro ⟨g1, g2, g3, g4, g5, g6, g7⟩
         exact (z g3).elim)
      | (have z : ¬off = off2 := by with_reducible assumption
         go_ret
         refine SamePost.mk false rfl ⟨(fun h => by cases h), ?_⟩ hb0c
         rintro ⟨g1, g2, g3, g4, g5, g6, g7⟩
         exact (z g4).elim)
      | (have z : ¬size = size2 := by with_reducible assumption
         go_ret
         refine SamePost.mk false rfl ⟨(fun h => by cases h), ?_⟩ hb0c
         rintro ⟨g1, g2, g3, g4, g5, g6, g7⟩
         exact (z g5).elim)
      | (have z : ¬data = 0 := by with_reducible assumption
         go_ret
         refine SamePost.mk false rfl ⟨(fun h => by cases h), ?_⟩ hb0c
         rintro ⟨g1, g2, g3, g4, g5, g6, g7⟩
         exact (z g6).elim)
      | (have z : ((ps.length : Int) != (ps2.length : Int)) = true := by with_reducible assumption
         go_ret
         refine SamePost.mk false rfl ⟨(fun h => by cases h), ?_⟩ hb0c
         rintro ⟨g1, g2, g3, g4, g5, g6, g7⟩
         rw [bne_iff_ne] at z
         exact (z (congrArg (fun l : List Part => (l.length : Int)) g7)).elim)
      | skip
    have e1 : op = op2 := by with_reducible assumption
    have e2 : path = path2 := by with_reducible assumption
    have e3 : to_ = to2 := by with_reducible assumption
    have e4 : off = off2 := by with_reducible assumption
    have e5 : size = size2 := by with_reducible assumption
    have e6 : data = 0 := by with_reducible assumption
    have e7 : ((ps.length : Int) != (ps2.length : Int)) = false := by with_reducible assumption
    simp only [e7]
    have e8 : ps2.length = ps.length := by simp at e7; omega
    subst e1 e2 e3 e4 e5 e6
    rw [e8] at hb6
    have H8 := Lib.hid e8
    clear e7 e8 x0 x1 x2 x3 x4 x5 y0 y1 y2 y3 y4 y5
    go_loopw [7] (fun i wr => ∃ k : Nat, k ≤ ps.length ∧ i = .int .i64 (k : Int) ∧ Hid (ps.take k = ps2.take k) ∧ Below wc.heap.size wc wr) (fun i _ => ps.length - (intOf i).toNat)
    case atStart => exact ⟨0, Nat.zero_le _, rfl, (rfl : ps.take 0 = ps2.take 0), Below.refl _ _⟩
    case round =>
      obtain ⟨k, hk, rfl, htk, hbr⟩ := hrel
      have hb0r := hb0c.trans (hbr.mono hb0c.size)
      by_cases hlt : k < ps.length
      · have hlt2 : k < ps2.length := by rw [H8.out]; exact hlt
        obtain ⟨ba, oa, rfl, a0, a1, a2, a3⟩ := parts_at (hrac.below hbr) k hlt
        obtain ⟨bb, ob, rfl, b0, b1, b2, b3⟩ := parts_at (hrbc.below hbr) k hlt2
        have i0 : (0 : Int) ≤ (k : Int) := by omega
        have i1 : (k : Int) < (ps.length : Int) := by omega
        obtain ⟨q, hq⟩ : ∃ q, ps[k] = q := ⟨_, rfl⟩
        obtain ⟨q2, hq2⟩ : ∃ q, ps2[k] = q := ⟨_, rfl⟩
        rw [hq] at a0 a1 a2 a3
        rw [hq2] at b0 b1 b2 b3
        have HQ := Lib.hid hq
        have HQ2 := Lib.hid hq2
        have ca : wr.cell? ⟨w.heap.size, 6, none⟩ = some (.slice (some ⟨ba, oa, none⟩) ps.length c6) := (hbr.cell (block_lt_of_cell ha6)).trans ha6
        have cb : wr.cell? ⟨w.heap.size + 1, 6, none⟩ = some (.slice (some ⟨bb, ob, none⟩) ps.length d6) := (hbr.cell (block_lt_of_cell hb6)).trans hb6
        clear hq hq2
        have HCL : Hid (∀ W : World, Below wr.heap.size wr W → W.cell? ⟨w.heap.size, 6, none⟩ = some (.slice (some ⟨ba, oa, none⟩) ps.length c6) ∧ W.cell? ⟨w.heap.size + 1, 6, none⟩ = some (.slice (some ⟨bb, ob, none⟩) ps.length d6) ∧ W.cell? ⟨ba, oa + k * 4, none⟩ = some (.int .i64 q.off) ∧ W.cell? ⟨ba, oa + k * 4 + 1, none⟩ = some (.int .i64 q.len) ∧ W.cell? ⟨ba, oa + k * 4 + 2, none⟩ = some (.int .i64 q.chunk) ∧ W.cell? ⟨ba, oa + k * 4 + 3, none⟩ = some (.int .i64 q.at_) ∧ W.cell? ⟨bb, ob + k * 4, none⟩ = some (.int .i64 q2.off) ∧ W.cell? ⟨bb, ob + k * 4 + 1, none⟩ = some (.int .i64 q2.len) ∧ W.cell? ⟨bb, ob + k * 4 + 2, none⟩ = some (.int .i64 q2.chunk) ∧ W.cell? ⟨bb, ob + k * 4 + 3, none⟩ = some (.int .i64 q2.at_)) := fun W h => ⟨(h.cell (block_lt_of_cell ca)).trans ca, (h.cell (block_lt_of_cell cb)).trans cb, (h.cell (block_lt_of_cell a0)).trans a0, (h.cell (block_lt_of_cell a1)).trans a1, (h.cell (block_lt_of_cell a2)).trans a2, (h.cell (block_lt_of_cell a3)).trans a3, (h.cell (block_lt_of_cell b0)).trans b0, (h.cell (block_lt_of_cell b1)).trans b1, (h.cell (block_lt_of_cell b2)).trans b2, (h.cell (block_lt_of_cell b3)).trans b3⟩
        go_wp2_with fail
        clear ca cb a0 a1 a2 a3 b0 b1 b2 b3
        go_cut [8, 9] (fun s8 s9 wx => ∃ X Y, s8 = .pointer (some ⟨X, 0, none⟩) ∧ s9 = .pointer (some ⟨Y, 0, none⟩) ∧ Blk wx X 95 #[.int .i64 q.off, .int .i64 q.len, .int .i64 q.chunk, .int .i64 q.at_] ∧ Blk wx Y 81 #[.int .i64 q2.off, .int .i64 q2.len, .int .i64 q2.chunk, .int .i64 q2.at_] ∧ Below wr.heap.size wr wx)
        case first =>
          go_region_held (fun W => W.cell? ⟨w.heap.size, 6, none⟩ = some (.slice (some ⟨ba, oa, none⟩) ps.length c6) ∧ W.cell? ⟨w.heap.size + 1, 6, none⟩ = some (.slice (some ⟨bb, ob, none⟩) ps.length d6) ∧ W.cell? ⟨ba, oa + k * 4, none⟩ = some (.int .i64 q.off) ∧ W.cell? ⟨ba, oa + k * 4 + 1, none⟩ = some (.int .i64 q.len) ∧ W.cell? ⟨ba, oa + k * 4 + 2, none⟩ = some (.int .i64 q.chunk) ∧ W.cell? ⟨ba, oa + k * 4 + 3, none⟩ = some (.int .i64 q.at_) ∧ W.cell? ⟨bb, ob + k * 4, none⟩ = some (.int .i64 q2.off) ∧ W.cell? ⟨bb, ob + k * 4 + 1, none⟩ = some (.int .i64 q2.len) ∧ W.cell? ⟨bb, ob + k * 4 + 2, none⟩ = some (.int .i64 q2.chunk) ∧ W.cell? ⟨bb, ob + k * 4 + 3, none⟩ = some (.int .i64 q2.at_)) (exact HCL.out _ (by repeat (first | (with_reducible exact Below.refl _ _) | (with_reducible refine Below.drew ?_) | (with_reducible refine Below.alloc ?_ (by simp) _) | (with_reducible refine Below.setCell ?_ (by simp) _)))) (fail)
          all_goals (go_wp2_with fail; go_meet)
          · exact ⟨_, _, rfl, rfl, (two_blk2 wr _ _ _ _).1, (two_blk2 wr _ _ _ _).2.1, (two_blk2 wr _ _ _ _).2.2⟩
          · exact ⟨_, _, rfl, rfl, (two_blk2 wr _ _ _ _).2.1, (two_blk2 wr _ _ _ _).1, (two_blk2 wr _ _ _ _).2.2⟩
        case rest =>
          obtain ⟨X, Y, rfl, rfl, hX, hY, hbx⟩ := hcut
          have x0 : wc.cell? ⟨X, 0, none⟩ = some (.int .i64 q.off) := hX.cell 0
          have y0 : wc.cell? ⟨Y, 0, none⟩ = some (.int .i64 q2.off) := hY.cell 0
          have x1 : wc.cell? ⟨X, 1, none⟩ = some (.int .i64 q.len) := hX.cell 1
          have y1 : wc.cell? ⟨Y, 1, none⟩ = some (.int .i64 q2.len) := hY.cell 1
          have x2 : wc.cell? ⟨X, 2, none⟩ = some (.int .i64 q.chunk) := hX.cell 2
          have y2 : wc.cell? ⟨Y, 2, none⟩ = some (.int .i64 q2.chunk) := hY.cell 2
          have x3 : wc.cell? ⟨X, 3, none⟩ = some (.int .i64 q.at_) := hX.cell 3
          have y3 : wc.cell? ⟨Y, 3, none⟩ = some (.int .i64 q2.at_) := hY.cell 3
          have hb0x := hb0r.trans (hbx.mono hb0r.size)
          have hbrx := bn hbr hbx
          have hne : ps = ps2 → q = q2 := fun e => by
            subst e
            exact HQ.out.symm.trans HQ2.out
          have HNE := Lib.hid hne
          clear hX hY hbx hne hb0r hbr HCL
          go_wp2
          all_goals first
            | (have z : ¬q.off = q2.off := by with_reducible assumption
               go_ret
               refine SamePost.mk false rfl ⟨(fun h => by cases h), ?_⟩ hb0x
               rintro ⟨g1, g2, g3, g4, g5, g6, g7⟩
               exact (z (congrArg Part.off (HNE.out g7))).elim)
            | (have z : ¬q.len = q2.len := by with_reducible assumption
               go_ret
               refine SamePost.mk false rfl ⟨(fun h => by cases h), ?_⟩ hb0x
               rintro ⟨g1, g2, g3, g4, g5, g6, g7⟩
               exact (z (congrArg Part.len (HNE.out g7))).elim)
            | (have z : ¬q.chunk = q2.chunk := by with_reducible assumption
               go_ret
               refine SamePost.mk false rfl ⟨(fun h => by cases h), ?_⟩ hb0x
               rintro ⟨g1, g2, g3, g4, g5, g6, g7⟩
               exact (z (congrArg Part.chunk (HNE.out g7))).elim)
            | (have z : (q.at_ != q2.at_) = true := by with_reducible assumption
               go_ret
               refine SamePost.mk false rfl ⟨(fun h => by cases h), ?_⟩ hb0x
               rintro ⟨g1, g2, g3, g4, g5, g6, g7⟩
               rw [bne_iff_ne] at z
               exact (z (congrArg Part.at_ (HNE.out g7))).elim)
            | (have z : ¬q.at_ = q2.at_ := by with_reducible assumption
               go_ret
               refine SamePost.mk false rfl ⟨(fun h => by cases h), ?_⟩ hb0x
               rintro ⟨g1, g2, g3, g4, g5, g6, g7⟩
               exact (z (congrArg Part.at_ (HNE.out g7))).elim)
            | skip
          have z1 : q.off = q2.off := by with_reducible assumption
          have z2 : q.len = q2.len := by with_reducible assumption
          have z3 : q.chunk = q2.chunk := by with_reducible assumption
          have z4 : (q.at_ != q2.at_) = false := by with_reducible assumption
          have hqq : q = q2 := by
            obtain ⟨q_1, q_2, q_3, q_4⟩ := q
            obtain ⟨r_1, r_2, r_3, r_4⟩ := q2
            simp only at z1 z2 z3 z4
            simp at z4
            rw [z1, z2, z3, z4]
          have htk2 : ps.take (k + 1) = ps2.take (k + 1) := by
            rw [List.take_succ_eq_append_getElem hlt, List.take_succ_eq_append_getElem hlt2, HQ.out, HQ2.out, htk.out, hqq]
          go_roundw
          case rel => exact ⟨k + 1, by omega, by go_num, htk2, hbrx⟩
          case measure => simp [intOf]; try omega
      · obtain rfl : k = ps.length := by omega
        have ca : wr.cell? ⟨w.heap.size, 6, none⟩ = some (.slice A6 ps.length c6) := (hbr.cell (block_lt_of_cell ha6)).trans ha6
        have hps : ps = ps2 := by
          have := htk.out
          rw [List.take_length, ← H8.out, List.take_length] at this
          exact this
        have HPS := Lib.hid hps
        clear hps htk
        go_wp2
        go_ret
        exact SamePost.mk true rfl ⟨fun _ => ⟨rfl, rfl, rfl, rfl, rfl, rfl, HPS.out⟩, fun _ => rfl⟩ hb0r
end Go.Proofs.Ytlgkcpgbmobacaa
