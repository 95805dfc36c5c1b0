/-
  event.Write of a Write.
-/
import Derived.Test.YtlgkcpgbmobacaaEvWrite
import Derived.Test.YtlgkcpgbmobacaaFoot
set_option linter.unusedSimpArgs false
set_option linter.unusedVariables false
namespace Go.Proofs.Ytlgkcpgbmobacaa
open Go.RowKit

set_option maxRecDepth 100000 in
set_option maxHeartbeats 4000000 in
theorem event_write3 (path to_ : List UInt8) (off size : Int) (data : Nat) (ps : List Part) (A5 : Option Addr) (c5 : Nat) (A6 : Option Addr) (c6 : Nat) (g : Nat) (R : Nat → Prop) (l : List UInt8) (w : World) (hr : Rd w A6 (pcs ps)) (hl : ps.length ≤ 4611686018427387904)
    (hm : may ⟨3, path, to_, off, size, data, ps⟩ = true) (hp : PenR w g R l) (hR : ∀ k, R k → k < w.heap.size) (hA : ∀ ad, A6 = some ad → ¬ (ad.block = g ∨ R ad.block)) (hll : l.length + 30 * ps.length < 140737488300000) :
    Calls Try.prog 41 #[.pointer (some ⟨g, 0, none⟩), iv ⟨3, path, to_, off, size, data, ps⟩ A5 c5 A6 c6] w fun e w' => e = .returned (.tuple #[]) ∧ PenTo w g R (l ++ enc ⟨3, path, to_, off, size, data, ps⟩) w' := by
  have hp5 := fun (W : World) (hb : Below w.heap.size w W) => event_may ⟨3, path, to_, off, size, data, ps⟩ A5 c5 A6 c6 W (hr.below hb) hl
  rw [hm] at hp5
  simp only [iv_eq] at hp5 ⊢
  obtain ⟨⟨a1, a2, a3, a4, a5, a6, a7, a8⟩, ⟨b1, b2⟩, ⟨c1, c2⟩, d, e⟩ := (may_iff _).1 hm
  simp only at a1 a2 a3 a4 a5 a6 a7 a8 b1 b2 c1 c2 d
  have henc : enc ⟨3, path, to_, off, size, data, ps⟩ = [3] ++ (num path.length ++ path) ++ num off.toNat ++ num ps.length ++ encParts ps := by
    have : to_ = [] := by
      rcases a6 with h | h
      · omega
      · exact h
    subst this
    simp [enc]
  have HENC := Lib.hid henc
  have hn1 := num_10 path.length (by omega)
  have hn2 := num_10 to_.length (by omega)
  have hn3 := num_10 size.toNat (by omega)
  have hn4 := num_10 off.toNat (by omega)
  have HP := Lib.hid hp5
  have hglt := hp.lt
  have hF : ¬ (w.heap.size = g ∨ R w.heap.size) := by
    rintro (h | h)
    · omega
    · exact Nat.lt_irrefl _ (hR _ h)
  clear hp5 hm henc a5 e
  go_enter Try.func41, Try.ntmps41
  go_wp2_with fail
  refine (HP.out _ ?_).mono ?_
  · exact bal (Below.refl _ _) _
  rintro e w2 ⟨rfl, hb2⟩
  have hb02 := bn (bal (Below.refl w.heap.size w) _) hb2
  have hBx := (Blk.new w 68 #[.int .i64 3, .string ⟨path.toArray⟩, .string ⟨to_.toArray⟩, .int .i64 off, .int .i64 size, .slice A5 data c5, .slice A6 ps.length c6]).below hb2
  have hp2 := PenTo.refl (hp.keep hb02)
  have hr2 := hr.below hb02
  clear hb2 HP hp hr
  have x0 : w2.cell? ⟨w.heap.size, 0, none⟩ = some (.int .i64 3) := hBx.cell 0
  go_wp2_with fail
  refine (event_has 3 _).mono ?_
  rintro e _ ⟨rfl, rfl⟩
  go_wp2_with fail
  refine (pen_byteR g _ _ 3 _ rfl w2 hp2.pen (by omega)).mono ?_
  rintro e w3 ⟨rfl, h3⟩
  have hp3 := hp2.step h3
  have hB3 := hBx.kp hp3.kp hF
  have y3_1 : w3.cell? ⟨w.heap.size, 1, none⟩ = some (.string ⟨path.toArray⟩) := hB3.cell 1
  have y3_0 : w3.cell? ⟨w.heap.size, 0, none⟩ = some (.int .i64 3) := hB3.cell 0
  go_wp2_with fail
  refine (pen_textR g _ _ path w3 hp3.pen (by simp only [List.length_append, List.length_singleton]; omega)).mono ?_
  rintro e w4 ⟨rfl, h4⟩
  have hp4 := hp3.step h4
  have hB4 := hBx.kp hp4.kp hF
  have y4_3 : w4.cell? ⟨w.heap.size, 3, none⟩ = some (.int .i64 off) := hB4.cell 3
  go_wp2_with fail
  refine (pen_numR g _ _ off (by omega) (by omega) w4 hp4.pen (by simp only [List.length_append, List.length_singleton]; omega)).mono ?_
  rintro e w5 ⟨rfl, h5⟩
  have hp5 := hp4.step h5
  have hB5 := hBx.kp hp5.kp hF
  have y5_6 : w5.cell? ⟨w.heap.size, 6, none⟩ = some (.slice A6 ps.length c6) := hB5.cell 6
  go_wp2_with fail
  refine (pen_numR g _ _ (ps.length : Int) (by omega) (by omega) w5 hp5.pen (by simp only [List.length_append, List.length_singleton]; omega)).mono ?_
  rintro e w6 ⟨rfl, h6⟩
  rw [Int.toNat_natCast] at h6
  have hp6 := hp5.step h6
  have hB6 := hBx.kp hp6.kp hF
  have y6_6 : w6.cell? ⟨w.heap.size, 6, none⟩ = some (.slice A6 ps.length c6) := hB6.cell 6
  have hn5 := num_10 ps.length (by omega)
  have hlen6 : (l ++ [3] ++ (num path.length ++ path) ++ num off.toNat ++ num ps.length).length ≤ l.length + 100 := by simp only [List.length_append, List.length_singleton]; omega
  have hfin : l ++ enc ⟨3, path, to_, off, size, data, ps⟩ = l ++ [3] ++ (num path.length ++ path) ++ num off.toNat ++ num ps.length ++ encParts ps := by rw [HENC.out]; simp only [List.append_assoc]
  have HFIN := Lib.hid hfin
  have D := Lib.hid d
  clear HENC hfin hn1 hn2 hn3 hn4 hn5 d
  generalize l ++ [3] ++ (num path.length ++ path) ++ num off.toNat ++ num ps.length = L at *
  go_wp2
  go_loopw [58] (fun i wr => ∃ k : Nat, k ≤ ps.length ∧ i = .int .i64 (k : Int) ∧ PenTo w2 g R (L ++ encParts (ps.take k)) wr) (fun i _ => ps.length - (intOf i).toNat)
  case atStart => exact ⟨0, Nat.zero_le _, rfl, by simpa [encParts] using hp6⟩
  case round =>
    obtain ⟨k, hk, rfl, hpr⟩ := hrel
    by_cases hlt : k < ps.length
    · obtain ⟨b, o6, rfl, z0, z1, z2, z3⟩ := parts_at (hr2.kp hpr.kp hA) k hlt
      have i0 : (0 : Int) ≤ (k : Int) := by omega
      have i1 : (k : Int) < (ps.length : Int) := by omega
      have hd := D.out ps[k] (List.getElem_mem hlt)
      have hstep : encParts (ps.take (k + 1)) = encParts (ps.take k) ++ (num ps[k].len.toNat ++ num ps[k].chunk.toNat ++ num ps[k].at_.toNat) := by
        unfold encParts
        rw [List.take_succ_eq_append_getElem hlt, List.map_append, List.flatten_append]
        simp [encPart]
      have hlk := encParts_length (ps.take k) (fun p hp => D.out p (List.mem_of_mem_take hp))
      rw [List.length_take] at hlk
      obtain ⟨⟨qo, ql, qc, qa⟩, hq⟩ : ∃ q, ps[k] = q := ⟨_, rfl⟩
      rw [hq] at z0 z1 z2 z3 hd hstep
      simp only at z0 z1 z2 z3 hd hstep
      obtain ⟨d0, d1, d2, d3, d4, d5, d6⟩ := hd
      have HST := Lib.hid hstep
      have m1 := num_10 ql.toNat (by omega)
      have m2 := num_10 qc.toNat (by omega)
      have m3 := num_10 qa.toNat (by omega)
      have hll2 : (L ++ encParts (ps.take k)).length ≤ l.length + 100 + 30 * ps.length := by rw [List.length_append]; omega
      generalize encParts (ps.take k) = E at *
      clear hq hstep D HFIN hlk y6_6 x0 hp2 hp6 hB6 d0
      have hba := bal (Below.refl wr.heap.size wr) (.cells #[.int .i64 qo, .int .i64 ql, .int .i64 qc, .int .i64 qa] 95)
      have hQ := Blk.new wr 95 #[.int .i64 qo, .int .i64 ql, .int .i64 qc, .int .i64 qa]
      have p1 := PenTo.refl (hpr.pen.keep hba)
      have hzr := hpr.kp.size
      have hzw := hb02.size
      have hF1 : ¬ (wr.heap.size = g ∨ (R wr.heap.size ∨ (w2.heap.size ≤ wr.heap.size ∧ wr.heap.size < wr.heap.size))) := by
        rintro (h | h | h)
        · omega
        · have := hR _ h; omega
        · omega
      clear hF
      go_wp2_with fail
      refine (pen_numR g _ _ ql (by omega) (by omega) _ p1.pen (by omega)).mono ?_
      rintro e w7 ⟨rfl, k7⟩
      have p7 := p1.step k7
      have B7 := hQ.kp p7.kp hF1
      have v2 : w7.cell? ⟨wr.heap.size, 2, none⟩ = some (.int .i64 qc) := B7.cell 2
      go_wp2_with fail
      refine (pen_numR g _ _ qc (by omega) (by omega) _ p7.pen (by rw [List.length_append]; omega)).mono ?_
      rintro e w8 ⟨rfl, k8⟩
      have p8 := p7.step k8
      have B8 := hQ.kp p8.kp hF1
      have v3 : w8.cell? ⟨wr.heap.size, 3, none⟩ = some (.int .i64 qa) := B8.cell 3
      go_wp2_with fail
      refine (pen_numR g _ _ qa (by omega) (by omega) _ p8.pen (by rw [List.length_append, List.length_append]; omega)).mono ?_
      rintro e w9 ⟨rfl, k9⟩
      have p9 := p8.step k9
      have hfin : L ++ E ++ num ql.toNat ++ num qc.toNat ++ num qa.toNat = L ++ encParts (ps.take (k + 1)) := by rw [HST.out]; simp only [List.append_assoc]
      rw [hfin] at p9
      have pfin := hpr.step (p9.ahead hba)
      clear hfin p9 p8 p7 p1 k7 k8 k9 B7 B8 hQ
      go_wp2
      go_roundw
      case rel => exact ⟨k + 1, by omega, by go_num, pfin⟩
      case measure => simp [intOf]; try omega
    · obtain rfl : k = ps.length := by omega
      rw [List.take_length, ← HFIN.out] at hpr
      go_wp2
      go_end0
      exact ⟨rfl, hpr.ahead hb02⟩
end Go.Proofs.Ytlgkcpgbmobacaa
