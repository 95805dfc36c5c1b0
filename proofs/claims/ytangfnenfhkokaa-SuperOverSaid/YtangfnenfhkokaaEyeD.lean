/-
  Eye, once more: its bytes lie below block D ('EyeD').
-/
import Derived.Test.YtangfnenfhkokaaEyeText
import Derived.Test.YtangfnenfhkokaaFoot
set_option linter.unusedSimpArgs false
set_option linter.unusedVariables false
namespace Go.Proofs.Ytangfnenfhkokaa
open Go.RowKit

def EyeD (D : Nat) (w : World) (g : Nat) : Option (List UInt8) → Prop
  | some l => ∃ A c, Blk w g 134 #[.slice A l.length c, .bool false] ∧ l.length ≤ c ∧ RB w A l ∧ (0 < l.length → ∀ ad, A = some ad → ad.block < D)
  | none => Blk w g 134 #[.slice none 0 0, .bool true]
theorem EyeD.at_ {D : Nat} {w : World} {g : Nat} {st : Option (List UInt8)} (h : EyeD D w g st) : EyeAt w g st := by
  cases st with
  | none => exact h
  | some l => obtain ⟨A, c, h1, h2, h3, _⟩ := h; exact ⟨A, c, h1, h2, h3⟩
theorem EyeAt.eyeD {w : World} {g : Nat} {st : Option (List UInt8)} (h : EyeAt w g st) : EyeD w.heap.size w g st := by
  cases st with
  | none => exact h
  | some l =>
    obtain ⟨A, c, h1, h2, h3⟩ := h
    exact ⟨A, c, h1, h2, h3, fun hl ad e => Rd.lt h3 e (by intro e1; have := congrArg List.length e1; simp at this; subst this; simp at hl)⟩
theorem EyeD.mono {D D' : Nat} {w : World} {g : Nat} {st : Option (List UInt8)} (h : EyeD D w g st) (hD : D ≤ D') : EyeD D' w g st := by
  cases st with
  | none => exact h
  | some l => obtain ⟨A, c, h1, h2, h3, h4⟩ := h; exact ⟨A, c, h1, h2, h3, fun hl ad e => Nat.lt_of_lt_of_le (h4 hl ad e) hD⟩
/-- what is turned from block D on leaves the eye -/
theorem EyeD.kp {D : Nat} {F : Nat → Prop} {w w' : World} {g : Nat} {st : Option (List UInt8)} (h : EyeD D w g st) (hk : Kp F w w') (hF : ∀ k, F k → D ≤ k) (hg : ¬ F g) : EyeD D w' g st := by
  cases st with
  | none => exact Blk.kp h hk hg
  | some l =>
    obtain ⟨A, c, h1, h2, h3, h4⟩ := h
    refine ⟨A, c, h1.kp hk hg, h2, ?_, h4⟩
    by_cases hl : 0 < l.length
    · exact h3.kp hk fun ad e f => Nat.lt_irrefl _ (Nat.lt_of_lt_of_le (h4 hl ad e) (hF _ f))
    · have : l = [] := List.eq_nil_of_length_eq_zero (by omega)
      subst this
      exact RB.nil _ _

set_option maxRecDepth 100000 in
set_option maxHeartbeats 2000000 in
theorem eye_failD (D : Nat) (g : Nat) (st : Option (List UInt8)) (w : World) (h : EyeD D w g st) :
    Calls Try.prog 91 #[.pointer (some ⟨g, 0, none⟩)] w fun e w' => e = .returned (.tuple #[]) ∧ EyeD D w' g none ∧ Kept g w.heap.size w w' := by
  obtain ⟨A, n, c, b, hb⟩ : ∃ A n c b, Blk w g 134 #[.slice A n c, .bool b] := by
    cases st with
    | none => exact ⟨_, _, _, _, h⟩
    | some l => obtain ⟨A, c, h1, _, _, _⟩ := h; exact ⟨_, _, _, _, h1⟩
  have c0 : w.cell? ⟨g, 0, none⟩ = some (.slice A n c) := hb.cell 0
  have c1 : w.cell? ⟨g, 1, none⟩ = some (.bool b) := hb.cell 1
  have f0 := hb.frozen 0
  have f1 := hb.frozen 1
  clear h
  go_enter Try.func91, Try.ntmps91
  go_wp2
  go_end0
  exact ⟨rfl, (hb.set 0 _).set 1 _, ((Kept.refl g _ w).setCell 0 _).setCell 1 _⟩

set_option maxRecDepth 100000 in
set_option maxHeartbeats 2000000 in
theorem eye_takeD (D : Nat) (g : Nat) (st : Option (List UInt8)) (n : Nat) (hn : n ≤ 9223372036854775807) (w : World) (h : EyeD D w g st) (hg : g < w.heap.size) :
    Calls Try.prog 107 #[.pointer (some ⟨g, 0, none⟩), .int .i64 (n : Int)] w fun e w' => ∃ A c, e = .returned (.slice A (eTake n st).1.length c) ∧ (eTake n st).1.length ≤ c ∧ RB w' A (eTake n st).1 ∧ EyeD D w' g (eTake n st).2 ∧ Kept g w.heap.size w w' := by
  cases st with
  | none =>
    have c0 : w.cell? ⟨g, 0, none⟩ = some (.slice none 0 0) := Blk.cell h 0
    have c1 : w.cell? ⟨g, 1, none⟩ = some (.bool true) := Blk.cell h 1
    go_enter Try.func107, Try.ntmps107
    go_wp2_with fail
    refine (eye_failD D g none w h).mono ?_
    rintro e w1 ⟨rfl, h1, hk1⟩
    go_wp2
    go_ret
    exact ⟨_, _, rfl, Nat.le_refl _, RB.nil _ _, h1, hk1⟩
  | some l =>
    obtain ⟨A, c, hb, hlc, hr, hD⟩ := h
    have c0 : w.cell? ⟨g, 0, none⟩ = some (.slice A l.length c) := hb.cell 0
    have c1 : w.cell? ⟨g, 1, none⟩ = some (.bool false) := hb.cell 1
    by_cases hnl : (l.length : Int) < (n : Int)
    · have he : eTake n (some l) = ([], none) := by unfold eTake; simp only; rw [if_neg (by omega)]
      rw [he]
      clear he
      go_enter Try.func107, Try.ntmps107
      go_wp2_with fail
      refine (eye_failD D g (some l) w ⟨A, c, hb, hlc, hr, hD⟩).mono ?_
      rintro e w1 ⟨rfl, h1, hk1⟩
      go_wp2
      go_ret
      exact ⟨_, _, rfl, Nat.le_refl _, RB.nil _ _, h1, hk1⟩
    · have he : eTake n (some l) = (l.take n, some (l.drop n)) := by unfold eTake; simp only; rw [if_pos (by omega)]
      rw [he]
      have hto := cut_to (P := Try.prog) 42 5 Try.underlying42 size_u8 A l.length c (n : Int) (by omega) (by omega)
      rw [show (n : Int).toNat = n by omega] at hto
      obtain ⟨A3, hcut, hdr, hblk⟩ := cut_from (P := Try.prog) 42 5 Try.underlying42 size_u8 A l.length c (n : Int) (by omega) (by omega)
      rw [show (n : Int).toNat = n by omega] at hcut
      have hr3 := hdr w _ (by rw [List.length_map]; exact hlc) hr
      rw [show (n : Int).toNat = n by omega, ← List.map_drop] at hr3
      have hr1 := hr.take n
      have f0 := hb.frozen 0
      have hl1 : (l.take n).length = n := by rw [List.length_take]; omega
      have hl2 : l.length - n = (l.drop n).length := by rw [List.length_drop]
      simp only [hl1]
      have hc1 : n ≤ c := by omega
      have hc2 : (l.drop n).length ≤ c - n := by omega
      clear hdr he hl1 hl2
      go_enter Try.func107, Try.ntmps107
      go_wp2
      go_ret
      exact ⟨_, _, rfl, hc1, hr1.not_eye hb 0 _, ⟨A3, c - n, by rw [List.length_drop]; exact hb.set 0 _, hc2, RB.not_eye hr3 hb 0 _, fun hl ad e => by
          obtain ⟨ad', e', hb'⟩ := hblk ad e
          rw [hb']
          exact hD (by rw [List.length_drop] at hl; omega) ad' e'⟩, (Kept.refl g _ w).setCell 0 _⟩

set_option maxRecDepth 100000 in
set_option maxHeartbeats 2000000 in
theorem eye_byteD (D : Nat) (g : Nat) (st : Option (List UInt8)) (w : World) (h : EyeD D w g st) (hg : g < w.heap.size) :
    Calls Try.prog 90 #[.pointer (some ⟨g, 0, none⟩)] w fun e w' => e = .returned (.int .u8 ((eByte st).1.toNat : Int)) ∧ EyeD D w' g (eByte st).2 ∧ Kept g w.heap.size w w' := by
  have hcase : (∃ x l, st = some (x :: l)) ∨ (eTake 1 st = ([], none) ∧ eByte st = (0, none)) := by
    match st with
    | none => exact .inr ⟨rfl, rfl⟩
    | some [] => exact .inr ⟨rfl, rfl⟩
    | some (x :: l) => exact .inl ⟨x, l, rfl⟩
  rcases hcase with ⟨x, l, rfl⟩ | ⟨e1, e2⟩
  · have e1 : eTake 1 (some (x :: l)) = ([x], some l) := by simp [eTake]
    have HE := Lib.hid e1
    clear e1
    have e2 : eByte (some (x :: l)) = (x, some l) := rfl
    rw [e2]
    clear e2
    go_enter Try.func90, Try.ntmps90
    go_wp2_with fail
    refine (eye_takeD D g (some (x :: l)) 1 (by omega) w h hg).mono ?_
    rintro e w1 ⟨A, c, rfl, hc, hr, h1, hk1⟩
    rw [HE.out] at hc hr h1 ⊢
    obtain ⟨ad, rfl⟩ := hr.some_of (by simp)
    obtain ⟨bk, off, rfl, hcell⟩ := hr.lit_of (by simp)
    have x0 := hcell 0 (by simp)
    rw [Nat.add_zero] at x0
    simp only [List.getElem_cons_zero] at x0
    clear hcell hr
    go_wp2
    go_ret
    exact ⟨rfl, h1, hk1⟩
  · rw [e2]
    have HE := Lib.hid e1
    clear e1 e2
    go_enter Try.func90, Try.ntmps90
    go_wp2_with fail
    refine (eye_takeD D g st 1 (by omega) w h hg).mono ?_
    rintro e w1 ⟨A, c, rfl, hc, hr, h1, hk1⟩
    rw [HE.out] at hc hr h1 ⊢
    go_wp2
    go_ret
    exact ⟨rfl, h1, hk1⟩
set_option maxRecDepth 100000 in
set_option maxHeartbeats 2000000 in
theorem eye_numD (D : Nat) (g : Nat) (st : Option (List UInt8)) (w : World) (h : EyeD D w g st) (hg : g < w.heap.size) :
    Calls Try.prog 65 #[.pointer (some ⟨g, 0, none⟩)] w fun e w' => e = .returned (.int .i64 ((eNum st).1 : Int)) ∧ EyeD D w' g (eNum st).2 ∧ Kept g w.heap.size w w' := by
  have hres : ∃ r, eNum st = r := ⟨_, rfl⟩
  obtain ⟨r, hres⟩ := hres
  rw [hres]
  have HRES := Lib.hid hres
  clear hres
  go_enter Try.func65, Try.ntmps65
  go_wp2
  go_loopw [3, 6] (fun z i wr => ∃ (k q n : Nat) (st' : Option (List UInt8)), k + q = 9 ∧ i = .int .i64 (q : Int) ∧ z = .int .u64 (n : Int) ∧ EyeD D wr g st' ∧ Hid (eNumGo k q n st' = r) ∧ Hid (n < 2 ^ (7 * q)) ∧ Kept g w.heap.size w wr) (fun _ i _ => 9 - (intOf i).toNat)
  case atStart => exact ⟨9, 0, 0, st, rfl, rfl, rfl, h, HRES, (show 0 < 2 ^ (7 * 0) by decide), Kept.refl _ _ _⟩
  case round =>
    obtain ⟨k, q, n, st', hkq, rfl, rfl, he, hr, hn, hk⟩ := hrel
    have hgr : g < wr.heap.size := Nat.lt_of_lt_of_le hg hk.size
    clear h HRES
    cases k with
    | succ k =>
      match st', he, hr with
      | some (b :: l), he, hr =>
        have hb8 := b.toNat_lt
        have hb8 := b.toNat_lt
        have e1 : eByte (some (b :: l)) = (b, some l) := rfl
        have HE := Lib.hid e1
        clear e1
        have hq8 : q ≤ 8 := by omega
        have hor := or_bits n q b hq8 hn.out
        have hunf : eNumGo (k + 1) q n (some (b :: l)) = (if 128 ≤ b.toNat then eNumGo k (q + 1) (n + b.toNat % 128 * 2 ^ (7 * q)) (some l)
          else if 4611686018427387904 < n + b.toNat % 128 * 2 ^ (7 * q) ∨ (b.toNat = 0 ∧ 0 < q) then (0, none)
          else (n + b.toNat % 128 * 2 ^ (7 * q), some l)) := rfl
        have hnext : n + b.toNat % 128 * 2 ^ (7 * q) < 2 ^ (7 * (q + 1)) := by
          have h1 := hn.out
          have hx : b.toNat % 128 < 128 := Nat.mod_lt _ (by omega)
          rw [show 7 * (q + 1) = 7 * q + 7 by omega, Nat.pow_add]
          generalize 2 ^ (7 * q) = P at *
          have : b.toNat % 128 * P ≤ 127 * P := Nat.mul_le_mul_right _ (by omega)
          omega
        rw [hr.out] at hunf
        by_cases hb128 : (128 : Int) ≤ (b.toNat : Int)
        · rw [if_pos (by omega)] at hunf
          generalize n + b.toNat % 128 * 2 ^ (7 * q) = m at *
          have HU := Lib.hid hunf
          have HN := Lib.hid hnext
          clear hunf hnext
          go_wp2_with fail
          refine (eye_byteD D g _ wr he hgr).mono ?_
          rintro e w1 ⟨rfl, h1, hk1⟩
          rw [HE.out] at h1 ⊢
          go_wp2_with fail
          refine (eye_bad g _ w1 h1.at_).mono ?_
          rintro e w2 ⟨rfl, rfl⟩
          go_wp2
          go_roundw
          case measure => simp [intOf]; try omega
          case rel => exact ⟨k, q + 1, m, some l, by omega, by go_num, rfl, h1, HU.out.symm, HN.out, hk.trans (hk1.mono hk.size)⟩
        · rw [if_neg (by omega)] at hunf
          by_cases hfull : 4611686018427387904 < n + b.toNat % 128 * 2 ^ (7 * q) ∨ (b.toNat = 0 ∧ 0 < q)
          · rw [if_pos hfull] at hunf
            subst hunf
            by_cases hbz : b = 0
            · subst hbz
              have hz : n + (0 : UInt8).toNat % 128 * 2 ^ (7 * q) = n := by simp
              rw [hz] at hor hfull hnext
              have hfull2 : (4611686018427387904 : Int) < (n : Int) ∨ (0 : Int) < (q : Int) := by
                rcases hfull with h | h
                · left; omega
                · right; omega
              rw [show (((0 : UInt8).toNat : Nat) : Int) = 0 from rfl] at hor
              clear hfull hz hnext hr
              by_cases hq0 : (0 : Int) < (q : Int)
              · by_cases hn2 : (4611686018427387904 : Int) < (n : Int)
                all_goals
                  go_wp2_with fail
                  refine (eye_byteD D g _ wr he hgr).mono ?_
                  rintro e w1 ⟨rfl, h1, hk1⟩
                  rw [HE.out] at h1 ⊢
                  rw [show (((0 : UInt8).toNat : Nat) : Int) = 0 from rfl]
                  go_wp2_with fail
                  refine (eye_bad g _ w1 h1.at_).mono ?_
                  rintro e w2 ⟨rfl, rfl⟩
                  go_wp2_with fail
                  refine (eye_failD D g _ w1 h1).mono ?_
                  rintro e w2 ⟨rfl, h2, hk2⟩
                  go_wp2
                  go_ret
                  exact ⟨rfl, h2, (hk.trans (hk1.mono hk.size)).trans (hk2.mono (Nat.le_trans hk.size hk1.size))⟩
              · have hn2 : (4611686018427387904 : Int) < (n : Int) := by omega
                go_wp2_with fail
                refine (eye_byteD D g _ wr he hgr).mono ?_
                rintro e w1 ⟨rfl, h1, hk1⟩
                rw [HE.out] at h1 ⊢
                rw [show (((0 : UInt8).toNat : Nat) : Int) = 0 from rfl]
                go_wp2_with fail
                refine (eye_bad g _ w1 h1.at_).mono ?_
                rintro e w2 ⟨rfl, rfl⟩
                go_wp2_with fail
                refine (eye_failD D g _ w1 h1).mono ?_
                rintro e w2 ⟨rfl, h2, hk2⟩
                go_wp2
                go_ret
                exact ⟨rfl, h2, (hk.trans (hk1.mono hk.size)).trans (hk2.mono (Nat.le_trans hk.size hk1.size))⟩
            · have hbz2 : ((b.toNat : Int) == 0) = false := beq_eq_false_iff_ne.2 (fun h => hbz (UInt8.toNat_inj.1 (by simp; omega)))
              have hfull2 : (4611686018427387904 : Int) < ((n + b.toNat % 128 * 2 ^ (7 * q) : Nat) : Int) := by
                rcases hfull with h | h
                · omega
                · exact absurd (UInt8.toNat_inj.1 (by simp; omega)) hbz
              clear hfull hnext hr hbz
              generalize n + b.toNat % 128 * 2 ^ (7 * q) = m at *
              go_wp2_with fail
              refine (eye_byteD D g _ wr he hgr).mono ?_
              rintro e w1 ⟨rfl, h1, hk1⟩
              rw [HE.out] at h1 ⊢
              go_wp2_with fail
              refine (eye_bad g _ w1 h1.at_).mono ?_
              rintro e w2 ⟨rfl, rfl⟩
              go_wp2_with fail
              refine (eye_failD D g _ w1 h1).mono ?_
              rintro e w2 ⟨rfl, h2, hk2⟩
              go_wp2
              go_ret
              exact ⟨rfl, h2, (hk.trans (hk1.mono hk.size)).trans (hk2.mono (Nat.le_trans hk.size hk1.size))⟩
          · rw [if_neg hfull] at hunf
            by_cases hbz : b = 0
            · subst hbz
              have hz : n + (0 : UInt8).toNat % 128 * 2 ^ (7 * q) = n := by simp
              rw [hz] at hor hfull hnext hunf
              subst hunf
              have hq0 : ¬ (0 : Int) < (q : Int) := fun h => hfull (.inr ⟨rfl, by omega⟩)
              have hn2 : ¬ (4611686018427387904 : Int) < (n : Int) := fun h => hfull (.inl (by omega))
              rw [show (((0 : UInt8).toNat : Nat) : Int) = 0 from rfl] at hor
              clear hfull hz hnext hr
              go_wp2_with fail
              refine (eye_byteD D g _ wr he hgr).mono ?_
              rintro e w1 ⟨rfl, h1, hk1⟩
              rw [HE.out] at h1 ⊢
              rw [show (((0 : UInt8).toNat : Nat) : Int) = 0 from rfl]
              go_wp2_with fail
              refine (eye_bad g _ w1 h1.at_).mono ?_
              rintro e w2 ⟨rfl, rfl⟩
              go_wp2
              go_ret
              exact ⟨rfl, h1, hk.trans (hk1.mono hk.size)⟩
            · have hbz2 : ((b.toNat : Int) == 0) = false := beq_eq_false_iff_ne.2 (fun h => hbz (UInt8.toNat_inj.1 (by simp; omega)))
              have hn2 : ¬ (4611686018427387904 : Int) < ((n + b.toNat % 128 * 2 ^ (7 * q) : Nat) : Int) := fun h => hfull (.inl (by omega))
              clear hfull hnext hr hbz
              generalize n + b.toNat % 128 * 2 ^ (7 * q) = m at *
              subst hunf
              go_wp2_with fail
              refine (eye_byteD D g _ wr he hgr).mono ?_
              rintro e w1 ⟨rfl, h1, hk1⟩
              rw [HE.out] at h1 ⊢
              go_wp2_with fail
              refine (eye_bad g _ w1 h1.at_).mono ?_
              rintro e w2 ⟨rfl, rfl⟩
              go_wp2
              go_ret
              exact ⟨rfl, h1, hk.trans (hk1.mono hk.size)⟩
      | some [], he, hr =>
        have hr2 : r = (0, none) := hr.out.symm
        subst hr2
        go_wp2_with fail
        refine (eye_byteD D g _ wr he hgr).mono ?_
        rintro e w1 ⟨rfl, h1, hk1⟩
        go_wp2_with fail
        refine (eye_bad g _ w1 h1.at_).mono ?_
        rintro e w2 ⟨rfl, rfl⟩
        go_wp2
        go_ret
        exact ⟨rfl, h1, hk.trans (hk1.mono hk.size)⟩
      | none, he, hr =>
        have hr2 : r = (0, none) := hr.out.symm
        subst hr2
        go_wp2_with fail
        refine (eye_byteD D g _ wr he hgr).mono ?_
        rintro e w1 ⟨rfl, h1, hk1⟩
        go_wp2_with fail
        refine (eye_bad g _ w1 h1.at_).mono ?_
        rintro e w2 ⟨rfl, rfl⟩
        go_wp2
        go_ret
        exact ⟨rfl, h1, hk.trans (hk1.mono hk.size)⟩
    | zero =>
      have hr2 : r = (0, none) := by have := hr.out; unfold eNumGo at this; exact this.symm
      subst hr2
      obtain rfl : q = 9 := by omega
      go_wp2_with fail
      refine (eye_failD D g _ wr he).mono ?_
      rintro e w2 ⟨rfl, h2, hk2⟩
      go_wp2
      go_ret
      exact ⟨rfl, h2, hk.trans (hk2.mono hk.size)⟩
end Go.Proofs.Ytangfnenfhkokaa
