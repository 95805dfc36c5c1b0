/-
  The reference's eye: Text, Float.
-/
import Derived.Test.YtlgkcpgbmobacaaREye
set_option linter.unusedSimpArgs false
set_option linter.unusedVariables false
namespace Go.Proofs.Ytlgkcpgbmobacaa
open Go.RowKit

set_option maxRecDepth 100000 in
set_option maxHeartbeats 4000000 in
theorem ref_eye_text (g : Nat) (st : Option (List UInt8)) (w : World) (h : REyeAt w g st) :
    Calls Try.prog 28 #[.pointer (some ⟨g, 0, none⟩)] w fun e w' => e = .returned (.string ⟨(eText st).1.toArray⟩) ∧ REyeAt w' g (eText st).2 ∧ Kept g w.heap.size w w' := by
  unfold eText
  have hle := eNumGo_le 9 0 0 st
  rw [show eNumGo 9 0 0 st = eNum st from rfl] at hle
  obtain ⟨n, hn⟩ : ∃ n, (eNum st).1 = n := ⟨_, rfl⟩
  obtain ⟨st1, hst1⟩ : ∃ n, (eNum st).2 = n := ⟨_, rfl⟩
  rw [hn] at hle
  rw [hn, hst1]
  have HN := Lib.hid hn
  have HST := Lib.hid hst1
  clear hn hst1
  go_enter Try.func28, Try.ntmps28
  go_wp2_with fail
  refine (ref_eye_num g st w h).mono ?_
  rintro e w1 ⟨rfl, h1, hk1⟩
  rw [HN.out]
  rw [HST.out] at h1
  obtain ⟨A, m, c, hb, hst⟩ := h1
  have f0 := hb.frozen 0
  have f1 := hb.frozen 1
  have c0 : w1.cell? ⟨g, 0, none⟩ = some (.slice A m c) := hb.cell 0
  cases st1 with
  | none =>
    have c1 : w1.cell? ⟨g, 1, none⟩ = some (.bool true) := hb.cell 1
    clear hst
    go_wp2
    go_ret
    exact ⟨rfl, ⟨A, m, c, hb.set 1 _, by simp [eTake]⟩, hk1.setCell 1 _⟩
  | some l =>
    have c1 : w1.cell? ⟨g, 1, none⟩ = some (.bool false) := hb.cell 1
    obtain ⟨h1, h2, h3⟩ := hst _ rfl
    subst h1
    clear hst
    by_cases hnl : (l.length : Int) < (n : Int)
    · have he : eTake n (some l) = ([], none) := by unfold eTake; simp only; rw [if_neg (by omega)]
      have HE := Lib.hid he
      clear he
      go_wp2
      go_ret
      rw [HE.out]
      exact ⟨rfl, ⟨A, l.length, c, hb.set 1 _, by simp⟩, hk1.setCell 1 _⟩
    · have he : eTake n (some l) = (l.take n, some (l.drop n)) := by unfold eTake; simp only; rw [if_pos (by omega)]
      have HE := Lib.hid he
      have hto := cut_to (P := Try.prog) 24 5 Try.underlying24 size_u8 A l.length c (n : Int) (by omega) (by omega)
      rw [show (n : Int).toNat = n by omega] at hto
      obtain ⟨A3, hcut, hdr, _⟩ := cut_from (P := Try.prog) 24 5 Try.underlying24 size_u8 A l.length c (n : Int) (by omega) (by omega)
      rw [show (n : Int).toNat = n by omega] at hcut
      have hr3 := hdr w1 _ (by rw [List.length_map]; exact h2) h3
      rw [show (n : Int).toNat = n by omega, ← List.map_drop] at hr3
      have hl1 : (l.take n).length = n := by rw [List.length_take]; omega
      have hv := run_str_try w1 A c n _ hl1 (h3.take n)
      have hR := RB.not_eye hr3 hb 0 (.slice A3 (l.length - n) (c - n))
      clear hdr he hl1 hr3
      go_wp2
      go_ret
      rw [HE.out]
      exact ⟨rfl, ⟨A3, l.length - n, c - n, hb.set 0 _, fun l' e => by cases e; exact ⟨by rw [List.length_drop], by omega, hR⟩⟩, hk1.setCell 0 _⟩

set_option maxRecDepth 100000 in
set_option maxHeartbeats 4000000 in
theorem ref_eye_float (g : Nat) (st : Option (List UInt8)) (w : World) (h : REyeAt w g st) :
    Calls Try.prog 27 #[.pointer (some ⟨g, 0, none⟩)] w fun e w' => e = .returned (.float .f64 (eFloat st).1) ∧ REyeAt w' g (eFloat st).2 ∧ Kept g w.heap.size w w' := by
  have hfb := frombits_run
  unfold eFloat
  obtain ⟨A, m, c, hb, hst⟩ := h
  have f0 := hb.frozen 0
  have f1 := hb.frozen 1
  have c0 : w.cell? ⟨g, 0, none⟩ = some (.slice A m c) := hb.cell 0
  cases st with
  | none =>
    have c1 : w.cell? ⟨g, 1, none⟩ = some (.bool true) := hb.cell 1
    clear hst
    go_enter Try.func27, Try.ntmps27
    go_wp2
    go_ret
    exact ⟨rfl, ⟨A, m, c, hb.set 1 _, by simp [eTake]⟩, (Kept.refl g _ w).setCell 1 _⟩
  | some l =>
    have c1 : w.cell? ⟨g, 1, none⟩ = some (.bool false) := hb.cell 1
    obtain ⟨h1, h2, h3⟩ := hst _ rfl
    subst h1
    clear hst
    by_cases hnl : (l.length : Int) < 8
    · have he : eTake 8 (some l) = ([], none) := by unfold eTake; simp only; rw [if_neg (by omega)]
      have HE := Lib.hid he
      clear he
      go_enter Try.func27, Try.ntmps27
      go_wp2
      go_ret
      rw [HE.out]
      exact ⟨rfl, ⟨A, l.length, c, hb.set 1 _, by simp⟩, (Kept.refl g _ w).setCell 1 _⟩
    · go_enter Try.func27, Try.ntmps27
      go_wp2
      have hT : ∃ T : List UInt8, T = l.take 8 ∧ T.length = 8 := ⟨_, rfl, by rw [List.length_take]; omega⟩
      obtain ⟨T, hT1, hT2⟩ := hT
      have HT := Lib.hid hT1
      have HT2 := Lib.hid hT2
      clear hT1 hT2
      go_loop [3, 4] (fun z i => ∃ (j : Int) (k n : Nat), i = .int .i64 j ∧ z = .int .u64 (n : Int) ∧ Hid (j = (k : Int) - 1) ∧ k ≤ 8 ∧ Hid (n = unlow (T.drop k))) (fun _ i => (intOf i + 1).toNat)
      case atStart => exact ⟨7, 8, 0, rfl, rfl, rfl, by omega, by rw [List.drop_of_length_le (by rw [HT2.out]; exact Nat.le_refl _)]; rfl⟩
      case round =>
        obtain ⟨j, k, n, rfl, rfl, hj, hk8, hn⟩ := hrel
        cases k with
        | succ k =>
          obtain rfl : j = (k : Int) := by rw [hj.out]; omega
          have hnlt : n < 72057594037927936 := by
            rw [hn.out]
            have h1 := unlow_lt (T.drop (k + 1))
            rw [List.length_drop, HT2.out] at h1
            exact Nat.lt_of_lt_of_le h1 (Nat.le_trans (Nat.pow_le_pow_right (by omega) (show 8 - (k + 1) ≤ 7 by omega)) (by decide))
          obtain ⟨ad, rfl⟩ := h3.some_of (by omega)
          obtain ⟨bk, off, rfl, hcell⟩ := h3.lit_of (by omega)
          have hkl : k < l.length := by omega
          have x0 := hcell k hkl
          have hb8 := (l[k]).toNat_lt
          have hnew : l[k].toNat + 256 * n = unlow (T.drop k) := by
            rw [hn.out]
            have e1 : T.drop k = l[k] :: T.drop (k + 1) := by
              have hkT : k < T.length := by rw [HT2.out]; omega
              rw [List.drop_eq_getElem_cons hkT]
              congr 1
              have : T[k]? = l[k]? := by rw [HT.out, List.getElem?_take, if_pos (by omega)]
              rw [List.getElem?_eq_getElem hkT, List.getElem?_eq_getElem hkl] at this
              exact Option.some.inj this
            rw [e1]
            rfl
          generalize l[k].toNat = x at *
          have HN := Lib.hid hnew
          have i0 : (0 : Int) ≤ (k : Int) := by omega
          have i1 : (k : Int) < (l.length : Int) := by omega
          clear hnew hcell
          go_wp2
          go_round
          case rel => exact ⟨(k : Int) - 1, k, x + 256 * n, by go_num, by go_num, rfl, by omega, HN.out⟩
          case measure => simp [intOf]; try omega
        | zero =>
          obtain rfl : j = -1 := by rw [hj.out]; rfl
          have hfin : n = unlow (eTake 8 (some l)).1 ∧ (eTake 8 (some l)).2 = some (l.drop 8) := by
            have he : eTake 8 (some l) = (l.take 8, some (l.drop 8)) := by unfold eTake; simp only; rw [if_pos (by omega)]
            rw [he]
            exact ⟨by rw [hn.out, HT.out]; rfl, rfl⟩
          have HF := Lib.hid hfin
          obtain ⟨A3, hcut, hdr, _⟩ := cut_from (P := Try.prog) 24 5 Try.underlying24 size_u8 A l.length c 8 (by omega) (by omega)
          have hr3 := hdr w _ (by rw [List.length_map]; exact h2) h3
          rw [show (8 : Int).toNat = 8 from rfl] at hcut hr3
          rw [← List.map_drop] at hr3
          have hR := RB.not_eye hr3 hb 0 (.slice A3 (l.length - 8) (c - 8))
          have hfb := frombits_run (n : Int)
          clear hfin hdr hr3 hn hj
          go_wp2
          go_ret
          rw [HF.out.2, ← HF.out.1]
          exact ⟨rfl, ⟨A3, l.length - 8, c - 8, hb.set 0 _, fun l' e => by cases e; exact ⟨by rw [List.length_drop], by omega, hR⟩⟩, (Kept.refl g _ w).setCell 0 _⟩
end Go.Proofs.Ytlgkcpgbmobacaa
