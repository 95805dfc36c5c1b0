/-
  What EventTurns calls and gives.
-/
import Derived.Test.YtlgkcpgbmobacaaLawERows
import Derived.Test.YtlgkcpgbmobacaaRefBytes
set_option linter.unusedSimpArgs false
set_option linter.unusedVariables false
namespace Go.Proofs.Ytlgkcpgbmobacaa
open Go.RowKit

set_option maxRecDepth 100000 in
set_option maxHeartbeats 8000000 in
theorem eturns_walk (i : Item) (A5 : Option Addr) (c5 : Nat) (A6 : Option Addr) (c6 : Nat) (A : Option Addr) (m c : Nat) (l : List UInt8) (hm : l.length = m) (w : World) (q1 : i.path.length ≤ 9223372036854775807) (q2 : i.to_.length ≤ 9223372036854775807) (q3 : i.parts.length ≤ 9223372036854775807) (q4 : i.data ≤ 9223372036854775807)
    (q5 : Rd w A6 (pcs i.parts)) (hr : RB w A l) (hmm : m ≤ 9223372036854775807) :
    Calls Try.prog 8 #[iv i A5 c5 A6 c6, .slice A m c] w fun e w' => e = .returned (.bool true) ∧ Below w.heap.size w w' := by
  have HS := Lib.hid fun W => law14_small i A5 c5 A6 c6 W q1 q2 q3 q4
  have HM : Hid (decide (i.path.length ≤ 500 ∧ i.to_.length ≤ 500 ∧ i.parts.length ≤ 100 ∧ i.data ≤ 500) = true → i.parts.length ≤ 100) := fun h => (of_decide_eq_true h).2.2.1
  generalize decide (i.path.length ≤ 500 ∧ i.to_.length ≤ 500 ∧ i.parts.length ≤ 100 ∧ i.data ≤ 500) = sa at HS HM
  have HN := Lib.hid fun W (h : i.parts.length ≤ 100) (hb : Below w.heap.size w W) => law14_made i A5 c5 A6 c6 W (by omega) (q5.below hb)
  have HI := Lib.hid fun W (h : i.parts.length ≤ 100) (hb : Below w.heap.size w W) => ref_item_may i A5 c5 A6 c6 W (q5.below hb) (by omega) q2 q1 q4
  have HRB := Lib.hid fun W (h : i.parts.length ≤ 100) (hm : may i = true) (hb : Below w.heap.size w W) => ref_item_bytes i A5 c5 A6 c6 W hm (q5.below hb) (by omega)
  have HEM := Lib.hid fun (A : Option Addr) (c : Nat) W (h : i.parts.length ≤ 100) (hr : Rd W A (pcs i.parts)) => event_may i A5 c5 A c W hr (by omega)
  have HEB := Lib.hid fun (A : Option Addr) (c : Nat) W (h : i.parts.length ≤ 100) (hr : Rd W A (pcs i.parts)) hA => event_bytes_any i A5 c5 A c W hr hA (by omega)
  have HW0 := Lib.hid fun (A : Option Addr) (c : Nat) (p : Option Addr) (W : World) (hm : may i = false) (h : i.parts.length ≤ 100) (hr : Rd W A (pcs i.parts)) => event_write_no i A5 c5 A c p W hr (by omega) hm
  have HW1 := Lib.hid fun (A : Option Addr) (c : Nat) (g : Nat) (R : Nat → Prop) (W : World) (hm : may i = true) (h : i.parts.length ≤ 100) (hr : Rd W A (pcs i.parts)) hp hR hA => event_write i A5 c5 A c g R [] W hr (by omega) hm hp hR hA (by simp; omega)
  have HQ := Lib.hid fun (it : Item) (B5 : Option Addr) (d5 : Nat) (B6 : Option Addr) (d6 : Nat) W (h : i.parts.length ≤ 100) (h2 : it = i) (h3 : i.data = 0) (hr : Rd W B6 (pcs it.parts)) (hb : Below w.heap.size w W) => law14_same it i B5 d5 B6 d6 A5 c5 A6 c6 W (by rw [h2]; omega) (by omega) (by rw [h2]; omega) hr (q5.below hb)
  have HD : Hid (may i = true → i.data = 0) := fun h => ((may_iff _).1 h).1.2.2.2.2.1
  have HEL : Hid (may i = true → i.parts.length ≤ 100 → (enc i).length ≤ 3200) := fun h h2 => by have := enc_length i h (by omega); omega
  have HDE : Hid (may i = true → i.parts.length ≤ 100 → ∀ l, dItem (some (enc i ++ l)) = (i, some l)) := fun h h2 l => dItem_enc i l h (by omega)
  clear q1 q2 q3 q4 q5
  have HRL := Lib.hid hr
  clear hr
  obtain ⟨op, path, to_, off, size, data, ps⟩ := i
  simp only [iv_eq] at *
  have hB := Blk.new w 61 #[.int .i64 op, .string ⟨path.toArray⟩, .string ⟨to_.toArray⟩, .int .i64 off, .int .i64 size, .slice A5 data c5, .slice A6 ps.length c6]
  have hb0 : Below w.heap.size w (w.alloc (.cells #[.int .i64 op, .string ⟨path.toArray⟩, .string ⟨to_.toArray⟩, .int .i64 off, .int .i64 size, .slice A5 data c5, .slice A6 ps.length c6] 61)) := bal (Below.refl _ _) _
  go_enter Try.func8, Try.ntmps8
  go_wp2_with fail
  generalize (w.alloc (.cells #[.int .i64 op, .string ⟨path.toArray⟩, .string ⟨to_.toArray⟩, .int .i64 off, .int .i64 size, .slice A5 data c5, .slice A6 ps.length c6] 61)) = W1 at *
  have HXX : Hid (∀ W, Below W1.heap.size W1 W → W.cell? ⟨w.heap.size, 0, none⟩ = some (.int .i64 op) ∧ W.cell? ⟨w.heap.size, 1, none⟩ = some (.string ⟨path.toArray⟩) ∧ W.cell? ⟨w.heap.size, 2, none⟩ = some (.string ⟨to_.toArray⟩) ∧ W.cell? ⟨w.heap.size, 3, none⟩ = some (.int .i64 off) ∧ W.cell? ⟨w.heap.size, 4, none⟩ = some (.int .i64 size) ∧ W.cell? ⟨w.heap.size, 5, none⟩ = some (.slice A5 data c5) ∧ W.cell? ⟨w.heap.size, 6, none⟩ = some (.slice A6 ps.length c6)) := fun W h => ⟨(hB.below h).cell 0, (hB.below h).cell 1, (hB.below h).cell 2, (hB.below h).cell 3, (hB.below h).cell 4, (hB.below h).cell 5, (hB.below h).cell 6⟩
  have HBW : Hid (∀ W, Below W1.heap.size W1 W → Below w.heap.size w W) := fun W h => hb0.trans (h.mono hb0.size)
  clear hB hb0
  (with_reducible refine (law14_awake _).mono ?_)
  rintro e w2 ⟨rfl, hk2⟩
  obtain ⟨x0, x1, x2, x3, x4, x5, x6⟩ := HXX.out _ hk2
  go_wp2_with fail
  clear x0 x1 x2 x3 x4 x5 x6
  (with_reducible refine (HS.out _).mono ?_)
  rintro e w3 ⟨rfl, hb3⟩
  have hk3 := bn hk2 hb3
  clear hk2 hb3
  cases sa
  · go_wp2
    go_ret
    exact ⟨rfl, HBW.out _ hk3⟩
  by_cases h100 : (100 : Int) < (m : Int)
  · go_wp2
    go_ret
    exact ⟨rfl, HBW.out _ hk3⟩
  have HL := Lib.hid (HM.out rfl)
  obtain ⟨x0, x1, x2, x3, x4, x5, x6⟩ := HXX.out _ hk3
  go_wp2_with fail
  clear x0 x1 x2 x3 x4 x5 x6
  (with_reducible refine (HI.out _ HL.out (HBW.out _ hk3)).mono ?_)
  rintro e w4 ⟨rfl, hb4⟩
  have hk4 := bn hk3 hb4
  clear hk3 hb4
  obtain ⟨x0, x1, x2, x3, x4, x5, x6⟩ := HXX.out _ hk4
  go_wp2_with fail
  clear x0 x1 x2 x3 x4 x5 x6
  (with_reducible refine (HN.out _ HL.out (HBW.out _ hk4)).mono ?_)
  rintro e w5 ⟨Am, cm, rfl, hrm, ham, hb5⟩
  have hk5 := bn hk4 hb5
  clear hk4 hb5
  simp only [iv_eq]
  go_wp2_with fail
  (with_reducible refine (HEB.out _ _ _ HL.out hrm fun ad e => (ham ad e).2).mono ?_)
  rintro e w6 ⟨Ab, nb, cb, kb, rfl, hb1, hb2, hb6⟩
  have hk6 := bn hk5 hb6
  clear hk5 hb6 hrm ham
  have hp7 := pen_freshR w6
  have hk7 : Below W1.heap.size W1 (w6.alloc (.cells #[.slice none 0 0] 26)) := bal hk6 _
  have hg7 : W1.heap.size ≤ w6.heap.size := hk6.size
  have hb67 : Below w6.heap.size w6 (w6.alloc (.cells #[.slice none 0 0] 26)) := bal (Below.refl _ _) _
  obtain ⟨x0, x1, x2, x3, x4, x5, x6⟩ := HXX.out _ hk7
  go_wp2_with fail
  clear x0 x1 x2 x3 x4 x5 x6
  generalize hG : w6.heap.size = G at *
  generalize (w6.alloc (.cells #[.slice none 0 0] 26)) = w7 at *
  (with_reducible refine (HN.out _ HL.out (HBW.out _ hk7)).mono ?_)
  rintro e w8 ⟨Am, cm, rfl, hrm, ham, hb8⟩
  have hk8 := bn hk7 hb8
  simp only [iv_eq]
  cases hma : may ⟨op, path, to_, off, size, data, ps⟩ with
  | false =>
    obtain ⟨rfl, rfl, rfl⟩ := hb2 hma
    have HMA := Lib.hid hma
    clear hb1 hb2 hma
    go_wp2_with fail
    (with_reducible refine (HW0.out _ _ _ _ HMA.out HL.out hrm).mono ?_)
    rintro e w9 ⟨rfl, hb9⟩
    have hk9 := bn hk8 hb9
    have hp9 : PenAt w9 G W1.heap.size [] := (hp7.keep (bn hb8 hb9)).at_ fun _ h => h.elim
    have hE : ∃ E : List UInt8, E = [] ∧ E.length ≤ 100000 := ⟨_, rfl, by simp⟩
    obtain ⟨E, hE1, hE2⟩ := hE
    rw [← hE1] at hp9
    have hrE : RB w9 none E := by rw [hE1]; exact RB.nil _ _
    have HE1 := Lib.hid hE1
    clear hE1 hp7 hb8 hb9 hrm ham hk7 hk8 hb67
    obtain ⟨sE, hsE⟩ : ∃ s : ByteArray, (⟨E.toArray⟩ : ByteArray) = s := ⟨_, rfl⟩
    have HCV : Hid (∀ W, Below w9.heap.size w9 W → (convert 24 9 (.slice none 0 cb)).run Try.prog W = .ok (.string sE) W) := fun W h => by
      rw [← hsE]
      exact run_str_try W _ _ _ E (by rw [HE1.out]; rfl) (hrE.below h)
    have HSE := Lib.hid hsE
    clear hsE
    have HKW : Hid (∀ W, Below w9.heap.size w9 W → Below W1.heap.size W1 W) := fun W h => bn hk9 h
    have hk := bdr (Below.refl w9.heap.size w9)
    go_wp2
    go_region_held (fun W => Below w9.heap.size w9 W ∧ (convert 24 9 (.slice none 0 cb)).run Try.prog W = .ok (.string sE) W ∧ W.cell? ⟨w.heap.size, 0, none⟩ = some (.int .i64 op) ∧ W.cell? ⟨w.heap.size, 1, none⟩ = some (.string ⟨path.toArray⟩) ∧ W.cell? ⟨w.heap.size, 2, none⟩ = some (.string ⟨to_.toArray⟩) ∧ W.cell? ⟨w.heap.size, 3, none⟩ = some (.int .i64 off) ∧ W.cell? ⟨w.heap.size, 4, none⟩ = some (.int .i64 size) ∧ W.cell? ⟨w.heap.size, 5, none⟩ = some (.slice A5 data c5) ∧ W.cell? ⟨w.heap.size, 6, none⟩ = some (.slice A6 ps.length c6)) (exact ⟨hk, HCV.out _ hk, HXX.out _ (HKW.out _ hk)⟩) (first
      | (go_at_call 40; (with_reducible refine (HN.out _ HL.out (HBW.out _ (HKW.out _ hk))).mono ?_); rintro e w' ⟨Am, cm, rfl, hrm, ham, hb'⟩; simp only [iv_eq]; replace hk := bn hk hb'; clear hb' ham)
      | (go_at_call 42; (with_reducible refine (HEM.out _ _ _ HL.out hrm).mono ?_); rintro e w' ⟨rfl, hb'⟩; rw [HMA.out]; replace hk := bn hk hb'; clear hb' hrm)
      | (go_at_call 15; (with_reducible refine (pen_bytes _ _ E _ (hp9.keep hk) (by omega)).mono ?_); rintro e w' ⟨v5, rfl, ho5, hb'⟩; obtain ⟨A15, c15, rfl, k15, r15⟩ := ho5.bytes; have hcv15 := run_str_try w' A15 c15 _ E rfl r15; rw [HSE.out] at hcv15; replace hk := bn hk hb'; clear hb'))
    clear hcv15 ho5 k15 r15
    go_wp2
    go_ret
    exact ⟨rfl, HBW.out _ (HKW.out _ hk)⟩
  | true =>
    obtain ⟨rfl, rfl, hre⟩ := hb1 hma
    have HMA := Lib.hid hma
    have hE2 := HEL.out hma HL.out
    have HDD := Lib.hid (HDE.out hma HL.out)
    have HDA := Lib.hid (HD.out hma)
    clear hb1 hb2 hma
    go_wp2_with fail
    (with_reducible refine (HW1.out _ _ _ (fun _ => False) _ HMA.out HL.out hrm (hp7.keep hb8) (fun _ h => h.elim) (fun ad e h => by
      have h1 := (ham ad e).1
      have h2 := hb67.size
      have h3 := hp7.lt
      rcases h with h | h
      · omega
      · exact h)).mono ?_)
    rintro e w9 ⟨rfl, h9⟩
    have hk9 : Below W1.heap.size W1 w9 := hk8.trans (h9.kp.below hk8.size fun k h => by
      rcases h with h | h
      · omega
      · exact h.elim)
    have hz8 := hk8.size
    have hp9 : PenAt w9 G W1.heap.size ([] ++ enc ⟨op, path, to_, off, size, data, ps⟩) := h9.pen.at_ fun k h => by
      rcases h with h | h
      · exact h.elim
      · omega
    rw [List.nil_append] at hp9
    have hrE : RB w9 Ab (enc ⟨op, path, to_, off, size, data, ps⟩) := by
      have h67 : Below w6.heap.size w6 w7 := by rw [hG]; exact hb67
      have h6 := hre.below (bn h67 hb8)
      refine h6.kp h9.kp fun ad e h => ?_
      have hlt := Rd.lt hre e (by unfold enc; simp)
      rcases h with h | h
      · omega
      · exact h
    obtain ⟨E, hEE⟩ : ∃ E, enc ⟨op, path, to_, off, size, data, ps⟩ = E := ⟨_, rfl⟩
    rw [hEE] at hp9 hrE hE2 HDD ⊢
    have HEE := Lib.hid hEE
    clear hEE hp7 hb8 hrm ham hk7 hk8 hb67 h9 hre hz8
    obtain ⟨sE, hsE⟩ : ∃ s : ByteArray, (⟨E.toArray⟩ : ByteArray) = s := ⟨_, rfl⟩
    have HCV : Hid (∀ W, Below w9.heap.size w9 W → (convert 24 9 (.slice Ab E.length cb)).run Try.prog W = .ok (.string sE) W) := fun W h => by
      rw [← hsE]
      exact run_str_try W _ _ _ E rfl (hrE.below h)
    have HSE := Lib.hid hsE
    clear hsE
    have HKW : Hid (∀ W, Below w9.heap.size w9 W → Below W1.heap.size W1 W) := fun W h => bn hk9 h
    have hk := bdr (Below.refl w9.heap.size w9)
    go_wp2
    go_region_held (fun W => Below w9.heap.size w9 W ∧ (convert 24 9 (.slice Ab E.length cb)).run Try.prog W = .ok (.string sE) W ∧ W.cell? ⟨w.heap.size, 0, none⟩ = some (.int .i64 op) ∧ W.cell? ⟨w.heap.size, 1, none⟩ = some (.string ⟨path.toArray⟩) ∧ W.cell? ⟨w.heap.size, 2, none⟩ = some (.string ⟨to_.toArray⟩) ∧ W.cell? ⟨w.heap.size, 3, none⟩ = some (.int .i64 off) ∧ W.cell? ⟨w.heap.size, 4, none⟩ = some (.int .i64 size) ∧ W.cell? ⟨w.heap.size, 5, none⟩ = some (.slice A5 data c5) ∧ W.cell? ⟨w.heap.size, 6, none⟩ = some (.slice A6 ps.length c6)) (exact ⟨hk, HCV.out _ hk, HXX.out _ (HKW.out _ hk)⟩) (first
      | (go_at_call 40; (with_reducible refine (HN.out _ HL.out (HBW.out _ (HKW.out _ hk))).mono ?_); rintro e w' ⟨Am, cm, rfl, hrm, ham, hb'⟩; simp only [iv_eq]; replace hk := bn hk hb'; clear hb' ham)
      | (go_at_call 42; (with_reducible refine (HEM.out _ _ _ HL.out hrm).mono ?_); rintro e w' ⟨rfl, hb'⟩; rw [HMA.out]; replace hk := bn hk hb'; clear hb' hrm)
      | (go_at_call 15; (with_reducible refine (pen_bytes _ _ E _ (hp9.keep hk) (by omega)).mono ?_); rintro e w' ⟨v5, rfl, ho5, hb'⟩; obtain ⟨A15, c15, rfl, k15, r15⟩ := ho5.bytes; have hcv15 := run_str_try w' A15 c15 _ E rfl r15; rw [HSE.out] at hcv15; replace hk := bn hk hb'; clear hb'))
    clear hcv15 ho5 k15 r15
    have hrE2 := hrE.below hk
    have hk10 := HKW.out _ hk
    clear hk hp9 hrE hk9 HCV HKW
    have HMM := Lib.hid hm
    clear hm
    have hm100 : m ≤ 100 := by omega
    have hd0 : dItem (some E) = (⟨op, path, to_, off, size, data, ps⟩, some []) := by have := HDD.out []; rwa [List.append_nil] at this
    have HD0 := Lib.hid hd0
    have HDL := Lib.hid (HDD.out l)
    rw [HEE.out] at HRB
    clear hd0 HDD HN HI HEM HEB HW0 HW1 HD HEL HDE HM HS
    go_wp2_with fail
    (with_reducible refine (event_parse _ _ _ E _ rfl (by omega) hrE2).mono ?_)
    rintro e w11 ⟨it, ok, B5, d5, B6, d6, rfl, hok, hit, hrB, hB6, hb11⟩
    obtain rfl : ok = true := hok.2 ⟨by rw [HD0.out]; exact HMA.out, by rw [HD0.out]⟩
    rw [HD0.out, if_pos rfl] at hit
    subst hit
    have hk11 := bn hk10 hb11
    have hrE11 := hrE2.below hb11
    clear hok hb11 hk10 hrE2 HD0
    simp only [iv_eq] at *
    go_upto_region 14 with (fail)
    have hX9 := Blk.new w11 68 #[.int .i64 op, .string ⟨path.toArray⟩, .string ⟨to_.toArray⟩, .int .i64 off, .int .i64 size, .slice B5 data d5, .slice B6 ps.length d6]
    have hb12 : Below w11.heap.size w11 (w11.alloc (.cells #[.int .i64 op, .string ⟨path.toArray⟩, .string ⟨to_.toArray⟩, .int .i64 off, .int .i64 size, .slice B5 data d5, .slice B6 ps.length d6] 68)) := bal (Below.refl _ _) _
    generalize (w11.alloc (.cells #[.int .i64 op, .string ⟨path.toArray⟩, .string ⟨to_.toArray⟩, .int .i64 off, .int .i64 size, .slice B5 data d5, .slice B6 ps.length d6] 68)) = w12 at *
    have hk12 := bn hk11 hb12
    obtain ⟨v13, w13, HR13, ho13, hb13⟩ := append_fresh w12 Ab E.length cb E rfl (hrE11.below hb12) (by omega)
    have hk13 := bn hk12 hb13
    obtain ⟨v14, w14, HR14, ho14, hb14, _⟩ := append_bytes w13 w12.heap.size v13 E ho13 A m c l HMM.out (HRL.out.below (HBW.out _ hk13)) (by rw [HMM.out]; omega) hb13.size
    have hb124 := hb13.trans hb14
    have hk14 := bn hk12 hb124
    have hL14 : (E ++ l).length ≤ 3300 := by rw [List.length_append, HMM.out]; omega
    obtain ⟨L, hL⟩ : ∃ x, E ++ l = x := ⟨_, rfl⟩
    rw [hL] at ho14 HDL hL14
    clear hL
    obtain ⟨A14, c14, rfl, hc14, hr14⟩ := ho14.bytes
    go_wp2_with (first | (at_builtin; refine wpList_append_run rfl _ _ 24 24 rfl _ _ _ _ rfl rfl HR13.out ?_) | (at_builtin; refine wpList_append_run rfl _ _ 24 24 rfl _ _ _ _ rfl rfl HR14.out ?_))
    (with_reducible refine (eye_new A14 _ c14 L _ rfl (by omega) hr14).mono ?_)
    rintro e w15 ⟨ge, rfl, hge, he15, hb15⟩
    have hk15 := bn hk14 hb15
    go_wp2_with fail
    (with_reducible refine (event_read ge _ w15 he15 (fun l2 e => by cases e; omega)).mono ?_)
    rintro e w16 ⟨it, ok, C5, e5, C6, e6, rfl, hok, hit, hrC, hC6, he16, hkk⟩
    rw [HDL.out] at hok hit he16
    obtain rfl : ok = true := by rw [hok, HMA.out]; rfl
    rw [if_pos rfl] at hit
    subst hit
    have hz14 := hk14.size
    have hz12 := hb12.size
    have hz124 := hb124.size
    have hge1 : W1.heap.size ≤ ge := by omega
    have hk16 : Below W1.heap.size W1 w16 := hk15.trans (hkk.below hk15.size hge1)
    have hX12 := hX9.lt
    have hb145 := bn hb124 hb15
    have hz15 := hb145.size
    have hX16 : Blk w16 w11.heap.size 68 #[.int .i64 op, .string ⟨path.toArray⟩, .string ⟨to_.toArray⟩, .int .i64 off, .int .i64 size, .slice B5 data d5, .slice B6 ps.length d6] := (hX9.below hb145).keep hkk (by omega) (by omega)
    have hrB16 : Rd w16 B6 (pcs ps) := ((hrB.below hb12).below hb145).kp hkk.kp fun ad e h => by
      have h1 := (hB6 ad e).1
      omega
    have hlE : RB w16 Ab E := ((hrE11.below hb12).below hb145).kp hkk.kp fun ad e h => by
      have h1 := Rd.lt hrE11 e (by rw [← HEE.out]; unfold enc; simp)
      omega
    clear hok hk15 hk14 hk13 hk12 hk11 hX9 hrB hrE11 he15 hb15 hb145 hr14 hc14 ho14 ho13 HR13 HR14 hb13 hb14 hb124 hB6 hkk hb12 HDL hge hz12 hz124 hz14 hz15 hX12
    simp only [iv_eq] at *
    go_upto_region 16 with (fail)
    have hY16 := Blk.new w16 68 #[.int .i64 op, .string ⟨path.toArray⟩, .string ⟨to_.toArray⟩, .int .i64 off, .int .i64 size, .slice C5 data e5, .slice C6 ps.length e6]
    have hb17 : Below w16.heap.size w16 (w16.alloc (.cells #[.int .i64 op, .string ⟨path.toArray⟩, .string ⟨to_.toArray⟩, .int .i64 off, .int .i64 size, .slice C5 data e5, .slice C6 ps.length e6] 68)) := bal (Below.refl _ _) _
    generalize (w16.alloc (.cells #[.int .i64 op, .string ⟨path.toArray⟩, .string ⟨to_.toArray⟩, .int .i64 off, .int .i64 size, .slice C5 data e5, .slice C6 ps.length e6] 68)) = w17 at *
    have hXX17 := hX16.below hb17
    have hlE17 := hlE.below hb17
    have hrB17 := hrB16.below hb17
    have hrC17 := hrC.below hb17
    have he17 := he16.keep hb17
    have hk17 := bn hk16 hb17
    clear hX16 hlE hrB16 hrC he16 hb17 hk16 hC6
    have HCV : Hid (∀ W, Below w17.heap.size w17 W → (convert 24 9 (.slice Ab E.length cb)).run Try.prog W = .ok (.string sE) W) := fun W h => by
      have := run_str_try W _ cb _ E rfl (hlE17.below h)
      rw [HSE.out] at this
      exact this
    have HY1 : Hid (∀ W, Below w17.heap.size w17 W → W.cell? ⟨w11.heap.size, 0, none⟩ = some (.int .i64 op) ∧ W.cell? ⟨w11.heap.size, 1, none⟩ = some (.string ⟨path.toArray⟩) ∧ W.cell? ⟨w11.heap.size, 2, none⟩ = some (.string ⟨to_.toArray⟩) ∧ W.cell? ⟨w11.heap.size, 3, none⟩ = some (.int .i64 off) ∧ W.cell? ⟨w11.heap.size, 4, none⟩ = some (.int .i64 size) ∧ W.cell? ⟨w11.heap.size, 5, none⟩ = some (.slice B5 data d5) ∧ W.cell? ⟨w11.heap.size, 6, none⟩ = some (.slice B6 ps.length d6)) := fun W h => ⟨(hXX17.below h).cell 0, (hXX17.below h).cell 1, (hXX17.below h).cell 2, (hXX17.below h).cell 3, (hXX17.below h).cell 4, (hXX17.below h).cell 5, (hXX17.below h).cell 6⟩
    have HY2 : Hid (∀ W, Below w17.heap.size w17 W → W.cell? ⟨w16.heap.size, 0, none⟩ = some (.int .i64 op) ∧ W.cell? ⟨w16.heap.size, 1, none⟩ = some (.string ⟨path.toArray⟩) ∧ W.cell? ⟨w16.heap.size, 2, none⟩ = some (.string ⟨to_.toArray⟩) ∧ W.cell? ⟨w16.heap.size, 3, none⟩ = some (.int .i64 off) ∧ W.cell? ⟨w16.heap.size, 4, none⟩ = some (.int .i64 size) ∧ W.cell? ⟨w16.heap.size, 5, none⟩ = some (.slice C5 data e5) ∧ W.cell? ⟨w16.heap.size, 6, none⟩ = some (.slice C6 ps.length e6)) := fun W h => ⟨(hY16.below h).cell 0, (hY16.below h).cell 1, (hY16.below h).cell 2, (hY16.below h).cell 3, (hY16.below h).cell 4, (hY16.below h).cell 5, (hY16.below h).cell 6⟩
    have HKW : Hid (∀ W, Below w17.heap.size w17 W → Below W1.heap.size W1 W) := fun W h => bn hk17 h
    have HQ1 : Hid (∀ W, Below w17.heap.size w17 W → Calls Try.prog 46 #[.agg #[.int .i64 op, .string ⟨path.toArray⟩, .string ⟨to_.toArray⟩, .int .i64 off, .int .i64 size, .slice B5 data d5, .slice B6 ps.length d6], .agg #[.int .i64 op, .string ⟨path.toArray⟩, .string ⟨to_.toArray⟩, .int .i64 off, .int .i64 size, .slice A5 data c5, .slice A6 ps.length c6]] W (SamePost W ⟨op, path, to_, off, size, data, ps⟩ ⟨op, path, to_, off, size, data, ps⟩)) := fun W h => HQ.out _ B5 d5 B6 d6 W HL.out rfl HDA.out (hrB17.below h) (HBW.out _ (HKW.out _ h))
    have HQ2 : Hid (∀ W, Below w17.heap.size w17 W → Calls Try.prog 46 #[.agg #[.int .i64 op, .string ⟨path.toArray⟩, .string ⟨to_.toArray⟩, .int .i64 off, .int .i64 size, .slice C5 data e5, .slice C6 ps.length e6], .agg #[.int .i64 op, .string ⟨path.toArray⟩, .string ⟨to_.toArray⟩, .int .i64 off, .int .i64 size, .slice A5 data c5, .slice A6 ps.length c6]] W (SamePost W ⟨op, path, to_, off, size, data, ps⟩ ⟨op, path, to_, off, size, data, ps⟩)) := fun W h => HQ.out _ C5 e5 C6 e6 W HL.out rfl HDA.out (hrC17.below h) (HBW.out _ (HKW.out _ h))
    have HLE : Hid (∀ W, Below w17.heap.size w17 W → EyeAt W ge (some l)) := fun W h => he17.keep h
    have HLF : Hid ((left (some l) : Int) = (m : Int)) := by show ((l.length : Nat) : Int) = _; rw [HMM.out]
    have hk := bdr (Below.refl w17.heap.size w17)
    clear hXX17 hY16 hlE17 hrB17 hrC17 he17 hk17 HQ
    go_region_held (fun W => Below w17.heap.size w17 W ∧ (convert 24 9 (.slice Ab E.length cb)).run Try.prog W = .ok (.string sE) W ∧ (W.cell? ⟨w.heap.size, 0, none⟩ = some (.int .i64 op) ∧ W.cell? ⟨w.heap.size, 1, none⟩ = some (.string ⟨path.toArray⟩) ∧ W.cell? ⟨w.heap.size, 2, none⟩ = some (.string ⟨to_.toArray⟩) ∧ W.cell? ⟨w.heap.size, 3, none⟩ = some (.int .i64 off) ∧ W.cell? ⟨w.heap.size, 4, none⟩ = some (.int .i64 size) ∧ W.cell? ⟨w.heap.size, 5, none⟩ = some (.slice A5 data c5) ∧ W.cell? ⟨w.heap.size, 6, none⟩ = some (.slice A6 ps.length c6)) ∧ (W.cell? ⟨w11.heap.size, 0, none⟩ = some (.int .i64 op) ∧ W.cell? ⟨w11.heap.size, 1, none⟩ = some (.string ⟨path.toArray⟩) ∧ W.cell? ⟨w11.heap.size, 2, none⟩ = some (.string ⟨to_.toArray⟩) ∧ W.cell? ⟨w11.heap.size, 3, none⟩ = some (.int .i64 off) ∧ W.cell? ⟨w11.heap.size, 4, none⟩ = some (.int .i64 size) ∧ W.cell? ⟨w11.heap.size, 5, none⟩ = some (.slice B5 data d5) ∧ W.cell? ⟨w11.heap.size, 6, none⟩ = some (.slice B6 ps.length d6)) ∧ (W.cell? ⟨w16.heap.size, 0, none⟩ = some (.int .i64 op) ∧ W.cell? ⟨w16.heap.size, 1, none⟩ = some (.string ⟨path.toArray⟩) ∧ W.cell? ⟨w16.heap.size, 2, none⟩ = some (.string ⟨to_.toArray⟩) ∧ W.cell? ⟨w16.heap.size, 3, none⟩ = some (.int .i64 off) ∧ W.cell? ⟨w16.heap.size, 4, none⟩ = some (.int .i64 size) ∧ W.cell? ⟨w16.heap.size, 5, none⟩ = some (.slice C5 data e5) ∧ W.cell? ⟨w16.heap.size, 6, none⟩ = some (.slice C6 ps.length e6))) (exact ⟨hk, HCV.out _ hk, HXX.out _ (HKW.out _ hk), HY1.out _ hk, HY2.out _ hk⟩) (first
      | (go_at_call 45; (with_reducible refine (HRB.out _ HL.out HMA.out (HBW.out _ (HKW.out _ hk))).mono ?_); rintro e w' ⟨v5, rfl, ho5, hb'⟩; obtain ⟨A15, c15, rfl, k15, r15⟩ := ho5.bytes; have hcv15 := run_str_try w' A15 c15 _ E rfl r15; rw [HSE.out] at hcv15; replace hk := bn hk hb'; clear hb')
      | (go_at_call 46; (with_reducible refine (HQ1.out _ hk).mono ?_); rintro e w' ⟨r, rfl, hrr, hb'⟩; obtain rfl : r = true := hrr.2 ⟨rfl, rfl, rfl, rfl, rfl, HDA.out, rfl⟩; replace hk := bn hk hb'; clear hb' hrr)
      | (go_at_call 46; (with_reducible refine (HQ2.out _ hk).mono ?_); rintro e w' ⟨r, rfl, hrr, hb'⟩; obtain rfl : r = true := hrr.2 ⟨rfl, rfl, rfl, rfl, rfl, HDA.out, rfl⟩; replace hk := bn hk hb'; clear hb' hrr)
      | (go_at_call 21; (with_reducible refine (eye_left ge (some l) _ (HLE.out _ hk)).mono ?_); rintro e _ ⟨rfl, rfl⟩; rw [HLF.out]))
    clear HRB HXX HY1 HY2 HQ1 HQ2 HCV HLE
    go_wp2
    go_ret
    exact ⟨rfl, HBW.out _ (HKW.out _ hk)⟩
end Go.Proofs.Ytlgkcpgbmobacaa
