/-
  What PenRows calls and gives, where no text is longer than 1,048,576 bytes.
-/
import Derived.Test.YtlgkcpgbmobacaaLaw2
import Derived.Test.YtlgkcpgbmobacaaRowsMath
import Derived.Test.YtlgkcpgbmobacaaOpen3
import Derived.IntWalk
set_option linter.unusedSimpArgs false
set_option linter.unusedVariables false
namespace Go.Proofs.Ytlgkcpgbmobacaa
open Go.RowKit

set_option maxRecDepth 100000 in
set_option maxHeartbeats 4000000 in
theorem prows_walk (A0 : Option Addr) (m0 c0 : Nat) (l0 : List (List UInt8)) (hm0 : l0.length = m0) (A1 : Option Addr) (m1 c1 : Nat) (l1 : List Nat) (hm1 : l1.length = m1) (A2 : Option Addr) (m2 c2 : Nat) (l2 : List Bool) (hm2 : l2.length = m2) (w : World)
    (hr0 : Rd w A0 (l0.map sv)) (hr1 : Rd w A1 (l1.map fun x : Nat => Value.int .u32 (x : Int))) (hr2 : Rd w A2 (l2.map Value.bool)) (hs : ∀ s ∈ l0, s.length ≤ 1048576) (hn : ∀ x ∈ l1, x ≤ 4294967295) 
    (hM0 : m0 ≤ 9223372036854775807) (hM1 : m1 ≤ 9223372036854775807) (hM2 : m2 ≤ 9223372036854775807) :
    Calls Try.prog 4 #[.slice A0 m0 c0, .slice A1 m1 c1, .slice A2 m2 c2] w fun e w' => e = .returned (.bool true) ∧ Below w.heap.size w w' := by
  subst hm0 hm1 hm2
  by_cases hs0 : (40 : Int) < (l0.length : Int)
  · go_enter Try.func4, Try.ntmps4
    go_wp2_with fail
    refine (law2_awake _).mono ?_
    rintro e w1 ⟨rfl, hb1⟩
    go_wp2
    go_ret
    exact ⟨rfl, hb1⟩
  by_cases hs1 : (40 : Int) < (l1.length : Int)
  · go_enter Try.func4, Try.ntmps4
    go_wp2_with fail
    refine (law2_awake _).mono ?_
    rintro e w1 ⟨rfl, hb1⟩
    go_wp2
    go_ret
    exact ⟨rfl, hb1⟩
  by_cases hs2 : (100 : Int) < (l2.length : Int)
  · go_enter Try.func4, Try.ntmps4
    go_wp2_with fail
    refine (law2_awake _).mono ?_
    rintro e w1 ⟨rfl, hb1⟩
    go_wp2
    go_ret
    exact ⟨rfl, hb1⟩
  have hall : (rows l2 l0 l1).length ≤ 104858700 := by
    have h1 := rows_length 1048576 (by omega) l2 l0 l1 hs (fun x hx => by have := hn x hx; omega)
    have h2 : l2.length * (1048576 + 10) ≤ 100 * (1048576 + 10) := Nat.mul_le_mul_right _ (by omega)
    omega
  have HS := Lib.hid hs
  have HNN := Lib.hid hn
  clear hs hn
  go_enter Try.func4, Try.ntmps4
  go_wp2_with fail
  refine (law2_awake _).mono ?_
  rintro e w1 ⟨rfl, hb1⟩
  have hp := pen_fresh w1
  have hz := size_more w1 (.cells #[.slice none 0 0] 26)
  have hz1 := hb1.size
  have hbp : Below w.heap.size w (w1.alloc (.cells #[.slice none 0 0] 26)) := bal hb1 _
  have HZ := Lib.hid hz
  clear hz
  go_wp2
  generalize (w1.alloc (.cells #[.slice none 0 0] 26)) = wp at *
  generalize w1.heap.size = g at *
  have hzp : wp.heap.size = g + 1 := HZ.out
  have HZP := Lib.hid hzp
  clear HZ hzp
  generalize hALL : rows l2 l0 l1 = all at *
  go_loopw [8, 9, 10] (fun i k j wr => ∃ (a b c : Nat) (pre : List UInt8), a ≤ l0.length ∧ b ≤ l1.length ∧ c ≤ l2.length ∧ i = .int .i64 (a : Int) ∧ k = .int .i64 (b : Int) ∧ j = .int .i64 (c : Int) ∧ PenAt wr g (g + 1) pre ∧ Hid (pre ++ rows (l2.drop c) (l0.drop a) (l1.drop b) = all) ∧ Kept g (g + 1) wp wr) (fun _ _ j _ => l2.length - (intOf j).toNat)
  case atStart => exact ⟨0, 0, 0, [], Nat.zero_le _, Nat.zero_le _, Nat.zero_le _, rfl, rfl, rfl, hp, hALL, Kept.refl _ _ _⟩
  case round =>
    obtain ⟨a, b, c, pre, ha, hb, hc, rfl, rfl, rfl, hpr, hpre, hk⟩ := hrel
    have hplen : pre.length ≤ all.length := by rw [← hpre.out, List.length_append]; omega
    have hbr := hbp.trans (hk.below (B' := w.heap.size) (by omega) (by omega))
    have hzr : g + 1 ≤ wr.heap.size := by rw [← HZP.out]; exact hk.size
    have r0 := hr0.below hbr
    have r1 := hr1.below hbr
    have r2 := hr2.below hbr
    clear hp
    by_cases hlt : c < l2.length
    · obtain ⟨ad2, rfl⟩ := r2.some_of (by intro e; have := congrArg List.length e; simp at this; subst this; simp at hlt)
      have x2 := r2.at_ c (by simpa using hlt)
      rw [List.getElem_map] at x2
      have i0 : (0 : Int) ≤ (c : Int) := by omega
      have i1 : (c : Int) < (l2.length : Int) := by omega
      by_cases hT : l2[c] = true ∧ a < l0.length
      · obtain ⟨hT1, hT2⟩ := hT
        have hst := rows_step_text l2 l0 l1 c a b hlt hT2 hT1
        rw [hT1] at x2
        obtain ⟨ad0, rfl⟩ := r0.some_of (by intro e; have := congrArg List.length e; simp at this; subst this; simp at hT2)
        have x0 := r0.at_ a (by simpa using hT2)
        rw [List.getElem_map] at x0
        have j0 : (0 : Int) ≤ (a : Int) := by omega
        have j1 : (a : Int) < (l0.length : Int) := by omega
        have hsl := HS.out l0[a] (List.getElem_mem hT2)
        have hrest := hpre.out
        rw [hst] at hrest
        rw [← List.append_assoc, ← List.append_assoc] at hrest
        generalize l0[a] = s at *
        have HR := Lib.hid hrest
        clear hrest hst hT1 hpre hALL
        unfold sv at x0
        go_wp2_with fail
        refine (pen_text g (g + 1) pre s _ hpr hzr (by omega)).mono ?_
        rintro e w3 ⟨rfl, hp3, hk3⟩
        go_wp2
        go_roundw
        case rel => exact ⟨a + 1, b, c + 1, _, by omega, by omega, by omega, by go_num, rfl, by go_num, hp3, HR.out, hk.trans hk3⟩
        case measure => simp [intOf]; try omega
      · have hf : l2[c] = false ∨ l0.length ≤ a := by
          by_cases h1 : l2[c] = true
          · right
            by_cases h2 : a < l0.length
            · exact absurd ⟨h1, h2⟩ hT
            · omega
          · left; simpa using h1
        clear hT
        by_cases hN : b < l1.length
        · have hst := rows_step_num l2 l0 l1 c a b hlt hN hf
          obtain ⟨ad1, rfl⟩ := r1.some_of (by intro e; have := congrArg List.length e; simp at this; subst this; simp at hN)
          have x1 := r1.at_ b (by simpa using hN)
          rw [List.getElem_map] at x1
          have j0 : (0 : Int) ≤ (b : Int) := by omega
          have j1 : (b : Int) < (l1.length : Int) := by omega
          have hx32 := HNN.out l1[b] (List.getElem_mem hN)
          have hrest := hpre.out
          rw [hst, ← List.append_assoc] at hrest
          generalize l1[b] = x at *
          have HR := Lib.hid hrest
          clear hrest hst hpre hALL
          have hx0 : (0 : Int) ≤ (x : Int) := by omega
          have hx1 : (x : Int) ≤ 4294967295 := by omega
          rcases hf with hf | hf
          · rw [hf] at x2
            clear hf
            go_wp2_with fail
            refine (pen_num g (g + 1) pre (x : Int) (by omega) (by omega) _ hpr hzr (by omega)).mono ?_
            rintro e w3 ⟨rfl, hp3, hk3⟩
            rw [Int.toNat_natCast] at hp3
            go_wp2
            go_roundw
            case rel => exact ⟨a, b + 1, c + 1, _, by omega, by omega, by omega, rfl, by go_num, by go_num, hp3, HR.out, hk.trans hk3⟩
            case measure => simp [intOf]; try omega
          · obtain rfl : a = l0.length := by omega
            generalize l2[c] = bb at *
            cases bb
            all_goals
              go_wp2_with fail
              refine (pen_num g (g + 1) pre (x : Int) (by omega) (by omega) _ hpr hzr (by omega)).mono ?_
              rintro e w3 ⟨rfl, hp3, hk3⟩
              rw [Int.toNat_natCast] at hp3
              go_wp2
              go_roundw
              case rel => exact ⟨l0.length, b + 1, c + 1, _, by omega, by omega, by omega, rfl, by go_num, by go_num, hp3, HR.out, hk.trans hk3⟩
              case measure => simp [intOf]; try omega
        · obtain rfl : b = l1.length := by omega
          have hst := rows_step_none l2 l0 l1 c a l1.length hlt (Nat.le_refl _) hf
          have hrest := hpre.out
          rw [hst] at hrest
          have HR := Lib.hid hrest
          clear hrest hst hpre hALL
          rcases hf with hf | hf
          · rw [hf] at x2
            clear hf
            go_wp2
            go_roundw
            case rel => exact ⟨a, l1.length, c + 1, pre, by omega, by omega, by omega, rfl, rfl, by go_num, hpr, HR.out, hk⟩
            case measure => simp [intOf]; try omega
          · obtain rfl : a = l0.length := by omega
            generalize l2[c] = bb at *
            cases bb
            all_goals
              go_wp2
              go_roundw
              case rel => exact ⟨l0.length, l1.length, c + 1, pre, by omega, by omega, by omega, rfl, rfl, by go_num, hpr, HR.out, hk⟩
              case measure => simp [intOf]; try omega
    · obtain rfl : c = l2.length := by omega
      have hpa : pre = all := by
        have := hpre.out
        rw [drop_end l2 l2.length (Nat.le_refl _)] at this
        simpa [rows] using this
      subst hpa
      clear hpre ha hb hk r0 r1 r2
      have HA := Lib.hid hALL
      clear hALL hbp
      go_wp2_with fail
      refine (pen_bytes _ _ _ wr hpr (by omega)).mono ?_
      rintro e w3 ⟨v3, rfl, ho3, hb3⟩
      obtain ⟨A3, c3, rfl, k3, r3⟩ := ho3.bytes
      have hb03 := bn hbr hb3
      generalize hAL : pre.length = L at *
      have HAL := Lib.hid hAL
      clear hAL
      go_wp2_with fail
      refine (eye_new A3 L c3 pre w3 HAL.out (by rw [HAL.out]; omega) r3).mono ?_
      rintro e w4 ⟨ge, rfl, hge, he4, hb4⟩
      have hb04 := bn hb03 hb4
      have hgw : w.heap.size ≤ ge := Nat.le_trans hb03.size hge
      rw [← HA.out] at he4
      clear hpr ho3 r3 hb3 hb4 HA HAL
      go_wp2
      go_loopw [8, 9, 12] (fun i k j wr => ∃ (a b c : Nat), a ≤ l0.length ∧ b ≤ l1.length ∧ c ≤ l2.length ∧ i = .int .i64 (a : Int) ∧ k = .int .i64 (b : Int) ∧ j = .int .i64 (c : Int) ∧ EyeAt wr ge (some (rows (l2.drop c) (l0.drop a) (l1.drop b))) ∧ Below w.heap.size w wr) (fun _ _ j _ => l2.length - (intOf j).toNat)
      case atStart => exact ⟨0, 0, 0, Nat.zero_le _, Nat.zero_le _, Nat.zero_le _, rfl, rfl, rfl, he4, hb04⟩
      case round =>
        obtain ⟨a, b, c, ha, hb, hc, rfl, rfl, rfl, he, hbq⟩ := hrel
        clear he4 hb04 hbr hb03 hzr
        have r0 := hr0.below hbq
        have r1 := hr1.below hbq
        have r2 := hr2.below hbq
        have hglt : ge < wr.heap.size := by obtain ⟨_, _, h, _⟩ := he; exact h.lt
        have hzq := hbq.size
        by_cases hlt : c < l2.length
        · obtain ⟨ad2, rfl⟩ := r2.some_of (by intro e; have := congrArg List.length e; simp at this; subst this; simp at hlt)
          have x2 := r2.at_ c (by simpa using hlt)
          rw [List.getElem_map] at x2
          have i0 : (0 : Int) ≤ (c : Int) := by omega
          have i1 : (c : Int) < (l2.length : Int) := by omega
          by_cases hT : l2[c] = true ∧ a < l0.length
          · obtain ⟨hT1, hT2⟩ := hT
            have hst := rows_step_text l2 l0 l1 c a b hlt hT2 hT1
            rw [hT1] at x2
            obtain ⟨ad0, rfl⟩ := r0.some_of (by intro e; have := congrArg List.length e; simp at this; subst this; simp at hT2)
            have hlt0 : ad0.block < w.heap.size := hr0.lt rfl (by intro e; have := congrArg List.length e; simp at this; subst this; simp at hT2)
            have x0 := r0.at_ a (by simpa using hT2)
            rw [List.getElem_map] at x0
            have j0 : (0 : Int) ≤ (a : Int) := by omega
            have j1 : (a : Int) < (l0.length : Int) := by omega
            have hsl := HS.out l0[a] (List.getElem_mem hT2)
            rw [hst] at he
            have ht : eText (some (num l0[a].length ++ l0[a] ++ rows (l2.drop (c + 1)) (l0.drop (a + 1)) (l1.drop b))) = (l0[a], some (rows (l2.drop (c + 1)) (l0.drop (a + 1)) (l1.drop b))) := eText_text _ _ (by omega)
            generalize l0[a] = s at *
            have HT := Lib.hid ht
            clear ht hst hT1
            unfold sv at x0
            obtain ⟨sw, hsw⟩ : ∃ sw : ByteArray, (⟨s.toArray⟩ : ByteArray) = sw := ⟨_, rfl⟩
            have HSW := Lib.hid hsw
            rw [hsw] at x0
            clear hsw
            have hkd := bdr (Below.refl wr.heap.size wr)
            have HC := Lib.hid (eye_text ge _ wr.drew (he.keep hkd) hglt)
            have HX : ∀ w', Kept ge wr.drew.heap.size wr.drew w' → Below w.heap.size wr w' := fun w' hk' => (hkd.mono hzq).trans (hk'.below hzq hgw)
            have hlt0' : (ad0.add a).block < w.heap.size := by rw [add_block]; exact hlt0
            go_wp2
            go_region_held (fun w2 => w2.cell? (ad0.add a) = some (.string sw)) (first | exact x0' | exact x0)
              ((go_at_call 18; (with_reducible refine HC.out.mono ?_); rintro e w' ⟨rfl, he', hk'⟩; rw [HT.out] at he' ⊢; rw [HSW.out]; have hbq' := HX w' hk'; have x0' : w'.cell? (ad0.add a) = some (.string sw) := (hbq'.cell hlt0').trans x0))
            go_wp2
            go_roundw
            case rel => exact ⟨a + 1, b, c + 1, by omega, by omega, by omega, by go_num, rfl, by go_num, he', hbq.trans hbq'⟩
            case measure => simp [intOf]; try omega
          · have hf : l2[c] = false ∨ l0.length ≤ a := by
              by_cases h1 : l2[c] = true
              · right
                by_cases h2 : a < l0.length
                · exact absurd ⟨h1, h2⟩ hT
                · omega
              · left; simpa using h1
            clear hT
            by_cases hN : b < l1.length
            · have hst := rows_step_num l2 l0 l1 c a b hlt hN hf
              obtain ⟨ad1, rfl⟩ := r1.some_of (by intro e; have := congrArg List.length e; simp at this; subst this; simp at hN)
              have hlt1 : ad1.block < w.heap.size := hr1.lt rfl (by intro e; have := congrArg List.length e; simp at this; subst this; simp at hN)
              have x1 := r1.at_ b (by simpa using hN)
              rw [List.getElem_map] at x1
              have j0 : (0 : Int) ≤ (b : Int) := by omega
              have j1 : (b : Int) < (l1.length : Int) := by omega
              have hx32 := HNN.out l1[b] (List.getElem_mem hN)
              rw [hst] at he
              have ht : eNum (some (num l1[b] ++ rows (l2.drop (c + 1)) (l0.drop a) (l1.drop (b + 1)))) = (l1[b], some (rows (l2.drop (c + 1)) (l0.drop a) (l1.drop (b + 1)))) := eNum_num _ (by omega) _
              generalize l1[b] = x at *
              have HT := Lib.hid ht
              clear ht hst
              have hx0 : (0 : Int) ≤ (x : Int) := by omega
              have hx1 : (x : Int) ≤ 4294967295 := by omega
              have hkd := bdr (Below.refl wr.heap.size wr)
              have HC := Lib.hid (eye_num ge _ wr.drew (he.keep hkd) hglt)
              have HX : ∀ w', Kept ge wr.drew.heap.size wr.drew w' → Below w.heap.size wr w' := fun w' hk' => (hkd.mono hzq).trans (hk'.below hzq hgw)
              have hlt1' : (ad1.add b).block < w.heap.size := by rw [add_block]; exact hlt1
              have hbb : (l2[c] = false) ∨ (l2[c] = true ∧ a = l0.length) := by
                rcases hf with h | h
                · exact .inl h
                · cases hb : l2[c] with
                  | false => exact .inl rfl
                  | true => exact .inr ⟨rfl, by omega⟩
              clear hf
              rcases hbb with hf | ⟨hf, rfl⟩
              all_goals
                rw [hf] at x2
                clear hf
                have hwr : IntKind.i64.wrap (x : Int) = (x : Int) := IntWalk.i64_in _ (by omega)
                go_wp2
                go_region_held (fun w2 => w2.cell? (ad1.add b) = some (.int .u32 (x : Int))) (first | exact x1' | exact x1) ((go_at_call 19; (with_reducible refine HC.out.mono ?_); rintro e w' ⟨rfl, he', hk'⟩; rw [HT.out] at he' ⊢; have hbq' := HX w' hk'; have x1' : w'.cell? (ad1.add b) = some (.int .u32 (x : Int)) := (hbq'.cell hlt1').trans x1))
                clear hwr
                go_wp2
                go_roundw
                case rel => exact ⟨_, b + 1, c + 1, by omega, by omega, by omega, rfl, by go_num, by go_num, he', hbq.trans hbq'⟩
                case measure => simp [intOf]; try omega
            · obtain rfl : b = l1.length := by omega
              have hst := rows_step_none l2 l0 l1 c a l1.length hlt (Nat.le_refl _) hf
              rw [hst] at he
              clear hst
              have hbb : (l2[c] = false) ∨ (l2[c] = true ∧ a = l0.length) := by
                rcases hf with h | h
                · exact .inl h
                · cases hb : l2[c] with
                  | false => exact .inl rfl
                  | true => exact .inr ⟨rfl, by omega⟩
              clear hf
              rcases hbb with hf | ⟨hf, rfl⟩
              all_goals
                rw [hf] at x2
                clear hf
                go_wp2
                go_roundw
                case rel => exact ⟨_, l1.length, c + 1, by omega, by omega, by omega, rfl, rfl, by go_num, he, hbq⟩
                case measure => simp [intOf]; try omega
        · obtain rfl : c = l2.length := by omega
          rw [drop_end l2 l2.length (Nat.le_refl _)] at he
          simp only [rows] at he
          clear r0 r1 r2
          go_wp2_with (first | (go_at_call 20; refine (eye_bad ge _ _ he).mono ?_; rintro e _ ⟨rfl, rfl⟩) | (go_at_call 21; refine (eye_left ge _ _ he).mono ?_; rintro e _ ⟨rfl, rfl⟩))
          go_ret
          exact ⟨rfl, hbq⟩
end Go.Proofs.Ytlgkcpgbmobacaa
