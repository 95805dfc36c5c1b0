/-
  treeringref4.May.
-/
import Derived.Test.YtangfnenfhkokaaSupA
import Derived.Test.YtangfnenfhkokaaSupR
import Derived.Test.YtangfnenfhkokaaLaw5A
set_option linter.unusedSimpArgs false
set_option linter.unusedVariables false
namespace Go.Proofs.Ytangfnenfhkokaa
open Go.RowKit Go.Maps
attribute [-go_sem] Builtin.append_

theorem segsOk_append (segs : Int) : ∀ (a had b : List Int), segsOk segs had (a ++ b) = (segsOk segs had a && segsOk segs (had ++ a) b)
  | [], had, b => by simp [segsOk]
  | x :: a, had, b => by
    rw [List.cons_append, segsOk, segsOk, segsOk_append segs a (had ++ [x]) b, List.append_assoc, ← Bool.and_assoc]
    rfl
theorem supMay_all (s : Sup) (segs : Int) : supMay s segs = (decide (0 ≤ s.number ∧ s.number ≤ 2147483647 ∧ 0 ≤ s.boot ∧ s.boot ≤ 2147483647) && (segsOk segs [] (s.jour.segs ++ s.chunks.segs) && (lenOk s.jour && lenOk s.chunks))) := by
  unfold supMay fitsL
  rw [segsOk_append, List.nil_append]
  cases segsOk segs [] s.jour.segs <;> cases lenOk s.jour <;> cases segsOk segs s.jour.segs s.chunks.segs <;> cases lenOk s.chunks <;> rfl
/-- 'append(v, ys...)' of numbers -/
theorem append_ints (w : World) (B : Nat) (v : Value) (xs : List Int) (hown : Own w B 3 v (xs.map ei)) (A : Option Addr) (n cap : Nat) (ys : List Int) (hn : ys.length = n) (hr : Rd w A (ys.map ei)) (hl : xs.length + ys.length ≤ 100000000) (hB : B ≤ w.heap.size) :
    ∃ A' c' w', (Builtin.append_ #[35, 35] 35 #[v, .slice A n cap]).run Try.prog w = .ok (.slice A' (xs ++ ys).length c') w' ∧ Own w' B 3 (.slice A' (xs ++ ys).length c') ((xs ++ ys).map ei) ∧ Below B w w' := by
  obtain ⟨v', w', h1, h2, h3, h4⟩ := append_run (P := Try.prog) w B 35 35 3 (.int .i64 0) 8 Try.underlying35 info_int rfl v _ hown A n cap (ys.map ei) (by rw [List.length_map]; exact hn) hr (by intro u hu; obtain ⟨y, -, rfl⟩ := List.mem_map.1 hu; rfl) (by rw [List.length_map, List.length_map]; unfold maxLen; omega) (by rw [List.length_map, List.length_map]; omega) hB
  rw [← List.map_append] at h2
  obtain ⟨A', c', rfl, -, -, -⟩ := h2.read
  rw [List.length_map] at *
  exact ⟨A', c', w', h1, h2, h4⟩
set_option maxRecDepth 100000 in
set_option maxHeartbeats 4000000 in
theorem ref_may (s : Sup) (segs : Int) (A : Option Addr) (c : Nat) (A2 : Option Addr) (c2 : Nat) (w : World) (h1 : Rd w A (s.jour.segs.map ei)) (h2 : Rd w A2 (s.chunks.segs.map ei)) (hl1 : s.jour.segs.length ≤ 10000000) (hl2 : s.chunks.segs.length ≤ 10000000) (hseg : segs ≤ 96) :
    Calls Try.prog 31 #[supV s A c A2 c2, .int .i64 segs] w fun e w' => e = .returned (.bool (supMay s segs)) ∧ Below w.heap.size w w' := by
  rw [supMay_all]
  obtain ⟨nu, bo, ⟨l1, n1, s1⟩, ⟨l2, n2, s2⟩⟩ := s
  unfold supV
  simp only at h1 h2 hl1 hl2 ⊢
  obtain ⟨R, hR⟩ : ∃ R, (decide (0 ≤ nu ∧ nu ≤ 2147483647 ∧ 0 ≤ bo ∧ bo ≤ 2147483647) && (segsOk segs [] (l1 ++ l2) && (lenOk ⟨l1, n1, s1⟩ && lenOk ⟨l2, n2, s2⟩))) = R := ⟨_, rfl⟩
  rw [hR]
  have HR := Lib.hid hR
  clear hR
  go_enter Try.func31, Try.ntmps31
  have b1 := bal (Below.refl w.heap.size w) (.cells #[.int .i64 nu, .int .i64 bo, .slice A l1.length c, .int .i64 n1, .int .u32 (s1.toNat : Int), .slice A2 l2.length c2, .int .i64 n2, .int .u32 (s2.toNat : Int)] 64)
  have B1 := Blk.new w 64 #[.int .i64 nu, .int .i64 bo, .slice A l1.length c, .int .i64 n1, .int .u32 (s1.toNat : Int), .slice A2 l2.length c2, .int .i64 n2, .int .u32 (s2.toNat : Int)]
  by_cases cn : 0 ≤ nu ∧ nu ≤ 2147483647 ∧ 0 ≤ bo ∧ bo ≤ 2147483647
  · have HN : Hid ((segsOk segs [] (l1 ++ l2) && (lenOk ⟨l1, n1, s1⟩ && lenOk ⟨l2, n2, s2⟩)) = R) := Lib.hid (by rw [← HR.out, decide_eq_true cn, Bool.true_and])
    obtain ⟨cn1, cn2, cn3, cn4⟩ := cn
    go_wp2_with fail
    generalize (w.alloc (.cells #[.int .i64 nu, .int .i64 bo, .slice A l1.length c, .int .i64 n1, .int .u32 (s1.toNat : Int), .slice A2 l2.length c2, .int .i64 n2, .int .u32 (s2.toNat : Int)] 64)) = W at *
    obtain ⟨A3, c3, w2, hap1, ho1, hb2⟩ := append_ints W.drew W.heap.size (.slice none 0 0) [] (Own.nil _ _ _) A l1.length c l1 rfl ((h1.below b1).below (bdr (Below.refl _ _))) (by simp; omega) (Nat.le_refl _)
    have hb2' : Below W.heap.size W w2 := (bdr (Below.refl _ _)).trans hb2
    obtain ⟨A4, c4, w3, hap2, ho2, hb3⟩ := append_ints w2 W.heap.size _ _ ho1 A2 l2.length c2 l2 rfl ((h2.below b1).below hb2') (by simp; omega) hb2'.size
    have hb3' : Below W.heap.size W w3 := hb2'.trans hb3
    have b3 := bn b1 hb3'
    have B2 := B1.below hb2'
    have B3 := B1.below hb3'
    simp only [List.nil_append] at hap1 hap2 ho1 ho2
    have hr3 : Rd w3 A4 ((l1 ++ l2).map ei) := ho2.rd_at
    have hln : (l1 ++ l2).length ≤ 20000000 := by rw [List.length_append]; omega
    have x2 : W.cell? ⟨w.heap.size, 2, none⟩ = some (.slice A l1.length c) := B1.cell 2
    have x5 : W.cell? ⟨w.heap.size, 5, none⟩ = some (.slice A2 l2.length c2) := B1.cell 5
    have y2 : w2.cell? ⟨w.heap.size, 2, none⟩ = some (.slice A l1.length c) := B2.cell 2
    have y5 : w2.cell? ⟨w.heap.size, 5, none⟩ = some (.slice A2 l2.length c2) := B2.cell 5
    have z2 : w3.cell? ⟨w.heap.size, 2, none⟩ = some (.slice A l1.length c) := B3.cell 2
    have z5 : w3.cell? ⟨w.heap.size, 5, none⟩ = some (.slice A2 l2.length c2) := B3.cell 5
    clear h1 h2 ho1 ho2 hb2 hb3 hb2'
    generalize l1 ++ l2 = al at *
    go_region_held3 (fun V => V.cell? ⟨w.heap.size, 2, none⟩ = some (.slice A l1.length c) ∧ V.cell? ⟨w.heap.size, 5, none⟩ = some (.slice A2 l2.length c2))
      (first | (with_reducible exact ⟨z2, z5⟩) | (with_reducible exact ⟨y2, y5⟩) | exact ⟨x2, x5⟩) (fail)
    have HT := Lib.hid (fun (V : World) (hb : Below w3.heap.size w3 V) => B3.below hb)
    clear x2 x5 y2 y5 z2 z5 B1 B2 B3 hap1 hap2 hb3'
    go_wp2_with fail
    go_loopw [6] (fun i wr => ∃ k : Nat, k ≤ al.length ∧ i = .int .i64 (k : Int) ∧ Hid (segsOk segs [] al = segsOk segs (al.take k) (al.drop k)) ∧ Below w3.heap.size w3 wr) (fun i _ => al.length - (intOf i).toNat)
    case atStart => exact ⟨0, Nat.zero_le _, rfl, Lib.hid (by simp), Below.refl _ _⟩
    case round =>
      obtain ⟨k, hk, rfl, hall, hbr⟩ := hrel
      by_cases hlt : k < al.length
      · have hrk := hr3.below hbr
        obtain ⟨ad, rfl⟩ := hrk.some_of (by intro e; have := congrArg List.length e; rw [List.length_map] at this; simp only [List.length_nil] at this; omega)
        have x0 := hrk.at_ k (by rw [List.length_map]; exact hlt)
        rw [List.getElem_map] at x0
        unfold ei at x0
        have hst := segsOk_step segs [] al k hlt
        rw [List.nil_append] at hst
        have HALL := Lib.hid (hall.out.trans hst)
        have k0 : (0 : Int) ≤ (k : Int) := by omega
        have k1 : (k : Int) < (al.length : Int) := by omega
        have HB := Lib.hid (bn b3 hbr)
        have HXK : Hid (∀ V, Below wr.heap.size wr V → ∀ j (hj : j < al.length), V.cell? (ad.add j) = some (.int .i64 al[j])) := Lib.hid (fun V hb j hj => by
          have := (hrk.below hb).at_ j (by rw [List.length_map]; exact hj)
          rw [List.getElem_map] at this
          exact this)
        obtain ⟨x, hx⟩ : ∃ x, al[k] = x := ⟨_, rfl⟩
        rw [hx] at x0 hst HALL
        have HX := Lib.hid hx
        clear hst hx hall
        by_cases c1 : x < 0
        · go_wp2_with fail
          go_ret
          refine ⟨ret_bool ?_, HB.out⟩
          rw [← HN.out, HALL.out, decide_eq_false (by omega)]; rfl
        · by_cases c2 : segs ≤ x
          · go_wp2_with fail
            go_ret
            refine ⟨ret_bool ?_, HB.out⟩
            rw [← HN.out, HALL.out, decide_eq_false (by omega)]; rfl
          · go_wp2_with fail
            obtain ⟨wo, rfl⟩ : ∃ wo : World, wo = wr := ⟨_, rfl⟩
            clear x0 hrk
            have HBR := Lib.hid hbr
            clear hbr
            go_loopw [7] (fun j wr => ∃ q : Nat, q ≤ k ∧ j = .int .i64 (q : Int) ∧ Hid ((al.take q).contains x = false) ∧ Below wo.heap.size wo wr) (fun j _ => k - (intOf j).toNat)
            case atStart => exact ⟨0, by omega, rfl, Lib.hid (by simp), Below.refl _ _⟩
            case round =>
              obtain ⟨q, hq, rfl, hno, hbi⟩ := hrel
              by_cases hqk : q < k
              · have hql : q < al.length := by omega
                have y0 := HXK.out wr hbi q hql
                have y1 := HXK.out wr hbi k hlt
                rw [HX.out] at y1
                have HTK := Lib.hid (List.take_succ_eq_append_getElem hql)
                have HMEM := Lib.hid (List.getElem_mem (l := al) hql)
                have HTK2 : Hid (al[q] ∈ al.take k) := Lib.hid (by rw [List.mem_iff_getElem]; exact ⟨q, by rw [List.length_take]; omega, by rw [List.getElem_take]⟩)
                have HBW := Lib.hid (bn HB.out hbi)
                have q0 : (0 : Int) ≤ (q : Int) := by omega
                have q1 : (q : Int) < (al.length : Int) := by omega
                generalize al[q] = y at *
                cases e : (y == x) with
                | true =>
                  have HE := Lib.hid (eq_of_beq e)
                  go_wp2_with fail
                  go_quiet (fail)
                  go_wp2
                  go_ret
                  refine ⟨ret_bool ?_, below_drewN HBW.out nq⟩
                  rw [← HN.out, HALL.out, show (al.take k).contains x = true from by rw [List.contains_iff_mem, ← HE.out]; exact HTK2.out]
                  simp
                | false =>
                  have HE := Lib.hid (ne_of_beq_false e)
                  go_wp2_with fail
                  go_quiet (fail)
                  have HBI' := Lib.hid (below_drewN hbi nq)
                  generalize wr.drewN nq = wo2 at *
                  go_wp2_with fail
                  go_roundw
                  case rel => exact ⟨q + 1, by omega, by go_num, Lib.hid (by rw [HTK.out]; have h1 := hno.out; have h2 := HE.out; simp only [List.contains_eq_mem, decide_eq_false_iff_not, List.mem_append, List.mem_singleton] at h1 ⊢; rintro (h | h); exact h1 h; exact h2 h.symm), HBI'.out⟩
                  case measure => simp [intOf]; try omega
              · obtain rfl : q = k := by omega
                have HNX := hno
                have HBW := Lib.hid (bn HBR.out hbi)
                go_wp2_with fail
                go_roundw
                case rel => exact ⟨q + 1, by omega, by go_num, Lib.hid (by rw [HALL.out, HNX.out, decide_eq_true ⟨by omega, by omega⟩]; rfl), HBW.out⟩
                case measure => simp [intOf]; try omega
      · obtain rfl : k = al.length := by omega
        rw [List.take_length, List.drop_length] at hall
        have HF : Hid ((lenOk ⟨l1, n1, s1⟩ && lenOk ⟨l2, n2, s2⟩) = R) := Lib.hid (by rw [← HN.out, hall.out]; rfl)
        have HB := Lib.hid (bn b3 hbr)
        have B := HT.out wr hbr
        have x2 : wr.cell? ⟨w.heap.size, 2, none⟩ = some (.slice A l1.length c) := B.cell 2
        have x3 : wr.cell? ⟨w.heap.size, 3, none⟩ = some (.int .i64 n1) := B.cell 3
        have x5 : wr.cell? ⟨w.heap.size, 5, none⟩ = some (.slice A2 l2.length c2) := B.cell 5
        have x6 : wr.cell? ⟨w.heap.size, 6, none⟩ = some (.int .i64 n2) := B.cell 6
        clear B hall hbr hr3
        go_wp2_with fail
        all_goals go_ret
        all_goals refine ⟨ret_bool ?_, HB.out⟩
        all_goals rw [← HF.out]
        all_goals unfold lenOk
        all_goals simp only
        all_goals first
          | (rw [Bool.eq_iff_iff]; simp only [Bool.and_eq_true, decide_eq_true_iff]; omega)
          | (rw [Bool.eq_iff_iff]; simp only [Bool.and_eq_true, decide_eq_true_iff, Bool.false_eq_true, false_iff]; omega)
  · have HN : Hid (R = false) := Lib.hid (by rw [← HR.out, decide_eq_false cn]; rfl)
    go_wp2_with fail
    all_goals first
      | (exfalso; omega)
      | (go_ret
         exact ⟨ret_bool (by rw [HN.out]), b1⟩)
end Go.Proofs.Ytangfnenfhkokaa
