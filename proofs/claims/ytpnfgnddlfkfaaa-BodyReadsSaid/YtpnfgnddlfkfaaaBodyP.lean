/-
  Bodies: Write. (printed by genwrite.py)
-/
import Derived.Test.YtpnfgnddlfkfaaaBodyT
set_option linter.unusedSimpArgs false
set_option linter.unusedVariables false
namespace Go.Proofs.Ytpnfgnddlfkfaaa
open Go.RowKit

def sumLen : List Part → Int
  | [] => 0
  | p :: l => p.len + sumLen l
theorem sumLen_append (l m : List Part) : sumLen (l ++ m) = sumLen l + sumLen m := by
  induction l with
  | nil => simp [sumLen]
  | cons p l ih => simp only [List.cons_append, sumLen, ih]; omega
theorem sumLen_fits {l : List Part} (h : l.all fits = true) : 0 ≤ sumLen l ∧ sumLen l ≤ 64 * (l.length : Int) := by
  induction l with
  | nil => simp [sumLen]
  | cons p l ih =>
    rw [List.all_cons, Bool.and_eq_true] at h
    have h1 := (fits_iff p).1 h.1
    have h2 := ih h.2
    simp only [sumLen, List.length_cons]
    omega
theorem all_take {l : List Part} (h : l.all fits = true) (k : Nat) : (l.take k).all fits = true := by
  rw [List.all_eq_true] at h ⊢
  exact fun p hp => h p (List.mem_of_mem_take hp)
def placed : Int → List Part → List Part
  | _, [] => []
  | x, p :: l => ⟨x, p.len, p.chunk, p.at_⟩ :: placed (x + p.len) l
theorem placed_append (x : Int) (l m : List Part) : placed x (l ++ m) = placed x l ++ placed (x + sumLen l) m := by
  induction l generalizing x with
  | nil => simp [placed, sumLen]
  | cons p l ih => simp only [List.cons_append, placed, sumLen, ih]; rw [Int.add_assoc]
theorem placed_length (x : Int) (l : List Part) : (placed x l).length = l.length := by
  induction l generalizing x with
  | nil => rfl
  | cons p l ih => simp [placed, ih]
def writeR (size : Int) (ps : List Part) (off : Int) (l : List Part) : Int × List Part × Int :=
  if bodyMay size ps = true ∧ l.all fits = true then
    (if 0 ≤ off ∧ off ≤ 1099511627776 - sumLen l then (if l = [] then (size, ps, 0) else (max size (off + sumLen l), (ps.filterMap (fun p => aheadP p off) ++ placed off l) ++ ps.filterMap (fun p => behindP p (off + sumLen l)), 0)) else (0, [], 9))
  else (0, [], 1)

set_option maxHeartbeats 1000000 in
theorem clone_parts (A : Option Addr) (n c : Nat) (ps : List Part) (w : World) (hn : ps.length = n) (hl : n ≤ 100000) (hr : Rd w A (pcs ps)) :
    Calls Try.prog 57 #[.slice A n c] w fun e w' => ∃ A' c', e = .returned (.slice A' n c') ∧ PRow w' w.heap.size (.slice A' n c') ps ∧ Below w.heap.size w w' := by
  subst hn
  cases A with
  | none =>
    have e0 : ps = [] := by
      cases ps with
      | nil => rfl
      | cons x l => obtain ⟨ad, e, _⟩ := hr 0 _ rfl; cases e
    subst e0
    clear hr hl
    have heq := fun W : World => run_eql_slice_nil (P := Try.prog) W 44 50 none 0 c Try.underlying44
    go_enter Try.func57, Try.ntmps57
    go_wp2
    go_ret
    exact ⟨_, _, rfl, ORow.nil _ _ _, Below.refl _ _⟩
  | some ad =>
    obtain ⟨i, hi, hz, hsize, hbyt⟩ := info_parts info_part
    have h0 : ORow (f := pc) (w.alloc (.cells #[] 50)) w.heap.size 50 4 (.slice (some ⟨w.heap.size, 0, none⟩) 0 0) [] :=
      ⟨by simp [flat], .inr ⟨w.heap.size, 0, #[], rfl, Nat.le_refl _, heap_alloc_new _ _, Nat.le_refl _, by unfold maxLen; omega, by simp, by simp [flat]⟩⟩
    obtain ⟨v', w', h2, h3, h4, _⟩ := run_append_own (P := Try.prog) (w.alloc (.cells #[] 50)) w.heap.size 44 44 50 i _ 4 32 Try.underlying44 hi hz hsize hbyt rfl (by omega) (.slice (some ⟨w.heap.size, 0, none⟩) 0 0) 0 [] h0 ad ps.length c (pcs ps) (by unfold pcs; rw [flat_length pc_len]) (fun j u hj => by obtain ⟨ad', e, hc⟩ := (hr.below (bal (Below.refl w.heap.size w) (.cells #[] 50))) j u hj; cases e; exact hc) (fun u hu => by unfold pcs flat at hu; rw [List.mem_flatten] at hu; obtain ⟨x, hx, hu⟩ := hu; obtain ⟨p, _, rfl⟩ := List.mem_map.1 hx; exact pc_one p u hu) (by unfold maxLen; omega) (by omega) (by simp)
    rw [Nat.zero_add, List.nil_append] at h3
    have h5 : PRow w' w.heap.size v' ps := h3
    obtain ⟨A', c', rfl, _⟩ := ORow.read h5
    have hb2 : Below w.heap.size w w' := (bal (Below.refl w.heap.size w) _).grown h4 (by simp) fun k hk => (h0.lt k hk).1
    have HR := Lib.hid h2
    clear h2 h3 h4 hr
    have heq := fun W : World => run_eql_slice_nil (P := Try.prog) W 44 50 (some ad) ps.length c Try.underlying44
    go_enter Try.func57, Try.ntmps57
    go_wp2_with (at_builtin; refine wpList_append_run rfl _ _ 44 44 rfl _ _ _ _ rfl rfl HR.out ?_)
    go_ret
    exact ⟨_, _, rfl, h5, hb2⟩

set_option maxRecDepth 100000 in
set_option maxHeartbeats 8000000 in
theorem body_writeF (size : Int) (A : Option Addr) (n c : Nat) (ps : List Part) (off : Int) (Al : Option Addr) (nl cl : Nat) (l : List Part) (w : World) (hn : ps.length = n) (hl : n ≤ 100000) (hr : Rd w A (pcs ps)) (hnl : l.length = nl) (hll : nl ≤ 1000) (hrl : Rd w Al (pcs l)) :
    Calls Try.prog 24 #[bv size A n c, .int .i64 off, .slice Al nl cl] w fun e w' => BodyResF w w' (writeR size ps off l).1 (writeR size ps off l).2.1 (writeR size ps off l).2.2 e := by
  subst hn hnl
  have HR := Lib.hid hr
  have HRL := Lib.hid hrl
  have HM := fun W (h : Below w.heap.size w W) => body_may size A ps.length c ps W rfl (by omega) (hr.below h)
  have HCB := Lib.hid fun W (h : Below w.heap.size w W) => contains_bad Al l.length cl l W rfl (by omega) (hrl.below h)
  unfold bv at HM ⊢
  replace HM := Lib.hid HM
  clear hr hrl
  have hB0 := (Blk.new w 46 #[.int .i64 size, .slice A ps.length c]).alloc (.cells #[.int .i64 0, .slice none 0 0] 46)
  have hz0 : (w.alloc (.cells #[.int .i64 size, .slice A ps.length c] 46)).heap.size = w.heap.size + 1 := by simp
  have hT0 := Blk.new (w.alloc (.cells #[.int .i64 size, .slice A ps.length c] 46)) 46 #[.int .i64 0, .slice none 0 0]
  rw [hz0] at hT0
  have hb0 := bal (bal (Below.refl w.heap.size w) (.cells #[.int .i64 size, .slice A ps.length c] 46)) (.cells #[.int .i64 0, .slice none 0 0] 46)
  have hz1 : ((w.alloc (.cells #[.int .i64 size, .slice A ps.length c] 46)).alloc (.cells #[.int .i64 0, .slice none 0 0] 46)).heap.size = w.heap.size + 2 := by simp
  have hst : ∀ W, Below w.heap.size w W → Below w.heap.size w ((W.setCell ⟨w.heap.size + 1, 0, none⟩ (.int .i64 0)).setCell ⟨w.heap.size + 1, 1, none⟩ (.slice none 0 0)) := fun W h => (h.setCell (by simp only; omega) _).setCell (by simp only; omega) _
  have HST := Lib.hid hst
  clear hst
  cases hm : bodyMay size ps with
  | false =>
    have HMM := Lib.hid hm
    have HT : Hid (writeR size ps off l = (0, [], 1)) := Lib.hid (by unfold writeR; rw [hm, if_neg (by simp)])
    clear hm
    rw [HT.out]
    go_enter Try.func24, Try.ntmps24
    go_wp2_with fail
    (with_reducible refine (HM.out _ hb0).mono ?_)
    rintro e w5 ⟨rfl, hb5⟩
    rw [HMM.out]
    have hT := hT0.below hb5
    have hbb := bn hb0 hb5
    have t0 : w5.cell? ⟨w.heap.size + 1, 0, none⟩ = some (.int .i64 0) := hT.cell 0
    have t1 : w5.cell? ⟨w.heap.size + 1, 1, none⟩ = some (.slice none 0 0) := hT.cell 1
    have u0 := hT.frozen 0
    have u1 := hT.frozen 1
    clear hB0 hT0 hb0 hb5
    go_wp2
    refine bodyPost_ret (res_body (T := w.heap.size + 1) Try.results24 rfl rfl rfl (blk_set2 hT)) rfl ?_
    exact ⟨none, 0, rfl, Rd.nil _ _, (fun _ h => by cases h), HST.out _ hbb⟩
  | true =>
    have HMM := Lib.hid hm
    obtain ⟨⟨hs0, hs1⟩, hnear⟩ := bodyMay_near hm
    have HNEAR := Lib.hid hnear
    clear hnear
    cases hf : l.all fits with
    | false =>
      have HFF := Lib.hid hf
      have HT : Hid (writeR size ps off l = (0, [], 1)) := Lib.hid (by unfold writeR; rw [hm, hf, if_neg (by simp)])
      clear hm hf
      rw [HT.out]
      go_enter Try.func24, Try.ntmps24
      go_wp2_with fail
      (with_reducible refine (HM.out _ hb0).mono ?_)
      rintro e w4 ⟨rfl, hb4⟩
      rw [HMM.out]
      have hT04 := hT0.below hb4
      have hb04 := bn hb0 hb4
      clear hT0 hb0 hb4
      have hT0 := hT04
      have hb0 := hb04
      clear hT04 hb04
      go_wp2_with fail
      (with_reducible refine (HCB.out _ hb0).mono ?_)
      rintro e w5 ⟨rfl, hb5⟩
      rw [HFF.out]
      have hT := hT0.below hb5
      have hbb := bn hb0 hb5
      have t0 : w5.cell? ⟨w.heap.size + 1, 0, none⟩ = some (.int .i64 0) := hT.cell 0
      have t1 : w5.cell? ⟨w.heap.size + 1, 1, none⟩ = some (.slice none 0 0) := hT.cell 1
      have u0 := hT.frozen 0
      have u1 := hT.frozen 1
      clear hB0 hT0 hb0 hb5
      go_wp2
      refine bodyPost_ret (res_body (T := w.heap.size + 1) Try.results24 rfl rfl rfl (blk_set2 hT)) rfl ?_
      exact ⟨none, 0, rfl, Rd.nil _ _, (fun _ h => by cases h), HST.out _ hbb⟩
    | true =>
      have HFF := Lib.hid hf
      have hsum := sumLen_fits hf
      have HT0 : Hid (writeR size ps off l = if 0 ≤ off ∧ off ≤ 1099511627776 - sumLen l then (if l = [] then (size, ps, 0) else (max size (off + sumLen l), (ps.filterMap (fun p => aheadP p off) ++ placed off l) ++ ps.filterMap (fun p => behindP p (off + sumLen l)), 0)) else (0, [], 9)) := Lib.hid (by unfold writeR; rw [hm, hf, if_pos ⟨rfl, rfl⟩])
      clear hm hf
      generalize writeR size ps off l = RR at *
      go_enter Try.func24, Try.ntmps24
      go_wp2_with fail
      (with_reducible refine (HM.out _ hb0).mono ?_)
      rintro e w4 ⟨rfl, hb4⟩
      rw [HMM.out]
      have hT4 := hT0.below hb4
      have hB4 := hB0.below hb4
      have hb04 := bn hb0 hb4
      have hz4 := hb4.size
      rw [hz1] at hz4
      clear hT0 hB0 hb0 hb4 hz1 hz0
      go_wp2_with fail
      (with_reducible refine (HCB.out _ hb04).mono ?_)
      rintro e w3 ⟨rfl, hb3⟩
      rw [HFF.out]
      have hT3 := Lib.hid (hT4.below hb3)
      have hB3 := Lib.hid (hB4.below hb3)
      have hb03 := Lib.hid (bn hb04 hb3)
      have hz3 := Nat.le_trans hz4 hb3.size
      clear hT4 hB4 hb04 hz4 hb3
      simp only [Bool.not_true]
      go_wp2
      go_loopw [8, 33] (fun a i wr => ∃ (k : Nat) (x : Int), k ≤ l.length ∧ i = .int .i64 (k : Int) ∧ a = .int .i64 x ∧ Hid (x = sumLen (l.take k)) ∧ Below w3.heap.size w3 wr) (fun _ i _ => l.length - (intOf i).toNat)
      case atStart => exact ⟨0, 0, Nat.zero_le _, rfl, rfl, rfl, Below.refl _ _⟩
      case round =>
        obtain ⟨k, x, hk, rfl, rfl, hx, hb⟩ := hrel
        by_cases hlt : k < l.length
        · obtain ⟨b, o, rfl, hblt, hcell⟩ := part_at HRL.out k hlt
          have hbw := bn hb03.out hb
          obtain ⟨q0, q1, q2, q3⟩ := hcell wr hbw
          have hst : l.take (k + 1) = l.take k ++ [l[k]] := List.take_succ_eq_append_getElem hlt
          have hfp := (fits_iff _).1 (List.all_eq_true.1 HFF.out _ (List.getElem_mem hlt))
          have hsk := sumLen_fits (all_take HFF.out k)
          have hkl : (l.take k).length = k := by rw [List.length_take]; omega
          rw [← hx.out, hkl] at hsk
          have HP2 : Hid (x + l[k].len = sumLen (l.take (k + 1))) := Lib.hid (by rw [hst, sumLen_append, ← hx.out]; simp [sumLen])
          clear hst hcell hkl
          generalize l[k] = p at *
          obtain ⟨po, pl, pch, pat⟩ := p
          simp only at q0 q1 q2 q3 HP2 hfp
          obtain ⟨f1, f2, _⟩ := hfp
          obtain ⟨s1, s2⟩ := hsk
          have i0 : (0 : Int) ≤ (k : Int) := by omega
          have i1 : (k : Int) < (l.length : Int) := by omega
          have hb8 := bal hb (.cells #[.int .i64 po, .int .i64 pl, .int .i64 pch, .int .i64 pat] 50)
          clear hb hbw
          go_wp2
          go_roundw
          case rel => exact ⟨k + 1, x + pl, by omega, by go_num, rfl, HP2, hb8⟩
          case measure => simp [intOf]; try omega
        · obtain rfl : k = l.length := by omega
          have hxs := hx.out
          rw [List.take_length] at hxs
          have hT := hT3.out.below hb
          have hB := hB3.out.below hb
          have hbb := bn hb03.out hb
          have hz5 := Nat.le_trans hz3 hb.size
          rw [← hxs] at hsum
          have HXS := Lib.hid hxs
          clear hx hxs hb HM HCB
          generalize wr = w5 at *
          have HHT := Lib.hid hT
          have HHB := Lib.hid hB
          have HBB := Lib.hid hbb
          by_cases hoff : 0 ≤ off ∧ off ≤ 1099511627776 - x
          · obtain ⟨ho0, ho1⟩ := hoff
            have x0 : w5.cell? ⟨w.heap.size, 0, none⟩ = some (.int .i64 size) := hB.cell 0
            have x2 : (w5.alloc (.cells #[.int .i64 size, .slice none 0 0] 46)).cell? ⟨w.heap.size, 1, none⟩ = some (.slice A ps.length c) := (hB.alloc _).cell 1
            have HXP : Hid (∀ W, Below w5.heap.size w5 W → W.cell? ⟨w.heap.size, 1, none⟩ = some (.slice A ps.length c)) := fun W h => (HHB.out.below h).cell 1
            have hG5 := Blk.new w5 46 #[.int .i64 size, .slice none 0 0]
            have hb6 := bal (Below.refl w5.heap.size w5) (.cells #[.int .i64 size, .slice none 0 0] 46)
            have HN5 := Lib.hid hz5
            clear hT hB hz5 hbb
            go_wp2
            go_loopw [57] (fun i wr => ∃ (k : Nat) (v : Value), k ≤ ps.length ∧ i = .int .i64 (k : Int) ∧ Blk wr w5.heap.size 46 #[.int .i64 size, v] ∧ PRow wr w5.heap.size v ((ps.take k).filterMap (fun p => aheadP p off)) ∧ Below w5.heap.size w5 wr) (fun i _ => ps.length - (intOf i).toNat)
            case atStart => exact ⟨0, _, Nat.zero_le _, rfl, hG5, ORow.nil _ _ _, hb6⟩
            case round =>
              clear hG5 hb6 x0 x2
              obtain ⟨k, v, hk, rfl, hG, hv, hb⟩ := hrel
              by_cases hlt : k < ps.length
              · obtain ⟨b, o, rfl, hblt, hcell⟩ := part_at HR.out k hlt
                have hbw := HBB.out.trans (hb.mono HBB.out.size)
                obtain ⟨q0, q1, q2, q3⟩ := hcell wr hbw
                have hst : ps.take (k + 1) = ps.take k ++ [ps[k]] := List.take_succ_eq_append_getElem hlt
                have hn := HNEAR.out _ (List.getElem_mem hlt)
                have HP2 : Hid ((ps.take (k + 1)).filterMap (fun p => aheadP p off) = ((ps.take k).filterMap (fun p => aheadP p off)) ++ (aheadP ps[k] off).toList) := Lib.hid (by rw [hst, List.filterMap_append]; cases h : aheadP ps[k] off <;> simp [h])
                have HA := fun W => body_ahead ps[k] off (by omega) (by omega) W hn
                have hlen : ((ps.take k).filterMap (fun p => aheadP p off)).length ≤ 200000 + k := by
                  have h9 : ((ps.take k).filterMap (fun p => aheadP p off)).length ≤ k := Nat.le_trans (List.length_filterMap_le _ _) (by rw [List.length_take]; omega)
                  skip
                  omega
                clear hst hcell hn
                generalize ps[k] = p at *
                generalize hLk : (ps.take k).filterMap (fun p => aheadP p off) = L at *
                clear hLk
                obtain ⟨po, pl, pch, pat⟩ := p
                rw [pv_mk] at HA
                simp only at q0 q1 q2 q3
                have i0 : (0 : Int) ≤ (k : Int) := by omega
                have i1 : (k : Int) < (ps.length : Int) := by omega
                cases ha : aheadP ⟨po, pl, pch, pat⟩ off with
                | none =>
                  rw [ha] at HA HP2
                  simp only [Option.getD_none, Option.isSome_none, Option.toList_none, List.append_nil] at HA HP2
                  replace HA := Lib.hid HA
                  go_wp2_with fail
                  (with_reducible refine (HA.out _).mono ?_)
                  rintro e w6 ⟨rfl, hb6⟩
                  have hbq := bn (bal (Below.refl wr.heap.size wr) _) hb6
                  have hG6 := (hG.below hbq).alloc (.cells #[.int .i64 0, .int .i64 0, .int .i64 0, .int .i64 0] 50)
                  have hb7 := bal hbq (.cells #[.int .i64 0, .int .i64 0, .int .i64 0, .int .i64 0] 50)
                  have hv6 := ORow.below hv hb7
                  have hb8 := hb.trans (hb7.mono hb.size)
                  clear hb6 hbq hb7 hG hv hb q0 q1 q2 q3 hbw
                  rw [show pv zeroP = .agg #[.int .i64 0, .int .i64 0, .int .i64 0, .int .i64 0] from rfl]
                  go_wp2
                  go_roundw
                  case rel => exact ⟨k + 1, v, by omega, by go_num, hG6, by rw [HP2.out]; exact hv6, hb8⟩
                  case measure => simp [intOf]; try omega
                | some q =>
                  rw [ha] at HA HP2
                  simp only [Option.getD_some, Option.isSome_some, Option.toList_some] at HA HP2
                  replace HA := Lib.hid HA
                  go_wp2_with fail
                  (with_reducible refine (HA.out _).mono ?_)
                  rintro e w6 ⟨rfl, hb6⟩
                  obtain ⟨qo, ql, qch, qat⟩ := q
                  rw [pv_mk]
                  have hbq := bn (bal (Below.refl wr.heap.size wr) _) hb6
                  have hG6 := (hG.below hbq).alloc (.cells #[.int .i64 qo, .int .i64 ql, .int .i64 qch, .int .i64 qat] 50)
                  have hb7 := bal hbq (.cells #[.int .i64 qo, .int .i64 ql, .int .i64 qch, .int .i64 qat] 50)
                  have hv6 := ORow.below hv hb7
                  have hb8 := hb.trans (hb7.mono hb.size)
                  have y1 : (w6.alloc (.cells #[.int .i64 qo, .int .i64 ql, .int .i64 qch, .int .i64 qat] 50)).cell? ⟨w5.heap.size, 1, none⟩ = some v := hG6.cell 1
                  obtain ⟨A9, k9, w9, HR9, c9, f9, hG9, hv9, hb9⟩ := grow_out (w6.alloc (.cells #[.int .i64 qo, .int .i64 ql, .int .i64 qch, .int .i64 qat] 50)) w5.heap.size w5.heap.size _ v L ⟨qo, ql, qch, qat⟩ hG6 hv6 (by omega) (Nat.le_refl _) hb8.size (w6.heap.size + 1) (by simp)
                  have hb10 := hb8.trans hb9
                  clear hb6 hbq hb7 hG hv hb q0 q1 q2 q3 hbw hG6 hv6 hb8 hb9
                  go_wp2_with (at_builtin; refine wpList_append_run rfl _ _ 44 44 rfl _ _ _ _ rfl rfl HR9.out ?_)
                  go_roundw
                  case rel => exact ⟨k + 1, _, by omega, by go_num, hG9, by rw [HP2.out]; exact hv9, hb10⟩
                  case measure => simp [intOf]; try omega
              · obtain rfl : k = ps.length := by omega
                rw [List.take_length] at hv
                have hL1 : (ps.filterMap (fun p => aheadP p off)).length ≤ ps.length := List.length_filterMap_le _ _
                obtain ⟨L1, hLL1⟩ : ∃ L1, ps.filterMap (fun p => aheadP p off) = L1 := ⟨_, rfl⟩
                rw [hLL1] at hv hL1
                have HL1 := Lib.hid hLL1
                clear hLL1
                go_wp2
                go_loopw [16, 78] (fun a i wr => ∃ (k : Nat) (v : Value) (y : Int), k ≤ l.length ∧ i = .int .i64 (k : Int) ∧ a = .int .i64 y ∧ Hid (y = off + sumLen (l.take k)) ∧ Blk wr w5.heap.size 46 #[.int .i64 size, v] ∧ PRow wr w5.heap.size v (L1 ++ placed off (l.take k)) ∧ Below w5.heap.size w5 wr) (fun _ i _ => l.length - (intOf i).toNat)
                case atStart => exact ⟨0, _, off, Nat.zero_le _, rfl, rfl, Lib.hid (by simp [sumLen]), hG, by rw [List.take_zero, show placed off [] = [] from rfl, List.append_nil]; exact hv, hb⟩
                case round =>
                  clear hG hb hv
                  obtain ⟨k, v, y, hk, rfl, rfl, hy, hG, hv, hb⟩ := hrel
                  by_cases hlt : k < l.length
                  · obtain ⟨b, o, rfl, hblt, hcell⟩ := part_at HRL.out k hlt
                    have hbw := HBB.out.trans (hb.mono HBB.out.size)
                    obtain ⟨q0, q1, q2, q3⟩ := hcell wr hbw
                    have hst : l.take (k + 1) = l.take k ++ [l[k]] := List.take_succ_eq_append_getElem hlt
                    have hfp := (fits_iff _).1 (List.all_eq_true.1 HFF.out _ (List.getElem_mem hlt))
                    have hsk := sumLen_fits (all_take HFF.out k)
                    have hsd := sumLen_fits (l := l.drop k) (by rw [List.all_eq_true]; exact fun p hp => List.all_eq_true.1 HFF.out p (List.mem_of_mem_drop hp))
                    have hsx : x = sumLen (l.take k) + sumLen (l.drop k) := by rw [HXS.out, ← sumLen_append, List.take_append_drop]
                    have hy1 : 0 ≤ y ∧ y ≤ 1099511627776 := by rw [hy.out]; omega
                    have HP2 : Hid (y + l[k].len = off + sumLen (l.take (k + 1))) := Lib.hid (by rw [hst, sumLen_append, hy.out]; simp [sumLen]; omega)
                    have HP3 : Hid (L1 ++ placed off (l.take (k + 1)) = (L1 ++ placed off (l.take k)) ++ [⟨y, l[k].len, l[k].chunk, l[k].at_⟩]) := Lib.hid (by rw [hst, placed_append, ← hy.out, List.append_assoc]; rfl)
                    have hlen : (L1 ++ placed off (l.take k)).length ≤ 200000 := by rw [List.length_append, placed_length, List.length_take]; omega
                    clear hst hcell hsk hsd hsx
                    generalize l[k] = p at *
                    generalize L1 ++ placed off (l.take k) = L at *
                    obtain ⟨po, pl, pch, pat⟩ := p
                    simp only at q0 q1 q2 q3 HP2 HP3 hfp
                    obtain ⟨f1, f2, f3, f4, f5, f6⟩ := hfp
                    obtain ⟨s1, s2⟩ := hy1
                    have HEN := fun W => part_end ⟨y, pl, pch, pat⟩ W ⟨by simp only; omega, by simp only; omega, f1, f2, f5, by simp only; omega⟩
                    rw [pv_mk] at HEN
                    replace HEN := Lib.hid HEN
                    have i0 : (0 : Int) ≤ (k : Int) := by omega
                    have i1 : (k : Int) < (l.length : Int) := by omega
                    go_wp2_with fail
                    (with_reducible refine (HEN.out _).mono ?_)
                    rintro e w6 ⟨rfl, hb6⟩
                    have hBp := (Blk.new wr 50 #[.int .i64 y, .int .i64 pl, .int .i64 pch, .int .i64 pat]).below hb6
                    have z0 : w6.cell? ⟨wr.heap.size, 0, none⟩ = some (.int .i64 y) := hBp.cell 0
                    have z1 : w6.cell? ⟨wr.heap.size, 1, none⟩ = some (.int .i64 pl) := hBp.cell 1
                    have z2 : w6.cell? ⟨wr.heap.size, 2, none⟩ = some (.int .i64 pch) := hBp.cell 2
                    have z3 : w6.cell? ⟨wr.heap.size, 3, none⟩ = some (.int .i64 pat) := hBp.cell 3
                    have hbq := bn (bal (Below.refl wr.heap.size wr) _) hb6
                    have hG6 := hG.below hbq
                    have hv6 := ORow.below hv hbq
                    have hb8 := hb.trans (hbq.mono hb.size)
                    have y1 : w6.cell? ⟨w5.heap.size, 1, none⟩ = some v := hG6.cell 1
                    obtain ⟨A9, k9, w9, HR9, c9, f9, hG9, hv9, hb9⟩ := grow_out w6 w5.heap.size w5.heap.size _ v L ⟨y, pl, pch, pat⟩ hG6 hv6 (by omega) (Nat.le_refl _) hb8.size w6.heap.size rfl
                    have hb10 := hb8.trans hb9
                    clear hb6 hbq hG hv hb q0 q1 q2 q3 hbw hG6 hv6 hb8 hb9 hBp
                    go_wp2_with (at_builtin; refine wpList_append_run rfl _ _ 44 44 rfl _ _ _ _ rfl rfl HR9.out ?_)
                    go_roundw
                    case rel => exact ⟨k + 1, _, y + pl, by omega, by go_num, rfl, HP2, hG9, by rw [HP3.out]; exact hv9, hb10⟩
                    case measure => simp [intOf]; try omega
                  · obtain rfl : k = l.length := by omega
                    rw [List.take_length] at hv
                    have hyx : y = off + x := by rw [hy.out, List.take_length, HXS.out]
                    subst hyx
                    have hL2 : (L1 ++ placed off l).length ≤ 200000 := by rw [List.length_append, placed_length]; omega
                    obtain ⟨L2, hLL2⟩ : ∃ L2, L1 ++ placed off l = L2 := ⟨_, rfl⟩
                    rw [hLL2] at hv hL2
                    have HL2 := Lib.hid hLL2
                    clear hLL2 hy
                    have xp := HXP.out _ hb
                    go_wp2
                    go_loopw [96] (fun i wr => ∃ (k : Nat) (v : Value), k ≤ ps.length ∧ i = .int .i64 (k : Int) ∧ Blk wr w5.heap.size 46 #[.int .i64 size, v] ∧ PRow wr w5.heap.size v (L2 ++ (ps.take k).filterMap (fun p => behindP p (off + x))) ∧ Below w5.heap.size w5 wr) (fun i _ => ps.length - (intOf i).toNat)
                    case atStart => exact ⟨0, _, Nat.zero_le _, rfl, hG, by simpa using hv, hb⟩
                    case round =>
                      clear hG hb hv xp
                      obtain ⟨k, v, hk, rfl, hG, hv, hb⟩ := hrel
                      by_cases hlt : k < ps.length
                      · obtain ⟨b, o, rfl, hblt, hcell⟩ := part_at HR.out k hlt
                        have hbw := HBB.out.trans (hb.mono HBB.out.size)
                        obtain ⟨q0, q1, q2, q3⟩ := hcell wr hbw
                        have hst : ps.take (k + 1) = ps.take k ++ [ps[k]] := List.take_succ_eq_append_getElem hlt
                        have hn := HNEAR.out _ (List.getElem_mem hlt)
                        have HP2 : Hid (L2 ++ (ps.take (k + 1)).filterMap (fun p => behindP p (off + x)) = (L2 ++ (ps.take k).filterMap (fun p => behindP p (off + x))) ++ (behindP ps[k] (off + x)).toList) := Lib.hid (by rw [hst, List.filterMap_append]; cases h : behindP ps[k] (off + x) <;> simp [h])
                        have HA := fun W => body_behind ps[k] (off + x) (by omega) (by omega) W hn
                        have hlen : (L2 ++ (ps.take k).filterMap (fun p => behindP p (off + x))).length ≤ 200000 + k := by
                          have h9 : ((ps.take k).filterMap (fun p => behindP p (off + x))).length ≤ k := Nat.le_trans (List.length_filterMap_le _ _) (by rw [List.length_take]; omega)
                          rw [List.length_append]
                          omega
                        clear hst hcell hn
                        generalize ps[k] = p at *
                        generalize hLk : L2 ++ (ps.take k).filterMap (fun p => behindP p (off + x)) = L at *
                        clear hLk
                        obtain ⟨po, pl, pch, pat⟩ := p
                        rw [pv_mk] at HA
                        simp only at q0 q1 q2 q3
                        have i0 : (0 : Int) ≤ (k : Int) := by omega
                        have i1 : (k : Int) < (ps.length : Int) := by omega
                        cases ha : behindP ⟨po, pl, pch, pat⟩ (off + x) with
                        | none =>
                          rw [ha] at HA HP2
                          simp only [Option.getD_none, Option.isSome_none, Option.toList_none, List.append_nil] at HA HP2
                          replace HA := Lib.hid HA
                          go_wp2_with fail
                          (with_reducible refine (HA.out _).mono ?_)
                          rintro e w6 ⟨rfl, hb6⟩
                          have hbq := bn (bal (Below.refl wr.heap.size wr) _) hb6
                          have hG6 := (hG.below hbq).alloc (.cells #[.int .i64 0, .int .i64 0, .int .i64 0, .int .i64 0] 50)
                          have hb7 := bal hbq (.cells #[.int .i64 0, .int .i64 0, .int .i64 0, .int .i64 0] 50)
                          have hv6 := ORow.below hv hb7
                          have hb8 := hb.trans (hb7.mono hb.size)
                          clear hb6 hbq hb7 hG hv hb q0 q1 q2 q3 hbw
                          rw [show pv zeroP = .agg #[.int .i64 0, .int .i64 0, .int .i64 0, .int .i64 0] from rfl]
                          go_wp2
                          go_roundw
                          case rel => exact ⟨k + 1, v, by omega, by go_num, hG6, by rw [HP2.out]; exact hv6, hb8⟩
                          case measure => simp [intOf]; try omega
                        | some q =>
                          rw [ha] at HA HP2
                          simp only [Option.getD_some, Option.isSome_some, Option.toList_some] at HA HP2
                          replace HA := Lib.hid HA
                          go_wp2_with fail
                          (with_reducible refine (HA.out _).mono ?_)
                          rintro e w6 ⟨rfl, hb6⟩
                          obtain ⟨qo, ql, qch, qat⟩ := q
                          rw [pv_mk]
                          have hbq := bn (bal (Below.refl wr.heap.size wr) _) hb6
                          have hG6 := (hG.below hbq).alloc (.cells #[.int .i64 qo, .int .i64 ql, .int .i64 qch, .int .i64 qat] 50)
                          have hb7 := bal hbq (.cells #[.int .i64 qo, .int .i64 ql, .int .i64 qch, .int .i64 qat] 50)
                          have hv6 := ORow.below hv hb7
                          have hb8 := hb.trans (hb7.mono hb.size)
                          have y1 : (w6.alloc (.cells #[.int .i64 qo, .int .i64 ql, .int .i64 qch, .int .i64 qat] 50)).cell? ⟨w5.heap.size, 1, none⟩ = some v := hG6.cell 1
                          obtain ⟨A9, k9, w9, HR9, c9, f9, hG9, hv9, hb9⟩ := grow_out (w6.alloc (.cells #[.int .i64 qo, .int .i64 ql, .int .i64 qch, .int .i64 qat] 50)) w5.heap.size w5.heap.size _ v L ⟨qo, ql, qch, qat⟩ hG6 hv6 (by omega) (Nat.le_refl _) hb8.size (w6.heap.size + 1) (by simp)
                          have hb10 := hb8.trans hb9
                          clear hb6 hbq hb7 hG hv hb q0 q1 q2 q3 hbw hG6 hv6 hb8 hb9
                          go_wp2_with (at_builtin; refine wpList_append_run rfl _ _ 44 44 rfl _ _ _ _ rfl rfl HR9.out ?_)
                          go_roundw
                          case rel => exact ⟨k + 1, _, by omega, by go_num, hG9, by rw [HP2.out]; exact hv9, hb10⟩
                          case measure => simp [intOf]; try omega
                      · obtain rfl : k = ps.length := by omega
                        rw [List.take_length] at hv
                        have h5 := HN5.out
                        have hbw := HBB.out.trans (hb.mono HBB.out.size)
                        have hgw : w5.heap.size < wr.heap.size := hG.lt
                        by_cases he : l.length = 0
                        · have HRR : Hid (RR = (size, ps, 0)) := Lib.hid (by rw [HT0.out, ← HXS.out, if_pos ⟨ho0, ho1⟩, if_pos (List.length_eq_zero_iff.1 he)])
                          have xp := HXP.out _ hb
                          have he2 : (l.length : Int) = 0 := by omega
                          go_wp2_with fail
                          (with_reducible refine (clone_parts A ps.length c ps _ rfl (by omega) (HR.out.below hbw)).mono ?_)
                          rintro e w6 ⟨A', c', rfl, hv6, hb6⟩
                          have hr6 := (ORow.read hv6)
                          obtain ⟨A7, c7, e7, _, hr7, had7⟩ := hr6
                          injection e7 with e8 e9 e10
                          subst e8 e10
                          have HFR : Hid (∀ ad, A' = some ad → w.heap.size ≤ ad.block) := Lib.hid fun ad e => by have := (had7 ad e).1; have := hb.size; omega
                          have hG6 := hG.below hb6
                          have hb7 := bn hb hb6
                          have hT6 := HHT.out.below (hb.trans (hb6.mono hb.size))
                          have g1 : w6.cell? ⟨w5.heap.size, 1, none⟩ = some v := hG6.cell 1
                          have gf := hG6.frozen 1
                          have hG7 := hG6.set 1 (.slice A' ps.length c')
                          have hT7 := hT6.other (a := ⟨w5.heap.size, 1, none⟩) (by simp only; omega) (.slice A' ps.length c')
                          have y0 : (w6.setCell ⟨w5.heap.size, 1, none⟩ (.slice A' ps.length c')).cell? ⟨w5.heap.size, 0, none⟩ = some (.int .i64 size) := hG7.cell 0
                          have y1 : (w6.setCell ⟨w5.heap.size, 1, none⟩ (.slice A' ps.length c')).cell? ⟨w5.heap.size, 1, none⟩ = some (.slice A' ps.length c') := hG7.cell 1
                          have t0 : (w6.setCell ⟨w5.heap.size, 1, none⟩ (.slice A' ps.length c')).cell? ⟨w.heap.size + 1, 0, none⟩ = some (.int .i64 0) := hT7.cell 0
                          have t1 : (w6.setCell ⟨w5.heap.size, 1, none⟩ (.slice A' ps.length c')).cell? ⟨w.heap.size + 1, 1, none⟩ = some (.slice none 0 0) := hT7.cell 1
                          have u0 := hT7.frozen 0
                          have u1 := hT7.frozen 1
                          have hkp : Kp (fun j => j = w5.heap.size ∨ j = w.heap.size + 1) w6 (((w6.setCell ⟨w5.heap.size, 1, none⟩ (.slice A' ps.length c')).setCell ⟨w.heap.size + 1, 0, none⟩ (.int .i64 size)).setCell ⟨w.heap.size + 1, 1, none⟩ (.slice A' ps.length c')) := (((Kp.refl _ w6).setCell 1 _ (.inl rfl)).setCell 0 _ (.inr rfl)).setCell 1 _ (.inr rfl)
                          have HFIN := Lib.hid (Rd.kp hr7 hkp fun ad e f => by have := (had7 ad e).1; rcases f with f | f <;> omega)
                          have HBE := Lib.hid ((bn HBB.out hb7).trans (hkp.below (B := w.heap.size) (Nat.le_trans (Nat.le_trans hbw.size (Nat.le_refl _)) hb6.size) (fun j hj => by rcases hj with hj | hj <;> omega)))
                          clear hkp hr7 had7 hv6 hb6 hb7 hT6 hG6 hb hv hG hbw xp
                          go_wp2
                          refine bodyPost_ret (res_body (T := w.heap.size + 1) Try.results24 rfl rfl rfl (blk_set2 hT7)) rfl ?_
                          rw [HRR.out]
                          exact ⟨A', c', rfl, HFIN.out, HFR.out, HBE.out⟩
                        · have hne : l ≠ [] := fun e => he (by rw [e]; rfl)
                          have HRR : Hid (RR = (max size (off + x), L2 ++ ps.filterMap (fun p => behindP p (off + x)), 0)) := Lib.hid (by rw [HT0.out, ← HXS.out, if_pos ⟨ho0, ho1⟩, if_neg hne, HL1.out, HL2.out])
                          have he2 : (0 : Int) < (l.length : Int) := by omega
                          obtain ⟨A8, c8, rfl, _, hr8, had8⟩ := hv.read
                          have HFR : Hid (∀ ad, A8 = some ad → w.heap.size ≤ ad.block) := Lib.hid fun ad e => by have := (had8 ad e).1; omega
                          have hgne : ∀ ad, A8 = some ad → ad.block ≠ w5.heap.size := fun ad e f => by
                            subst e
                            obtain ⟨_, cs, hb9⟩ := hv.blk ad.block rfl
                            rw [f] at hb9
                            have := hG.type hb9
                            revert this
                            decide
                          generalize hL3 : L2 ++ ps.filterMap (fun p => behindP p (off + x)) = L3 at *
                          have hT6 := HHT.out.below hb
                          have y0 : wr.cell? ⟨w5.heap.size, 0, none⟩ = some (.int .i64 size) := hG.cell 0
                          have gf := hG.frozen 0
                          have hmx : max size (off + x) = size ∨ max size (off + x) = off + x := by omega
                          have hm1 : size ≤ max size (off + x) := by omega
                          have hm2 : off + x ≤ max size (off + x) := by omega
                          have hG7 := hG.set 0 (.int .i64 (max size (off + x)))
                          have hT7 := hT6.other (a := ⟨w5.heap.size, 0, none⟩) (by simp only; omega) (.int .i64 (max size (off + x)))
                          have y2 : (wr.setCell ⟨w5.heap.size, 0, none⟩ (.int .i64 (max size (off + x)))).cell? ⟨w5.heap.size, 0, none⟩ = some (.int .i64 (max size (off + x))) := hG7.cell 0
                          have y3 : (wr.setCell ⟨w5.heap.size, 0, none⟩ (.int .i64 (max size (off + x)))).cell? ⟨w5.heap.size, 1, none⟩ = some (.slice A8 L3.length c8) := hG7.cell 1
                          have t0 : (wr.setCell ⟨w5.heap.size, 0, none⟩ (.int .i64 (max size (off + x)))).cell? ⟨w.heap.size + 1, 0, none⟩ = some (.int .i64 0) := hT7.cell 0
                          have t1 : (wr.setCell ⟨w5.heap.size, 0, none⟩ (.int .i64 (max size (off + x)))).cell? ⟨w.heap.size + 1, 1, none⟩ = some (.slice none 0 0) := hT7.cell 1
                          have u0 := hT7.frozen 0
                          have u1 := hT7.frozen 1
                          have hkp : Kp (fun j => j = w5.heap.size ∨ j = w.heap.size + 1) wr (((wr.setCell ⟨w5.heap.size, 0, none⟩ (.int .i64 (max size (off + x)))).setCell ⟨w.heap.size + 1, 0, none⟩ (.int .i64 (max size (off + x)))).setCell ⟨w.heap.size + 1, 1, none⟩ (.slice A8 L3.length c8)) := (((Kp.refl _ wr).setCell 0 _ (.inl rfl)).setCell 0 _ (.inr rfl)).setCell 1 _ (.inr rfl)
                          have HFIN := Lib.hid (Rd.kp hr8 hkp fun ad e f => by
                            have := (had8 ad e).1
                            rcases f with f | f
                            · exact hgne ad e f
                            · omega)
                          have HBE := Lib.hid (hbw.trans (hkp.below (B := w.heap.size) hbw.size (fun j hj => by rcases hj with hj | hj <;> omega)))
                          rcases (show size < off + x ∨ off + x ≤ size by omega) with hcm | hcm
                          · have hme : max size (off + x) = off + x := by omega
                            rw [hme] at y2 y3 t0 t1 u0 u1 hT7 HRR HFIN HBE
                            clear hkp hr8 had8 hv hb hbw hG hG7 hT6 hmx hm1 hm2 hme
                            go_wp2
                            refine bodyPost_ret (res_body (T := w.heap.size + 1) Try.results24 rfl rfl rfl (blk_set2 hT7)) rfl ?_
                            rw [HRR.out]
                            exact ⟨A8, c8, rfl, HFIN.out, HFR.out, HBE.out⟩
                          · have hme : max size (off + x) = size := by omega
                            rw [hme] at y2 y3 t0 t1 u0 u1 hT7 HRR HFIN HBE
                            clear hkp hr8 had8 hv hb hbw hG hG7 hT6 hmx hm1 hm2 hme
                            go_wp2
                            refine bodyPost_ret (res_body (T := w.heap.size + 1) Try.results24 rfl rfl rfl (blk_set2 hT7)) rfl ?_
                            rw [HRR.out]
                            exact ⟨A8, c8, rfl, HFIN.out, HFR.out, HBE.out⟩
          · have HT : Hid (RR = (0, [], 9)) := Lib.hid (by rw [HT0.out, ← HXS.out, if_neg hoff])
            have t0 : w5.cell? ⟨w.heap.size + 1, 0, none⟩ = some (.int .i64 0) := hT.cell 0
            have t1 : w5.cell? ⟨w.heap.size + 1, 1, none⟩ = some (.slice none 0 0) := hT.cell 1
            have u0 := hT.frozen 0
            have u1 := hT.frozen 1
            rcases (show off < 0 ∨ 0 ≤ off ∧ 1099511627776 - x < off by omega) with hx2 | ⟨hx2, hx3⟩
            all_goals
              clear hoff hB
              go_wp2
              refine bodyPost_ret (res_body (T := w.heap.size + 1) Try.results24 rfl rfl rfl (blk_set2 hT)) rfl ?_
              rw [HT.out]
              exact ⟨none, 0, rfl, Rd.nil _ _, (fun _ h => by cases h), HST.out _ HBB.out⟩
theorem body_write (size : Int) (A : Option Addr) (n c : Nat) (ps : List Part) (off : Int) (Al : Option Addr) (nl cl : Nat) (l : List Part) (w : World) (hn : ps.length = n) (hl : n ≤ 100000) (hr : Rd w A (pcs ps)) (hnl : l.length = nl) (hll : nl ≤ 1000) (hrl : Rd w Al (pcs l)) :
    Calls Try.prog 24 #[bv size A n c, .int .i64 off, .slice Al nl cl] w fun e w' => BodyRes w w' (writeR size ps off l).1 (writeR size ps off l).2.1 (writeR size ps off l).2.2 e :=
  (body_writeF size A n c ps off Al nl cl l w hn hl hr hnl hll hrl).mono fun _ _ ⟨A', c', h1, h2, _, h3⟩ => ⟨A', c', h1, h2, h3⟩
end Go.Proofs.Ytpnfgnddlfkfaaa
