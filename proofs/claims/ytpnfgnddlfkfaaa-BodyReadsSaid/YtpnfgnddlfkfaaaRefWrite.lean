/-
  The reference's Write and Trunc.
-/
import Derived.Test.YtpnfgnddlfkfaaaRefPart
import Derived.Test.YtpnfgnddlfkfaaaBodyMath
set_option linter.unusedSimpArgs false
set_option linter.unusedVariables false
namespace Go.Proofs.Ytpnfgnddlfkfaaa
open Go.RowKit

/-- what an append of a piece leaves -/
def GrowR (w : World) (B : Nat) (v : Value) (l : List Part) (p : Part) (v' : Value) (w' : World) : Prop := ∃ A c, v' = .slice A (l.length + 1) c ∧ RRow w' B (.slice A (l.length + 1) c) (l ++ [p]) ∧ Below B w w' ∧ Kp (fun k => v.ownBlock = some k) w w'
theorem grow_rx (w : World) (B : Nat) (v : Value) (l : List Part) (o le ch at_ : Int) (n : Nat) (hn : w.heap.size = n) (ho : RRow w B v l) (hl : l.length < 1000000) (hB : B ≤ w.heap.size) :
    ∃ v' w', (Builtin.append_ #[59, 59] 59 #[v, .slice (some ⟨n, 0, none⟩) 1 1]).run Try.prog (w.alloc (.cells #[.int .i64 o, .int .i64 le, .int .i64 ch, .int .i64 at_] 85)) = .ok v' w' ∧ GrowR w B v l ⟨o, le, ch, at_⟩ v' w' := by
  subst hn
  obtain ⟨A, c, w2, h1, h2, h3, h4⟩ := grow_r w B v l ⟨o, le, ch, at_⟩ ho hl hB
  exact ⟨_, w2, h1.out, A, c, rfl, h2, h3, h4⟩
theorem without_snoc (x y : Int) (l : List Part) (p : Part) : withoutR x y (l ++ [p]) = withoutR x y l ++ ((aheadP p x).toList ++ (behindP p y).toList) := by
  unfold withoutR
  rw [List.flatMap_append]
  simp
theorem without_len (x y : Int) (l : List Part) : (withoutR x y l).length ≤ 2 * l.length := by
  induction l with
  | nil => simp [withoutR]
  | cons p l ih =>
    unfold withoutR at ih ⊢
    rw [List.flatMap_cons, List.length_append, List.length_append, List.length_cons]
    have h1 : (aheadP p x).toList.length ≤ 1 := by cases aheadP p x <;> simp
    have h2 : (behindP p y).toList.length ≤ 1 := by cases behindP p y <;> simp
    omega

set_option maxRecDepth 100000 in
set_option maxHeartbeats 4000000 in
theorem ref_without (A : Option Addr) (n c : Nat) (ps : List Part) (x y : Int) (w : World) (hn : ps.length = n) (hl : n ≤ 100000) (hr : Rd w A (pcs ps)) (hnear : ∀ p ∈ ps, near p) (hx0 : 0 ≤ x) (hx1 : x ≤ 2199023255552) (hxy : x ≤ y) (hy : y ≤ 4611686018427387904) :
    Calls Try.prog 59 #[.slice A n c, .int .i64 x, .int .i64 y] w fun e w' => ∃ A' c', e = .returned (.slice A' (withoutR x y ps).length c') ∧ RRow w' w.heap.size (.slice A' (withoutR x y ps).length c') (withoutR x y ps) ∧ Below w.heap.size w w' := by
  subst hn
  have HR := Lib.hid hr
  have HNEAR := Lib.hid hnear
  clear hr hnear
  go_enter Try.func59, Try.ntmps59
  go_wp2
  go_loopw [7, 8] (fun v i wr => ∃ k : Nat, k ≤ ps.length ∧ i = .int .i64 (k : Int) ∧ RRow wr w.heap.size v (withoutR x y (ps.take k)) ∧ Below w.heap.size w wr) (fun _ i _ => ps.length - (intOf i).toNat)
  case atStart => exact ⟨0, Nat.zero_le _, rfl, ORow.nil _ _ _, Below.refl _ _⟩
  case round =>
    obtain ⟨k, hk, rfl, hp, hb⟩ := hrel
    by_cases hlt : k < ps.length
    · have hs1 : ps.take (k + 1) = ps.take k ++ [ps[k]] := List.take_succ_eq_append_getElem hlt
      obtain ⟨b, o6, rfl, hblt, hcell⟩ := part_at HR.out k hlt
      obtain ⟨q0, q1, q2, q3⟩ := hcell wr hb
      have hn := HNEAR.out _ (List.getElem_mem hlt)
      have i0 : (0 : Int) ≤ (k : Int) := by omega
      have i1 : (k : Int) < (ps.length : Int) := by omega
      have hwl := without_len x y (ps.take k)
      have hkl : (ps.take k).length = k := by rw [List.length_take]; omega
      rw [hkl] at hwl
      have HW : Hid (withoutR x y (ps.take (k + 1)) = withoutR x y (ps.take k) ++ ((aheadP ps[k] x).toList ++ (behindP ps[k] y).toList)) := Lib.hid (by rw [hs1, without_snoc])
      clear hs1 hcell hkl
      generalize ps[k] = p at *
      generalize withoutR x y (ps.take k) = L at *
      obtain ⟨po, pl, pch, pat⟩ := p
      simp only at q0 q1 q2 q3
      obtain ⟨n0, n1, n2, n3, n4, n5⟩ := hn
      simp only at n0 n1 n2 n3 n4 n5
      have hzb := hb.size
      obtain ⟨A5, c5, rfl, _⟩ := ORow.read hp
      have hlt2 : ∀ j, (Value.slice A5 L.length c5).ownBlock = some j → j ≠ wr.heap.size := fun j e => by
        obtain ⟨_, cs, hb⟩ := ORow.blk hp j e
        have := hb.lt
        omega
      have HLT2 := Lib.hid hlt2
      have hBp := Blk.new wr 85 #[.int .i64 po, .int .i64 pl, .int .i64 pch, .int .i64 pat]
      have HP := Lib.hid hp
      have HBP := Lib.hid hBp
      clear hp hBp hlt2
      by_cases c1 : po < x
      · obtain ⟨LE, hLE, hle2⟩ : ∃ LE, aheadP ⟨po, pl, pch, pat⟩ x = some ⟨po, LE, pch, pat⟩ ∧ ((po + pl ≤ x ∧ LE = po + pl - po) ∨ (x < po + pl ∧ LE = x - po)) := by
          unfold aheadP
          rw [if_neg (by simp only; omega)]
          by_cases h : po + pl ≤ x
          · exact ⟨po + pl - po, by simp only [Option.some.injEq, Part.mk.injEq, true_and, and_true]; omega, .inl ⟨h, rfl⟩⟩
          · exact ⟨x - po, by simp only [Option.some.injEq, Part.mk.injEq, true_and, and_true]; omega, .inr ⟨by omega, rfl⟩⟩
        by_cases c2 : y < po + pl
        · have c3 : po < y := by omega
          have hbe : behindP ⟨po, pl, pch, pat⟩ y = some ⟨y, po + pl - y, pch, pat + (y - po)⟩ := by
            unfold behindP
            rw [if_neg (by simp only; omega), if_pos (by simp only; omega)]
            simp only [Option.some.injEq, Part.mk.injEq, true_and, and_true]
            omega
          rw [hLE, hbe] at HW
          simp only [Option.toList_some] at HW
          clear hLE hbe
          rcases hle2 with ⟨h1, rfl⟩ | ⟨h1, rfl⟩
          · omega
          all_goals
            go_wp2_with (at_builtin; first | (refine wpList_append_ex rfl _ _ 59 59 rfl _ _ rfl rfl (grow_rx _ w.heap.size _ L _ _ _ _ _ (by simp) (ORow.below HP.out (bal (bal (Below.refl _ _) _) _)) (by omega) (by simp; omega)) ?_; rintro v9 w9 ⟨A9, c9, rfl, hv9, hb9, hk9⟩; have hP9 := ((HBP.out.alloc _).kp hk9 (fun e => HLT2.out _ e rfl)); have y0 : w9.cell? ⟨wr.heap.size, 0, none⟩ = some (.int .i64 po) := hP9.cell 0; have y1 : w9.cell? ⟨wr.heap.size, 1, none⟩ = some (.int .i64 pl) := hP9.cell 1; have y2 : w9.cell? ⟨wr.heap.size, 2, none⟩ = some (.int .i64 pch) := hP9.cell 2; have y3 : w9.cell? ⟨wr.heap.size, 3, none⟩ = some (.int .i64 pat) := hP9.cell 3; have hb10 := (bal (bal hb _) _).trans hb9; have hz9 : wr.heap.size < w9.heap.size := (by have := hk9.size; simp at this; omega); clear hb9 hk9 hP9; have HV9 := Lib.hid hv9; clear hv9) | (refine wpList_append_ex rfl _ _ 59 59 rfl _ _ rfl rfl (grow_rx _ w.heap.size _ _ _ _ _ _ _ (by simp) (ORow.below HV9.out (bal (Below.refl _ _) _)) (by simp; omega) (by have := hb10.size; simp; omega)) ?_; rintro v11 w11 ⟨A11, c11, rfl, hv11, hb11, _⟩))
            rw [List.length_append, List.length_singleton] at hv11
            have hb12 := (bal hb10 _).trans hb11
            clear hb11 hb10 y0 y1 y2 y3
            go_roundw
            case rel => exact ⟨k + 1, by omega, by go_num, by rw [HW.out, ← List.append_assoc]; exact hv11, hb12⟩
            case measure => simp [intOf]; try omega
        · have c3 : po + pl ≤ y := by omega
          have hbe : behindP ⟨po, pl, pch, pat⟩ y = none := by
            unfold behindP
            rw [if_pos (by simp only; omega)]
          rw [hLE, hbe] at HW
          simp only [Option.toList_some, Option.toList_none, List.append_nil] at HW
          clear hLE hbe
          rcases hle2 with ⟨h1, rfl⟩ | ⟨h1, rfl⟩
          all_goals
            go_wp2_with (at_builtin; refine wpList_append_ex rfl _ _ 59 59 rfl _ _ rfl rfl (grow_rx _ w.heap.size _ L _ _ _ _ _ (by simp) (ORow.below HP.out (bal (bal (Below.refl _ _) _) _)) (by omega) (by simp; omega)) ?_; rintro v9 w9 ⟨A9, c9, rfl, hv9, hb9, hk9⟩)
            have hb10 := (bal (bal hb _) _).trans hb9
            clear hb9 hk9
            go_roundw
            case rel => exact ⟨k + 1, by omega, by go_num, by rw [HW.out]; exact hv9, hb10⟩
            case measure => simp [intOf]; try omega
      · have ha : aheadP ⟨po, pl, pch, pat⟩ x = none := by
          unfold aheadP
          rw [if_pos (by simp only; omega)]
        by_cases c2 : y < po + pl
        · obtain ⟨O2, AT, LE, hbe, hc3⟩ : ∃ O2 AT LE, behindP ⟨po, pl, pch, pat⟩ y = some ⟨O2, LE, pch, AT⟩ ∧ ((po < y ∧ O2 = y ∧ AT = pat + (y - po) ∧ LE = po + pl - y) ∨ (y ≤ po ∧ O2 = po ∧ AT = pat ∧ LE = po + pl - po)) := by
            unfold behindP
            rw [if_neg (by simp only; omega)]
            by_cases h : po < y
            · rw [if_pos h]
              exact ⟨y, _, _, by simp only [Option.some.injEq, Part.mk.injEq, true_and, and_true]; omega, .inl ⟨h, rfl, rfl, rfl⟩⟩
            · rw [if_neg h]
              exact ⟨po, pat, po + pl - po, by rw [show po + pl - po = pl by omega], .inr ⟨by omega, rfl, rfl, rfl⟩⟩
          rw [ha, hbe] at HW
          simp only [Option.toList_some, Option.toList_none, List.nil_append] at HW
          clear ha hbe
          rcases hc3 with ⟨h1, rfl, rfl, rfl⟩ | ⟨h1, rfl, rfl, rfl⟩
          all_goals
            go_wp2_with (at_builtin; refine wpList_append_ex rfl _ _ 59 59 rfl _ _ rfl rfl (grow_rx _ w.heap.size _ L _ _ _ _ _ (by simp) (ORow.below HP.out (bal (bal (Below.refl _ _) _) _)) (by omega) (by simp; omega)) ?_; rintro v9 w9 ⟨A9, c9, rfl, hv9, hb9, hk9⟩)
            have hb10 := (bal (bal hb _) _).trans hb9
            clear hb9 hk9
            go_roundw
            case rel => exact ⟨k + 1, by omega, by go_num, by rw [HW.out]; exact hv9, hb10⟩
            case measure => simp [intOf]; try omega
        · have hbe : behindP ⟨po, pl, pch, pat⟩ y = none := by
            unfold behindP
            rw [if_pos (by simp only; omega)]
          rw [ha, hbe] at HW
          simp only [Option.toList_none, List.append_nil] at HW
          clear ha hbe
          have hp9 := ORow.below HP.out (bal (Below.refl _ _) (.cells #[.int .i64 po, .int .i64 pl, .int .i64 pch, .int .i64 pat] 85))
          have hb10 := bal hb (.cells #[.int .i64 po, .int .i64 pl, .int .i64 pch, .int .i64 pat] 85)
          go_wp2
          go_roundw
          case rel => exact ⟨k + 1, by omega, by go_num, by rw [HW.out]; exact hp9, hb10⟩
          case measure => simp [intOf]; try omega
    · obtain rfl : k = ps.length := by omega
      rw [List.take_length] at hp
      obtain ⟨A9, c9, rfl, _⟩ := ORow.read hp
      go_wp2
      go_ret
      exact ⟨_, _, rfl, hp, hb⟩
theorem res_rbody {P : Program} {g : Func} {tmps : Array Value} {w : World} {r t : Nat} {T : Nat} {v0 v1 v : Value} (hres : g.results = #[.cell r 61, .tmp t]) (hP : P = Try.prog) (h4 : tmps[r]?.getD undef = .pointer (some ⟨T, 0, none⟩)) (h5 : tmps[t]?.getD undef = v) (h : Blk w T 61 #[v0, v1]) :
    (results g tmps).run P w = .ok (.tuple #[.agg #[v0, v1], v]) w := by
  subst hP
  have c0 : w.cell? ⟨T, 0, none⟩ = some v0 := h.cell 0
  have c1 : w.cell? ⟨T, 1, none⟩ = some v1 := h.cell 1
  simp [results, hres, go_sem, h4, h5, c0, c1]

set_option maxRecDepth 100000 in
set_option maxHeartbeats 2000000 in
theorem ref_trunc (size : Int) (A : Option Addr) (n c : Nat) (ps : List Part) (x : Int) (w : World) (hn : ps.length = n) (hl : n ≤ 100000) (hr : Rd w A (pcs ps)) :
    Calls Try.prog 37 #[bv size A n c, .int .i64 x] w fun e w' => BodyRes w w' (truncR size ps x).1 (truncR size ps x).2.1 (truncR size ps x).2.2 e := by
  subst hn
  have HR := Lib.hid hr
  have HM := fun W (h : Below w.heap.size w W) => ref_body_may size A ps.length c ps W rfl (by omega) (hr.below h)
  unfold bv at HM ⊢
  replace HM := Lib.hid HM
  clear hr
  have hB0 := (Blk.new w 61 #[.int .i64 size, .slice A ps.length c]).alloc (.cells #[.int .i64 0, .slice none 0 0] 61)
  have hz0 : (w.alloc (.cells #[.int .i64 size, .slice A ps.length c] 61)).heap.size = w.heap.size + 1 := by simp
  have hT0 := Blk.new (w.alloc (.cells #[.int .i64 size, .slice A ps.length c] 61)) 61 #[.int .i64 0, .slice none 0 0]
  rw [hz0] at hT0
  have hb0 := bal (bal (Below.refl w.heap.size w) (.cells #[.int .i64 size, .slice A ps.length c] 61)) (.cells #[.int .i64 0, .slice none 0 0] 61)
  have hz1 : ((w.alloc (.cells #[.int .i64 size, .slice A ps.length c] 61)).alloc (.cells #[.int .i64 0, .slice none 0 0] 61)).heap.size = w.heap.size + 2 := by simp
  have hst : ∀ W, Below w.heap.size w W → Below w.heap.size w ((W.setCell ⟨w.heap.size + 1, 0, none⟩ (.int .i64 0)).setCell ⟨w.heap.size + 1, 1, none⟩ (.slice none 0 0)) := fun W h => (h.setCell (by simp only; omega) _).setCell (by simp only; omega) _
  have HST := Lib.hid hst
  clear hst
  cases hm : bodyMay size ps with
  | false =>
    have HMM := Lib.hid hm
    have HT : Hid (truncR size ps x = (0, [], 1)) := Lib.hid (by unfold truncR; rw [hm]; rfl)
    clear hm
    rw [HT.out]
    go_enter Try.func37, Try.ntmps37
    go_wp2_with fail
    (with_reducible refine (HM.out _ hb0).mono ?_)
    rintro e w5 ⟨rfl, hb5⟩
    rw [HMM.out]
    have hT := hT0.below hb5
    have hbb := bn hb0 hb5
    have t0 : w5.cell? ⟨w.heap.size + 1, 0, none⟩ = some (.int .i64 0) := hT.cell 0
    have t1 : w5.cell? ⟨w.heap.size + 1, 1, none⟩ = some (.slice none 0 0) := hT.cell 1
    have u0 := hT.frozen 0
    have u1 := hT.frozen 1
    clear hB0 hT0 hb0 hb5
    go_wp2
    refine bodyPost_ret (res_rbody (T := w.heap.size + 1) Try.results37 rfl rfl rfl (blk_set2 hT)) rfl ?_
    exact ⟨none, 0, rfl, Rd.nil _ _, HST.out _ hbb⟩
  | true =>
    have HMM := Lib.hid hm
    obtain ⟨⟨hs0, hs1⟩, hnear⟩ := bodyMay_near hm
    have HNEAR := Lib.hid hnear
    clear hnear
    by_cases hx : 0 ≤ x ∧ x ≤ 1099511627776
    · have HT : Hid (truncR size ps x = (x, withoutR x 4611686018427387904 ps, 0)) := Lib.hid (by unfold truncR; rw [trunc_ref hm (by omega), hm, if_pos rfl, if_pos hx])
      clear hm
      rw [HT.out]
      obtain ⟨hx0, hx1⟩ := hx
      have HW := Lib.hid fun W (h : Below w.heap.size w W) => ref_without A ps.length c ps x 4611686018427387904 W rfl (by omega) (HR.out.below h) HNEAR.out hx0 (by omega) (by omega) (by omega)
      go_enter Try.func37, Try.ntmps37
      go_wp2_with fail
      (with_reducible refine (HM.out _ hb0).mono ?_)
      rintro e w5 ⟨rfl, hb5⟩
      rw [HMM.out]
      have hB := hB0.below hb5
      have hT := hT0.below hb5
      have hbb := bn hb0 hb5
      have hz5 := hb5.size
      rw [hz1] at hz5
      have x1 : w5.cell? ⟨w.heap.size, 1, none⟩ = some (.slice A ps.length c) := hB.cell 1
      clear hB0 hT0 hb0 hb5 hB
      go_wp2_with fail
      (with_reducible refine (HW.out _ hbb).mono ?_)
      rintro e w6 ⟨A6, c6, rfl, hv6, hb6⟩
      have hT6 := hT.below hb6
      have hb7 := bn hbb hb6
      have t0 : w6.cell? ⟨w.heap.size + 1, 0, none⟩ = some (.int .i64 0) := hT6.cell 0
      have t1 : w6.cell? ⟨w.heap.size + 1, 1, none⟩ = some (.slice none 0 0) := hT6.cell 1
      have u0 := hT6.frozen 0
      have u1 := hT6.frozen 1
      obtain ⟨A8, c8, he8, _, hr8, had8⟩ := ORow.read hv6
      cases he8
      have hz6 := hb6.size
      generalize hLL : withoutR x 4611686018427387904 ps = L at *
      have HLL := Lib.hid hLL
      clear hLL
      have HFIN : Hid (Rd ((w6.setCell ⟨w.heap.size + 1, 0, none⟩ (.int .i64 x)).setCell ⟨w.heap.size + 1, 1, none⟩ (.slice A6 L.length c6)) A6 (pcs L)) := Lib.hid (hr8.kp (kp_set2 w6 _ _ _) fun ad e f => by have := (had8 ad e).1; omega)
      have HBE : Hid (Below w.heap.size w ((w6.setCell ⟨w.heap.size + 1, 0, none⟩ (.int .i64 x)).setCell ⟨w.heap.size + 1, 1, none⟩ (.slice A6 L.length c6))) := Lib.hid ((hb7.setCell (by simp only; omega) _).setCell (by simp only; omega) _)
      clear hr8 had8 hb7 hv6 hb6 hbb hT x1
      generalize hn8 : L.length = n8 at *
      have HN8 := Lib.hid hn8
      clear hn8
      go_wp2
      refine bodyPost_ret (res_rbody (T := w.heap.size + 1) Try.results37 rfl rfl rfl (blk_set2 hT6)) rfl ?_
      have hn8 := HN8.out
      have hLL := HLL.out
      subst hn8 hLL
      exact ⟨A6, c6, rfl, HFIN.out, HBE.out⟩
    · have HT : Hid (truncR size ps x = (0, [], 9)) := Lib.hid (by unfold truncR; rw [hm, if_pos rfl, if_neg hx])
      clear hm
      rw [HT.out]
      rcases (show x < 0 ∨ 0 ≤ x ∧ 1099511627776 < x by omega) with hx2 | ⟨hx2, hx3⟩
      all_goals
        clear hx
        go_enter Try.func37, Try.ntmps37
        go_wp2_with fail
        (with_reducible refine (HM.out _ hb0).mono ?_)
        rintro e w5 ⟨rfl, hb5⟩
        rw [HMM.out]
        have hT := hT0.below hb5
        have hbb := bn hb0 hb5
        have t0 : w5.cell? ⟨w.heap.size + 1, 0, none⟩ = some (.int .i64 0) := hT.cell 0
        have t1 : w5.cell? ⟨w.heap.size + 1, 1, none⟩ = some (.slice none 0 0) := hT.cell 1
        have u0 := hT.frozen 0
        have u1 := hT.frozen 1
        clear hB0 hT0 hb0 hb5
        go_wp2
        refine bodyPost_ret (res_rbody (T := w.heap.size + 1) Try.results37 rfl rfl rfl (blk_set2 hT)) rfl ?_
        exact ⟨none, 0, rfl, Rd.nil _ _, HST.out _ hbb⟩
end Go.Proofs.Ytpnfgnddlfkfaaa
