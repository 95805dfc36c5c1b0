/-
  Bodies: a row of pieces that grows behind a body's block; Trunc.
-/
import Derived.Test.YtpnfgnddlfkfaaaBodyW
set_option linter.unusedSimpArgs false
set_option linter.unusedVariables false
namespace Go.Proofs.Ytpnfgnddlfkfaaa
open Go.RowKit

theorem info_part : (Try.prog.info? 50).map (fun i => (i.zero, i.size, i.bytes)) = some (some (.agg #[.int .i64 0, .int .i64 0, .int .i64 0, .int .i64 0]), 4, 32) := by kernel_rfl
/-- 'out.Parts = append(out.Parts, p)': out at block g -/
theorem grow_out (w : World) (B g : Nat) (u : Value) (v : Value) (l : List Part) (p : Part) (hg : Blk w g 46 #[u, v]) (ho : PRow w B v l) (hl : l.length < 1000000) (hBg : B ≤ g) (hB : B ≤ w.heap.size) (n : Nat) (hn : w.heap.size = n) :
    ∃ A' c' w2, Hid ((Builtin.append_ #[44, 44] 44 #[v, .slice (some ⟨n, 0, none⟩) 1 1]).run Try.prog (w.alloc (.cells #[.int .i64 p.off, .int .i64 p.len, .int .i64 p.chunk, .int .i64 p.at_] 50)) = .ok (.slice A' (l.length + 1) c') w2) ∧
      w2.cell? ⟨g, 1, none⟩ = some v ∧ w2.frozen? ⟨g, 1, none⟩ = false ∧ Blk (w2.setCell ⟨g, 1, none⟩ (.slice A' (l.length + 1) c')) g 46 #[u, .slice A' (l.length + 1) c'] ∧ PRow (w2.setCell ⟨g, 1, none⟩ (.slice A' (l.length + 1) c')) B (.slice A' (l.length + 1) c') (l ++ [p]) ∧ Below B w (w2.setCell ⟨g, 1, none⟩ (.slice A' (l.length + 1) c')) := by
  subst hn
  obtain ⟨v', w2, h1, h2, h3, h4⟩ := append_struct (P := Try.prog) (f := pc) (n := 4) 44 50 _ 32 Try.underlying44 info_part rfl (by omega) pc_len pc_one w B v l p ho hl (by omega) (by omega) hB #[.int .i64 p.off, .int .i64 p.len, .int .i64 p.chunk, .int .i64 p.at_] rfl
  have hne : v.ownBlock ≠ some g := fun e => by
    obtain ⟨_, cs, hb⟩ := ho.blk g e
    have := hg.type hb
    revert this
    decide
  have hg2 : Blk w2 g 46 #[u, v] := hg.kp h4 hne
  obtain ⟨A', c', rfl, _⟩ := h2.read
  have hll : (l ++ [p]).length = l.length + 1 := by simp
  rw [hll] at h1 h2
  have hne2 : ∀ k, (Value.slice A' (l.length + 1) c').ownBlock = some k → k ≠ g := fun k e e2 => by
    subst e2
    obtain ⟨_, cs, hb⟩ := h2.blk k e
    have := hg2.type hb
    revert this
    decide
  refine ⟨A', c', w2, h1, hg2.cell 1, hg2.frozen 1, hg2.set 1 _, ?_, h3.trans ((Below.refl B w2).setCell hBg _)⟩
  exact h2.kp (F := fun j => j = g) ((Kp.refl (fun j => j = g) w2).setCell 1 _ rfl) fun k e => hne2 k e
theorem partsOk_near {size x : Int} {ps : List Part} (hx : 0 ≤ x) (hs : size ≤ 1099511627776) (h : partsOk size x ps = true) : ∀ p ∈ ps, near p := by
  induction ps generalizing x with
  | nil => intro p hp; cases hp
  | cons q ps ih =>
    rw [partsOk_cons] at h
    simp only [Bool.and_eq_true, decide_eq_true_eq] at h
    obtain ⟨⟨⟨h1, h2⟩, h3⟩, h4⟩ := h
    obtain ⟨f1, f2, f3, f4, f5, f6⟩ := (fits_iff q).1 h1
    intro p hp
    rcases List.mem_cons.1 hp with rfl | hp
    · exact ⟨by omega, by omega, f1, f2, f5, by omega⟩
    · exact ih (by omega) h4 p hp
theorem bodyMay_near {size : Int} {ps : List Part} (h : bodyMay size ps = true) : (0 ≤ size ∧ size ≤ 1099511627776) ∧ ∀ p ∈ ps, near p := by
  unfold bodyMay at h
  rw [Bool.and_eq_true, decide_eq_true_eq] at h
  exact ⟨h.1, partsOk_near (Int.le_refl 0) h.1.2 h.2⟩
theorem blk_set2 {w : World} {T : Nat} {e : TypeId} {a0 a1 v0 v1 : Value} (h : Blk w T e #[a0, a1]) : Blk ((w.setCell ⟨T, 0, none⟩ v0).setCell ⟨T, 1, none⟩ v1) T e #[v0, v1] := (h.set 0 v0).set 1 v1

theorem kp_set2 (w : World) (T : Nat) (v0 v1 : Value) : Kp (fun j => j = T) w ((w.setCell ⟨T, 0, none⟩ v0).setCell ⟨T, 1, none⟩ v1) := ((Kp.refl (fun j => j = T) w).setCell 0 v0 rfl).setCell 1 v1 rfl

/-- what a body is: its size, where its pieces lie -/
def BodyRes (w : World) (w' : World) (size : Int) (ps : List Part) (err : Int) (e : Ending) : Prop :=
  ∃ A c, e = .returned (.tuple #[bv size A ps.length c, .int .i64 err]) ∧ Rd w' A (pcs ps) ∧ Below w.heap.size w w'
/-- as BodyRes; the row is new -/
def BodyResF (w w' : World) (size : Int) (ps : List Part) (err : Int) (e : Ending) : Prop :=
  ∃ A c, e = .returned (.tuple #[bv size A ps.length c, .int .i64 err]) ∧ Rd w' A (pcs ps) ∧ (∀ ad, A = some ad → w.heap.size ≤ ad.block) ∧ Below w.heap.size w w'
def truncR (size : Int) (ps : List Part) (x : Int) : Int × List Part × Int :=
  if bodyMay size ps = true then (if 0 ≤ x ∧ x ≤ 1099511627776 then (x, ps.filterMap (fun p => aheadP p x), 0) else (0, [], 9)) else (0, [], 1)

theorem res_body {P : Program} {g : Func} {tmps : Array Value} {w : World} {r t : Nat} {T : Nat} {v0 v1 v : Value} (hres : g.results = #[.cell r 46, .tmp t]) (hP : P = Try.prog) (h4 : tmps[r]?.getD undef = .pointer (some ⟨T, 0, none⟩)) (h5 : tmps[t]?.getD undef = v) (h : Blk w T 46 #[v0, v1]) :
    (results g tmps).run P w = .ok (.tuple #[.agg #[v0, v1], v]) w := by
  subst hP
  have c0 : w.cell? ⟨T, 0, none⟩ = some v0 := h.cell 0
  have c1 : w.cell? ⟨T, 1, none⟩ = some v1 := h.cell 1
  simp [results, hres, go_sem, h4, h5, c0, c1]

set_option maxRecDepth 100000 in
set_option maxHeartbeats 2000000 in
theorem body_truncF (size : Int) (A : Option Addr) (n c : Nat) (ps : List Part) (x : Int) (w : World) (hn : ps.length = n) (hl : n ≤ 100000) (hr : Rd w A (pcs ps)) :
    Calls Try.prog 26 #[bv size A n c, .int .i64 x] w fun e w' => BodyResF w w' (truncR size ps x).1 (truncR size ps x).2.1 (truncR size ps x).2.2 e := by
  subst hn
  have HR := Lib.hid hr
  have HM := fun W (h : Below w.heap.size w W) => body_may size A ps.length c ps W rfl (by omega) (hr.below h)
  unfold bv at HM ⊢
  replace HM := Lib.hid HM
  clear hr
  have hB0 := (Blk.new w 46 #[.int .i64 size, .slice A ps.length c]).alloc (.cells #[.int .i64 0, .slice none 0 0] 46)
  have hz0 : (w.alloc (.cells #[.int .i64 size, .slice A ps.length c] 46)).heap.size = w.heap.size + 1 := by simp
  have hT0 := Blk.new (w.alloc (.cells #[.int .i64 size, .slice A ps.length c] 46)) 46 #[.int .i64 0, .slice none 0 0]
  rw [hz0] at hT0
  have hb0 := bal (bal (Below.refl w.heap.size w) (.cells #[.int .i64 size, .slice A ps.length c] 46)) (.cells #[.int .i64 0, .slice none 0 0] 46)
  have hz1 : ((w.alloc (.cells #[.int .i64 size, .slice A ps.length c] 46)).alloc (.cells #[.int .i64 0, .slice none 0 0] 46)).heap.size = w.heap.size + 2 := by simp
  have hst : ∀ W, Below w.heap.size w W → Below w.heap.size w ((W.setCell ⟨w.heap.size + 1, 0, none⟩ (.int .i64 0)).setCell ⟨w.heap.size + 1, 1, none⟩ (.slice none 0 0)) := fun W h => (h.setCell (by simp only; omega) _).setCell (by simp only; omega) _
  have HST := Lib.hid hst
  clear hst
  cases hm : bodyMay size ps with
  | false =>
    have HMM := Lib.hid hm
    have HT : Hid (truncR size ps x = (0, [], 1)) := Lib.hid (by unfold truncR; rw [hm]; rfl)
    clear hm
    rw [HT.out]
    go_enter Try.func26, Try.ntmps26
    go_wp2_with fail
    (with_reducible refine (HM.out _ hb0).mono ?_)
    rintro e w5 ⟨rfl, hb5⟩
    rw [HMM.out]
    have hT := hT0.below hb5
    have hbb := bn hb0 hb5
    have t0 : w5.cell? ⟨w.heap.size + 1, 0, none⟩ = some (.int .i64 0) := hT.cell 0
    have t1 : w5.cell? ⟨w.heap.size + 1, 1, none⟩ = some (.slice none 0 0) := hT.cell 1
    have u0 := hT.frozen 0
    have u1 := hT.frozen 1
    clear hB0 hT0 hb0 hb5
    go_wp2
    refine bodyPost_ret (res_body (T := w.heap.size + 1) Try.results26 rfl rfl rfl (blk_set2 hT)) rfl ?_
    exact ⟨none, 0, rfl, Rd.nil _ _, (fun _ h => by cases h), HST.out _ hbb⟩
  | true =>
    have HMM := Lib.hid hm
    obtain ⟨⟨hs0, hs1⟩, hnear⟩ := bodyMay_near hm
    have HNEAR := Lib.hid hnear
    clear hnear
    by_cases hx : 0 ≤ x ∧ x ≤ 1099511627776
    · have HT : Hid (truncR size ps x = (x, ps.filterMap (fun p => aheadP p x), 0)) := Lib.hid (by unfold truncR; rw [hm, if_pos rfl, if_pos hx])
      clear hm
      rw [HT.out]
      obtain ⟨hx0, hx1⟩ := hx
      go_enter Try.func26, Try.ntmps26
      go_wp2_with fail
      (with_reducible refine (HM.out _ hb0).mono ?_)
      rintro e w5 ⟨rfl, hb5⟩
      rw [HMM.out]
      have hB := hB0.below hb5
      have hT := hT0.below hb5
      have hbb := bn hb0 hb5
      have hz5 := hb5.size
      rw [hz1] at hz5
      have x0 : w5.cell? ⟨w.heap.size, 0, none⟩ = some (.int .i64 size) := hB.cell 0
      have x1 : w5.cell? ⟨w.heap.size, 1, none⟩ = some (.slice A ps.length c) := hB.cell 1
      have hG5 := Blk.new w5 46 #[.int .i64 x, .slice none 0 0]
      have hb6 := bal (Below.refl w5.heap.size w5) (.cells #[.int .i64 x, .slice none 0 0] 46)
      have x2 : (w5.alloc (.cells #[.int .i64 x, .slice none 0 0] 46)).cell? ⟨w.heap.size, 1, none⟩ = some (.slice A ps.length c) := (hB.alloc _).cell 1
      have HN5 := Lib.hid hz5
      have HBB := Lib.hid hbb
      have HBx := Lib.hid hB
      have HTx := Lib.hid hT
      clear hB0 hT0 hb0 hb5 hB hT hz5 hbb
      go_wp2
      go_loopw [29] (fun i wr => ∃ (k : Nat) (v : Value), k ≤ ps.length ∧ i = .int .i64 (k : Int) ∧ Blk wr w5.heap.size 46 #[.int .i64 x, v] ∧ PRow wr w5.heap.size v ((ps.take k).filterMap (fun p => aheadP p x)) ∧ Below w5.heap.size w5 wr) (fun i _ => ps.length - (intOf i).toNat)
      case atStart => exact ⟨0, _, Nat.zero_le _, rfl, hG5, ORow.nil _ _ _, hb6⟩
      case round =>
        clear hG5 hb6 x0 x1 x2
        obtain ⟨k, v, hk, rfl, hG, hv, hb⟩ := hrel
        by_cases hlt : k < ps.length
        · obtain ⟨b, o, rfl, hblt, hcell⟩ := part_at HR.out k hlt
          have hbw := HBB.out.trans (hb.mono HBB.out.size)
          obtain ⟨q0, q1, q2, q3⟩ := hcell wr hbw
          have hst : ps.take (k + 1) = ps.take k ++ [ps[k]] := List.take_succ_eq_append_getElem hlt
          have hn := HNEAR.out _ (List.getElem_mem hlt)
          have HP2 : Hid ((ps.take (k + 1)).filterMap (fun p => aheadP p x) = (ps.take k).filterMap (fun p => aheadP p x) ++ (aheadP ps[k] x).toList) := Lib.hid (by rw [hst, List.filterMap_append]; cases h : aheadP ps[k] x <;> simp [h])
          have HA := fun W => body_ahead ps[k] x hx0 (by omega) W hn
          have hlen : ((ps.take k).filterMap (fun p => aheadP p x)).length ≤ k := Nat.le_trans (List.length_filterMap_le _ _) (by rw [List.length_take]; omega)
          clear hst hcell hn
          generalize ps[k] = p at *
          generalize (ps.take k).filterMap (fun p => aheadP p x) = L at *
          obtain ⟨po, pl, pch, pat⟩ := p
          rw [pv_mk] at HA
          simp only at q0 q1 q2 q3
          have i0 : (0 : Int) ≤ (k : Int) := by omega
          have i1 : (k : Int) < (ps.length : Int) := by omega
          cases ha : aheadP ⟨po, pl, pch, pat⟩ x with
          | none =>
            rw [ha] at HA HP2
            simp only [Option.getD_none, Option.isSome_none, Option.toList_none, List.append_nil] at HA HP2
            replace HA := Lib.hid HA
            go_wp2_with fail
            (with_reducible refine (HA.out _).mono ?_)
            rintro e w6 ⟨rfl, hb6⟩
            have hbq := bn (bal (Below.refl wr.heap.size wr) _) hb6
            have hG6 := (hG.below hbq).alloc (.cells #[.int .i64 0, .int .i64 0, .int .i64 0, .int .i64 0] 50)
            have hb7 := bal hbq (.cells #[.int .i64 0, .int .i64 0, .int .i64 0, .int .i64 0] 50)
            have hv6 := ORow.below hv hb7
            have hb8 := hb.trans (hb7.mono hb.size)
            clear hb6 hbq hb7 hG hv hb q0 q1 q2 q3 hbw
            rw [show pv zeroP = .agg #[.int .i64 0, .int .i64 0, .int .i64 0, .int .i64 0] from rfl]
            go_wp2
            go_roundw
            case rel => exact ⟨k + 1, v, by omega, by go_num, hG6, by rw [HP2.out]; exact hv6, hb8⟩
            case measure => simp [intOf]; try omega
          | some q =>
            rw [ha] at HA HP2
            simp only [Option.getD_some, Option.isSome_some, Option.toList_some] at HA HP2
            replace HA := Lib.hid HA
            go_wp2_with fail
            (with_reducible refine (HA.out _).mono ?_)
            rintro e w6 ⟨rfl, hb6⟩
            obtain ⟨qo, ql, qch, qat⟩ := q
            rw [pv_mk]
            have hbq := bn (bal (Below.refl wr.heap.size wr) _) hb6
            have hG6 := (hG.below hbq).alloc (.cells #[.int .i64 qo, .int .i64 ql, .int .i64 qch, .int .i64 qat] 50)
            have hb7 := bal hbq (.cells #[.int .i64 qo, .int .i64 ql, .int .i64 qch, .int .i64 qat] 50)
            have hv6 := ORow.below hv hb7
            have hb8 := hb.trans (hb7.mono hb.size)
            have y1 : (w6.alloc (.cells #[.int .i64 qo, .int .i64 ql, .int .i64 qch, .int .i64 qat] 50)).cell? ⟨w5.heap.size, 1, none⟩ = some v := hG6.cell 1
            obtain ⟨A9, k9, w9, HR9, c9, f9, hG9, hv9, hb9⟩ := grow_out (w6.alloc (.cells #[.int .i64 qo, .int .i64 ql, .int .i64 qch, .int .i64 qat] 50)) w5.heap.size w5.heap.size _ v L ⟨qo, ql, qch, qat⟩ hG6 hv6 (by omega) (Nat.le_refl _) hb8.size (w6.heap.size + 1) (by simp)
            have hb10 := hb8.trans hb9
            clear hb6 hbq hb7 hG hv hb q0 q1 q2 q3 hbw hG6 hv6 hb8 hb9
            go_wp2_with (at_builtin; refine wpList_append_run rfl _ _ 44 44 rfl _ _ _ _ rfl rfl HR9.out ?_)
            go_roundw
            case rel => exact ⟨k + 1, _, by omega, by go_num, hG9, by rw [HP2.out]; exact hv9, hb10⟩
            case measure => simp [intOf]; try omega
        · obtain rfl : k = ps.length := by omega
          rw [List.take_length] at hv
          obtain ⟨A8, c8, rfl, _, hr8, had8⟩ := hv.read
          have HFR : Hid (∀ ad, A8 = some ad → w.heap.size ≤ ad.block) := Lib.hid fun ad e => by have := (had8 ad e).1; have := HN5.out; omega
          have hT := HTx.out.below (hb.mono (Nat.le_refl _))
          have y0 : wr.cell? ⟨w5.heap.size, 0, none⟩ = some (.int .i64 x) := hG.cell 0
          have y1 : wr.cell? ⟨w5.heap.size, 1, none⟩ = some (.slice A8 _ c8) := hG.cell 1
          have t0 : wr.cell? ⟨w.heap.size + 1, 0, none⟩ = some (.int .i64 0) := hT.cell 0
          have t1 : wr.cell? ⟨w.heap.size + 1, 1, none⟩ = some (.slice none 0 0) := hT.cell 1
          have u0 := hT.frozen 0
          have u1 := hT.frozen 1
          have hbw := HBB.out.trans (hb.mono HBB.out.size)
          generalize hLL : ps.filterMap (fun p => aheadP p x) = L at *
          have HR8 := Lib.hid hr8
          have h5 := HN5.out
          have HFIN : Hid (Rd ((wr.setCell ⟨w.heap.size + 1, 0, none⟩ (.int .i64 x)).setCell ⟨w.heap.size + 1, 1, none⟩ (.slice A8 L.length c8)) A8 (pcs L)) := Lib.hid (hr8.kp (kp_set2 wr _ _ _) fun ad e f => by have := (had8 ad e).1; omega)
          have HBE : Hid (Below w.heap.size w ((wr.setCell ⟨w.heap.size + 1, 0, none⟩ (.int .i64 x)).setCell ⟨w.heap.size + 1, 1, none⟩ (.slice A8 L.length c8))) := (hbw.setCell (by simp only; omega) _).setCell (by simp only; omega) _
          clear HR8 hr8 had8 hbw hb
          generalize hn8 : L.length = n8 at *
          go_wp2
          refine bodyPost_ret (res_body (T := w.heap.size + 1) Try.results26 rfl rfl rfl (blk_set2 hT)) rfl ?_
          subst hn8 hLL
          exact ⟨A8, c8, rfl, HFIN.out, HFR.out, HBE.out⟩
    · have HT : Hid (truncR size ps x = (0, [], 9)) := Lib.hid (by unfold truncR; rw [hm, if_pos rfl, if_neg hx])
      clear hm
      rw [HT.out]
      rcases (show x < 0 ∨ 0 ≤ x ∧ 1099511627776 < x by omega) with hx2 | ⟨hx2, hx3⟩
      all_goals
        clear hx
        go_enter Try.func26, Try.ntmps26
        go_wp2_with fail
        (with_reducible refine (HM.out _ hb0).mono ?_)
        rintro e w5 ⟨rfl, hb5⟩
        rw [HMM.out]
        have hT := hT0.below hb5
        have hbb := bn hb0 hb5
        have t0 : w5.cell? ⟨w.heap.size + 1, 0, none⟩ = some (.int .i64 0) := hT.cell 0
        have t1 : w5.cell? ⟨w.heap.size + 1, 1, none⟩ = some (.slice none 0 0) := hT.cell 1
        have u0 := hT.frozen 0
        have u1 := hT.frozen 1
        clear hB0 hT0 hb0 hb5
        go_wp2
        refine bodyPost_ret (res_body (T := w.heap.size + 1) Try.results26 rfl rfl rfl (blk_set2 hT)) rfl ?_
        exact ⟨none, 0, rfl, Rd.nil _ _, (fun _ h => by cases h), HST.out _ hbb⟩
theorem body_trunc (size : Int) (A : Option Addr) (n c : Nat) (ps : List Part) (x : Int) (w : World) (hn : ps.length = n) (hl : n ≤ 100000) (hr : Rd w A (pcs ps)) :
    Calls Try.prog 26 #[bv size A n c, .int .i64 x] w fun e w' => BodyRes w w' (truncR size ps x).1 (truncR size ps x).2.1 (truncR size ps x).2.2 e :=
  (body_truncF size A n c ps x w hn hl hr).mono fun _ _ ⟨A', c', h1, h2, _, h3⟩ => ⟨A', c', h1, h2, h3⟩
end Go.Proofs.Ytpnfgnddlfkfaaa
