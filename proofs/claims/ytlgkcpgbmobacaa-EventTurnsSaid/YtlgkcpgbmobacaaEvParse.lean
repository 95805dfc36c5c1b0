/-
  event.Read of anything; event.Parse.
-/
import Derived.Test.YtlgkcpgbmobacaaEvRead3
set_option linter.unusedSimpArgs false
set_option linter.unusedVariables false
namespace Go.Proofs.Ytlgkcpgbmobacaa
open Go.RowKit

theorem eNum_le {st : Option (List UInt8)} {n : Nat} {r : List UInt8} (h : eNum st = (n, some r)) : ∃ l, st = some l ∧ r.length ≤ l.length := by
  cases st with
  | none => cases h
  | some l => exact ⟨l, rfl, Nat.le_of_lt (eNum_less h)⟩
theorem event_read (g : Nat) (st : Option (List UInt8)) (w : World) (he : EyeAt w g st) (hlen : ∀ l, st = some l → l.length ≤ 1000000000) :
    Calls Try.prog 44 #[.pointer (some ⟨g, 0, none⟩)] w fun e w' => ReadPost w g st e w' := by
  by_cases h5 : (eByte st).1.toNat = 5
  · exact event_read5 g st w he (UInt8.toNat_inj.1 h5)
  · by_cases h4 : (eByte st).1.toNat = 4
    · exact event_read4 g st w he (UInt8.toNat_inj.1 h4)
    · by_cases h3 : (eByte st).1.toNat = 3
      · refine event_read3 g st w he (UInt8.toNat_inj.1 h3) ?_ ?_
        · refine Lib.hid fun l1 e => ?_
          obtain ⟨l2, e2, h2⟩ := eNum_le (n := (eNum (eNum (eText (eByte st).2).2).2).1) (r := l1) (by rw [← e])
          obtain ⟨l3, e3, h3⟩ := eNum_le (n := (eNum (eText (eByte st).2).2).1) (r := l2) (by rw [← e2])
          obtain ⟨l4, e4, h4⟩ := eText_le (s := (eText (eByte st).2).1) (r := l3) (by rw [← e3])
          match st, e4, hlen with
          | some (x :: l), e4, hlen =>
            have := hlen _ rfl
            have e5 : l = l4 := Option.some.inj e4
            subst e5
            simp at this
            omega
          | some [], e4, _ => cases e4
          | none, e4, _ => cases e4
        · exact Lib.hid fun e => ⟨eNum_bad (st := (eNum (eText (eByte st).2).2).2) (by rw [← e]), rfl⟩
      · exact event_read0 g st w he _ rfl (beq_eq_false_iff_ne.2 (by omega)) (beq_eq_false_iff_ne.2 (by omega)) (beq_eq_false_iff_ne.2 (by omega))

def ParsePost (w : World) (l : List UInt8) (e : Ending) (w' : World) : Prop :=
  ∃ (it : Item) (ok : Bool) (A5 : Option Addr) (c5 : Nat) (A6 : Option Addr) (c6 : Nat), e = .returned (.tuple #[iv it A5 c5 A6 c6, .int .i64 (if ok then 0 else 2)]) ∧ (ok = true ↔ may (dItem (some l)).1 = true ∧ (dItem (some l)).2 = some []) ∧ it = (if ok then (dItem (some l)).1 else zeroItem) ∧
    Rd w' A6 (pcs it.parts) ∧ (∀ ad, A6 = some ad → ad.block < w'.heap.size ∧ w.heap.size ≤ ad.block) ∧ Below w.heap.size w w'

theorem parse_res {tmps : Array Value} {w : World} {T : Nat} {n : Int} {v0 v1 v2 v3 v4 v5 v6 : Value} (h2 : tmps[2]?.getD undef = .pointer (some ⟨T, 0, none⟩)) (h3 : tmps[3]?.getD undef = .int .i64 n) (h : Blk w T 68 #[v0, v1, v2, v3, v4, v5, v6]) :
    (results Try.f43 tmps).run Try.prog w = .ok (.tuple #[.agg #[v0, v1, v2, v3, v4, v5, v6], .int .i64 n]) w := by
  have c0 : w.cell? ⟨T, 0, none⟩ = some v0 := h.cell 0
  have c1 : w.cell? ⟨T, 1, none⟩ = some v1 := h.cell 1
  have c2 : w.cell? ⟨T, 2, none⟩ = some v2 := h.cell 2
  have c3 : w.cell? ⟨T, 3, none⟩ = some v3 := h.cell 3
  have c4 : w.cell? ⟨T, 4, none⟩ = some v4 := h.cell 4
  have c5 : w.cell? ⟨T, 5, none⟩ = some v5 := h.cell 5
  have c6 : w.cell? ⟨T, 6, none⟩ = some v6 := h.cell 6
  simp [results, Try.results43, go_sem, h2, h3, c0, c1, c2, c3, c4, c5, c6]

set_option maxRecDepth 100000 in
set_option maxHeartbeats 4000000 in
theorem event_parse (A : Option Addr) (m cap : Nat) (l : List UInt8) (w : World) (hm : l.length = m) (hl : l.length ≤ 1000000000) (hr : RB w A l) :
    Calls Try.prog 43 #[.slice A m cap] w fun e w' => ParsePost w l e w' := by
  subst hm
  have hT0 := Blk.new w 68 #[.int .i64 0, .string ⟨([] : List UInt8).toArray⟩, .string ⟨([] : List UInt8).toArray⟩, .int .i64 0, .int .i64 0, .slice none 0 0, .slice none 0 0]
  have hb0 := bal (Below.refl w.heap.size w) (.cells #[.int .i64 0, .string ⟨([] : List UInt8).toArray⟩, .string ⟨([] : List UInt8).toArray⟩, .int .i64 0, .int .i64 0, .slice none 0 0, .slice none 0 0] 68)
  go_enter Try.func43, Try.ntmps43
  go_wp2_with fail
  refine (eye_new A l.length cap l _ rfl (by omega) (hr.below hb0)).mono ?_
  rintro e w2 ⟨g, rfl, hg, he2, hb2⟩
  have hT2 := hT0.below hb2
  have hb02 := bn hb0 hb2
  have hg2 := he2.lt'
  have hgT : g ≠ w.heap.size := by simp at hg; omega
  have hgw : w.heap.size ≤ g := by simp at hg; omega
  clear hT0 hb0 hb2 hr hg
  go_wp2_with fail
  refine (event_read g (some l) w2 he2 (fun l' e => by cases e; exact hl)).mono ?_
  rintro e w3 ⟨it, ok, A5, c5, A6, c6, rfl, hok, hit, hrd, had, he3, hk3⟩
  have hT3 := hT2.keep hk3 hT2.lt hgT.symm
  have hb03 := hb02.trans (hk3.below hb02.size hgw)
  obtain ⟨op, path, to_, off, size, data, ps⟩ := it
  rw [iv_eq]
  have hTW := hT3.alloc (.cells #[.int .i64 op, .string ⟨path.toArray⟩, .string ⟨to_.toArray⟩, .int .i64 off, .int .i64 size, .slice A5 data c5, .slice A6 ps.length c6] 68)
  have hbW := bal hb03 (.cells #[.int .i64 op, .string ⟨path.toArray⟩, .string ⟨to_.toArray⟩, .int .i64 off, .int .i64 size, .slice A5 data c5, .slice A6 ps.length c6] 68)
  have heW := he3.keep (bal (Below.refl _ _) (.cells #[.int .i64 op, .string ⟨path.toArray⟩, .string ⟨to_.toArray⟩, .int .i64 off, .int .i64 size, .slice A5 data c5, .slice A6 ps.length c6] 68))
  have hrW := hrd.below (bal (Below.refl _ _) (.cells #[.int .i64 op, .string ⟨path.toArray⟩, .string ⟨to_.toArray⟩, .int .i64 off, .int .i64 size, .slice A5 data c5, .slice A6 ps.length c6] 68))
  have t0 : (w3.alloc (.cells #[.int .i64 op, .string ⟨path.toArray⟩, .string ⟨to_.toArray⟩, .int .i64 off, .int .i64 size, .slice A5 data c5, .slice A6 ps.length c6] 68)).cell? ⟨w.heap.size, 0, none⟩ = some (.int .i64 0) := hTW.cell 0
  have u0 := hTW.frozen 0
  have t1 : (w3.alloc (.cells #[.int .i64 op, .string ⟨path.toArray⟩, .string ⟨to_.toArray⟩, .int .i64 off, .int .i64 size, .slice A5 data c5, .slice A6 ps.length c6] 68)).cell? ⟨w.heap.size, 1, none⟩ = some (.string ⟨([] : List UInt8).toArray⟩) := hTW.cell 1
  have u1 := hTW.frozen 1
  have t2 : (w3.alloc (.cells #[.int .i64 op, .string ⟨path.toArray⟩, .string ⟨to_.toArray⟩, .int .i64 off, .int .i64 size, .slice A5 data c5, .slice A6 ps.length c6] 68)).cell? ⟨w.heap.size, 2, none⟩ = some (.string ⟨([] : List UInt8).toArray⟩) := hTW.cell 2
  have u2 := hTW.frozen 2
  have t3 : (w3.alloc (.cells #[.int .i64 op, .string ⟨path.toArray⟩, .string ⟨to_.toArray⟩, .int .i64 off, .int .i64 size, .slice A5 data c5, .slice A6 ps.length c6] 68)).cell? ⟨w.heap.size, 3, none⟩ = some (.int .i64 0) := hTW.cell 3
  have u3 := hTW.frozen 3
  have t4 : (w3.alloc (.cells #[.int .i64 op, .string ⟨path.toArray⟩, .string ⟨to_.toArray⟩, .int .i64 off, .int .i64 size, .slice A5 data c5, .slice A6 ps.length c6] 68)).cell? ⟨w.heap.size, 4, none⟩ = some (.int .i64 0) := hTW.cell 4
  have u4 := hTW.frozen 4
  have t5 : (w3.alloc (.cells #[.int .i64 op, .string ⟨path.toArray⟩, .string ⟨to_.toArray⟩, .int .i64 off, .int .i64 size, .slice A5 data c5, .slice A6 ps.length c6] 68)).cell? ⟨w.heap.size, 5, none⟩ = some (.slice none 0 0) := hTW.cell 5
  have u5 := hTW.frozen 5
  have t6 : (w3.alloc (.cells #[.int .i64 op, .string ⟨path.toArray⟩, .string ⟨to_.toArray⟩, .int .i64 off, .int .i64 size, .slice A5 data c5, .slice A6 ps.length c6] 68)).cell? ⟨w.heap.size, 6, none⟩ = some (.slice none 0 0) := hTW.cell 6
  have u6 := hTW.frozen 6
  cases hst : (dItem (some l)).2 with
  | none =>
    rw [hst] at hok heW
    simp only [Option.isSome_none, Bool.false_and] at hok
    subst hok
    have HST := Lib.hid hst
    clear hst hit
    go_wp2
    refine bodyPost_ret (parse_res (T := w.heap.size) (n := 2) rfl rfl (v0 := .int .i64 0) (v1 := .string ⟨([] : List UInt8).toArray⟩) (v2 := .string ⟨([] : List UInt8).toArray⟩) (v3 := .int .i64 0) (v4 := .int .i64 0) (v5 := .slice none 0 0) (v6 := .slice none 0 0) (blk_set7 hTW)) rfl ?_
    exact ⟨zeroItem, false, none, 0, none, 0, rfl, by rw [HST.out]; simp, rfl, Rd.nil _ _, (fun ad e => by cases e), hbW.trans (below_set7 _ _ _ (Nat.le_refl _) _ _ _ _ _ _ _)⟩
  | some r =>
    rw [hst] at hok heW
    simp only [Option.isSome_some, Bool.true_and] at hok
    have HST := Lib.hid hst
    clear hst
    cases hm : may (dItem (some l)).1 with
    | false =>
      rw [hm] at hok
      subst hok
      have HM := Lib.hid hm
      clear hm hit
      go_wp2
      refine bodyPost_ret (parse_res (T := w.heap.size) (n := 2) rfl rfl (v0 := .int .i64 0) (v1 := .string ⟨([] : List UInt8).toArray⟩) (v2 := .string ⟨([] : List UInt8).toArray⟩) (v3 := .int .i64 0) (v4 := .int .i64 0) (v5 := .slice none 0 0) (v6 := .slice none 0 0) (blk_set7 hTW)) rfl ?_
      exact ⟨zeroItem, false, none, 0, none, 0, rfl, by rw [HM.out]; simp, rfl, Rd.nil _ _, (fun ad e => by cases e), hbW.trans (below_set7 _ _ _ (Nat.le_refl _) _ _ _ _ _ _ _)⟩
    | true =>
      rw [hm] at hok
      subst hok
      rw [if_pos rfl] at hit
      have HM := Lib.hid hm
      have HIT := Lib.hid hit
      clear hm hit
      cases r with
      | cons x r =>
        have hpos : (0 : Int) < ((left (some (x :: r)) : Nat) : Int) := by simp [left]
        go_wp2_with fail
        refine (eye_left g _ _ heW).mono ?_
        rintro e _ ⟨rfl, rfl⟩
        generalize ((left (some (x :: r)) : Nat) : Int) = q at *
        go_wp2
        refine bodyPost_ret (parse_res (T := w.heap.size) (n := 2) rfl rfl (v0 := .int .i64 0) (v1 := .string ⟨([] : List UInt8).toArray⟩) (v2 := .string ⟨([] : List UInt8).toArray⟩) (v3 := .int .i64 0) (v4 := .int .i64 0) (v5 := .slice none 0 0) (v6 := .slice none 0 0) (blk_set7 hTW)) rfl ?_
        exact ⟨zeroItem, false, none, 0, none, 0, rfl, by rw [HST.out]; simp, rfl, Rd.nil _ _, (fun ad e => by cases e), hbW.trans (below_set7 _ _ _ (Nat.le_refl _) _ _ _ _ _ _ _)⟩
      | nil =>
        have hB := Blk.new w3 68 #[.int .i64 op, .string ⟨path.toArray⟩, .string ⟨to_.toArray⟩, .int .i64 off, .int .i64 size, .slice A5 data c5, .slice A6 ps.length c6]
        have r0 : (w3.alloc (.cells #[.int .i64 op, .string ⟨path.toArray⟩, .string ⟨to_.toArray⟩, .int .i64 off, .int .i64 size, .slice A5 data c5, .slice A6 ps.length c6] 68)).cell? ⟨w3.heap.size, 0, none⟩ = some (.int .i64 op) := hB.cell 0
        have r1 : (w3.alloc (.cells #[.int .i64 op, .string ⟨path.toArray⟩, .string ⟨to_.toArray⟩, .int .i64 off, .int .i64 size, .slice A5 data c5, .slice A6 ps.length c6] 68)).cell? ⟨w3.heap.size, 1, none⟩ = some (.string ⟨path.toArray⟩) := hB.cell 1
        have r2 : (w3.alloc (.cells #[.int .i64 op, .string ⟨path.toArray⟩, .string ⟨to_.toArray⟩, .int .i64 off, .int .i64 size, .slice A5 data c5, .slice A6 ps.length c6] 68)).cell? ⟨w3.heap.size, 2, none⟩ = some (.string ⟨to_.toArray⟩) := hB.cell 2
        have r3 : (w3.alloc (.cells #[.int .i64 op, .string ⟨path.toArray⟩, .string ⟨to_.toArray⟩, .int .i64 off, .int .i64 size, .slice A5 data c5, .slice A6 ps.length c6] 68)).cell? ⟨w3.heap.size, 3, none⟩ = some (.int .i64 off) := hB.cell 3
        have r4 : (w3.alloc (.cells #[.int .i64 op, .string ⟨path.toArray⟩, .string ⟨to_.toArray⟩, .int .i64 off, .int .i64 size, .slice A5 data c5, .slice A6 ps.length c6] 68)).cell? ⟨w3.heap.size, 4, none⟩ = some (.int .i64 size) := hB.cell 4
        have r5 : (w3.alloc (.cells #[.int .i64 op, .string ⟨path.toArray⟩, .string ⟨to_.toArray⟩, .int .i64 off, .int .i64 size, .slice A5 data c5, .slice A6 ps.length c6] 68)).cell? ⟨w3.heap.size, 5, none⟩ = some (.slice A5 data c5) := hB.cell 5
        have r6 : (w3.alloc (.cells #[.int .i64 op, .string ⟨path.toArray⟩, .string ⟨to_.toArray⟩, .int .i64 off, .int .i64 size, .slice A5 data c5, .slice A6 ps.length c6] 68)).cell? ⟨w3.heap.size, 6, none⟩ = some (.slice A6 ps.length c6) := hB.cell 6
        go_wp2_with fail
        refine (eye_left g _ _ heW).mono ?_
        rintro e _ ⟨rfl, rfl⟩
        rw [show ((left (some ([] : List UInt8)) : Nat) : Int) = 0 from rfl]
        go_wp2
        refine bodyPost_ret (parse_res (T := w.heap.size) (n := 0) rfl rfl (v0 := .int .i64 op) (v1 := .string ⟨path.toArray⟩) (v2 := .string ⟨to_.toArray⟩) (v3 := .int .i64 off) (v4 := .int .i64 size) (v5 := .slice A5 data c5) (v6 := .slice A6 ps.length c6) (blk_set7 hTW)) rfl ?_
        have z2 := hb02.size
        have z3 := hT3.lt
        refine ⟨⟨op, path, to_, off, size, data, ps⟩, true, A5, c5, A6, c6, rfl, by rw [HM.out, HST.out]; simp, HIT.out, hrW.kp (kp_set7 _ _ _ _ _ _ _ _ _) (fun ad e h => ?_), fun ad e => ⟨?_, ?_⟩, hbW.trans (below_set7 _ _ _ (Nat.le_refl _) _ _ _ _ _ _ _)⟩
        · have := (had ad e).2
          have := hT2.lt
          omega
        · have := (had ad e).1
          simp [World.setCell]
          omega
        · have := (had ad e).2
          omega
end Go.Proofs.Ytlgkcpgbmobacaa
