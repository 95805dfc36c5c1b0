/-
  The disk: a range over the cache; Flush.
-/
import Derived.Test.YtangfnenfhkokaaDisk3
import Derived.Maps.Range
import Derived.Maps.RangeWalk
set_option linter.unusedSimpArgs false
set_option linter.unusedVariables false
namespace Go.Proofs.Ytangfnenfhkokaa
open Go.RowKit Go.Maps

/-- a range over a map under way: lf x: the entry at x is still to come -/
def MapR (P : Program) (k : TypeId) (q : IntKind) (w : World) (M r n : Nat) (f : Int → Option Value) (lf : Int → Bool) (cnt : Nat) : Prop :=
  ∃ (D : DataW Value) (left : Lit → Bool), w.ranges P k mR M r n D left cnt ∧ (∀ x, (Lit.int q x).wf = true → Maps.has D (.int q x) = (f x).isSome ∧ ∀ v, f x = some v → ∀ z, D.atKey (.int q x) z = .held v) ∧ ∀ x, (Lit.int q x).wf = true → left (.int q x) = lf x
theorem MapR.lt {P : Program} {k : TypeId} {q : IntKind} {w : World} {M r n : Nat} {f : Int → Option Value} {lf : Int → Bool} {cnt : Nat} (h : MapR P k q w M r n f lf cnt) : r < w.heap.size := by
  obtain ⟨D, left, h1, _⟩ := h
  exact h1.lt
theorem MapR.map {P : Program} {k : TypeId} {q : IntKind} {w : World} {M r n : Nat} {f : Int → Option Value} {lf : Int → Bool} {cnt : Nat} (h : MapR P k q w M r n f lf cnt) : MapF P k q w M n f := by
  obtain ⟨D, left, h1, h2, _⟩ := h
  exact ⟨D, h1.owns, h2⟩
theorem MapR.left_eq {P : Program} {k : TypeId} {q : IntKind} {w : World} {M r n : Nat} {f : Int → Option Value} {lf : Int → Bool} {cnt : Nat} (h : MapR P k q w M r n f lf cnt) : w.rangeLeft M r = cnt := by
  obtain ⟨D, left, h1, _⟩ := h
  exact h1.left_eq
theorem MapR.set {P : Program} {k : TypeId} {q : IntKind} {w : World} {M r n : Nat} {f : Int → Option Value} {lf : Int → Bool} {cnt : Nat} (h : MapR P k q w M r n f lf cnt) {g : Nat} {ty : TypeId} {cs : Array Value} (hb : Blk w g ty cs) (i : Nat) (u : Value) : MapR P k q (w.setCell ⟨g, i, none⟩ u) M r n f lf cnt := by
  have hM := h.map.no_blk hb
  obtain ⟨D, left, h1, h2, h3⟩ := h
  have hr : r ≠ g := by
    obtain ⟨es, clock, since, seen, c0, _, _, _, _, hr, _⟩ := h1
    intro e
    unfold Blk at hb
    rw [← e, hr] at hb
    cases hb
  have hk := (Kp.refl (fun j => j = g) w).setCell i u rfl
  refine ⟨D, left, h1.kept (row := some g) ⟨hk.os, hk.tape, hk.output, hk.size, fun j hj hne => hk.block j hj fun e => hne (by rw [e])⟩ (fun e => hM (Option.some.inj e)) (fun e => hr (Option.some.inj e)), h2, h3⟩
theorem MapF.range {P : Program} {k e t : TypeId} {q : IntKind} {w : World} {M n : Nat} {f : Int → Option Value} (h : MapF P k q w M n f) (hk : P.underlying k = some (.int q)) (ht : P.underlying t = some (.map k e)) :
    ∃ w' cnt, (Instr.range t (.map (some M))).run P w = .ok (.pointer (some ⟨w.heap.size, 0, none⟩)) w' ∧ MapR P k q w' M w.heap.size n f (fun x => (f x).isSome) cnt ∧ Below w.heap.size w w' ∧ w'.heap.size = w.heap.size + 1 := by
  obtain ⟨D, h1, h2⟩ := h
  obtain ⟨w', hrun, hr, hg, hz⟩ := h1.range (int_keyed hk) ht
  exact ⟨w', _, hrun, ⟨D, _, hr, h2, fun x hx => (h2 x hx).1⟩, ⟨hg.os, hg.tape, hg.output, hg.size, fun j hj => hg.block j hj (by simp)⟩, hz⟩
theorem MapR.next {P : Program} {k : TypeId} {q : IntKind} {w : World} {M r n : Nat} {f : Int → Option Value} {lf : Int → Bool} {cnt : Nat} (h : MapR P k q w M r n f lf cnt) (hk : P.underlying k = some (.int q)) (ty : TypeId) :
    (cnt = 0 ∧ (∀ x, (Lit.int q x).wf = true → lf x = false) ∧ (Instr.next (.pointer (some ⟨r, 0, none⟩)) false ty).run P w = .ok (.tuple #[.bool false]) w) ∨
    ∃ x v w' cnt', (Lit.int q x).wf = true ∧ lf x = true ∧ f x = some v ∧ (Instr.next (.pointer (some ⟨r, 0, none⟩)) false ty).run P w = .ok (.tuple #[.bool true, .int q x, v]) w' ∧
      MapR P k q w' M r n f (fun y => lf y && !(y == x)) cnt' ∧ cnt' < cnt ∧ Kp (fun j => j = r) w w' ∧ w'.heap.size = w.heap.size ∧ (Instr.entry (.pointer (some ⟨r, 0, none⟩))).run P w' = .ok (.tuple #[.int q x, v]) w' := by
  obtain ⟨D, left, h1, h2, h3⟩ := h
  rcases h1.next (int_keyed hk) ty with ⟨h0, hl, hrun⟩ | ⟨key, v, kl, y, w', cnt', hkey, hleft, hv, hat, hrun, hr, hlt, hg, hz, hent⟩
  · exact .inl ⟨h0, fun x hx => by rw [← h3 x hx]; exact hl _, hrun⟩
  · obtain ⟨x, rfl, rfl, hwf⟩ := Maps.keyOf_int_inv hk hkey
    have hy : y = (.held v, []) := by
      unfold mR at hv
      exact (Option.some.inj hv).symm
    subst hy
    have hhas : Maps.has D (.int q x) = true := by
      cases hh : Maps.has D (.int q x) with
      | true => rfl
      | false =>
        have h4 := hat (.map [])
        rw [atKey_of_not_has hh] at h4
        cases h4
    obtain ⟨a, b⟩ := h2 x hwf
    have hf : f x = some v := by
      rw [hhas] at a
      obtain ⟨u, hu⟩ := Option.isSome_iff_exists.1 a.symm
      have h5 := b u hu (.map [])
      rw [hat] at h5
      injection h5 with h5
      rw [hu, ← h5]
    refine .inr ⟨x, v, w', cnt', hwf, by rw [← h3 x hwf]; exact hleft, hf, hrun, ⟨D, _, hr, h2, fun y hy => ?_⟩, hlt, ⟨hg.os, hg.tape, hg.output, hg.size, fun j hj hF => hg.block j hj fun e => hF (Option.some.inj e)⟩, hz, hent⟩
    simp only [h3 y hy]
    congr 2
    rw [Bool.eq_iff_iff]
    constructor
    · intro e
      have := WideAt.sameKey_eq e
      injection this with _ e2
      simpa using e2
    · intro e
      have e2 : y = x := by simpa using e
      subst e2
      exact WideAt.sameKey_self trivial

def flushD (s : DSt) : Int × DSt := if s.dead then (15, s) else if s.fuse = 0 then (15, (burnD s).2) else (0, ⟨(List.range s.fl.length).map (fun i : Nat => curD s (i : Int)), fun _ => none, (burnD s).2.fuse, (burnD s).2.dead, (burnD s).2.ops⟩)
theorem flush_get (s : DSt) (i : Nat) (hi : i < s.fl.length) : ((List.range s.fl.length).map (fun i : Nat => curD s (i : Int))).getD i [] = curD s (i : Int) := by
  simp [List.getD_eq_getElem?_getD, List.getElem?_map, List.getElem?_range, hi]
theorem DOk.flush {s : DSt} (h : DOk s) (ho : s.ops < 1000000000) : DOk (flushD s).2 := by
  unfold flushD
  split
  · exact h
  · split
    · exact h.burn ho
    · have hb := h.burn ho
      refine ⟨by simpa using h.len, fun i hi => ?_, fun x b h => (by cases h), hb.fuse0, hb.fuse1, hb.ops0, hb.ops1⟩
      have hi' : i < s.fl.length := by simpa using hi
      simp only
      rw [flush_get s i hi']
      exact h.cur (by simpa [thereB] using hi')
/-- the row of sectors in the midst of a flush -/
def mixV (fv : List Value) (fc : Int → Option Value) (lf : Int → Bool) : List Value := (List.range fv.length).map fun i : Nat => if lf (i : Int) then fv.getD i nilS else (fc (i : Int)).getD (fv.getD i nilS)
theorem mixV_get (fv : List Value) (fc : Int → Option Value) (lf : Int → Bool) (i : Nat) (hi : i < fv.length) : (mixV fv fc lf)[i]? = some (if lf (i : Int) then fv.getD i nilS else (fc (i : Int)).getD (fv.getD i nilS)) := by
  unfold mixV
  rw [List.getElem?_map, List.getElem?_range hi]
  rfl
theorem mixV_len (fv : List Value) (fc : Int → Option Value) (lf : Int → Bool) : (mixV fv fc lf).length = fv.length := by simp [mixV]
theorem mixV_start (fv : List Value) (fc : Int → Option Value) : mixV fv fc (fun x => (fc x).isSome) = fv := by
  refine List.ext_getElem? fun i => ?_
  by_cases hi : i < fv.length
  · rw [mixV_get _ _ _ _ hi]
    have e : fv[i]? = some (fv.getD i nilS) := by simp [List.getD_eq_getElem?_getD, List.getElem?_eq_getElem hi]
    rw [e]
    cases hf : fc (i : Int) with
    | none => simp
    | some v => simp
  · rw [List.getElem?_eq_none (by rw [mixV_len]; omega), List.getElem?_eq_none (by omega)]
theorem mixV_step (fv : List Value) (fc : Int → Option Value) (lf : Int → Bool) (x : Nat) (v : Value) (hx : x < fv.length) (hf : fc (x : Int) = some v) : (mixV fv fc lf).set x v = mixV fv fc (fun y => lf y && !(y == (x : Int))) := by
  refine List.ext_getElem? fun i => ?_
  rw [List.getElem?_set, mixV_len]
  by_cases e : x = i
  · subst e
    rw [if_pos rfl, if_pos hx, mixV_get _ _ _ _ hx, hf]
    simp
  · rw [if_neg e]
    by_cases hi : i < fv.length
    · rw [mixV_get _ _ _ _ hi, mixV_get _ _ _ _ hi]
      have : ((i : Int) == (x : Int)) = false := by rw [beq_eq_false_iff_ne]; omega
      rw [this]
      simp
    · rw [List.getElem?_eq_none (by rw [mixV_len]; omega), List.getElem?_eq_none (by rw [mixV_len]; omega)]
/-- what a flushed sector's slice is -/
theorem DiskAt.cur {w : World} {g : Nat} {P : Nat → Prop} {n : Nat} {s : DSt} {L M : Nat} {fv : List Value} {fc : Int → Option Value} (h : DiskAt w g P n s L M fv fc) {i : Nat} (hi : i < s.fl.length) :
    Own w 0 5 ((fc (i : Int)).getD (fv.getD i nilS)) ((curD s (i : Int)).map eb) ∧ ∀ j, ((fc (i : Int)).getD (fv.getD i nilS)).ownBlock = some j → P j := by
  unfold curD
  cases hc : s.ca (i : Int) with
  | none => rw [h.none_ _ hc]; exact h.sec i hi
  | some b =>
    obtain ⟨v, h1, h2, h3⟩ := h.some_ _ b hc
    rw [h1]
    exact ⟨h2, h3⟩
/-- the disk when all is flushed -/
theorem DiskAt.flushed {w w' : World} {g : Nat} {P : Nat → Prop} {n n' : Nat} {s : DSt} {L M : Nat} {fv : List Value} {fc : Int → Option Value} (h : DiskAt w g P n s L M fv fc) {F : Nat → Prop} (hk : Kp F w w') (hF : ∀ j, P j → F j → j = L ∨ j = M) (hL : Blk w' L 42 (mixV fv fc fun _ => false).toArray) (hM : MapF Try.prog 3 .i64 w' M n' (fun _ => none)) :
    DiskAt w' g P n' ⟨(List.range s.fl.length).map (fun i : Nat => curD s (i : Int)), fun _ => none, s.fuse, s.dead, s.ops⟩ L M (mixV fv fc fun _ => false) (fun _ => none) := by
  have hlen := h.fll
  have hgL : g ≠ L := fun e => absurd ((e ▸ h.blk).type h.rows) (by decide)
  have hgM : g ≠ M := fun e => h.map.no_blk (e ▸ h.blk) rfl
  have hget : ∀ i, i < s.fl.length → (mixV fv fc fun _ => false).getD i nilS = (fc (i : Int)).getD (fv.getD i nilS) := fun i hi => by
    rw [List.getD_eq_getElem?_getD, mixV_get _ _ _ _ (by omega)]
    simp
  have hdiff : ∀ i m j, i < s.fl.length → m < s.fl.length → i ≠ m → ((fc (i : Int)).getD (fv.getD i nilS)).ownBlock = some j → ((fc (m : Int)).getD (fv.getD m nilS)).ownBlock ≠ some j := fun i m j hi hm hne hj => by
    cases hx : fc (i : Int) with
    | none =>
      rw [hx] at hj
      cases hy : fc (m : Int) with
      | none => exact h.ap1 i m j hi hm hne hj
      | some u => exact h.ap2 i (m : Int) u j hi hj hy
    | some v =>
      rw [hx] at hj
      cases hy : fc (m : Int) with
      | none => exact fun e => h.ap2 m (i : Int) v j hm e hx hj
      | some u => exact h.ap3 (i : Int) (m : Int) v u j (by omega) hx hy hj
  refine ⟨?_, hL, hM, by rw [mixV_len]; simpa using hlen, fun i hi => ?_, fun _ _ => rfl, fun x b hb => (by cases hb), fun i m j hi hm hne hj => ?_, fun i x v j _ _ hv => (by cases hv), fun x y v u j _ hv => (by cases hv), h.pg, h.pl, h.pm, fun j hj => Nat.lt_of_lt_of_le (h.lt j hj) hk.size⟩
  · have hb := h.blk.kp hk fun f => by
      rcases hF g h.pg f with e | e
      · exact hgL e
      · exact hgM e
    simpa using hb
  · have hi' : i < s.fl.length := by simpa using hi
    simp only
    rw [flush_get s i hi', hget i hi']
    obtain ⟨h1, h2⟩ := h.cur hi'
    refine ⟨h1.kp hk fun j e f => ?_, h2⟩
    rcases hF j (h2 j e) f with e2 | e2
    · subst e2; exact h1.no_blk h.rows (by decide) e
    · subst e2; exact h1.no_map h.map e
  · have hi' : i < s.fl.length := by simpa using hi
    have hm' : m < s.fl.length := by simpa using hm
    rw [hget i hi'] at hj
    rw [hget m hm']
    exact hdiff i m j hi' hm' hne hj
def FlushPost (w : World) (g : Nat) (P : Nat → Prop) (n : Nat) (r : Int × DSt) (e : Ending) (w' : World) : Prop :=
  e = .returned (.int .i64 r.1) ∧ Kp P w w' ∧ Disk w' g P n r.2
set_option maxRecDepth 100000 in
set_option maxHeartbeats 4000000 in
theorem disk_flush (g : Nat) (P : Nat → Prop) (n : Nat) (s : DSt) (w : World) (h : Disk w g P n s) (ok : DOk s) :
    Calls Try.prog 34 #[.pointer (some ⟨g, 0, none⟩)] w (FlushPost w g P n (flushD s)) := by
  have HG := Lib.hid h
  obtain ⟨L, M, fv, fc, h⟩ := h
  have x3 : w.cell? ⟨g, 3, none⟩ = some (.bool s.dead) := h.blk.cell 3
  have HAL := Lib.hid (disk_alive g s.dead w x3)
  have HBU := Lib.hid (disk_burn g P n s L M fv fc w h ok)
  have hlen := ok.len
  clear x3
  cases hd : s.dead with
  | true =>
    have hr : flushD s = (15, s) := by unfold flushD; rw [hd]; rfl
    rw [hr]
    rw [hd] at HAL
    clear hr hd h ok HBU
    go_enter Try.func34, Try.ntmps34
    go_wp2_with fail
    (with_reducible refine HAL.out.mono ?_)
    rintro e _ ⟨rfl, rfl⟩
    go_wp2
    go_ret
    exact ⟨rfl, Kp.refl _ _, HG.out⟩
  | false =>
    rw [hd] at HAL
    by_cases hf : s.fuse = 0
    · have hr : flushD s = (15, (burnD s).2) := by unfold flushD; rw [hd, if_neg (by decide), if_pos hf]
      rw [hr]
      have hb1 : (burnD s).1 = 15 := by unfold burnD; rw [if_pos hf]
      unfold BurnPost at HBU
      rw [hb1] at HBU
      have hpg := Lib.hid h.pg
      clear hr hd h ok hf hb1 HG
      go_enter Try.func34, Try.ntmps34
      go_wp2_with fail
      (with_reducible refine HAL.out.mono ?_)
      rintro e _ ⟨rfl, rfl⟩
      go_wp2_with fail
      (with_reducible refine HBU.out.mono ?_)
      rintro e w1 ⟨rfl, hk1, hz1, h1⟩
      go_wp2
      go_ret
      exact ⟨rfl, hk1.mono fun j _ e => e ▸ hpg.out, L, M, fv, fc, h1⟩
    · have hr : flushD s = (0, ⟨(List.range s.fl.length).map (fun i : Nat => curD s (i : Int)), fun _ => none, (burnD s).2.fuse, (burnD s).2.dead, (burnD s).2.ops⟩) := by unfold flushD; rw [hd, if_neg (by decide), if_neg hf]
      rw [hr]
      have hb1 : (burnD s).1 = 0 := by unfold burnD; rw [if_neg hf]
      have hb2 : (burnD s).2.fl = s.fl ∧ (burnD s).2.ca = s.ca := by unfold burnD; rw [if_neg hf]; exact ⟨rfl, rfl⟩
      unfold BurnPost at HBU
      rw [hb1] at HBU
      have hpg := Lib.hid h.pg
      have hpl := Lib.hid h.pl
      have hpm := Lib.hid h.pm
      have hcs := Lib.hid ok.cs
      have hfc := Lib.hid h.none_
      have hfl := Lib.hid h.fll
      generalize (burnD s).2 = s1 at *
      obtain ⟨fl1, ca1, fuse1, dead1, ops1⟩ := s1
      obtain ⟨e1, e2⟩ := hb2
      simp only at e1 e2
      subst e1 e2
      clear hr hd h ok hf hb1 HG
      go_enter Try.func34, Try.ntmps34
      go_wp2_with fail
      (with_reducible refine HAL.out.mono ?_)
      rintro e _ ⟨rfl, rfl⟩
      go_wp2_with fail
      (with_reducible refine HBU.out.mono ?_)
      rintro e w1 ⟨rfl, hk1, hz1, h1⟩
      replace hz1 := Lib.hid hz1
      have hk1P : Kp P w w1 := hk1.mono fun j _ e => e ▸ hpg.out
      have y1 : w1.cell? ⟨g, 1, none⟩ = some (.map (some M)) := h1.blk.cell 1
      obtain ⟨w2, cnt, hrun2, hmr2, hb2, hz2⟩ := h1.map.range (t := 82) (e := 42) Try.underlying3 Try.underlying82
      have H1 := Lib.hid h1
      have HMR := Lib.hid hmr2
      have HB2 := Lib.hid hb2
      have hLr : L < w1.heap.size := h1.lt L h1.pl
      clear h1 hmr2 hb2 hk1
      go_wp2
      clear hrun2 hz2 y1
      go_loopw [5, 6] (fun _ _ wr => ∃ (lf : Int → Bool) (cn : Nat), MapR Try.prog 3 .i64 wr M w1.heap.size n fc lf cn ∧ Blk wr L 42 (mixV fv fc lf).toArray ∧ Hid (Kp (fun j => j = L) w1 wr)) (fun _ _ w' => w'.rangeLeft M w1.heap.size)
      case atStart => exact ⟨_, cnt, HMR.out, by rw [mixV_start]; exact H1.out.rows.below HB2.out, Lib.hid (kp_of HB2.out)⟩
      case round =>
        clear HMR HB2
        obtain ⟨lf, cn, hmr, hL, hk⟩ := hrel
        have hgL : Hid (g ≠ L) := Lib.hid fun e => absurd ((e ▸ H1.out.blk).type H1.out.rows) (by decide)
        have hML : Hid (M ≠ L) := Lib.hid fun e => H1.out.map.no_blk H1.out.rows e
        have HGB : Hid (∀ W, Kp (fun j => j = L) w1 W → Blk W g 84 _) := Lib.hid fun W h => H1.out.blk.kp h hgL.out
        rcases hmr.next Try.underlying3 0 with ⟨h0, hlf, hrunN⟩ | ⟨x, v, w', cn', hwf, hlx, hfx, hrunN, hmr', hcn, hkr, hzr, hent⟩
        · have HLF := Lib.hid hlf
          have y1 : wr.cell? ⟨g, 1, none⟩ = some (.map (some M)) := (HGB.out wr hk.out).cell 1
          obtain ⟨w4, hrun4, hm4, hk4, hz4⟩ := hmr.map.clear (t := 82) (e := 42) Try.underlying82 0
          have hcl : ∀ ty, (Builtin.clear_ #[82] ty #[.map (some M)]).run Try.prog wr = .ok (.tuple #[]) w4 := fun ty => hrun4
          have HFIN : Hid (Kp P w w4 ∧ Disk w4 g P n ⟨(List.range s.fl.length).map (fun i : Nat => curD s (i : Int)), fun _ => none, fuse1, dead1, ops1⟩) := Lib.hid (by
            have hkk : Kp (fun j => j = L ∨ j = M) w1 w4 := (hk.out.mono fun j _ e => .inl e).trans (hk4.mono fun j _ e => .inr e) fun i _ e => e
            have hmx : mixV fv fc lf = mixV fv fc fun _ => false := by
              refine List.ext_getElem? fun i => ?_
              by_cases hi : i < fv.length
              · rw [mixV_get _ _ _ _ hi, mixV_get _ _ _ _ hi]
                have : lf (i : Int) = false := HLF.out (i : Int) (WalkArith.wf_i64 ⟨by omega, by have := hfl.out; omega⟩)
                rw [this]
              · rw [List.getElem?_eq_none (by rw [mixV_len]; omega), List.getElem?_eq_none (by rw [mixV_len]; omega)]
            have hL4 := hL.kp hk4 (fun e => hML.out e.symm)
            rw [hmx] at hL4
            have h5 := H1.out.flushed hkk (fun j _ e => e) hL4 (hm4.mono (Nat.zero_le n))
            refine ⟨hk1P.trans hkk fun i _ e => ?_, L, M, _, _, h5⟩
            rcases e with rfl | rfl
            · exact hpl.out
            · exact hpm.out)
          clear hlf hrun4 hm4 hk4 hz4 hmr hL h0 HAL HBU
          go_wp2
          go_ret
          exact ⟨rfl, HFIN.out⟩
        · have hxs : (s.ca x).isSome = true := by
            cases hc : s.ca x with
            | none => rw [hfc.out x hc] at hfx; cases hfx
            | some b => rfl
          obtain ⟨b, hb⟩ := Option.isSome_iff_exists.1 hxs
          obtain ⟨-, b1, b2⟩ := hcs.out x b hb
          obtain ⟨v', a1, a2, _⟩ := H1.out.some_ x b hb
          rw [a1] at hfx
          cases hfx
          obtain ⟨A, c, rfl, _, _⟩ := a2.bytes
          obtain ⟨q, rfl⟩ := Int.eq_ofNat_of_zero_le b1
          have hq : q < fv.length := by have := hfl.out; omega
          have hkw : Kp (fun j => j = L) w1 w' := hk.out.trans hkr fun i hi e => by omega
          have hLw := hL.kp hkr (by omega)
          have y0 : w'.cell? ⟨g, 0, none⟩ = some (.slice (some ⟨L, 0, none⟩) s.fl.length s.fl.length) := (HGB.out w' hkw).cell 0
          have i0 : (0 : Int) ≤ (q : Int) := by omega
          have i1 : (q : Int) < (s.fl.length : Int) := by omega
          obtain ⟨old, hold⟩ : ∃ old, w'.cell? ⟨L, q, none⟩ = some old := by
            rw [hLw.cell q]
            exact ⟨_, Array.getElem?_eq_getElem (by simp [mixV_len]; exact hq)⟩
          have fz := hLw.frozen q
          have HLN := Lib.hid (hLw.set q (.slice A b.length c))
          have hms := mixV_step fv fc lf q (.slice A b.length c) hq a1
          have HLN2 : Hid (Blk (w'.setCell ⟨L, q, none⟩ (.slice A b.length c)) L 42 (mixV fv fc (fun y => lf y && !(y == (q : Int)))).toArray) := Lib.hid (by
            rw [← hms]
            have := HLN.out
            simpa using this)
          have HMN := Lib.hid (hmr'.set hLw q (.slice A b.length c))
          have HKN := Lib.hid (hkw.setCell q (.slice A b.length c) rfl)
          have HCN : Hid (wr.rangeLeft M w1.heap.size = cn ∧ cn' < cn) := Lib.hid ⟨hmr.left_eq, hcn⟩
          clear hxs hb a1 a2 hms HLN hLw hkw hkr hmr' hmr hL hcn hlx hwf hk HAL HBU
          go_wp2
          go_roundw
          case rel => exact ⟨_, cn', HMN.out, HLN2.out, HKN⟩
          case measure =>
            rw [HMN.out.left_eq, HCN.out.1]
            exact HCN.out.2
end Go.Proofs.Ytangfnenfhkokaa
