/-
  The slots: what they are; fits and May.
-/
import Derived.Test.YtangfnenfhkokaaMapF
import Derived.Test.YtangfnenfhkokaaSteps
import Derived.Test.YtangfnenfhkokaaDisk
import Derived.IntWalk
set_option linter.unusedSimpArgs false
set_option linter.unusedVariables false
namespace Go.Proofs.Ytangfnenfhkokaa
open Go.RowKit Go.Maps

/-- where a log is -/
structure SLog where
  segs : List Int
  len : Int
  last : Crc.W
/-- a slot -/
structure Sup where
  number : Int
  boot : Int
  jour : SLog
  chunks : SLog
def ei (x : Int) : Value := .int .i64 x
def wide (x : Int) : Prop := -9223372036854775808 ≤ x ∧ x ≤ 9223372036854775807
/-- a log as cells, its row at A -/
def logC (l : SLog) (A : Option Addr) (c : Nat) : List Value := [.slice A l.segs.length c, .int .i64 l.len, .int .u32 (l.last.toNat : Int)]
def logV (l : SLog) (A : Option Addr) (c : Nat) : Value := .agg #[.slice A l.segs.length c, .int .i64 l.len, .int .u32 (l.last.toNat : Int)]
def supV (s : Sup) (A : Option Addr) (c : Nat) (A2 : Option Addr) (c2 : Nat) : Value :=
  .agg #[.int .i64 s.number, .int .i64 s.boot, .slice A s.jour.segs.length c, .int .i64 s.jour.len, .int .u32 (s.jour.last.toNat : Int), .slice A2 s.chunks.segs.length c2, .int .i64 s.chunks.len, .int .u32 (s.chunks.last.toNat : Int)]

/-- segments that may be, none of them had yet -/
def segsOk (segs : Int) : List Int → List Int → Bool
  | _, [] => true
  | had, s :: r => (decide (0 ≤ s ∧ s < segs) && !had.contains s) && segsOk segs (had ++ [s]) r
def lenOk (l : SLog) : Bool := decide (0 ≤ l.len ∧ l.len ≤ 8 * (l.segs.length : Int))
def fitsL (segs : Int) (had : List Int) (l : SLog) : Bool := segsOk segs had l.segs && lenOk l
def supMay (s : Sup) (segs : Int) : Bool :=
  decide (0 ≤ s.number ∧ s.number ≤ 2147483647 ∧ 0 ≤ s.boot ∧ s.boot ≤ 2147483647) && (fitsL segs [] s.jour && fitsL segs s.jour.segs s.chunks)
/-- what a map of those that were had says -/
def hadF (had : List Int) : Int → Option Value := fun x => if had.contains x then some (.bool true) else none
theorem segsOk_step (segs : Int) (had l : List Int) (k : Nat) (hk : k < l.length) :
    segsOk segs (had ++ l.take k) (l.drop k) = ((decide (0 ≤ l[k] ∧ l[k] < segs) && !(had ++ l.take k).contains l[k]) && segsOk segs (had ++ l.take (k + 1)) (l.drop (k + 1))) := by
  rw [List.drop_eq_getElem_cons hk, segsOk, List.append_assoc, ← List.take_succ_eq_append_getElem hk]
theorem hadF_snoc (had : List Int) (x : Int) : (fun y => if y = x then some (Value.bool true) else hadF had y) = hadF (had ++ [x]) := by
  funext y
  unfold hadF
  by_cases h : y = x
  · subst h; simp
  · simp [h, List.contains_eq_mem]
theorem zero_bool (w : World) : (zeroValue 4).run Try.prog w = .ok (.bool false) w := by kernel_rfl
theorem look_had {w : World} {M n : Nat} {had : List Int} (h : MapF Try.prog 3 .i64 w M n (hadF had)) {x : Int} (hx : wide x) :
    (Instr.lookup 129 (.map (some M)) (.int .i64 x) false).run Try.prog w = .ok (.bool (had.contains x)) w := by
  rw [h.look1 Try.underlying3 Try.underlying129 (zero_bool w) (WalkArith.wf_i64 hx)]
  unfold hadF
  cases had.contains x <;> rfl
theorem put_had {w : World} {M n : Nat} {had : List Int} (h : MapF Try.prog 3 .i64 w M n (hadF had)) (hn : n < maxLen) {x : Int} (hx : wide x) :
    ∃ w', (Instr.mapUpdate 129 (.map (some M)) (.int .i64 x) (.bool true)).run Try.prog w = .ok () w' ∧ MapF Try.prog 3 .i64 w' M (n + 1) (hadF (had ++ [x])) ∧ Kp (fun j => j = M) w w' ∧ w'.heap.size = w.heap.size := by
  obtain ⟨w', h1, h2, h3, h4⟩ := h.store Try.underlying3 Try.underlying129 hn (WalkArith.wf_i64 hx) (.bool true)
  rw [hadF_snoc] at h2
  exact ⟨w', h1, h2, h3, h4⟩
def FitsPost (M n : Nat) (segs : Int) (had : List Int) (l : SLog) (w : World) (e : Ending) (w' : World) : Prop :=
  e = .returned (.bool (fitsL segs had l)) ∧ Kp (fun j => j = M) w w' ∧ (segsOk segs had l.segs = true → MapF Try.prog 3 .i64 w' M (n + l.segs.length) (hadF (had ++ l.segs)))
set_option maxRecDepth 100000 in
set_option maxHeartbeats 4000000 in
theorem super_fits (M n : Nat) (segs : Int) (had : List Int) (l : SLog) (A : Option Addr) (c : Nat) (w : World) (hm : MapF Try.prog 3 .i64 w M n (hadF had)) (hr : Rd w A (l.segs.map ei)) (hw : ∀ x ∈ l.segs, wide x) (hA : ∀ ad, A = some ad → ad.block ≠ M) (hn : n + l.segs.length < 1000000000000) :
    Calls Try.prog 85 #[logV l A c, .map (some M), .int .i64 segs] w (FitsPost M n segs had l w) := by
  obtain ⟨l, ln, la⟩ := l
  unfold logV
  simp only at hr hw hn ⊢
  go_enter Try.func85, Try.ntmps85
  go_wp2
  have hB := Blk.new w 38 #[.slice A l.length c, .int .i64 ln, .int .u32 (la.toNat : Int)]
  have hb1 : Kp (fun j => j = M) w (w.alloc (.cells #[.slice A l.length c, .int .i64 ln, .int .u32 (la.toNat : Int)] 38)) := kp_of (bal (Below.refl _ _) _)
  have hm1 := hm.below (bal (Below.refl _ _) (.cells #[.slice A l.length c, .int .i64 ln, .int .u32 (la.toNat : Int)] 38))
  have hr1 := hr.below (bal (Below.refl _ _) (.cells #[.slice A l.length c, .int .i64 ln, .int .u32 (la.toNat : Int)] 38))
  have hne : w.heap.size ≠ M := fun e => by have := hm.lt; omega
  generalize (w.alloc (.cells #[.slice A l.length c, .int .i64 ln, .int .u32 (la.toNat : Int)] 38)) = W1 at *
  have HNE := Lib.hid hne
  clear hne
  go_loopw [12] (fun i wr => ∃ k : Nat, k ≤ l.length ∧ i = .int .i64 (k : Int) ∧ Hid (segsOk segs had l = segsOk segs (had ++ l.take k) (l.drop k)) ∧ Kp (fun j => j = M) W1 wr ∧ MapF Try.prog 3 .i64 wr M (n + k) (hadF (had ++ l.take k))) (fun i _ => l.length - (intOf i).toNat)
  case atStart => exact ⟨0, Nat.zero_le _, rfl, Lib.hid (by simp), Kp.refl _ _, by simpa using hm1⟩
  case round =>
    obtain ⟨k, hk, rfl, hall, hkr, hmk⟩ := hrel
    have hrk := hr1.kp hkr (fun ad e => hA ad e)
    by_cases hlt : k < l.length
    · obtain ⟨ad, rfl⟩ := hrk.some_of (by intro e; have := congrArg List.length e; simp at this; subst this; simp at hlt)
      have x0 := hrk.at_ k (by simpa using hlt)
      rw [List.getElem_map] at x0
      unfold ei at x0
      have hwk := hw l[k] (List.getElem_mem hlt)
      have hst := segsOk_step segs had l k hlt
      have htk : had ++ l.take (k + 1) = (had ++ l.take k) ++ [l[k]] := by rw [List.append_assoc, ← List.take_succ_eq_append_getElem hlt]
      obtain ⟨x, hx⟩ : ∃ x, l[k] = x := ⟨_, rfl⟩
      rw [hx] at x0 hst hwk htk
      have hlk := look_had hmk hwk
      obtain ⟨w2, hst2, hm2, hk2, hz2⟩ := put_had hmk (by unfold maxLen; omega) hwk
      obtain ⟨hw1, hw2⟩ := hwk
      rw [← htk] at hm2
      have HALL := Lib.hid (hall.out.trans hst)
      have HZ2 := Lib.hid hz2
      have HLK := Lib.hid hlk
      clear hst hx hz2 hall htk
      by_cases c1 : x < 0
      · go_wp2
        go_ret
        refine ⟨ret_bool ?_, hb1.trans hkr fun _ _ h => h, fun h => ?_⟩
        · unfold fitsL; rw [HALL.out, decide_eq_false (by omega)]; rfl
        · rw [HALL.out, decide_eq_false (by omega)] at h; cases h
      · by_cases c2 : segs ≤ x
        · go_wp2
          go_ret
          refine ⟨ret_bool ?_, hb1.trans hkr fun _ _ h => h, fun h => ?_⟩
          · unfold fitsL; rw [HALL.out, decide_eq_false (by omega)]; rfl
          · rw [HALL.out, decide_eq_false (by omega)] at h; cases h
        · cases hc : (had ++ l.take k).contains x with
          | true =>
            rw [hc] at hlk HALL
            have HC := Lib.hid hc
            clear hc HLK
            go_wp2
            go_ret
            refine ⟨ret_bool ?_, hb1.trans hkr fun _ _ h => h, fun h => ?_⟩
            · unfold fitsL; rw [HALL.out]; simp
            · rw [HALL.out] at h; simp at h
          | false =>
            rw [hc] at hlk HALL
            have HC := Lib.hid hc
            clear hc HLK
            go_wp2
            go_roundw
            case rel => exact ⟨k + 1, by omega, by go_num, Lib.hid (by rw [HALL.out, decide_eq_true ⟨by omega, by omega⟩]; rfl), hkr.trans hk2 (fun _ _ h => h), by rw [Nat.add_assoc] at hm2; exact hm2⟩
            case measure => simp [intOf]; try omega
    · obtain rfl : k = l.length := by omega
      have hB2 := hB.kp hkr HNE.out
      have x0 : wr.cell? ⟨w.heap.size, 0, none⟩ = some (.slice A l.length c) := hB2.cell 0
      have x1 : wr.cell? ⟨w.heap.size, 1, none⟩ = some (.int .i64 ln) := hB2.cell 1
      rw [List.take_length] at hall hmk
      rw [List.drop_length] at hall
      have hall2 : segsOk segs had l = true := hall.out
      have HFIN : Hid (fitsL segs had ⟨l, ln, la⟩ = decide (0 ≤ ln ∧ ln ≤ 8 * (l.length : Int))) := Lib.hid (by unfold fitsL lenOk; rw [hall2]; rfl)
      clear hall hall2 hB hB2 hr hr1 hrk
      by_cases c1 : 0 ≤ ln
      · go_wp2
        all_goals go_ret
        all_goals refine ⟨ret_bool ?_, hb1.trans hkr fun _ _ h => h, fun h => hmk⟩
        all_goals rw [HFIN.out]
        all_goals (try (simp; omega))
        all_goals trace_state
      · go_wp2
        go_ret
        refine ⟨ret_bool ?_, hb1.trans hkr fun _ _ h => h, fun h => hmk⟩
        rw [HFIN.out, decide_eq_false (by omega)]
theorem Kp_fit {M : Nat} {A : Option Addr} {w : World} {cs : List Value} (h : Rd w A cs) (hM : w.heap.size ≤ M) : ∀ ad, A = some ad → cs ≠ [] → ad.block ≠ M := fun ad e hn e2 => by
  have := h.lt e hn
  omega
set_option maxRecDepth 100000 in
set_option maxHeartbeats 4000000 in
theorem super_may (s : Sup) (segs : Int) (A : Option Addr) (c : Nat) (A2 : Option Addr) (c2 : Nat) (w : World) (h1 : Rd w A (s.jour.segs.map ei)) (h2 : Rd w A2 (s.chunks.segs.map ei)) (hw1 : ∀ x ∈ s.jour.segs, wide x) (hw2 : ∀ x ∈ s.chunks.segs, wide x)
    (hA : ∀ ad, A = some ad → ad.block < w.heap.size) (hA2 : ∀ ad, A2 = some ad → ad.block < w.heap.size) (hl1 : s.jour.segs.length ≤ 100000000000) (hl2 : s.chunks.segs.length ≤ 100000000000) :
    Calls Try.prog 56 #[supV s A c A2 c2, .int .i64 segs] w fun e w' => e = .returned (.bool (supMay s (min segs 96))) ∧ Below w.heap.size w w' := by
  obtain ⟨nu, bo, ⟨l1, n1, s1⟩, ⟨l2, n2, s2⟩⟩ := s
  have hmm := @run_makeMap Try.prog
  unfold supV
  simp only at h1 h2 hw1 hw2 hl1 hl2 ⊢
  go_enter Try.func56, Try.ntmps56
  have b1 := bal (Below.refl _ w) (.cells #[.int .i64 nu, .int .i64 bo, .slice A l1.length c, .int .i64 n1, .int .u32 (s1.toNat : Int), .slice A2 l2.length c2, .int .i64 n2, .int .u32 (s2.toNat : Int)] 68)
  have b2 := bal b1 (.map #[] 0)
  have m2 := MapF.made (P := Try.prog) (k := 3) (q := .i64) (w.alloc (.cells #[.int .i64 nu, .int .i64 bo, .slice A l1.length c, .int .i64 n1, .int .u32 (s1.toNat : Int), .slice A2 l2.length c2, .int .i64 n2, .int .u32 (s2.toNat : Int)] 68))
  rw [size_more'] at m2
  have hB := (Blk.new w 68 #[.int .i64 nu, .int .i64 bo, .slice A l1.length c, .int .i64 n1, .int .u32 (s1.toNat : Int), .slice A2 l2.length c2, .int .i64 n2, .int .u32 (s2.toNat : Int)]).alloc (.map #[] 0)
  have hhad : (fun _ : Int => (none : Option Value)) = hadF [] := by funext x; simp [hadF]
  rw [hhad] at m2
  have HF : Hid (∀ sg : Int, Calls Try.prog 85 #[.agg #[.slice A l1.length c, .int .i64 n1, .int .u32 (s1.toNat : Int)], .map (some (w.heap.size + 1)), .int .i64 sg] ((w.alloc (.cells #[.int .i64 nu, .int .i64 bo, .slice A l1.length c, .int .i64 n1, .int .u32 (s1.toNat : Int), .slice A2 l2.length c2, .int .i64 n2, .int .u32 (s2.toNat : Int)] 68)).alloc (.map #[] 0)) (FitsPost (w.heap.size + 1) 0 sg [] ⟨l1, n1, s1⟩ ((w.alloc (.cells #[.int .i64 nu, .int .i64 bo, .slice A l1.length c, .int .i64 n1, .int .u32 (s1.toNat : Int), .slice A2 l2.length c2, .int .i64 n2, .int .u32 (s2.toNat : Int)] 68)).alloc (.map #[] 0)))) :=
    Lib.hid fun sg => super_fits (w.heap.size + 1) 0 sg [] ⟨l1, n1, s1⟩ A c _ m2 (h1.below b2) hw1 (fun ad e => by have := hA ad e; omega) (by simp only; omega)
  have HF2 : Hid (∀ (sg : Int) (W : World), Kp (fun j => j = w.heap.size + 1) ((w.alloc (.cells #[.int .i64 nu, .int .i64 bo, .slice A l1.length c, .int .i64 n1, .int .u32 (s1.toNat : Int), .slice A2 l2.length c2, .int .i64 n2, .int .u32 (s2.toNat : Int)] 68)).alloc (.map #[] 0)) W → MapF Try.prog 3 .i64 W (w.heap.size + 1) (0 + l1.length) (hadF ([] ++ l1)) → Calls Try.prog 85 #[.agg #[.slice A2 l2.length c2, .int .i64 n2, .int .u32 (s2.toNat : Int)], .map (some (w.heap.size + 1)), .int .i64 sg] W (FitsPost (w.heap.size + 1) (0 + l1.length) sg l1 ⟨l2, n2, s2⟩ W)) :=
    Lib.hid fun sg W hk hm => super_fits (w.heap.size + 1) _ sg l1 ⟨l2, n2, s2⟩ A2 c2 _ hm ((h2.below b2).kp hk fun ad e => by have := hA2 ad e; omega) hw2 (fun ad e => by have := hA2 ad e; omega) (by simp only; omega)
  have HC : Hid (∀ W : World, Kp (fun j => j = w.heap.size + 1) ((w.alloc (.cells #[.int .i64 nu, .int .i64 bo, .slice A l1.length c, .int .i64 n1, .int .u32 (s1.toNat : Int), .slice A2 l2.length c2, .int .i64 n2, .int .u32 (s2.toNat : Int)] 68)).alloc (.map #[] 0)) W → W.cell? ⟨w.heap.size, 5, none⟩ = some (.slice A2 l2.length c2) ∧ W.cell? ⟨w.heap.size, 6, none⟩ = some (.int .i64 n2) ∧ W.cell? ⟨w.heap.size, 7, none⟩ = some (.int .u32 (s2.toNat : Int)) ∧ Below w.heap.size w W) :=
    Lib.hid fun W hk => ⟨(hB.kp hk (by omega)).cell 5, (hB.kp hk (by omega)).cell 6, (hB.kp hk (by omega)).cell 7, b2.trans (hk.below (by simp; omega) fun j e => by omega)⟩
  have HB2 := Lib.hid b2
  clear m2 b1 b2 hB h1 h2 hA hA2 hl1 hl2
  obtain ⟨sg, hsg⟩ : ∃ sg, min segs 96 = sg := ⟨_, rfl⟩
  rw [hsg]
  have HSG : Hid (supMay ⟨nu, bo, ⟨l1, n1, s1⟩, ⟨l2, n2, s2⟩⟩ sg = (decide (0 ≤ nu ∧ nu ≤ 2147483647 ∧ 0 ≤ bo ∧ bo ≤ 2147483647) && (fitsL sg [] ⟨l1, n1, s1⟩ && fitsL sg l1 ⟨l2, n2, s2⟩))) := Lib.hid rfl
  by_cases hseg : segs ≤ 96
  · obtain rfl : sg = segs := by omega
    by_cases cn : 0 ≤ nu ∧ nu ≤ 2147483647 ∧ 0 ≤ bo ∧ bo ≤ 2147483647
    · obtain ⟨c1, c2', c3, c4⟩ := cn
      cases hf : fitsL sg [] ⟨l1, n1, s1⟩ with
      | false =>
        have HFE := Lib.hid hf
        clear hf
        go_wp2_with fail
        (with_reducible refine (HF.out sg).mono ?_)
        rintro e w1 ⟨rfl, hk1, -⟩
        rw [HFE.out]
        go_wp2
        go_ret
        exact ⟨ret_bool (by rw [HSG.out, HFE.out]; simp), (HC.out _ hk1).2.2.2⟩
      | true =>
        have HFE := Lib.hid hf
        have hs0 : segsOk sg [] l1 = true := by unfold fitsL at hf; rw [Bool.and_eq_true] at hf; exact hf.1
        have HS0 := Lib.hid hs0
        clear hf hs0
        go_wp2_with fail
        (with_reducible refine (HF.out sg).mono ?_)
        rintro e w1 ⟨rfl, hk1, hm1⟩
        rw [HFE.out]
        have hm1 := hm1 HS0.out
        obtain ⟨x5, x6, x7, hb1⟩ := HC.out _ hk1
        have HP := Lib.hid (HF2.out sg w1 hk1 hm1)
        clear hm1
        go_wp2_with fail
        (with_reducible refine HP.out.mono ?_)
        rintro e w2 ⟨rfl, hk2, -⟩
        go_wp2
        go_ret
        exact ⟨ret_bool (by rw [HSG.out, HFE.out, decide_eq_true ⟨c1, c2', c3, c4⟩]; simp), hb1.trans (hk2.below (by have := hb1.size; have := hk1.size; simp at this; omega) fun j e => by omega)⟩
    · have HN := Lib.hid (decide_eq_false cn)
      go_wp2_with fail
      all_goals first
        | (exfalso; omega)
        | (go_ret
           exact ⟨ret_bool (by rw [HSG.out, HN.out]; rfl), HB2.out⟩)
  · obtain rfl : sg = 96 := by omega
    by_cases cn : 0 ≤ nu ∧ nu ≤ 2147483647 ∧ 0 ≤ bo ∧ bo ≤ 2147483647
    · obtain ⟨c1, c2', c3, c4⟩ := cn
      cases hf : fitsL 96 [] ⟨l1, n1, s1⟩ with
      | false =>
        have HFE := Lib.hid hf
        clear hf
        go_wp2_with fail
        (with_reducible refine (HF.out 96).mono ?_)
        rintro e w1 ⟨rfl, hk1, -⟩
        rw [HFE.out]
        go_wp2
        go_ret
        exact ⟨ret_bool (by rw [HSG.out, HFE.out]; simp), (HC.out _ hk1).2.2.2⟩
      | true =>
        have HFE := Lib.hid hf
        have hs0 : segsOk 96 [] l1 = true := by unfold fitsL at hf; rw [Bool.and_eq_true] at hf; exact hf.1
        have HS0 := Lib.hid hs0
        clear hf hs0
        go_wp2_with fail
        (with_reducible refine (HF.out 96).mono ?_)
        rintro e w1 ⟨rfl, hk1, hm1⟩
        rw [HFE.out]
        have hm1 := hm1 HS0.out
        obtain ⟨x5, x6, x7, hb1⟩ := HC.out _ hk1
        have HP := Lib.hid (HF2.out 96 w1 hk1 hm1)
        clear hm1
        go_wp2_with fail
        (with_reducible refine HP.out.mono ?_)
        rintro e w2 ⟨rfl, hk2, -⟩
        go_wp2
        go_ret
        exact ⟨ret_bool (by rw [HSG.out, HFE.out, decide_eq_true ⟨c1, c2', c3, c4⟩]; simp), hb1.trans (hk2.below (by have := hb1.size; have := hk1.size; simp at this; omega) fun j e => by omega)⟩
    · have HN := Lib.hid (decide_eq_false cn)
      go_wp2_with fail
      all_goals first
        | (exfalso; omega)
        | (go_ret
           exact ⟨ret_bool (by rw [HSG.out, HN.out]; rfl), HB2.out⟩)
end Go.Proofs.Ytangfnenfhkokaa
