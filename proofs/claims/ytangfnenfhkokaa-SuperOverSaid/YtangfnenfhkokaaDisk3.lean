/-
  The disk: Fuse, New.
-/
import Derived.Test.YtangfnenfhkokaaDisk2
set_option linter.unusedSimpArgs false
set_option linter.unusedVariables false
namespace Go.Proofs.Ytangfnenfhkokaa
open Go.RowKit Go.Maps

def fuseD (s : DSt) (k : Int) : DSt := ⟨s.fl, s.ca, if k < -1 then -1 else k, s.dead, s.ops⟩
theorem DOk.fuse {s : DSt} (h : DOk s) {k : Int} (hk : k ≤ 9223372036854775807) : DOk (fuseD s k) := by
  refine ⟨h.len, h.sec, h.cs, ?_, ?_, h.ops0, h.ops1⟩ <;> simp only [fuseD] <;> split <;> omega
def FusePost (w : World) (g : Nat) (P : Nat → Prop) (n : Nat) (s : DSt) (e : Ending) (w' : World) : Prop :=
  e = .returned (.tuple #[]) ∧ Kp P w w' ∧ w'.heap.size = w.heap.size ∧ Disk w' g P n s
set_option maxHeartbeats 1000000 in
theorem disk_fuse (g : Nat) (P : Nat → Prop) (n : Nat) (s : DSt) (k : Int) (hk0 : -9223372036854775808 ≤ k) (hk1 : k ≤ 9223372036854775807) (w : World) (h : Disk w g P n s) :
    Calls Try.prog 22 #[.pointer (some ⟨g, 0, none⟩), .int .i64 k] w (FusePost w g P n (fuseD s k)) := by
  obtain ⟨L, M, fv, fc, h⟩ := h
  have x2 : w.cell? ⟨g, 2, none⟩ = some (.int .i64 s.fuse) := h.blk.cell 2
  have f2 : w.frozen? ⟨g, 2, none⟩ = false := h.blk.frozen 2
  have H := Lib.hid h
  clear h
  by_cases hp : k < -1
  · have hb : fuseD s k = ⟨s.fl, s.ca, -1, s.dead, s.ops⟩ := by unfold fuseD; rw [if_pos hp]
    have HBB := Lib.hid hb
    clear hb
    go_enter Try.func22, Try.ntmps22
    go_wp2
    go_end0
    unfold FusePost
    rw [HBB.out]
    exact ⟨rfl, (Kp.refl P w).setCell 2 _ H.out.pg, by simp, L, M, fv, fc, H.out.fields ((Kp.refl (fun j => j = g) w).setCell 2 _ rfl) (by simp) (disk_blk5 H.out.blk _).1⟩
  · have hb : fuseD s k = ⟨s.fl, s.ca, k, s.dead, s.ops⟩ := by unfold fuseD; rw [if_neg hp]
    have HBB := Lib.hid hb
    have hp2 : -1 ≤ k := by omega
    clear hb
    go_enter Try.func22, Try.ntmps22
    go_wp2
    go_end0
    unfold FusePost
    rw [HBB.out]
    exact ⟨rfl, (Kp.refl P w).setCell 2 _ H.out.pg, by simp, L, M, fv, fc, H.out.fields ((Kp.refl (fun j => j = g) w).setCell 2 _ rfl) (by simp) (disk_blk5 H.out.blk _).1⟩

def zeros64 : List UInt8 := List.replicate 64 0
def newD (n : Nat) : DSt := ⟨List.replicate n zeros64, fun _ => none, -1, false, 0⟩
theorem DOk.new {n : Nat} (h : n ≤ 776) : DOk (newD n) := by
  refine ⟨by simpa [newD] using h, fun i hi => ?_, fun x b h => (by cases h), by simp [newD], by simp [newD], by simp [newD], by simp [newD]⟩
  simp only [newD, List.length_replicate] at hi
  simp [newD, List.getD_eq_getElem?_getD, List.getElem?_replicate, hi, zeros64]
/-- the sectors that have been made -/
structure NewRows (w : World) (B k n : Nat) (fv : List Value) : Prop where
  len : fv.length = n
  own : ∀ i, i < k → Own w B 5 (fv.getD i nilS) (zeros64.map eb)
  ap : ∀ i m j, i < k → m < k → i ≠ m → (fv.getD i nilS).ownBlock = some j → (fv.getD m nilS).ownBlock ≠ some j
theorem info_row : (Try.prog.info? 42).map (fun i => (i.zero, i.size, i.bytes)) = some (some (.slice none 0 0), 1, 24) := by kernel_rfl
theorem NewRows.step {w : World} {B k n : Nat} {fv : List Value} (h : NewRows w B k n fv) (hk : k < n) (hB : B ≤ w.heap.size) {L : Nat} (hL : L < w.heap.size) (hLB : L < B) :
    NewRows (((w.alloc (.cells (Array.replicate 64 (.int .u8 0)) 5)).drew).setCell ⟨L, k, none⟩ (.slice (some ⟨w.heap.size, 0, none⟩) 64 64)) B (k + 1) n (fv.set k (.slice (some ⟨w.heap.size, 0, none⟩) 64 64)) := by
  have hl := h.len
  have hne : ∀ {v : Value} {cs : List Value}, Own w B 5 v cs → ∀ j, v.ownBlock = some j → B ≤ j ∧ j < w.heap.size := fun ho j e => ⟨(ho.typed j e).1, (ho.typed j e).2.1⟩
  have hkp : Kp (fun j => j = L) w (((w.alloc (.cells (Array.replicate 64 (.int .u8 0)) 5)).drew).setCell ⟨L, k, none⟩ (.slice (some ⟨w.heap.size, 0, none⟩) 64 64)) := (kp_of (F := fun j => j = L) (bdr (bal (Below.refl w.heap.size w) _))).setCell k _ rfl
  have hnew : Own (((w.alloc (.cells (Array.replicate 64 (.int .u8 0)) 5)).drew).setCell ⟨L, k, none⟩ (.slice (some ⟨w.heap.size, 0, none⟩) 64 64)) B 5 (.slice (some ⟨w.heap.size, 0, none⟩) 64 64) (zeros64.map eb) := by
    have h1 : Blk (w.alloc (.cells (Array.replicate 64 (.int .u8 0)) 5)) w.heap.size 5 (Array.replicate 64 (.int .u8 0)) := Blk.new w 5 _
    have h2 : Blk (w.alloc (.cells (Array.replicate 64 (.int .u8 0)) 5)).drew w.heap.size 5 (Array.replicate 64 (.int .u8 0)) := h1
    have h3 := h2.other (a := ⟨L, k, none⟩) (by simp only; omega) (.slice (some ⟨w.heap.size, 0, none⟩) 64 64)
    exact Blk.own (cs := zeros64.map eb) (cap := 64) h3 hB (by simp [zeros64]) (by simp) (by unfold maxLen; omega) (by simp [zeros64, eb])
  have g1 : ∀ i, i < k → (fv.set k (.slice (some ⟨w.heap.size, 0, none⟩) 64 64)).getD i nilS = fv.getD i nilS := fun i hi => by
    simp [List.getD_eq_getElem?_getD, List.getElem?_set, show ¬ k = i by omega]
  have g2 : (fv.set k (.slice (some ⟨w.heap.size, 0, none⟩) 64 64)).getD k nilS = .slice (some ⟨w.heap.size, 0, none⟩) 64 64 := by
    simp [List.getD_eq_getElem?_getD, List.getElem?_set, hl, hk]
  refine ⟨by simpa using hl, fun i hi => ?_, fun i m j hi hm hne2 hj => ?_⟩
  · by_cases e : i = k
    · subst e; rw [g2]; exact hnew
    · rw [g1 i (by omega)]
      exact (h.own i (by omega)).kp hkp fun j e f => by have := hne (h.own i (by omega)) j e; omega
  · by_cases e : i = k
    · subst e
      rw [g2] at hj
      have hj' : w.heap.size = j := Option.some.inj hj
      rw [g1 m (by omega)]
      intro e2
      have := hne (h.own m (by omega)) j e2
      omega
    · rw [g1 i (by omega)] at hj
      by_cases em : m = k
      · subst em
        rw [g2]
        intro e2
        have e2' : w.heap.size = j := Option.some.inj e2
        have := hne (h.own i (by omega)) j hj
        omega
      · rw [g1 m (by omega)]
        exact h.ap i m j (by omega) (by omega) hne2 hj
def NewPost (w : World) (n : Nat) (e : Ending) (w' : World) : Prop :=
  ∃ g, e = .returned (.tuple #[.pointer (some ⟨g, 0, none⟩), .int .i64 0]) ∧ Disk w' g (fun j => w.heap.size ≤ j ∧ j < w'.heap.size) 0 (newD n) ∧ Below w.heap.size w w'
set_option maxRecDepth 100000 in
set_option maxHeartbeats 2000000 in
theorem disk_new_no (k : Int) (hk : k < 0 ∨ 776 < k) (w : World) :
    Calls Try.prog 15 #[.int .i64 k] w fun e w' => e = .returned (.tuple #[.pointer none, .int .i64 1]) ∧ w = w' := by
  rcases hk with h | h
  · go_enter Try.func15, Try.ntmps15
    go_wp2
    go_ret2
    exact ⟨rfl, rfl⟩
  · have h0 : 0 ≤ k := by omega
    go_enter Try.func15, Try.ntmps15
    go_wp2
    go_ret2
    exact ⟨rfl, rfl⟩
set_option maxRecDepth 100000 in
set_option maxHeartbeats 4000000 in
theorem disk_new (n : Nat) (hn : n ≤ 776) (w : World) :
    Calls Try.prog 15 #[.int .i64 (n : Int)] w (NewPost w n) := by
  have hmm := @run_makeMap Try.prog
  have hmk := fun W : World => make_run (P := Try.prog) 22 42 (.slice none 0 0) 24 Try.underlying22 info_row rfl (n : Int) (by omega) (by omega) (by omega) W
  simp only [show ((n : Nat) : Int).toNat = n by omega] at hmk
  have hm64 := fun W : World => make_run (P := Try.prog) 42 5 (.int .u8 0) 1 Try.underlying42 info_u8 rfl 64 (by omega) (by omega) (by omega) W
  simp only [show ((64 : Int)).toNat = 64 from rfl] at hm64
  have b1 := Blk.new w 42 (Array.replicate n (.slice none 0 0))
  have z1 := size_more' w (.cells (Array.replicate n (.slice none 0 0)) 42)
  have k1 := bal (Below.refl w.heap.size w) (.cells (Array.replicate n (.slice none 0 0)) 42)
  have k2 := bal k1 (.map #[] 0)
  have b2 := b1.alloc (.map #[] 0)
  have m2 := MapF.made (P := Try.prog) (k := 3) (q := .i64) (w.alloc (.cells (Array.replicate n (.slice none 0 0)) 42))
  have z2 := size_more' (w.alloc (.cells (Array.replicate n (.slice none 0 0)) 42)) (.map #[] 0)
  have b3 := b2.alloc (.cells #[.slice (some ⟨w.heap.size, 0, none⟩) n n, .map (some (w.heap.size + 1)), .int .i64 (-1), .bool false, .int .i64 0] 84)
  have m3 := m2.below (bal (Below.refl _ _) (.cells #[.slice (some ⟨w.heap.size, 0, none⟩) n n, .map (some (w.heap.size + 1)), .int .i64 (-1), .bool false, .int .i64 0] 84))
  have k3 := bal k2 (.cells #[.slice (some ⟨w.heap.size, 0, none⟩) n n, .map (some (w.heap.size + 1)), .int .i64 (-1), .bool false, .int .i64 0] 84)
  have g3 := Blk.new ((w.alloc (.cells (Array.replicate n (.slice none 0 0)) 42)).alloc (.map #[] 0)) 84 #[.slice (some ⟨w.heap.size, 0, none⟩) n n, .map (some (w.heap.size + 1)), .int .i64 (-1), .bool false, .int .i64 0]
  have z3 := size_more' ((w.alloc (.cells (Array.replicate n (.slice none 0 0)) 42)).alloc (.map #[] 0)) (.cells #[.slice (some ⟨w.heap.size, 0, none⟩) n n, .map (some (w.heap.size + 1)), .int .i64 (-1), .bool false, .int .i64 0] 84)
  rw [z2, z1] at g3 z3
  rw [z1] at m3
  have hfv : (List.replicate n (Value.slice none 0 0)).toArray = Array.replicate n (.slice none 0 0) := by simp
  rw [← hfv] at b3
  have HB3 := Lib.hid b3
  have HM3 := Lib.hid m3
  have HG3 := Lib.hid g3
  have HK3 := Lib.hid k3
  have HZ3 := Lib.hid z3
  have HR3 : Hid (NewRows (((w.alloc (.cells (Array.replicate n (.slice none 0 0)) 42)).alloc (.map #[] 0)).alloc (.cells #[.slice (some ⟨w.heap.size, 0, none⟩) n n, .map (some (w.heap.size + 1)), .int .i64 (-1), .bool false, .int .i64 0] 84)) (w.heap.size + 3) 0 n (List.replicate n (.slice none 0 0))) := Lib.hid ⟨by simp, fun i hi => (by omega), fun i m j hi => (by omega)⟩
  rw [hfv] at HB3
  clear b1 b2 b3 m2 m3 g3 k1 k2 k3 z1 z2 z3
  go_enter Try.func15, Try.ntmps15
  go_wp2
  generalize (((w.alloc (.cells (Array.replicate n (.slice none 0 0)) 42)).alloc (.map #[] 0)).alloc (.cells #[.slice (some ⟨w.heap.size, 0, none⟩) n n, .map (some (w.heap.size + 1)), .int .i64 (-1), .bool false, .int .i64 0] 84)) = W3 at *
  rw [← hfv] at HB3
  clear hfv hmk hmm
  go_loopw [5, 22] (fun _ i wr => ∃ (k : Nat) (fv : List Value), k ≤ n ∧ i = .int .i64 (k : Int) ∧ Blk wr (w.heap.size + 1 + 1) 84 #[.slice (some ⟨w.heap.size, 0, none⟩) n n, .map (some (w.heap.size + 1)), .int .i64 (-1), .bool false, .int .i64 0] ∧ Blk wr w.heap.size 42 fv.toArray ∧ MapF Try.prog 3 .i64 wr (w.heap.size + 1) 0 (fun _ => none) ∧ Hid (NewRows wr (w.heap.size + 3) k n fv) ∧ Below w.heap.size w wr ∧ w.heap.size + 3 ≤ wr.heap.size) (fun _ i _ => n - (intOf i).toNat)
  case atStart => exact ⟨0, _, Nat.zero_le _, rfl, HG3.out, HB3.out, HM3.out, HR3, HK3.out, by have := HZ3.out; omega⟩
  case round =>
    clear HG3 HB3 HM3 HR3 HK3 HZ3
    obtain ⟨k, fv, hk, rfl, hg, hL, hm, hR, hb, hz⟩ := hrel
    by_cases hlt : k < n
    · have hfl := hR.out.len
      have x0 : wr.cell? ⟨w.heap.size + 1 + 1, 0, none⟩ = some (.slice (some ⟨w.heap.size, 0, none⟩) n n) := hg.cell 0
      have x9 : wr.cell? ⟨w.heap.size, k, none⟩ = some (fv.getD k nilS) := by
        rw [hL.cell k]
        simp [List.getD_eq_getElem?_getD, List.getElem?_eq_getElem (show k < fv.length by omega)]
      have f9 : wr.frozen? ⟨w.heap.size, k, none⟩ = false := hL.frozen k
      have i0 : (0 : Int) ≤ (k : Int) := by omega
      have i1 : (k : Int) < (n : Int) := by omega
      have i2 : w.heap.size < wr.heap.size := by omega
      have HN : Hid (NewRows _ _ _ _ _) := Lib.hid (hR.out.step hlt hz (L := w.heap.size) (by omega) (by omega))
      have HG : Hid (Blk (((wr.alloc (.cells (Array.replicate 64 (.int .u8 0)) 5)).drew).setCell ⟨w.heap.size, k, none⟩ (.slice (some ⟨wr.heap.size, 0, none⟩) 64 64)) (w.heap.size + 1 + 1) 84 _) := Lib.hid (Blk.other (w := (wr.alloc (.cells (Array.replicate 64 (.int .u8 0)) 5)).drew) (hg.alloc _) (by simp only; omega) _)
      have HL : Hid (Blk (((wr.alloc (.cells (Array.replicate 64 (.int .u8 0)) 5)).drew).setCell ⟨w.heap.size, k, none⟩ (.slice (some ⟨wr.heap.size, 0, none⟩) 64 64)) w.heap.size 42 (fv.set k (.slice (some ⟨wr.heap.size, 0, none⟩) 64 64)).toArray) := Lib.hid (by
        have h1 : Blk (wr.alloc (.cells (Array.replicate 64 (.int .u8 0)) 5)).drew w.heap.size 42 fv.toArray := hL.alloc _
        have := h1.set k (.slice (some ⟨wr.heap.size, 0, none⟩) 64 64)
        simpa using this)
      have HM : Hid (MapF Try.prog 3 .i64 (((wr.alloc (.cells (Array.replicate 64 (.int .u8 0)) 5)).drew).setCell ⟨w.heap.size, k, none⟩ (.slice (some ⟨wr.heap.size, 0, none⟩) 64 64)) (w.heap.size + 1) 0 (fun _ => none)) := Lib.hid ((hm.below (bdr (bal (Below.refl _ _) (.cells (Array.replicate 64 (.int .u8 0)) 5)))).kp ((Kp.refl (fun j => j = w.heap.size) _).setCell k _ rfl) (by omega))
      have HB : Hid (Below w.heap.size w (((wr.alloc (.cells (Array.replicate 64 (.int .u8 0)) 5)).drew).setCell ⟨w.heap.size, k, none⟩ (.slice (some ⟨wr.heap.size, 0, none⟩) 64 64))) := Lib.hid ((bdr (bal hb _)).setCell (Nat.le_refl _) _)
      have HX1 : Hid ((wr.alloc (.cells (Array.replicate 64 (.int .u8 0)) 5)).drew.cell? ⟨w.heap.size + 1 + 1, 0, none⟩ = some (.slice (some ⟨w.heap.size, 0, none⟩) n n)) := Lib.hid ((hg.alloc (.cells (Array.replicate 64 (.int .u8 0)) 5)).cell 0)
      have hsw : ((wr.alloc (.cells (Array.replicate 64 (.int .u8 0)) 5)).drew).setCell ⟨w.heap.size, k, none⟩ (.slice (some ⟨wr.heap.size, 0, none⟩) 64 64) = ((wr.setCell ⟨w.heap.size, k, none⟩ (.slice (some ⟨wr.heap.size, 0, none⟩) 64 64)).alloc (.cells (Array.replicate 64 (.int .u8 0)) 5)).drew := by
        rw [World.setCell_drew, World.setCell_alloc_past _ _ _ _ i2]
      rw [hsw] at HN HG HL HM HB
      clear hR hg hL hm hb hsw
      generalize fv.getD k nilS = old at *
      go_wp2_with fail
      go_region_held (fun W => W.cell? ⟨w.heap.size + 1 + 1, 0, none⟩ = some (.slice (some ⟨w.heap.size, 0, none⟩) n n)) (first | exact x0 | exact HX1.out | exact HG.out.cell 0) (fail)
      all_goals
        go_wp2_with fail
        go_roundw
        case rel => exact ⟨k + 1, _, by omega, by go_num, HG.out, HL.out, HM.out, HN, HB.out, by simp; omega⟩
        case measure => simp [intOf]; try omega
    · obtain rfl : k = n := by omega
      go_wp2_with fail
      go_ret2
      have hR' := hR.out
      have hL' : Blk wr w.heap.size 42 fv.toArray := hL
      refine ⟨_, rfl, ⟨w.heap.size, w.heap.size + 1, fv, fun _ => none, by simpa [newD] using hg, hL', hm, by simpa [newD] using hR'.len, fun i hi => ?_, fun _ _ => rfl, fun x b h => (by cases h), fun i m j hi hm2 hne hj => ?_, fun i x v j _ _ h => (by cases h), fun x y v u j _ h => (by cases h), by omega, by omega, by omega, fun j hj => hj.2⟩, hb⟩
      · have hi' : i < k := by simpa [newD] using hi
        have ho := hR'.own i hi'
        rw [show (newD k).fl.getD i [] = zeros64 by simp [newD, List.getD_eq_getElem?_getD, List.getElem?_replicate, hi']]
        exact ⟨ho.lower (Nat.zero_le _), fun j e => ⟨by have := (ho.typed j e).1; omega, (ho.typed j e).2.1⟩⟩
      · exact hR'.ap i m j (by simpa [newD] using hi) (by simpa [newD] using hm2) hne hj
end Go.Proofs.Ytangfnenfhkokaa
