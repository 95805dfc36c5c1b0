/-
  A disk in use: what each call leaves, for whoever counts from w0 on.
-/
import Derived.Test.YtangfnenfhkokaaDisk6
set_option linter.unusedSimpArgs false
set_option linter.unusedVariables false
namespace Go.Proofs.Ytangfnenfhkokaa
open Go.RowKit Go.Maps

/-- a disk that was made since w0; its blocks are of P -/
structure Live (w0 w : World) (g : Nat) (P : Nat → Prop) (n : Nat) (s : DSt) : Prop where
  disk : Disk w g P n s
  frm : ∀ j, P j → w0.heap.size ≤ j
  bel : Below w0.heap.size w0 w
  ok : DOk s
theorem Live.below {w0 w w' : World} {g n : Nat} {P : Nat → Prop} {s : DSt} (h : Live w0 w g P n s) (hb : Below w.heap.size w w') : Live w0 w' g P n s := ⟨h.disk.below hb, h.frm, bn h.bel hb, h.ok⟩
theorem Live.alloc {w0 w : World} {g n : Nat} {P : Nat → Prop} {s : DSt} (h : Live w0 w g P n s) (o : Obj) : Live w0 (w.alloc o) g P n s := h.below (bal (Below.refl _ _) o)
theorem Live.drew {w0 w : World} {g n : Nat} {P : Nat → Prop} {s : DSt} (h : Live w0 w g P n s) : Live w0 w.drew g P n s := h.below (bdr (Below.refl _ _))
theorem Live.kp {w0 w w' : World} {g n : Nat} {P F : Nat → Prop} {s : DSt} (h : Live w0 w g P n s) (hk : Kp F w w') (hF : ∀ j, P j → ¬ F j) (hF0 : ∀ j, F j → w0.heap.size ≤ j) : Live w0 w' g P n s := ⟨h.disk.kp hk hF, h.frm, h.bel.trans (hk.below h.bel.size hF0), h.ok⟩
def Grow (P : Nat → Prop) (w w' : World) : Nat → Prop := fun j => P j ∨ (w.heap.size ≤ j ∧ j < w'.heap.size)
theorem disk_new' (n : Nat) (k : Int) (hk : k = (n : Int)) (hn : n ≤ 776) (w : World) : Calls Try.prog 15 #[.int .i64 k] w (NewPost w n) := by subst hk; exact disk_new n hn w
theorem live_new {w0 w : World} (hb : Below w0.heap.size w0 w) (n : Nat) (k : Int) (hk : k = (n : Int)) (hn : n ≤ 776) :
    Calls Try.prog 15 #[.int .i64 k] w fun e w' => ∃ g P, e = .returned (.tuple #[.pointer (some ⟨g, 0, none⟩), .int .i64 0]) ∧ Live w0 w' g P 0 (newD n) ∧ (∀ j, P j → w.heap.size ≤ j) ∧ Below w.heap.size w w' := by
  refine (disk_new' n k hk hn w).mono ?_
  rintro e w' ⟨g, rfl, hd, hb'⟩
  exact ⟨g, _, rfl, ⟨hd, fun j hj => Nat.le_trans hb.size hj.1, bn hb hb', DOk.new hn⟩, fun j hj => hj.1, hb'⟩
theorem live_write {w0 w : World} {g n : Nat} {P : Nat → Prop} {s : DSt} (h : Live w0 w g P n s) (k : Int) (A : Option Addr) (m c : Nat) (b : List UInt8) (hm : b.length = m) (hr : RB w A b) (hl : b.length ≤ 9223372036854775807) (hn : n < 1000000000) (ho : s.ops < 1000000000) {r : Int × DSt} (he : writeD s k b = r) :
    Calls Try.prog 38 #[.pointer (some ⟨g, 0, none⟩), .int .i64 k, .slice A m c] w fun e w' => e = .returned (.int .i64 r.1) ∧ Live w0 w' g (Grow P w w') (n + 1) r.2 ∧ Kp P w w' := by
  subst he
  refine (disk_write g P n s k A m c b w hm hr hl h.disk h.ok hn).mono ?_
  rintro e w' ⟨rfl, hk, hd⟩
  refine ⟨rfl, ⟨hd, fun j hj => ?_, h.bel.trans (hk.below h.bel.size h.frm), h.ok.write ho k b⟩, hk⟩
  rcases hj with hj | hj
  · exact h.frm j hj
  · have := h.bel.size; omega
theorem live_read {w0 w : World} {g n : Nat} {P : Nat → Prop} {s : DSt} (h : Live w0 w g P n s) (k : Int) {r : List UInt8 × Int} (he : readD s k = r) :
    Calls Try.prog 24 #[.pointer (some ⟨g, 0, none⟩), .int .i64 k] w (ReadPost w r) := by
  subst he
  exact disk_read g P n s k w h.disk h.ok
theorem live_flush {w0 w : World} {g n : Nat} {P : Nat → Prop} {s : DSt} (h : Live w0 w g P n s) (ho : s.ops < 1000000000) {r : Int × DSt} (he : flushD s = r) :
    Calls Try.prog 34 #[.pointer (some ⟨g, 0, none⟩)] w fun e w' => e = .returned (.int .i64 r.1) ∧ Live w0 w' g P n r.2 ∧ Kp P w w' := by
  subst he
  refine (disk_flush g P n s w h.disk h.ok).mono ?_
  rintro e w' ⟨rfl, hk, hd⟩
  exact ⟨rfl, ⟨hd, h.frm, h.bel.trans (hk.below h.bel.size h.frm), h.ok.flush ho⟩, hk⟩
theorem live_fuse {w0 w : World} {g n : Nat} {P : Nat → Prop} {s : DSt} (h : Live w0 w g P n s) (k : Int) (hk0 : -9223372036854775808 ≤ k) (hk1 : k ≤ 9223372036854775807) :
    Calls Try.prog 22 #[.pointer (some ⟨g, 0, none⟩), .int .i64 k] w fun e w' => e = .returned (.tuple #[]) ∧ Live w0 w' g P n (fuseD s k) ∧ Kp P w w' := by
  refine (disk_fuse g P n s k hk0 hk1 w h.disk).mono ?_
  rintro e w' ⟨rfl, hk, _, hd⟩
  exact ⟨rfl, ⟨hd, h.frm, h.bel.trans (hk.below h.bel.size h.frm), h.ok.fuse hk1⟩, hk⟩
theorem live_spoil {w0 w : World} {g n : Nat} {P : Nat → Prop} {s : DSt} (h : Live w0 w g P n s) (k at_ : Int) (A : Option Addr) (m c : Nat) (b : List UInt8) (hat0 : -9223372036854775808 ≤ at_) (hat1 : at_ ≤ 9223372036854775807) (hm : b.length = m) (hr : RB w A b) (hl : b.length ≤ 9223372036854775807) (hA : ∀ ad, A = some ad → ¬ P ad.block) {r : Bool × DSt} (he : spoilD s k at_ b = r) :
    Calls Try.prog 25 #[.pointer (some ⟨g, 0, none⟩), .int .i64 k, .int .i64 at_, .slice A m c] w fun e w' => e = .returned (.bool r.1) ∧ Live w0 w' g P n r.2 ∧ Kp P w w' := by
  subst he
  refine (disk_spoil g P n s k at_ A m c b w hat0 hat1 hm hr hl hA h.disk h.ok).mono ?_
  rintro e w' ⟨rfl, hk, hd, _⟩
  exact ⟨rfl, ⟨hd, h.frm, h.bel.trans (hk.below h.bel.size h.frm), h.ok.spoil k at_ b⟩, hk⟩
theorem live_crash {w0 w : World} {g n : Nat} {P : Nat → Prop} {s : DSt} (h : Live w0 w g P n s) (A : Option Addr) (m c : Nat) (ch : List UInt8) (hm : ch.length = m) (hl : ch.length ≤ 1000000) (hr : RB w A ch) (hn : n ≤ 1000000000) :
    Calls Try.prog 36 #[.pointer (some ⟨g, 0, none⟩), .slice A m c] w fun e w' => ∃ g2 ks P2, e = .returned (.pointer (some ⟨g2, 0, none⟩)) ∧ Rising ks ∧ (∀ x, x ∈ ks ↔ (okInt x ∧ (s.ca x).isSome = true)) ∧ Live w0 w' g2 P2 0 (crashD s ch ks) ∧ (∀ j, P2 j → w.heap.size ≤ j) ∧ Below w.heap.size w w' := by
  refine (disk_crash g P n s A m c ch w hm hl hr h.disk h.ok hn).mono ?_
  rintro e w' ⟨g2, ks, rfl, hri, hks, hd, hb⟩
  exact ⟨g2, ks, _, rfl, hri, hks, ⟨hd, fun j hj => Nat.le_trans h.bel.size hj.1, bn h.bel hb, h.ok.crash ch ks⟩, fun j hj => hj.1, hb⟩
theorem live_dead {w0 w : World} {g n : Nat} {P : Nat → Prop} {s : DSt} (h : Live w0 w g P n s) : Calls Try.prog 40 #[.pointer (some ⟨g, 0, none⟩)] w fun e w' => e = .returned (.bool s.dead) ∧ w = w' := by
  obtain ⟨L, M, fv, fc, hd⟩ := h.disk
  exact disk_dead g s.dead w (hd.blk.cell 3)
theorem live_sectors {w0 w : World} {g n : Nat} {P : Nat → Prop} {s : DSt} (h : Live w0 w g P n s) : Calls Try.prog 70 #[.pointer (some ⟨g, 0, none⟩)] w fun e w' => e = .returned (.int .i64 (s.fl.length : Int)) ∧ w = w' := by
  obtain ⟨L, M, fv, fc, hd⟩ := h.disk
  exact disk_sectors g _ _ _ w (hd.blk.cell 0)
/-! what the calls make of a disk that is alive -/
theorem readD_live {s : DSt} (hd : s.dead = false) {k : Nat} (x : Int) (hx : x = (k : Int)) (hk : k < s.fl.length) : readD s x = (curD s x, 0) := by
  subst hx
  unfold readD
  rw [hd, if_neg (by decide), if_pos (by simp [thereB]; omega)]
theorem readD_crash {s : DSt} (ch : List UInt8) (ks : List Int) {k : Nat} (x : Int) (hx : x = (k : Int)) (hk : k < s.fl.length) : readD (crashD s ch ks) x = (crashAt s ch ks k, 0) := by
  have hl : (crashD s ch ks).fl.length = s.fl.length := by simp [crashD]
  rw [readD_live rfl x hx (by rw [hl]; exact hk)]
  subst hx
  unfold curD
  rw [show (crashD s ch ks).ca (k : Int) = none from rfl]
  simp only [Option.getD_none, Int.toNat_natCast]
  rw [crashD_get s ch ks k hk]
theorem crashAt_one (s : DSt) (c : UInt8) (ks : List Int) (k : Nat) : crashAt s [c] ks k = match s.ca (k : Int) with | none => s.fl.getD k [] | some b => afterB (s.fl.getD k []) b c.toNat := by
  unfold crashAt
  rw [if_neg (by simp)]
  cases s.ca (k : Int) with
  | none => rfl
  | some b => simp [Nat.mod_one]
theorem crashAt_none {s : DSt} {ch : List UInt8} {ks : List Int} {k : Nat} (h : s.ca (k : Int) = none) : crashAt s ch ks k = s.fl.getD k [] := by
  unfold crashAt
  split
  · rfl
  · rw [h]
theorem writeD_ok {s : DSt} (hd : s.dead = false) {k : Nat} (x : Int) (hx : x = (k : Int)) (hk : k < s.fl.length) {b : List UInt8} (hb : b.length = 64) (hf : s.fuse ≠ 0) : writeD s x b = (0, putD (burnD s).2 x b) := by
  subst hx
  unfold writeD
  rw [hd, if_neg (by decide), if_pos (by simp [thereB, hb]; omega), if_neg hf]
/-- a disk without a fuse: its sectors and what is cached, behind m writes and flushes -/
def liveD (fl : List (List UInt8)) (ca : Int → Option (List UInt8)) (m : Int) : DSt := ⟨fl, ca, -1, false, m⟩
theorem newD_live (n : Nat) : newD n = liveD (List.replicate n zeros64) (fun _ => none) 0 := rfl
theorem curD_none (fl : List (List UInt8)) (m : Int) (k : Nat) (x : Int) (hx : x = (k : Int)) : curD (liveD fl (fun _ => none) m) x = fl.getD k [] := by
  subst hx
  unfold curD liveD
  simp only [Option.getD_none, Int.toNat_natCast]
theorem write_live {fl : List (List UInt8)} {ca : Int → Option (List UInt8)} {m : Int} {k : Nat} (x : Int) (hx : x = (k : Int)) (hk : k < fl.length) {b : List UInt8} (hb : b.length = 64) : writeD (liveD fl ca m) x b = (0, liveD fl (fun y => if y = x then some b else ca y) (m + 1)) := by
  rw [writeD_ok rfl x hx hk hb (by simp [liveD])]
  rfl
theorem flush_live (fl : List (List UInt8)) (ca : Int → Option (List UInt8)) (m : Int) : flushD (liveD fl ca m) = (0, liveD ((List.range fl.length).map fun i : Nat => (ca (i : Int)).getD (fl.getD i [])) (fun _ => none) (m + 1)) := by
  unfold flushD
  rw [if_neg (by simp [liveD]), if_neg (by simp [liveD])]
  rfl
theorem crash_live (s : DSt) (ch : List UInt8) (ks : List Int) : crashD s ch ks = liveD ((List.range s.fl.length).map (crashAt s ch ks)) (fun _ => none) 0 := rfl
theorem lit1 (W : World) (x : UInt8) (n : Int) (h : n = (x.toNat : Int)) : RB (W.alloc (.cells #[.int .u8 n] 5)) (some ⟨W.heap.size, 0, none⟩) [x] := by subst h; exact RB.lit W _ _ [x] _ rfl
theorem lit1' (W : World) (x : UInt8) (n : Int) (h : n = (x.toNat : Int)) (k : Nat) (hk : W.heap.size = k) : RB (W.alloc (.cells #[.int .u8 n] 5)) (some ⟨k, 0, none⟩) [x] := by subst hk; exact lit1 W x n h
theorem RB.byte {w : World} {A : Option Addr} {l : List UInt8} (h : RB w A l) (i : Nat) (hi : i < l.length) (x : UInt8) (hx : l.getD i 9 = x) : ∃ b o, A = some ⟨b, o, none⟩ ∧ w.cell? ⟨b, o + i, none⟩ = some (.int .u8 (x.toNat : Int)) := by
  obtain ⟨b, o, e, _, hc⟩ := Rd.lit_at h i (by rw [List.length_map]; exact hi)
  refine ⟨b, o, e, ?_⟩
  have := hc i (by rw [List.length_map]; exact hi)
  rw [List.getElem_map] at this
  rw [← hx]
  simpa [eb, List.getD_eq_getElem?_getD, List.getElem?_eq_getElem hi] using this
end Go.Proofs.Ytangfnenfhkokaa
