/-
  The disk: what its memory says; alive, there, burn, Dead, Ops, Sectors, Fuse, Read, Write.
-/
import Derived.Test.YtangfnenfhkokaaChunk
import Derived.IntWalk
set_option linter.unusedSimpArgs false
set_option linter.unusedVariables false
namespace Go.Proofs.Ytangfnenfhkokaa
open Go.RowKit Go.Maps

theorem Own.no_map {w : World} {B : Nat} {e : TypeId} {v : Value} {cs : List Value} (h : Own w B e v cs) {P : Program} {k : TypeId} {q : IntKind} {M n : Nat} {f : Int → Option Value} (hm : MapF P k q w M n f) : v.ownBlock ≠ some M := fun e1 => by
  obtain ⟨_, _, cur, hb⟩ := h.typed M e1
  exact hm.no_blk hb rfl
theorem Own.no_blk {w : World} {B g : Nat} {e e' : TypeId} {v : Value} {cs : List Value} {cs' : Array Value} (h : Own w B e v cs) (hb : Blk w g e' cs') (hne : e ≠ e') : v.ownBlock ≠ some g := fun e1 => by
  obtain ⟨_, _, cur, hc⟩ := h.typed g e1
  exact hne (hc.type hb)
theorem kp_of {F : Nat → Prop} {w w' : World} (hb : Below w.heap.size w w') : Kp F w w' := (Kp.of hb).mono (F := fun _ => False) fun _ _ f => f.elim
/-- what a disk has -/
structure DSt where
  fl : List (List UInt8)
  ca : Int → Option (List UInt8)
  fuse : Int
  dead : Bool
  ops : Int
structure DiskAt (w : World) (g : Nat) (P : Nat → Prop) (n : Nat) (s : DSt) (L M : Nat) (fv : List Value) (fc : Int → Option Value) : Prop where
  blk : Blk w g 84 #[.slice (some ⟨L, 0, none⟩) s.fl.length s.fl.length, .map (some M), .int .i64 s.fuse, .bool s.dead, .int .i64 s.ops]
  rows : Blk w L 42 fv.toArray
  map : MapF Try.prog 3 .i64 w M n fc
  fll : fv.length = s.fl.length
  sec : ∀ i, i < s.fl.length → Own w 0 5 (fv.getD i nilS) ((s.fl.getD i []).map eb) ∧ ∀ j, (fv.getD i nilS).ownBlock = some j → P j
  none_ : ∀ x, s.ca x = none → fc x = none
  some_ : ∀ x b, s.ca x = some b → ∃ v, fc x = some v ∧ Own w 0 5 v (b.map eb) ∧ ∀ j, v.ownBlock = some j → P j
  ap1 : ∀ i k j, i < s.fl.length → k < s.fl.length → i ≠ k → (fv.getD i nilS).ownBlock = some j → (fv.getD k nilS).ownBlock ≠ some j
  ap2 : ∀ i x v j, i < s.fl.length → (fv.getD i nilS).ownBlock = some j → fc x = some v → v.ownBlock ≠ some j
  ap3 : ∀ x y v u j, x ≠ y → fc x = some v → fc y = some u → v.ownBlock = some j → u.ownBlock ≠ some j
  pg : P g
  pl : P L
  pm : P M
  lt : ∀ j, P j → j < w.heap.size
def Disk (w : World) (g : Nat) (P : Nat → Prop) (n : Nat) (s : DSt) : Prop := ∃ L M fv fc, DiskAt w g P n s L M fv fc
theorem DiskAt.kp {F : Nat → Prop} {w w' : World} {g : Nat} {P : Nat → Prop} {n : Nat} {s : DSt} {L M : Nat} {fv : List Value} {fc : Int → Option Value} (h : DiskAt w g P n s L M fv fc) (hk : Kp F w w') (hF : ∀ j, P j → ¬ F j) : DiskAt w' g P n s L M fv fc where
  blk := h.blk.kp hk (hF _ h.pg)
  rows := h.rows.kp hk (hF _ h.pl)
  map := h.map.kp hk (hF _ h.pm)
  fll := h.fll
  sec := fun i hi => ⟨(h.sec i hi).1.kp hk fun j e => hF j ((h.sec i hi).2 j e), (h.sec i hi).2⟩
  none_ := h.none_
  some_ := fun x b hb => by
    obtain ⟨v, h1, h2, h3⟩ := h.some_ x b hb
    exact ⟨v, h1, h2.kp hk fun j e => hF j (h3 j e), h3⟩
  ap1 := h.ap1
  ap2 := h.ap2
  ap3 := h.ap3
  pg := h.pg
  pl := h.pl
  pm := h.pm
  lt := fun j hj => Nat.lt_of_lt_of_le (h.lt j hj) hk.size
theorem DiskAt.mono {w : World} {g : Nat} {P P' : Nat → Prop} {n n' : Nat} {s : DSt} {L M : Nat} {fv : List Value} {fc : Int → Option Value} (h : DiskAt w g P n s L M fv fc) (hP : ∀ j, P j → P' j) (hl : ∀ j, P' j → j < w.heap.size) (hn : n ≤ n') : DiskAt w g P' n' s L M fv fc where
  blk := h.blk
  rows := h.rows
  map := h.map.mono hn
  fll := h.fll
  sec := fun i hi => ⟨(h.sec i hi).1, fun j e => hP j ((h.sec i hi).2 j e)⟩
  none_ := h.none_
  some_ := fun x b hb => by
    obtain ⟨v, h1, h2, h3⟩ := h.some_ x b hb
    exact ⟨v, h1, h2, fun j e => hP j (h3 j e)⟩
  ap1 := h.ap1
  ap2 := h.ap2
  ap3 := h.ap3
  pg := hP _ h.pg
  pl := hP _ h.pl
  pm := hP _ h.pm
  lt := hl
theorem Disk.kp {F : Nat → Prop} {w w' : World} {g : Nat} {P : Nat → Prop} {n : Nat} {s : DSt} (h : Disk w g P n s) (hk : Kp F w w') (hF : ∀ j, P j → ¬ F j) : Disk w' g P n s := by
  obtain ⟨L, M, fv, fc, h⟩ := h
  exact ⟨L, M, fv, fc, h.kp hk hF⟩
theorem Disk.below {w w' : World} {g : Nat} {P : Nat → Prop} {n : Nat} {s : DSt} (h : Disk w g P n s) (hb : Below w.heap.size w w') : Disk w' g P n s := h.kp (F := fun _ => False) (Kp.of hb) fun _ _ f => f
theorem Disk.lt {w : World} {g : Nat} {P : Nat → Prop} {n : Nat} {s : DSt} (h : Disk w g P n s) (j : Nat) (hj : P j) : j < w.heap.size := by
  obtain ⟨L, M, fv, fc, h⟩ := h
  exact h.lt j hj
theorem Disk.pg {w : World} {g : Nat} {P : Nat → Prop} {n : Nat} {s : DSt} (h : Disk w g P n s) : P g := by
  obtain ⟨L, M, fv, fc, h⟩ := h
  exact h.pg
theorem Disk.mono {w : World} {g : Nat} {P P' : Nat → Prop} {n n' : Nat} {s : DSt} (h : Disk w g P n s) (hP : ∀ j, P j → P' j) (hl : ∀ j, P' j → j < w.heap.size) (hn : n ≤ n') : Disk w g P' n' s := by
  obtain ⟨L, M, fv, fc, h⟩ := h
  exact ⟨L, M, fv, fc, h.mono hP hl hn⟩
/-- it stays as it is while the world grows -/
theorem Disk.grow {w w' : World} {g : Nat} {P : Nat → Prop} {n : Nat} {s : DSt} (h : Disk w g P n s) (hb : Below w.heap.size w w') : Disk w' g (fun j => P j ∨ (w.heap.size ≤ j ∧ j < w'.heap.size)) (n + 1) s :=
  (h.below hb).mono (fun _ hj => .inl hj) (fun j hj => by
    rcases hj with hj | hj
    · exact Nat.lt_of_lt_of_le (h.lt j hj) hb.size
    · exact hj.2) (by omega)
/-- the fields of a disk are written; nothing else of it -/
theorem DiskAt.fields {w w' : World} {g : Nat} {P : Nat → Prop} {n : Nat} {s : DSt} {L M : Nat} {fv : List Value} {fc : Int → Option Value} (h : DiskAt w g P n s L M fv fc) (hk : Kp (fun j => j = g) w w') (hz : w'.heap.size = w.heap.size) {fuse ops : Int} {dead : Bool} (hb : Blk w' g 84 #[.slice (some ⟨L, 0, none⟩) s.fl.length s.fl.length, .map (some M), .int .i64 fuse, .bool dead, .int .i64 ops]) :
    DiskAt w' g P n ⟨s.fl, s.ca, fuse, dead, ops⟩ L M fv fc where
  blk := hb
  rows := h.rows.kp hk fun e => by have := (e ▸ h.rows).type h.blk; exact absurd this (by decide)
  map := h.map.kp hk fun e => h.map.no_blk h.blk e
  fll := h.fll
  sec := fun i hi => ⟨(h.sec i hi).1.kp hk fun j e f => (h.sec i hi).1.no_blk h.blk (by decide) (f ▸ e), (h.sec i hi).2⟩
  none_ := h.none_
  some_ := fun x b hb => by
    obtain ⟨v, h1, h2, h3⟩ := h.some_ x b hb
    exact ⟨v, h1, h2.kp hk fun j e f => h2.no_blk h.blk (by decide) (f ▸ e), h3⟩
  ap1 := h.ap1
  ap2 := h.ap2
  ap3 := h.ap3
  pg := h.pg
  pl := h.pl
  pm := h.pm
  lt := fun j hj => by rw [hz]; exact h.lt j hj

set_option maxHeartbeats 600000 in
theorem disk_alive (g : Nat) (dead : Bool) (w : World) (h : w.cell? ⟨g, 3, none⟩ = some (.bool dead)) :
    Calls Try.prog 52 #[.pointer (some ⟨g, 0, none⟩)] w fun e w' => e = .returned (.int .i64 (if dead then 15 else 0)) ∧ w = w' := by
  cases dead
  all_goals
    go_enter Try.func52, Try.ntmps52
    go_wp2
    go_ret
    exact ⟨rfl, rfl⟩
def thereB (n : Nat) (k : Int) : Bool := decide (0 ≤ k ∧ k < (n : Int))
set_option maxHeartbeats 600000 in
theorem disk_there (g : Nat) (A : Option Addr) (n c : Nat) (k : Int) (w : World) (h : w.cell? ⟨g, 0, none⟩ = some (.slice A n c)) :
    Calls Try.prog 53 #[.pointer (some ⟨g, 0, none⟩), .int .i64 k] w fun e w' => e = .returned (.bool (thereB n k)) ∧ w = w' := by
  go_enter Try.func53, Try.ntmps53
  go_wp2
  all_goals go_ret
  all_goals refine ⟨ret_bool ?_, rfl⟩
  all_goals (unfold thereB; rw [Bool.eq_iff_iff]; simp only [decide_eq_true_eq, Bool.and_eq_true, Bool.false_eq_true, false_iff]; omega)
def burnD (s : DSt) : Int × DSt := if s.fuse = 0 then (15, ⟨s.fl, s.ca, s.fuse, true, s.ops⟩) else (0, ⟨s.fl, s.ca, if 0 < s.fuse then s.fuse - 1 else s.fuse, s.dead, s.ops + 1⟩)
/-- bounds under which nothing wraps -/
structure DOk (s : DSt) : Prop where
  len : s.fl.length ≤ 776
  sec : ∀ i, i < s.fl.length → (s.fl.getD i []).length = 64
  cs : ∀ x b, s.ca x = some b → b.length = 64 ∧ 0 ≤ x ∧ x < (s.fl.length : Int)
  fuse0 : -1 ≤ s.fuse
  fuse1 : s.fuse ≤ 9223372036854775807
  ops0 : 0 ≤ s.ops
  ops1 : s.ops ≤ 1000000000
theorem DOk.burn {s : DSt} (h : DOk s) (ho : s.ops < 1000000000) : DOk (burnD s).2 := by
  have h1 := h.fuse0; have h2 := h.fuse1; have h3 := h.ops0; have h4 := h.ops1
  unfold burnD
  split
  · exact ⟨h.len, h.sec, h.cs, h1, h2, h3, h4⟩
  · refine ⟨h.len, h.sec, h.cs, ?_, ?_, ?_, ?_⟩ <;> simp only
    · split <;> omega
    · split <;> omega
    · omega
    · omega
theorem disk_blk5 {w : World} {g : Nat} {e : TypeId} {a b c d f : Value} (h : Blk w g e #[a, b, c, d, f]) (x : Value) : Blk (w.setCell ⟨g, 2, none⟩ x) g e #[a, b, x, d, f] ∧ Blk (w.setCell ⟨g, 3, none⟩ x) g e #[a, b, c, x, f] ∧ Blk (w.setCell ⟨g, 4, none⟩ x) g e #[a, b, c, d, x] := by
  refine ⟨?_, ?_, ?_⟩
  · have := h.set 2 x; simpa using this
  · have := h.set 3 x; simpa using this
  · have := h.set 4 x; simpa using this
def BurnPost (w : World) (g : Nat) (P : Nat → Prop) (n : Nat) (s : DSt) (L M : Nat) (fv : List Value) (fc : Int → Option Value) (e : Ending) (w' : World) : Prop :=
  e = .returned (.int .i64 (burnD s).1) ∧ Kp (fun j => j = g) w w' ∧ w'.heap.size = w.heap.size ∧ DiskAt w' g P n (burnD s).2 L M fv fc
set_option maxHeartbeats 1000000 in
theorem disk_burn (g : Nat) (P : Nat → Prop) (n : Nat) (s : DSt) (L M : Nat) (fv : List Value) (fc : Int → Option Value) (w : World) (h : DiskAt w g P n s L M fv fc) (ok : DOk s) :
    Calls Try.prog 59 #[.pointer (some ⟨g, 0, none⟩)] w (BurnPost w g P n s L M fv fc) := by
  have x2 : w.cell? ⟨g, 2, none⟩ = some (.int .i64 s.fuse) := h.blk.cell 2
  have x3 : w.cell? ⟨g, 3, none⟩ = some (.bool s.dead) := h.blk.cell 3
  have x4 : w.cell? ⟨g, 4, none⟩ = some (.int .i64 s.ops) := h.blk.cell 4
  have f2 : w.frozen? ⟨g, 2, none⟩ = false := h.blk.frozen 2
  have f3 : w.frozen? ⟨g, 3, none⟩ = false := h.blk.frozen 3
  have f4 : w.frozen? ⟨g, 4, none⟩ = false := h.blk.frozen 4
  have o0 := ok.ops0
  have o1 := ok.ops1
  have u0 := ok.fuse0
  have u1 := ok.fuse1
  have H := Lib.hid h
  clear h ok
  by_cases h0 : s.fuse = 0
  · have hb : burnD s = (15, ⟨s.fl, s.ca, s.fuse, true, s.ops⟩) := by unfold burnD; rw [if_pos h0]
    have HBB := Lib.hid hb
    have q : (s.fuse == 0) = true := by simpa using h0
    clear hb h0
    go_enter Try.func59, Try.ntmps59
    go_wp2
    go_ret
    unfold BurnPost
    rw [HBB.out]
    exact ⟨rfl, (Kp.refl (fun j => j = g) w).setCell 3 _ rfl, by simp, H.out.fields ((Kp.refl (fun j => j = g) w).setCell 3 _ rfl) (by simp) (disk_blk5 H.out.blk _).2.1⟩
  · have q : (s.fuse == 0) = false := by simpa using h0
    by_cases hp : 0 < s.fuse
    · have hb : burnD s = (0, ⟨s.fl, s.ca, s.fuse - 1, s.dead, s.ops + 1⟩) := by unfold burnD; rw [if_neg h0, if_pos hp]
      have HBB := Lib.hid hb
      clear hb h0
      go_enter Try.func59, Try.ntmps59
      go_wp2
      go_ret
      unfold BurnPost
      rw [HBB.out]
      exact ⟨rfl, ((Kp.refl (fun j => j = g) w).setCell 2 _ rfl).setCell 4 _ rfl, by simp, H.out.fields (((Kp.refl (fun j => j = g) w).setCell 2 _ rfl).setCell 4 _ rfl) (by simp) (disk_blk5 (disk_blk5 H.out.blk _).1 _).2.2⟩
    · have hb : burnD s = (0, ⟨s.fl, s.ca, s.fuse, s.dead, s.ops + 1⟩) := by unfold burnD; rw [if_neg h0, if_neg hp]
      have HBB := Lib.hid hb
      clear hb h0
      go_enter Try.func59, Try.ntmps59
      go_wp2
      go_ret
      unfold BurnPost
      rw [HBB.out]
      exact ⟨rfl, (Kp.refl (fun j => j = g) w).setCell 4 _ rfl, by simp, H.out.fields ((Kp.refl (fun j => j = g) w).setCell 4 _ rfl) (by simp) (disk_blk5 H.out.blk _).2.2⟩
set_option maxHeartbeats 600000 in
theorem disk_dead (g : Nat) (dead : Bool) (w : World) (h : w.cell? ⟨g, 3, none⟩ = some (.bool dead)) :
    Calls Try.prog 40 #[.pointer (some ⟨g, 0, none⟩)] w fun e w' => e = .returned (.bool dead) ∧ w = w' := by
  go_enter Try.func40, Try.ntmps40
  go_wp2
  go_ret
  exact ⟨rfl, rfl⟩
set_option maxHeartbeats 600000 in
theorem disk_sectors (g : Nat) (A : Option Addr) (n c : Nat) (w : World) (h : w.cell? ⟨g, 0, none⟩ = some (.slice A n c)) :
    Calls Try.prog 70 #[.pointer (some ⟨g, 0, none⟩)] w fun e w' => e = .returned (.int .i64 (n : Int)) ∧ w = w' := by
  go_enter Try.func70, Try.ntmps70
  go_wp2
  go_ret
  exact ⟨rfl, rfl⟩
end Go.Proofs.Ytangfnenfhkokaa
