/-
  Pen: bytes that are written. A pen at block g that has written l: 'PenAt'. What a call on it changes: its own block, its own row: 'Kept'.
-/
import Derived.Test.YtpnfgnddlfkfaaaSlices
set_option linter.unusedSimpArgs false
set_option linter.unusedVariables false
namespace Go.Proofs.Ytpnfgnddlfkfaaa
open Go.RowKit

/-- below block B the world is as it was, but for block g -/
structure Kept (g B : Nat) (w w' : World) : Prop where
  os : w'.os = w.os
  tape : w'.tape = w.tape
  output : w'.output = w.output
  size : w.heap.size ≤ w'.heap.size
  block : ∀ k, k < B → k ≠ g → w'.heap[k]? = w.heap[k]?
theorem Kept.refl (g B : Nat) (w : World) : Kept g B w w := ⟨rfl, rfl, rfl, Nat.le_refl _, fun _ _ _ => rfl⟩
theorem Kept.trans {g B : Nat} {a b c : World} (h : Kept g B a b) (k : Kept g B b c) : Kept g B a c :=
  ⟨k.os.trans h.os, k.tape.trans h.tape, k.output.trans h.output, Nat.le_trans h.size k.size, fun i hi hg => (k.block i hi hg).trans (h.block i hi hg)⟩
theorem Kept.of {g B : Nat} {w w' : World} (h : Below B w w') : Kept g B w w' := ⟨h.os, h.tape, h.output, h.size, fun k hk _ => h.block k hk⟩
theorem Kept.below {g B B' : Nat} {w w' : World} (h : Kept g B w w') (hB : B' ≤ B) (hg : B' ≤ g) : Below B' w w' := ⟨h.os, h.tape, h.output, h.size, fun k hk => h.block k (by omega) (by omega)⟩
theorem Kept.mono {g B B' : Nat} {w w' : World} (h : Kept g B w w') (hB : B' ≤ B) : Kept g B' w w' := ⟨h.os, h.tape, h.output, h.size, fun k hk hg => h.block k (by omega) hg⟩
theorem Kept.setCell {g B : Nat} {a w : World} (h : Kept g B a w) (i : Nat) (u : Value) : Kept g B a (w.setCell ⟨g, i, none⟩ u) :=
  h.trans ⟨rfl, rfl, rfl, by simp [World.setCell], fun k hk hg => Below.heap_setCell _ _ _ _ (by simpa using hg)⟩
theorem Kept.alloc {g B : Nat} {a w : World} (h : Kept g B a w) (hB : B ≤ w.heap.size) (o : Obj) : Kept g B a (w.alloc o) :=
  h.trans (.of ((Below.refl B w).alloc hB o))
theorem Blk.keep {w w' : World} {g g' B : Nat} {e : TypeId} {cs : Array Value} (h : Blk w g' e cs) (hk : Kept g B w w') (hB : g' < B) (hg : g' ≠ g) : Blk w' g' e cs := (hk.block g' hB hg).trans h
theorem Own.keep {w w' : World} {g B B' : Nat} {e : TypeId} {v : Value} {cs : List Value} (h : Own w B' e v cs) (hk : Kept g B w w') (hB : w.heap.size ≤ B) (hg : g < B' ) : Own w' B' e v cs := by
  obtain ⟨h1, h2⟩ := h
  refine ⟨h1, h2.imp id ?_⟩
  rintro ⟨g', cap, cur, rfl, hg', hh, r⟩
  exact ⟨g', cap, cur, rfl, hg', (hk.block g' (by have := (Array.getElem?_eq_some_iff.1 hh).1; omega) (by omega)).trans hh, r⟩

/-- a pen at block g that has written l, its row at or above B -/
def PenAt (w : World) (g B : Nat) (l : List UInt8) : Prop := ∃ v, Blk w g 98 #[v] ∧ Own w B 5 v (l.map eb)

/-- rows of two element types are two rows -/
theorem Own.apart {w : World} {B B' : Nat} {e e' : TypeId} {v v' : Value} {xs ys : List Value} (h : Own w B e v xs) (h' : Own w B' e' v' ys) (hne : e ≠ e') : v.ownBlock = none ∨ v.ownBlock ≠ v'.ownBlock := by
  rcases h.2 with ⟨rfl, _⟩ | ⟨g, cap, cur, rfl, _, hh, _⟩
  · exact .inl rfl
  · right
    rcases h'.2 with ⟨rfl, _⟩ | ⟨g', cap', cur', rfl, _, hh', _⟩
    · exact fun e => by cases e
    · intro e
      simp [Value.ownBlock] at e
      subst e
      rw [hh] at hh'
      cases hh'
      exact hne rfl
/-- a block of another type is not the row -/
theorem Blk.not_row {w : World} {g B : Nat} {e e' : TypeId} {cs : Array Value} {v : Value} {xs : List Value} (h : Blk w g e cs) (ho : Own w B e' v xs) (hne : e ≠ e') : some g ≠ v.ownBlock := by
  rcases ho.2 with ⟨rfl, _⟩ | ⟨g', cap, cur, rfl, _, hh, _⟩
  · intro e; cases e
  · intro e
    simp [Value.ownBlock] at e
    subst e
    unfold Blk at h
    rw [h] at hh
    cases hh
    exact hne rfl

theorem Own.other {w : World} {g i B : Nat} {e : TypeId} {v : Value} {xs : List Value} (h : Own w B e v xs) (hne : some g ≠ v.ownBlock) (u : Value) : Own (w.setCell ⟨g, i, none⟩ u) B e v xs :=
  ownsRow_setCell_other h (a := ⟨g, i, none⟩) (fun e => hne e.symm) u

set_option maxRecDepth 100000 in
set_option maxHeartbeats 2000000 in
theorem pen_byte (g B : Nat) (l : List UInt8) (x : UInt8) (n : Int) (hn : n = (x.toNat : Int)) (w : World) (hp : PenAt w g B l) (hB : B ≤ w.heap.size) (hl : l.length < 140737488355328) :
    Calls Try.prog 67 #[.pointer (some ⟨g, 0, none⟩), .int .u8 n] w fun e w' => e = .returned (.tuple #[]) ∧ PenAt w' g B (l ++ [x]) ∧ Kept g B w w' := by
  subst hn
  obtain ⟨v, hb, ho⟩ := hp
  have hc : w.cell? ⟨g, 0, none⟩ = some v := hb.cell 0
  have ho' := ho.below (bal (Below.refl _ w) (.cells #[.int .u8 (x.toNat : Int)] 5))
  obtain ⟨v2, w2, HR, ho2, hb2, hg2⟩ := append_bytes (w.alloc (.cells #[.int .u8 (x.toNat : Int)] 5)) B v l ho' (some ⟨w.heap.size, 0, none⟩) 1 1 [x] rfl (RB.lit _ _ _ _ _ rfl) (by simp; omega) (by simp; omega)
  have hbl : Blk w2 g 98 #[v] := by
    have h1 := hb.alloc (.cells #[.int .u8 (x.toNat : Int)] 5)
    exact (hg2.block g h1.lt (h1.not_row ho' (by decide))).trans h1
  have hfz := hbl.frozen 0
  have hc2 : w2.cell? ⟨g, 0, none⟩ = some v := hbl.cell 0
  have hne := hbl.not_row ho2 (by decide)
  have HNE := Lib.hid hne
  clear hne
  obtain ⟨A2, c2, rfl, _, _⟩ := ho2.bytes
  rw [show (l ++ [x]).length = l.length + 1 by simp] at HR ho2 HNE
  go_enter Try.func67, Try.ntmps67
  go_wp2_with (at_builtin; refine wpList_append_run rfl _ _ 23 23 rfl _ _ _ _ rfl rfl HR.out ?_)
  go_end0
  exact ⟨rfl, ⟨_, hbl.set 0 _, ho2.other HNE.out _⟩, (Kept.of (((Below.refl B w).alloc hB _).trans hb2)).setCell 0 _⟩

end Go.Proofs.Ytpnfgnddlfkfaaa
