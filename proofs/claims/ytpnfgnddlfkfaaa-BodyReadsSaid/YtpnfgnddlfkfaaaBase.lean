/-
  Words that all walks of this seat use: bytes as cells, rows of cells that are read, rows of the call's own.
-/
import Derived.Test.YtpnfgnddlfkfaaaRows
import Derived.WalkKit
import Derived.WalkSpells
import Derived.WalkLawsBesides
import Derived.Outline
import Derived.Lib.Hide
import Derived.Deep.QuietTactic
import Derived.BigQuiet
import Derived.Deep.DeepCutAuto
import Derived.Deep.LoopGhost
import Derived.Deep.RegionHeld3
import Derived.Laws.AppendOwnNone
import Derived.Laws.CopyOwn
import Derived.Lib.AppendStr
import Derived.Lib.ConvBytes
import Derived.Laws.BytesArg
import Derived.Lib.SlBytesConst
set_option linter.unusedSimpArgs false
set_option linter.unusedVariables false
namespace Go.Proofs.Ytpnfgnddlfkfaaa
open Go.RowKit

theorem ret_int {k : IntKind} {a b : Int} (h : a = b) : Ending.returned (.int k a) = .returned (.int k b) := by rw [h]
theorem ret_bool {a b : Bool} (h : a = b) : Ending.returned (.bool a) = .returned (.bool b) := by rw [h]

/-- two steps, each of which leaves alone what was there when it began -/
theorem bn {a b c : World} (h : Below a.heap.size a b) (k : Below b.heap.size b c) : Below a.heap.size a c := h.trans (k.mono h.size)
theorem bal {a b : World} (h : Below a.heap.size a b) (o : Obj) : Below a.heap.size a (b.alloc o) := h.alloc h.size o
theorem bdr {a b : World} (h : Below a.heap.size a b) : Below a.heap.size a b.drew := h.drew

/-- a byte as a value -/
def eb (x : UInt8) : Value := .int .u8 (x.toNat : Int)
theorem eb_one (x : UInt8) : (eb x).oneCell' = true := rfl

/-- A holds the cells cs in w, one behind another. -/
def Rd (w : World) (A : Option Addr) (cs : List Value) : Prop := ∀ i u, cs[i]? = some u → ∃ ad, A = some ad ∧ w.cell? (ad.add i) = some u

theorem Rd.nil (w : World) (A : Option Addr) : Rd w A [] := fun i u h => by simp at h
theorem Rd.some_of {w : World} {A : Option Addr} {cs : List Value} (h : Rd w A cs) (hn : cs ≠ []) : ∃ ad, A = some ad := by
  cases cs with
  | nil => exact absurd rfl hn
  | cons x cs => obtain ⟨ad, e, _⟩ := h 0 x rfl; exact ⟨ad, e⟩
theorem Rd.lt {w : World} {A : Option Addr} {cs : List Value} (h : Rd w A cs) {ad : Addr} (e : A = some ad) (hn : cs ≠ []) : ad.block < w.heap.size := by
  cases cs with
  | nil => exact absurd rfl hn
  | cons x cs =>
    obtain ⟨ad', e', hc⟩ := h 0 x rfl
    have : ad' = ad := by rw [e] at e'; exact (Option.some.inj e').symm
    subst this
    have := block_lt_of_cell hc
    simpa [Addr.add] using this
theorem add_block (ad : Addr) (i : Nat) : (ad.add i).block = ad.block := by unfold Addr.add; split <;> rfl
theorem Rd.below {w w' : World} {A : Option Addr} {cs : List Value} (h : Rd w A cs) (hb : Below w.heap.size w w') : Rd w' A cs := by
  intro i u hi
  obtain ⟨ad, e, hc⟩ := h i u hi
  exact ⟨ad, e, by rw [hb.cell (block_lt_of_cell hc)]; exact hc⟩
theorem Rd.at_ {w : World} {ad : Addr} {cs : List Value} (h : Rd w (some ad) cs) (i : Nat) (hi : i < cs.length) : w.cell? (ad.add i) = some cs[i] := by
  obtain ⟨ad', e, hc⟩ := h i cs[i] (by simp [hi])
  cases e; exact hc

/-- A holds the bytes l -/
def RB (w : World) (A : Option Addr) (l : List UInt8) : Prop := Rd w A (l.map eb)
theorem RB.nil (w : World) (A : Option Addr) : RB w A [] := Rd.nil w A
theorem RB.some_of {w : World} {A : Option Addr} {l : List UInt8} (h : RB w A l) (hn : 0 < l.length) : ∃ ad, A = some ad :=
  Rd.some_of h (by intro e; have := congrArg List.length e; simp at this; simp [this] at hn)
theorem RB.below {w w' : World} {A : Option Addr} {l : List UInt8} (h : RB w A l) (hb : Below w.heap.size w w') : RB w' A l := Rd.below h hb
theorem RB.at_ {w : World} {ad : Addr} {l : List UInt8} (h : RB w (some ad) l) (i : Nat) (hi : i < l.length) : w.cell? (ad.add i) = some (.int .u8 (l[i].toNat : Int)) := by
  have := Rd.at_ h i (by simpa using hi)
  simpa [eb] using this

/-- the block g is a row of cells cs of type e, free to be written -/
def Blk (w : World) (g : Nat) (e : TypeId) (cs : Array Value) : Prop := w.heap[g]? = some (.cells cs e (0, 0))
theorem Blk.lt {w : World} {g : Nat} {e : TypeId} {cs : Array Value} (h : Blk w g e cs) : g < w.heap.size := (Array.getElem?_eq_some_iff.1 h).1
theorem Blk.cell {w : World} {g : Nat} {e : TypeId} {cs : Array Value} (h : Blk w g e cs) (i : Nat) : w.cell? ⟨g, i, none⟩ = cs[i]? := cell_of_row w g i cs e (0, 0) h
theorem Blk.frozen {w : World} {g : Nat} {e : TypeId} {cs : Array Value} (h : Blk w g e cs) (i : Nat) : w.frozen? ⟨g, i, none⟩ = false := frozen_of_row w g i cs e h
theorem Blk.set {w : World} {g : Nat} {e : TypeId} {cs : Array Value} (h : Blk w g e cs) (i : Nat) (u : Value) : Blk (w.setCell ⟨g, i, none⟩ u) g e (cs.setIfInBounds i u) := heap_setCell_same w g i cs e u h
theorem Blk.other {w : World} {g : Nat} {e : TypeId} {cs : Array Value} (h : Blk w g e cs) {a : Addr} (ha : g ≠ a.block) (u : Value) : Blk (w.setCell a u) g e cs := (heap_setCell_other w a g u ha).trans h
theorem Blk.below {w w' : World} {g : Nat} {e : TypeId} {cs : Array Value} (h : Blk w g e cs) (hb : Below w.heap.size w w') : Blk w' g e cs := (hb.block g h.lt).trans h
theorem Blk.alloc {w : World} {g : Nat} {e : TypeId} {cs : Array Value} (h : Blk w g e cs) (o : Obj) : Blk (w.alloc o) g e cs := (Below.heap_alloc w o g h.lt).trans h
theorem Blk.new (w : World) (e : TypeId) (cs : Array Value) : Blk (w.alloc (.cells cs e)) w.heap.size e cs := heap_alloc_new w _

/-- v is a row of the call's own (from block B on) of one-cell elements of type e: the cells cs -/
def Own (w : World) (B : Nat) (e : TypeId) (v : Value) (cs : List Value) : Prop := w.ownsRow B e 1 v cs.length cs
theorem Own.nil (w : World) (B : Nat) (e : TypeId) : Own w B e (.slice none 0 0) [] := World.ownsRow_nil w B e 1
theorem Own.read {w : World} {B : Nat} {e : TypeId} {v : Value} {cs : List Value} (h : Own w B e v cs) : ∃ A cap, v = .slice A cs.length cap ∧ cs.length ≤ cap ∧ Rd w A cs ∧ ∀ ad, A = some ad → B ≤ ad.block := by
  obtain ⟨h1, h2⟩ := h
  rcases h2 with ⟨rfl, h0⟩ | ⟨g, cap, cur, rfl, hg, hh, hle, hm, hs, hc⟩
  · refine ⟨none, 0, by rw [h0], by omega, ?_, fun ad e => by cases e⟩
    have : cs = [] := List.length_eq_zero_iff.1 h0
    subst this
    exact Rd.nil _ _
  · refine ⟨some ⟨g, 0, none⟩, cap, rfl, hle, ?_, fun ad e => by cases e; exact hg⟩
    intro i u hi
    refine ⟨_, rfl, ?_⟩
    have e1 : (⟨g, 0, none⟩ : Addr).add i = ⟨g, i, none⟩ := by unfold Addr.add; split <;> simp_all
    rw [e1, cell_of_row w g i cur e (0, 0) hh]
    rw [Nat.mul_one] at hc
    rw [← hc, List.getElem?_take] at hi
    split at hi
    · simpa using hi
    · cases hi
theorem Own.below {w w' : World} {B : Nat} {e : TypeId} {v : Value} {cs : List Value} (h : Own w B e v cs) (hb : Below w.heap.size w w') : Own w' B e v cs := by
  obtain ⟨h1, h2⟩ := h
  refine ⟨h1, h2.imp id ?_⟩
  rintro ⟨g, cap, cur, rfl, hg, hh, r⟩
  exact ⟨g, cap, cur, rfl, hg, (hb.block g (Array.getElem?_eq_some_iff.1 hh).1).trans hh, r⟩
theorem Own.lower {w : World} {B B' : Nat} {e : TypeId} {v : Value} {cs : List Value} (h : Own w B e v cs) (hb : B' ≤ B) : Own w B' e v cs := by
  obtain ⟨h1, h2⟩ := h
  refine ⟨h1, h2.imp id ?_⟩
  rintro ⟨g, cap, cur, rfl, hg, r⟩
  exact ⟨g, cap, cur, rfl, Nat.le_trans hb hg, r⟩
/-- what was just laid -/
theorem Own.lit (w : World) (B : Nat) (e : TypeId) (cs : List Value) (hB : B ≤ w.heap.size) (hm : cs.length ≤ maxLen) : Own (w.alloc (.cells cs.toArray e)) B e (.slice (some ⟨w.heap.size, 0, none⟩) cs.length cs.length) cs :=
  ⟨by simp, .inr ⟨w.heap.size, cs.length, cs.toArray, rfl, hB, heap_alloc_new _ _, Nat.le_refl _, hm, by simp, by simp⟩⟩

theorem run_str {P : Program} (w : World) (src e : TypeId) (hs : P.underlying src = some (.slice e)) (he : P.underlying e = some (.int .u8)) (dst : TypeId) (hd : P.underlying dst = some .string)
    (A : Option Addr) (cap n : Nat) (l : List UInt8) (hn : l.length = n) (hr : RB w A l) : (convert src dst (.slice A n cap)).run P w = .ok (.string ⟨l.toArray⟩) w := by
  subst hn
  cases A with
  | none =>
    have e0 : l = [] := by
      cases l with
      | nil => rfl
      | cons x l => obtain ⟨ad, e, _⟩ := hr 0 _ rfl; cases e
    subst e0
    rw [run_convert_bytes_string w src dst e none _ cap hs he hd]
    simp [Conv.bytesToString, ByteArray.empty, ByteArray.emptyWithCapacity]
    rfl
  | some ad =>
    have hl : (loadCells ad l.length).run P w = .ok ((l.map fun x => (x.toNat : Int)).map (Value.int .u8)).toArray w := by
      have := run_loadCells_list (P := P) w ad (l.map eb) (fun j v hj => by
        obtain ⟨ad', e1, hc⟩ := hr j v hj
        cases e1; exact hc)
      rw [List.length_map] at this
      rw [this, List.map_map]
      rfl
    rw [run_convert_bytes_string w src dst e _ _ cap hs he hd, run_bytesToString w _ _ cap _ hl, foldl_push_bytes]
    simp [ByteArray.empty, ByteArray.emptyWithCapacity, List.map_map, Function.comp_def]
    rfl

/-- what was just laid, marked or not, reads -/
theorem Rd.lit (w : World) (e : TypeId) (fz : Nat × Nat) (cs : List Value) : Rd (w.alloc (.cells cs.toArray e fz)) (some ⟨w.heap.size, 0, none⟩) cs := by
  intro i u hi
  refine ⟨_, rfl, ?_⟩
  have e1 : (⟨w.heap.size, 0, none⟩ : Addr).add i = ⟨w.heap.size, i, none⟩ := by unfold Addr.add; split <;> simp_all
  rw [e1, cell_of_row _ w.heap.size i cs.toArray e fz (heap_alloc_new _ _)]
  simpa using hi
theorem RB.lit (w : World) (e : TypeId) (fz : Nat × Nat) (l : List UInt8) (cs : Array Value) (h : cs = (l.map eb).toArray) : RB (w.alloc (.cells cs e fz)) (some ⟨w.heap.size, 0, none⟩) l := by
  subst h; exact Rd.lit w e fz _

/-- a row of the call's own, read as bytes -/
theorem Own.bytes {w : World} {B : Nat} {e : TypeId} {v : Value} {l : List UInt8} (h : Own w B e v (l.map eb)) : ∃ A cap, v = .slice A l.length cap ∧ l.length ≤ cap ∧ RB w A l := by
  obtain ⟨A, cap, h1, h2, h3, _⟩ := h.read
  rw [List.length_map] at h1 h2
  exact ⟨A, cap, h1, h2, h3⟩
theorem run_str_try (w : World) (A : Option Addr) (cap n : Nat) (l : List UInt8) (hn : l.length = n) (hr : RB w A l) : (convert 23 9 (.slice A n cap)).run Try.prog w = .ok (.string ⟨l.toArray⟩) w :=
  run_str w _ _ Try.underlying23 Try.underlying5 _ Try.underlying9 A cap n l hn hr

theorem Rd.take {w : World} {A : Option Addr} {cs : List Value} (h : Rd w A cs) (k : Nat) : Rd w A (cs.take k) := by
  intro i u hi
  rw [List.getElem?_take] at hi
  split at hi
  · exact h i u hi
  · cases hi
theorem RB.take {w : World} {A : Option Addr} {l : List UInt8} (h : RB w A l) (k : Nat) : RB w A (l.take k) := by
  unfold RB; rw [List.map_take]; exact Rd.take h k
theorem add_add (ad : Addr) (i j : Nat) : (ad.add i).add j = ad.add (i + j) := by
  unfold Addr.add
  by_cases h1 : i = 0 <;> by_cases h2 : j = 0 <;> simp [h1, h2, Nat.add_assoc]
theorem Rd.drop {w : World} {A : Option Addr} {cs : List Value} (h : Rd w A cs) (m c : Nat) (hc : cs.length ≤ c) : Rd w (if c = m then A else A.map (·.add m)) (cs.drop m) := by
  intro i u hi
  rw [List.getElem?_drop] at hi
  obtain ⟨ad, e, hcell⟩ := h (m + i) u hi
  have hlt := (List.getElem?_eq_some_iff.1 hi).1
  rw [if_neg (by omega)]
  exact ⟨ad.add m, by rw [e]; rfl, by rw [add_add]; exact hcell⟩

/-- 's[m:]' -/
theorem cut_from {P : Program} (t e : TypeId) (ht : P.underlying t = some (.slice e)) (hsz : (P.info? e).map (·.size) = some 1) (A : Option Addr) (n c : Nat) (m : Int) (h0 : 0 ≤ m) (hm : m ≤ n) :
    ∃ A' : Option Addr, (∀ W : World, (Instr.slice t (.slice A n c) (some (.int .i64 m)) none none).run P W = .ok (.slice A' (n - m.toNat) (c - m.toNat)) W) ∧
      (∀ (w : World) (cs : List Value), cs.length ≤ c → Rd w A cs → Rd w A' (cs.drop m.toNat)) ∧ (∀ ad, A' = some ad → ∃ ad', A = some ad' ∧ ad.block = ad'.block) := by
  refine ⟨if c = m.toNat then A else A.map (·.add m.toNat), fun W => ?_, fun w cs hc h => h.drop _ _ hc, ?_⟩
  · have hel : P.elem t = e := by simp [Program.elem, ht]
    have hu : P.underlying t = some (.slice (P.elem t)) := by rw [hel]; exact ht
    rw [run_slice_l W t A n c hu .i64 m h0 (by omega), hel]
    cases hi : P.info? e with
    | none => simp [hi] at hsz
    | some i =>
      have : i.size = 1 := by simpa [hi] using hsz
      simp [sizeOf, typeInfo, hi, this, sliced, Result.andThen]
  · intro ad e
    split at e
    · exact ⟨ad, e, rfl⟩
    · cases A with
      | none => cases e
      | some a => simp at e; subst e; exact ⟨a, rfl, add_block _ _⟩
/-- 's[l:h]' -/
theorem cut_mid {P : Program} (t e : TypeId) (ht : P.underlying t = some (.slice e)) (hsz : (P.info? e).map (·.size) = some 1) (A : Option Addr) (n c : Nat) (l h : Int) (h0 : 0 ≤ l) (hlh : l ≤ h) (hh : h ≤ c) :
    ∃ A' : Option Addr, (∀ W : World, (Instr.slice t (.slice A n c) (some (.int .i64 l)) (some (.int .i64 h)) none).run P W = .ok (.slice A' (h.toNat - l.toNat) (c - l.toNat)) W) ∧
      (∀ (w : World) (cs : List Value), cs.length ≤ c → Rd w A cs → Rd w A' (cs.drop l.toNat)) ∧ (∀ ad, A' = some ad → ∃ ad', A = some ad' ∧ ad.block = ad'.block) := by
  refine ⟨if c = l.toNat then A else A.map (·.add l.toNat), fun W => ?_, fun w cs hc h => h.drop _ _ hc, ?_⟩
  · have hel : P.elem t = e := by simp [Program.elem, ht]
    have hu : P.underlying t = some (.slice (P.elem t)) := by rw [hel]; exact ht
    rw [run_slice_lh W t A n c hu .i64 .i64 l h h0 hlh hh, hel]
    cases hi : P.info? e with
    | none => simp [hi] at hsz
    | some i =>
      have : i.size = 1 := by simpa [hi] using hsz
      simp [sizeOf, typeInfo, hi, this, sliced, Result.andThen]
  · intro ad e
    split at e
    · exact ⟨ad, e, rfl⟩
    · cases A with
      | none => cases e
      | some a => simp at e; subst e; exact ⟨a, rfl, add_block _ _⟩
/-- 's[:h]' -/
theorem cut_to {P : Program} (t e : TypeId) (ht : P.underlying t = some (.slice e)) (hsz : (P.info? e).map (·.size) = some 1) (A : Option Addr) (n c : Nat) (h : Int) (h0 : 0 ≤ h) (hh : h ≤ c) (W : World) :
    (Instr.slice t (.slice A n c) none (some (.int .i64 h)) none).run P W = .ok (.slice A h.toNat c) W := by
  have hel : P.elem t = e := by simp [Program.elem, ht]
  have hu : P.underlying t = some (.slice (P.elem t)) := by rw [hel]; exact ht
  rw [run_slice_h W t A n c hu .i64 h h0 hh, hel]
  cases hi : P.info? e with
  | none => simp [hi] at hsz
  | some i =>
    have : i.size = 1 := by simpa [hi] using hsz
    simp [sizeOf, typeInfo, hi, this, sliced, Result.andThen]
    cases A with
    | none => simp
    | some a => simp [Addr.add]
theorem size_u8 : (Try.prog.info? 5).map (·.size) = some 1 := by kernel_rfl
theorem info_u8 : (Try.prog.info? 5).map (fun i => (i.zero, i.size, i.bytes)) = some (some (.int .u8 0), 1, 1) := by kernel_rfl

/-- 'append(out, xs...)', out the call's own: laid ahead of the step as an equation on its run -/
theorem append_run {P : Program} (w : World) (B : Nat) (t ty e : TypeId) (z : Value) (bytes : Nat) (ht : P.underlying t = some (.slice e)) (hi : (P.info? e).map (fun i => (i.zero, i.size, i.bytes)) = some (some z, 1, bytes))
    (hz1 : z.cells.size = 1) (v : Value) (xs : List Value) (hown : Own w B e v xs) (A : Option Addr) (m c : Nat) (ys : List Value) (hl : ys.length = m) (hr : Rd w A ys) (h1 : ∀ u ∈ ys, u.oneCell' = true)
    (h63 : xs.length + ys.length ≤ maxLen) (hbytes : (xs.length + ys.length) * bytes ≤ 140737488355328) (hB : B ≤ w.heap.size) :
    ∃ v' w', (Builtin.append_ #[t, t] ty #[v, .slice A m c]).run P w = .ok v' w' ∧ Own w' B e v' (xs ++ ys) ∧ w.grownBy w' v.ownBlock ∧ Below B w w' := by
  subst hl
  obtain ⟨i, hii, hz, hsize, hby⟩ := info_parts hi
  have key : ∃ v' w', (Builtin.append_ #[t, t] ty #[v, .slice A ys.length c]).run P w = .ok v' w' ∧ Own w' B e v' (xs ++ ys) ∧ w.grownBy w' v.ownBlock := by
    cases A with
    | none =>
      have e0 : ys = [] := by
        cases ys with
        | nil => rfl
        | cons x l => obtain ⟨ad, e, _⟩ := hr 0 _ rfl; cases e
      subst e0
      refine ⟨v, w, ?_, by simpa using hown, World.grownBy.refl _ _⟩
      rcases hown.2 with ⟨rfl, h0⟩ | ⟨g, cap, cur, rfl, _, _, hnc, _⟩
      · simp [Builtin.append_, run_underlying ht, sizeOf, typeInfo, hii, Builtin.lenOf, Builtin.firstCells]
      · simp [Builtin.append_, run_underlying ht, sizeOf, typeInfo, hii, Builtin.lenOf, Builtin.firstCells, hnc, storeCells]
    | some ad =>
      obtain ⟨v', w', h2, h3, h4, _⟩ := run_append_own (P := P) w B t ty e i z 1 bytes ht hii hz hsize hby hz1 (by omega) v xs.length xs hown ad ys.length c ys (by simp)
        (fun j u hj => by obtain ⟨ad', e, hc⟩ := hr j u hj; cases e; exact hc) h1 h63 hbytes hB
      exact ⟨v', w', h2, by unfold Own; rw [List.length_append]; exact h3, h4⟩
  obtain ⟨v', w', h2, h3, h4⟩ := key
  refine ⟨v', w', h2, h3, h4, (Below.refl B w).grown h4 hB ?_⟩
  intro k hk
  exact (hown.lt k hk).1
theorem grown_below {w w' : World} {v : Value} {B : Nat} {e : TypeId} {xs : List Value} (hg : w.grownBy w' v.ownBlock) (ho : Own w B e v xs) (hB : B ≤ w.heap.size) : Below B w w' :=
  (Below.refl B w).grown hg hB (fun k hk => (ho.lt k hk).1)
theorem eb_cells (l : List UInt8) : ∀ u ∈ l.map eb, u.oneCell' = true := by
  intro u hu
  obtain ⟨x, _, rfl⟩ := List.mem_map.1 hu
  rfl

/-- 'make([]T, n)' of one-cell elements -/
theorem make_run {P : Program} (t e : TypeId) (z : Value) (bytes : Nat) (ht : P.underlying t = some (.slice e)) (hi : (P.info? e).map (fun i => (i.zero, i.size, i.bytes)) = some (some z, 1, bytes)) (hz : z.cells = #[z])
    (n : Int) (h0 : 0 ≤ n) (hb : (bytes : Int) * n ≤ 281474976710656) (h63 : n ≤ 9223372036854775807) (W : World) :
    (Instr.makeSlice t (.int .i64 n) (.int .i64 n)).run P W = .ok (.slice (some ⟨W.heap.size, 0, none⟩) n.toNat n.toNat) (W.alloc (.cells (Array.replicate n.toNat z) e)) := by
  obtain ⟨i, hii, hzi, hsize, hby⟩ := info_parts hi
  have h := run_make (P := P) W t e i z ht hii hzi .i64 .i64 n n h0 (Int.le_refl _) (by rw [hby]; exact hb) h63
  rw [h, hz, hsize, Nat.mul_one]
  congr 4
  apply Array.toList_inj.1
  rw [toList_madeCells_one]
  simp
/-- a row of the call's own that is not empty: its block -/
theorem Own.blk {w : World} {B : Nat} {e : TypeId} {v : Value} {cs : List Value} (h : Own w B e v cs) (hne : 0 < cs.length) :
    ∃ g cap cur, v = .slice (some ⟨g, 0, none⟩) cs.length cap ∧ B ≤ g ∧ Blk w g e cur ∧ cs.length ≤ cap ∧ cur.size = cap ∧ cap ≤ maxLen ∧ cur.toList.take cs.length = cs := by
  obtain ⟨h1, h2⟩ := h
  rcases h2 with ⟨_, h0⟩ | ⟨g, cap, cur, hv, hg, hh, hle, hm, hs, hc⟩
  · omega
  · exact ⟨g, cap, cur, hv, hg, hh, hle, by simpa using hs, hm, by simpa using hc⟩
theorem Blk.own {w : World} {B : Nat} {e : TypeId} {g cap : Nat} {cur : Array Value} {cs : List Value} (h : Blk w g e cur) (hB : B ≤ g) (hle : cs.length ≤ cap) (hs : cur.size = cap) (hm : cap ≤ maxLen) (hc : cur.toList.take cs.length = cs) :
    Own w B e (.slice (some ⟨g, 0, none⟩) cs.length cap) cs := ⟨by simp, .inr ⟨g, cap, cur, rfl, hB, h, hle, hm, by simpa using hs, by simpa using hc⟩⟩
/-- a row's cell is written -/
theorem row_set {cur : Array Value} {cs : List Value} (hc : cur.toList.take cs.length = cs) (q : Nat) (u : Value) : (cur.setIfInBounds q u).toList.take (cs.set q u).length = cs.set q u := by
  rw [List.length_set, Array.toList_setIfInBounds, List.take_set, hc]
theorem row_get {cur : Array Value} {cs : List Value} (hc : cur.toList.take cs.length = cs) (q : Nat) (hq : q < cs.length) : cur[q]? = some cs[q] := by
  have h : cs[q]? = (cur.toList.take cs.length)[q]? := by rw [hc]
  rw [List.getElem?_take, if_pos hq, List.getElem?_eq_getElem hq] at h
  simpa using h.symm

theorem Own.bytes_at {w : World} {B : Nat} {e : TypeId} {A : Option Addr} {n cap : Nat} {l : List UInt8} (h : Own w B e (.slice A n cap) (l.map eb)) : RB w A l := by
  obtain ⟨A', cap', h1, _, h3⟩ := h.bytes
  injection h1 with e1 _ _
  subst e1
  exact h3
theorem Own.rd_at {w : World} {B : Nat} {e : TypeId} {A : Option Addr} {n cap : Nat} {cs : List Value} (h : Own w B e (.slice A n cap) cs) : Rd w A cs := by
  obtain ⟨A', cap', h1, _, h3, _⟩ := h.read
  injection h1 with e1 _ _
  subst e1
  exact h3

/-- the step of an append whose run is known -/
theorem wpList_append_run {P : Program} {w : World} {ops : Array Oper} {rest : List Oper} {o : Oper} {a : Act} {Q : Exit → Act → World → Prop} (hgd : o.guard = none) (s x : Operand) (t u : TypeId)
    (ho : o.op = .call { callee := .builtin .append, args := #[s, x], argTypes := #[t, u] }) (v vx v' : Value) (w' : World) (hs : a.eval s = v) (hx : a.eval x = vx)
    (hrun : (Builtin.append_ #[t, u] o.type #[v, vx]).run P w = .ok v' w') (h : wpList P ops Q rest (a.put o.dst v') w') : wpList P ops Q (o :: rest) a w := by
  refine wpList_plain hgd fun K hK => ?_
  unfold Oper.wp execOp
  simp only [ho, resolve, invoke, builtin, Sem.run_bind, Sem.run_pure, Result.andThen_ok, List.map_toArray, List.map_cons, List.map_nil, hs, hx, hrun]
  exact hK _ _ h

/-- 'append([]byte{}, b...)' -/
theorem append_fresh (w1 : World) (A : Option Addr) (n cap : Nat) (l : List UInt8) (hn : l.length = n) (hr : RB w1 A l) (hl : l.length ≤ 140737488355328) :
    ∃ v' w2, Hid ((Builtin.append_ #[23, 23] 23 #[.slice (some ⟨w1.heap.size, 0, none⟩) 0 0, .slice A n cap]).run Try.prog (w1.alloc (.cells #[] 5)) = .ok v' w2) ∧ Own w2 w1.heap.size 5 v' (l.map eb) ∧ Below w1.heap.size w1 w2 := by
  obtain ⟨v', w2, hrun, hown, _, hb⟩ := append_run (P := Try.prog) (w1.alloc (.cells #[] 5)) w1.heap.size 23 23 5 (.int .u8 0) 1 Try.underlying23 info_u8 rfl (.slice (some ⟨w1.heap.size, 0, none⟩) 0 0) []
    (Own.lit w1 w1.heap.size 5 [] (Nat.le_refl _) (by simp)) A n cap (l.map eb) (by simpa using hn) (hr.below (bal (Below.refl _ _) _)) (eb_cells l) (by simp; unfold maxLen; omega) (by simp; omega) (by simp)
  exact ⟨v', w2, hrun, by simpa using hown, (bal (Below.refl _ _) _).trans hb⟩
/-- 'append(x, y...)' of bytes, x the call's own -/
theorem append_bytes (w : World) (B : Nat) (v : Value) (a : List UInt8) (hown : Own w B 5 v (a.map eb)) (A : Option Addr) (n cap : Nat) (l : List UInt8) (hn : l.length = n) (hr : RB w A l) (hl : a.length + l.length ≤ 140737488355328) (hB : B ≤ w.heap.size) :
    ∃ v' w2, Hid ((Builtin.append_ #[23, 23] 23 #[v, .slice A n cap]).run Try.prog w = .ok v' w2) ∧ Own w2 B 5 v' ((a ++ l).map eb) ∧ Below B w w2 ∧ w.grownBy w2 v.ownBlock := by
  obtain ⟨v', w2, hrun, hown', hg, hb⟩ := append_run (P := Try.prog) w B 23 23 5 (.int .u8 0) 1 Try.underlying23 info_u8 rfl v _ hown A n cap (l.map eb) (by simpa using hn) hr (eb_cells l) (by simp; unfold maxLen; omega) (by simp; omega) hB
  exact ⟨v', w2, hrun, by rw [List.map_append]; exact hown', hb, hg⟩

theorem add_zero_lit (g i : Nat) : (⟨g, 0, none⟩ : Addr).add i = ⟨g, i, none⟩ := by unfold Addr.add; split <;> simp_all
theorem RB.at_lit {w : World} {g : Nat} {l : List UInt8} (h : RB w (some ⟨g, 0, none⟩) l) (i : Nat) (hi : i < l.length) : w.cell? ⟨g, i, none⟩ = some (.int .u8 (l[i].toNat : Int)) := by
  have := h.at_ i hi
  rwa [add_zero_lit] at this

/-- v is a slice of the bytes l -/
def IsB (w : World) (v : Value) (l : List UInt8) : Prop := ∃ A cap, v = .slice A l.length cap ∧ l.length ≤ cap ∧ RB w A l
theorem IsB.below {w w' : World} {v : Value} {l : List UInt8} (h : IsB w v l) (hb : Below w.heap.size w w') : IsB w' v l := by
  obtain ⟨A, cap, e, hc, hr⟩ := h
  exact ⟨A, cap, e, hc, hr.below hb⟩
theorem Own.isB {w : World} {B : Nat} {e : TypeId} {v : Value} {l : List UInt8} (h : Own w B e v (l.map eb)) : IsB w v l := h.bytes
/-- the values vs are slices of the bytes ls, one for one -/
def AreB (w : World) (vs : List Value) (ls : List (List UInt8)) : Prop := vs.length = ls.length ∧ ∀ (i : Nat) (h1 : i < vs.length) (h2 : i < ls.length), IsB w vs[i] ls[i]
theorem AreB.below {w w' : World} {vs : List Value} {ls : List (List UInt8)} (h : AreB w vs ls) (hb : Below w.heap.size w w') : AreB w' vs ls := ⟨h.1, fun i h1 h2 => (h.2 i h1 h2).below hb⟩
theorem AreB.nil (w : World) : AreB w [] [] := ⟨rfl, fun i h1 _ => by simp at h1⟩
theorem AreB.cons {w : World} {v : Value} {l : List UInt8} {vs : List Value} {ls : List (List UInt8)} (h : IsB w v l) (hs : AreB w vs ls) : AreB w (v :: vs) (l :: ls) := by
  refine ⟨by simp [hs.1], fun i h1 h2 => ?_⟩
  cases i with
  | zero => exact h
  | succ i => exact hs.2 i (by simpa using h1) (by simpa using h2)
theorem AreB.snoc {w : World} {v : Value} {l : List UInt8} {vs : List Value} {ls : List (List UInt8)} (hs : AreB w vs ls) (h : IsB w v l) : AreB w (vs ++ [v]) (ls ++ [l]) := by
  have h0 := hs.1
  refine ⟨by simp [hs.1], fun i h1 h2 => ?_⟩
  by_cases hi : i < vs.length
  · rw [List.getElem_append_left hi, List.getElem_append_left (by omega)]
    exact hs.2 i hi (by omega)
  · simp at h1
    have : i = vs.length := by omega
    subst this
    simp [h0]
    exact h

theorem results_tmp4 {fn : Func} {t u v x : Tmp} (h : fn.results = #[.tmp t, .tmp u, .tmp v, .tmp x]) (tmps : Array Value) (P : Program) (w : World) :
    (results fn tmps).run P w = .ok (.tuple #[tmps.getD t undef, tmps.getD u undef, tmps.getD v undef, tmps.getD x undef]) w := by
  simp [results, h]
theorem results_tmp5 {fn : Func} {t u v x y : Tmp} (h : fn.results = #[.tmp t, .tmp u, .tmp v, .tmp x, .tmp y]) (tmps : Array Value) (P : Program) (w : World) :
    (results fn tmps).run P w = .ok (.tuple #[tmps.getD t undef, tmps.getD u undef, tmps.getD v undef, tmps.getD x undef, tmps.getD y undef]) w := by
  simp [results, h]

/-- an address that is read, taken apart -/
theorem RB.lit_of {w : World} {ad : Addr} {l : List UInt8} (h : RB w (some ad) l) (hl : 0 < l.length) : ∃ b off, ad = ⟨b, off, none⟩ ∧ ∀ i (hi : i < l.length), w.cell? ⟨b, off + i, none⟩ = some (.int .u8 (l[i].toNat : Int)) := by
  obtain ⟨b, off, spot⟩ := ad
  have hc := h.at_ 0 hl
  have hs : spot = none := by simpa [Addr.add] using World.cell?_spot hc
  subst hs
  refine ⟨b, off, rfl, fun i hi => ?_⟩
  have := h.at_ i hi
  have e : (⟨b, off, none⟩ : Addr).add i = ⟨b, off + i, none⟩ := by unfold Addr.add; split <;> simp_all
  rwa [e] at this

end Go.Proofs.Ytpnfgnddlfkfaaa
