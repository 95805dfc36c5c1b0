/-
  Slots on a disk whose bytes are turned one by one.
-/
import Derived.Test.YtbhhjphgbdaanaaSArg
set_option linter.unusedSimpArgs false
set_option linter.unusedVariables false
namespace Go.Proofs.Ytbhhjphgbdaanaa
open Go.RowKit Go.Maps

/-- x is f but for the bytes k .. k + j - 1 -/
def Torn (f x : List UInt8) (k j : Nat) : Prop := x.length = f.length ∧ ∀ q, q < k ∨ k + j ≤ q → x[q]? = f[q]?
theorem Torn.start (f : List UInt8) (k : Nat) : Torn f f k 0 := ⟨rfl, fun _ _ => rfl⟩
theorem Torn.same {f x : List UInt8} {k j : Nat} (h : Torn f x k j) (hx : k + j < x.length) (hf : k + j < f.length) : x[k + j] = f[k + j] := by
  have := h.2 (k + j) (.inr (Nat.le_refl _))
  rw [List.getElem?_eq_getElem hx, List.getElem?_eq_getElem hf] at this
  exact Option.some.inj this
theorem Torn.step {f x : List UInt8} {k j : Nat} (h : Torn f x k j) (t : UInt8) : Torn f (x.set (k + j) t) k (j + 1) := by
  refine ⟨by simp [h.1], fun q hq => ?_⟩
  rw [List.getElem?_set_ne (by omega)]
  exact h.2 q (by omega)
theorem Torn.turn {f x : List UInt8} {k j : Nat} (h : Torn f x k j) (hx : k + j < x.length) (hf : k + j < f.length) (t : UInt8) : (!(x.set (k + j) (x[k + j] ^^^ t) == f)) = (!(x == f) || !((t.toNat : Int) == 0)) := by
  have hs := h.same hx hf
  by_cases ht : t = 0
  · subst ht
    rw [UInt8.xor_zero, List.set_getElem_self]
    simp
  · have h0 : t.toNat ≠ 0 := fun e => ht (UInt8.toNat_inj.1 e)
    have h1 : ((t.toNat : Int) == 0) = false := beq_eq_false_iff_ne.2 (by omega)
    rw [h1]
    have h2 : (x.set (k + j) (x[k + j] ^^^ t) == f) = false := by
      apply beq_eq_false_iff_ne.2
      intro e
      have := congrArg (fun l => l[k + j]?) e
      simp only [List.getElem?_set_self hx, List.getElem?_eq_getElem hf] at this
      have h3 := Option.some.inj this
      rw [hs] at h3
      apply ht
      have h4 := congrArg (fun y => f[k + j] ^^^ y) h3
      simpa only [← UInt8.xor_assoc, UInt8.xor_self, UInt8.zero_xor] using h4
    rw [h2]
    simp
theorem Torn.wide {f x : List UInt8} {k j : Nat} (h : Torn f x k j) (hj : j ≤ 4) : ∀ q, q < k ∨ k + 4 ≤ q → x[q]? = f[q]? := fun q hq => h.2 q (by omega)
/-- both slots are written: slot k holds the bytes f k -/
structure Holds (d : DSt) (f : Nat → List UInt8) : Prop where
  dead : d.dead = false
  fl : d.fl.length = 8
  len : ∀ k, k < 2 → (f k).length = 256
  ca : ∀ k i : Nat, k < 2 → i < 4 → d.ca ((k : Int) * 4 + (i : Int)) = some (piece (f k) i)
theorem Holds.cur {d : DSt} {f : Nat → List UInt8} (h : Holds d f) {k i : Nat} (hk : k < 2) (hi : i < 4) : curD d ((k : Int) * 4 + (i : Int)) = piece (f k) i := by
  unfold curD
  rw [h.ca k i hk hi]
  rfl
theorem Holds.read {d : DSt} {f : Nat → List UInt8} (h : Holds d f) {k p : Nat} (hk : k < 2) (hp : p < 256) : readD d ((k : Int) * 4 + ((p / 64 : Nat) : Int)) = (piece (f k) (p / 64), 0) := by
  rw [readD_live h.dead (k := k * 4 + p / 64) _ (by simp) (by rw [h.fl]; omega), h.cur hk (by omega)]
theorem piece_at {b : List UInt8} (p : Nat) (hp : p < b.length) (hb : b.length = 256) : (piece b (p / 64))[p % 64]? = some b[p] := by
  unfold piece
  rw [List.getElem?_take_of_lt (by omega), List.getElem?_drop, show p / 64 * 64 + p % 64 = p by omega, List.getElem?_eq_getElem hp]
theorem lay_one (c : List UInt8) (a : Nat) (v : UInt8) (ha : a < c.length) : lay c a [v] = c.set a v := by
  unfold lay
  rw [List.set_eq_take_append_cons_drop, if_pos ha]
  simp
theorem piece_set (b : List UInt8) (p i : Nat) (v : UInt8) (hb : b.length = 256) (hp : p < 256) (hi : i < 4) : piece (b.set p v) i = if i = p / 64 then (piece b i).set (p % 64) v else piece b i := by
  apply List.ext_getElem?
  intro j
  have hl : (piece (b.set p v) i).length = 64 := piece_len (by rw [List.length_set]; exact hb) hi
  have hl2 : (piece b i).length = 64 := piece_len hb hi
  by_cases hj : j < 64
  · have e1 : (piece (b.set p v) i)[j]? = (b.set p v)[i * 64 + j]? := by unfold piece; rw [List.getElem?_take_of_lt hj, List.getElem?_drop]
    have e2 : (piece b i)[j]? = b[i * 64 + j]? := by unfold piece; rw [List.getElem?_take_of_lt hj, List.getElem?_drop]
    rw [e1]
    by_cases c : i * 64 + j = p
    · rw [if_pos (by omega), show p % 64 = j by omega, ← c, List.getElem?_set_self (by omega), List.getElem?_set_self (by omega)]
    · rw [List.getElem?_set_ne (fun e => c e.symm)]
      split
      · rw [List.getElem?_set_ne (by omega), e2]
      · rw [e2]
  · rw [List.getElem?_eq_none (by omega)]
    split
    · rw [List.getElem?_eq_none (by rw [List.length_set]; omega)]
    · rw [List.getElem?_eq_none (by omega)]
def putF (f : Nat → List UInt8) (k p : Nat) (v : UInt8) : Nat → List UInt8 := fun q => if q = k then (f k).set p v else f q
theorem Holds.spoil {d : DSt} {f : Nat → List UInt8} (h : Holds d f) {k p : Nat} (hk : k < 2) (hp : p < 256) (v : UInt8) :
    Holds (spoilD d ((k : Int) * 4 + ((p / 64 : Nat) : Int)) ((p % 64 : Nat) : Int) [v]).2 (putF f k p v) := by
  have hcond : (thereB d.fl.length ((k : Int) * 4 + ((p / 64 : Nat) : Int)) && decide (0 ≤ ((p % 64 : Nat) : Int) ∧ ((p % 64 : Nat) : Int) ≤ 64 ∧ (([v] : List UInt8).length : Int) ≤ 64 - ((p % 64 : Nat) : Int))) = true := by
    rw [h.fl, Bool.and_eq_true, decide_eq_true_iff]
    refine ⟨by unfold thereB; rw [decide_eq_true_iff]; omega, ?_⟩
    simp only [List.length_singleton]
    omega
  unfold spoilD
  rw [if_pos hcond]
  refine ⟨h.dead, by simp only [List.length_set]; exact h.fl, fun q hq => ?_, fun q i hq hi => ?_⟩
  · unfold putF
    split
    · rw [List.length_set]; exact h.len k hk
    · exact h.len q hq
  · simp only
    by_cases e : (q : Int) * 4 + (i : Int) = (k : Int) * 4 + ((p / 64 : Nat) : Int)
    · have e1 : q = k := by omega
      have e2 : i = p / 64 := by omega
      subst e1 e2
      rw [if_pos e, h.ca q _ hq hi]
      unfold putF
      rw [if_pos rfl, piece_set _ p _ v (h.len q hq) hp hi, if_pos rfl]
      simp only [Option.map_some]
      rw [show (((p % 64 : Nat) : Int)).toNat = p % 64 by omega, lay_one _ _ _ (by rw [piece_len (h.len q hq) hi]; omega)]
    · rw [if_neg e, h.ca q i hq hi]
      unfold putF
      split
      · rename_i e1
        subst e1
        rw [piece_set _ p _ v (h.len q hq) hp hi, if_neg (by omega)]
      · rfl
theorem Holds.best {d : DSt} {f : Nat → List UInt8} (h : Holds d f) (segs : Int) : supBest d segs = bestOf (parseB (f 0) segs) (parseB (f 1) segs) := by
  unfold supBest
  rw [h.dead, if_neg (by decide), sup_read_live h.dead h.fl 0 (by omega) (h.len 0 (by omega)) (fun i hi => h.cur (by omega) hi) segs 0 rfl, sup_read_live h.dead h.fl 1 (by omega) (h.len 1 (by omega)) (fun i hi => h.cur (by omega) hi) segs 1 rfl]
theorem holds_two (fl : List (List UInt8)) (ca : Int → Option (List UInt8)) (m : Int) (b0 b1 : List UInt8) (hf : fl.length = 8) (h0 : b0.length = 256) (h1 : b1.length = 256) : Holds (liveD fl (caSlot (caSlot ca 0 b0 4) 1 b1 4) m) (fun k => if k = 0 then b0 else b1) := by
  refine ⟨rfl, hf, fun k hk => by split <;> assumption, fun k i hk hi => ?_⟩
  have e1 : ∀ c' b', caSlot c' 1 b' 4 (((1 : Nat) : Int) * 4 + (i : Int)) = some (piece b' i) := fun c' b' => by
    unfold caSlot
    rw [if_pos (by omega), show (((1 : Nat) : Int) * 4 + (i : Int) - ((1 : Nat) : Int) * 4).toNat = i by omega]
  have e0 : ∀ c' b', caSlot c' 0 b' 4 (((0 : Nat) : Int) * 4 + (i : Int)) = some (piece b' i) := fun c' b' => by
    unfold caSlot
    rw [if_pos (by omega), show (((0 : Nat) : Int) * 4 + (i : Int) - ((0 : Nat) : Int) * 4).toNat = i by omega]
  obtain rfl | rfl : k = 0 ∨ k = 1 := by omega
  · simp only [liveD, if_true]
    rw [ca_other _ 1 b1 _ (by omega)]
    exact e0 _ _
  · simp only [liveD]
    rw [if_neg (by omega)]
    exact e1 _ _
theorem arr4 {zs : List Int} {k : IntKind} (h : zs.length = 4) (hw : ∀ z ∈ zs, (Lit.int k z).wf = true) : ∃ z0 z1 z2 z3 : Int, zs = [z0, z1, z2, z3] ∧ (Lit.int k z0).wf = true ∧ (Lit.int k z1).wf = true ∧ (Lit.int k z2).wf = true ∧ (Lit.int k z3).wf = true := by
  match zs, h with
  | [z0, z1, z2, z3], _ => exact ⟨z0, z1, z2, z3, rfl, hw z0 (by simp), hw z1 (by simp), hw z2 (by simp), hw z3 (by simp)⟩
end Go.Proofs.Ytbhhjphgbdaanaa
