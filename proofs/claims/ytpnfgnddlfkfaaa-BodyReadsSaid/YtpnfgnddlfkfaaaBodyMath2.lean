/-
  Bodies over a store, in plain words: what Put leaves; what is read; ranges.
-/
import Derived.Test.YtpnfgnddlfkfaaaBodyMath
import Derived.Test.YtpnfgnddlfkfaaaLawOnce
set_option linter.unusedSimpArgs false
set_option linter.unusedVariables false
namespace Go.Proofs.Ytpnfgnddlfkfaaa
open Go.RowKit Go.Maps

theorem putR_says {n : Nat} {s : CSt} (ok : COk n s) (inv : CInv s) {b : List UInt8} (hb : okLen b) : (putR s b).2.2.1 = 0 ∧ (putR s b).2.2.2.l (putR s b).1 = some b ∧ moreC s (putR s b).2.2.2 ∧ 1 ≤ (putR s b).1 ∧ (putR s b).1 ≤ s.next := by
  have h0 := ok.next0
  unfold putR
  rw [if_pos (show 1 ≤ b.length ∧ b.length ≤ 64 from hb)]
  cases hf : findId s b with
  | some id =>
    have h1 := (inv.find hb.1 id).1 hf
    have h2 := inv.i4 _ _ h1
    exact ⟨rfl, h1, fun _ _ h => h, h2.2.1, by simp only; omega⟩
  | none =>
    refine ⟨rfl, by simp [setSt], fun x c h => set_keeps (inv.next_none (Int.le_refl _)) x c h, h0, Int.le_refl _⟩
theorem chain_len : ∀ {ps : List Part} {x y : Int}, chain x ps y → x + (ps.length : Int) ≤ y
  | [], x, y, h => by have h' : x ≤ y := h; simpa using h'
  | p :: ps, x, y, h => by
    have h1 := fits_len h.1
    have h2 := chain_len h.2.2
    have h3 := h.2.1
    rw [List.length_cons]
    omega
theorem may_len {S : Int} {ps : List Part} (h : bodyMay S ps = true) : (ps.length : Int) ≤ S := by
  have := chain_len (bodyMay_chain.1 h).2
  omega
/-- bytes of a range -/
def rangeB (s : CSt) (ps : List Part) (x y : Int) : List UInt8 := (List.range (y - x).toNat).map fun j : Nat => (lookP s ps (x + (j : Int))).getD 0
theorem rangeB_len (s : CSt) (ps : List Part) (x y : Int) : (rangeB s ps x y).length = (y - x).toNat := by simp [rangeB]
theorem readR_says {s : CSt} {S : Int} {ps : List Part} {off n : Int} (hm : bodyMay S ps = true) (hp : ∀ p ∈ ps, hasP s p) (h0 : 0 ≤ off) (hn0 : 0 ≤ n) (hn1 : n ≤ 4096) : readR s S ps off n = (rangeB s ps off (min S (off + n)), 0) := by
  unfold readR
  rw [if_pos ⟨h0, hn0, hn1, hm⟩]
  by_cases hlt : off < min S (off + n)
  · rw [if_pos hlt]
    obtain ⟨o, h1, h2, h3⟩ := readGo_says s off (min S (off + n)) ps (List.replicate (min S (off + n) - off).toNat 0) hp (by rw [List.length_replicate]; omega)
    rw [h1]
    simp only [Prod.mk.injEq, and_true]
    rw [List.length_replicate] at h2
    refine List.ext_getElem? fun j => ?_
    by_cases hj : j < o.length
    · rw [h3 j hj]
      unfold rangeB
      rw [List.getElem?_map, List.getElem?_range (by omega)]
      simp [List.getD_eq_getElem?_getD, List.getElem?_replicate, show j < (min S (off + n) - off).toNat by omega]
    · rw [List.getElem?_eq_none (by omega), List.getElem?_eq_none (by rw [rangeB_len]; omega)]
  · rw [if_neg hlt]
    unfold rangeB
    rw [show (min S (off + n) - off).toNat = 0 by omega]
    rfl
theorem rangeB_join (s : CSt) (ps : List Part) {x y z : Int} (hxy : x ≤ y) (hyz : y ≤ z) : rangeB s ps x y ++ rangeB s ps y z = rangeB s ps x z := by
  unfold rangeB
  obtain ⟨a, ha⟩ : ∃ a : Nat, y - x = a := ⟨(y - x).toNat, by omega⟩
  obtain ⟨b, hb⟩ : ∃ b : Nat, z - y = b := ⟨(z - y).toNat, by omega⟩
  rw [ha, hb, show z - x = ((a + b : Nat) : Int) by omega]
  simp only [Int.toNat_natCast]
  rw [List.range_add, List.map_append, List.map_map]
  congr 1
  refine List.map_congr_left fun j _ => ?_
  simp only [Function.comp]
  rw [show x + ((a + j : Nat) : Int) = y + (j : Int) by omega]
theorem rangeB_nil (s : CSt) (ps : List Part) {x y : Int} (h : y ≤ x) : rangeB s ps x y = [] := by
  unfold rangeB
  rw [show (y - x).toNat = 0 by omega]
  rfl
theorem ranges_eq (s : CSt) (ps : List Part) {S f p q : Int} (hp : 0 ≤ p) (hq : 0 ≤ q) : rangeB s ps f (min S (f + p)) ++ rangeB s ps (f + p) (min S (f + p + q)) = rangeB s ps f (min S (f + (p + q))) := by
  rw [← Int.add_assoc]
  by_cases h : f + p ≤ S
  · rw [Int.min_eq_right h]
    exact rangeB_join s ps (by omega) (by omega)
  · rw [rangeB_nil s ps (x := f + p) (by omega), List.append_nil]
    congr 1
    omega
/-- a body of pieces that are there -/
structure Good (s : CSt) (S : Int) (ps : List Part) : Prop where
  may : bodyMay S ps = true
  has : ∀ p ∈ ps, hasP s p
theorem Good.more {s t : CSt} {S : Int} {ps : List Part} (h : Good s S ps) (hm : moreC s t) : Good t S ps := ⟨h.may, fun p hp => (hasP_more hm (h.has p hp)).1⟩
theorem Good.empty (s : CSt) : Good s 0 [] := ⟨by decide, fun p hp => by cases hp⟩
theorem Good.write {s : CSt} {S : Int} {ps : List Part} {off : Int} {l : List Part} (h : Good s S ps) (hf : l.all fits = true) (hl : ∀ p ∈ l, hasP s p) (h0 : 0 ≤ off) (h1 : off ≤ 1099511627776 - sumLen l) :
    ∃ S' ps', writeR S ps off l = (S', ps', 0) ∧ Good s S' ps' ∧ (l ≠ [] → S' = max S (off + sumLen l) ∧ ∀ i, lookP s ps' i = if off ≤ i ∧ i < off + sumLen l then (joinP s l)[(i - off).toNat]? else lookP s ps i) ∧ (l = [] → S' = S ∧ ps' = ps) := by
  rw [writeR_ok h.may hf h0 h1]
  by_cases hn : l = []
  · rw [if_pos hn]
    exact ⟨S, ps, rfl, h, fun e => absurd hn e, fun _ => ⟨rfl, rfl⟩⟩
  · rw [if_neg hn]
    have hjl := joinP_length s l hl
    refine ⟨_, _, rfl, ⟨written_may h.may hf h0 h1, fun p hp => ?_⟩, fun _ => ⟨rfl, fun i => ?_⟩, fun e => absurd e hn⟩
    · unfold written at hp
      rw [List.mem_append, List.mem_append] at hp
      rcases hp with (hp | hp) | hp
      · obtain ⟨q, hq, hc⟩ := List.mem_filterMap.1 hp
        exact hasP_ahead (h.has q hq) hc
      · exact hasP_placed s l off hl p hp
      · obtain ⟨q, hq, hc⟩ := List.mem_filterMap.1 hp
        exact hasP_behind (h.has q hq) hc
    · unfold written
      rw [lookP_append, lookP_append, lookP_behind, lookP_ahead, lookP_placed s l off i hl]
      by_cases hi : off ≤ i ∧ i < off + sumLen l
      · rw [if_pos hi, if_neg (by omega), if_pos hi.1, if_neg (by omega), Option.none_or, Option.or_none]
      · rw [if_neg hi]
        by_cases h2 : off + sumLen l ≤ i
        · rw [if_pos h2, if_pos (by have := sumLen_pos hf; omega), if_neg (by have := sumLen_pos hf; omega), List.getElem?_eq_none (by omega)]
          simp
        · rw [if_neg h2, if_neg (by omega), if_pos (by omega)]
          simp
theorem Good.trunc {s : CSt} {S : Int} {ps : List Part} {x : Int} (h : Good s S ps) (h0 : 0 ≤ x) (h1 : x ≤ 1099511627776) :
    ∃ ps', truncR S ps x = (x, ps', 0) ∧ Good s x ps' ∧ ∀ i, lookP s ps' i = if i < x then lookP s ps i else none := by
  refine ⟨_, truncR_ok h.may h0 h1, ⟨trunc_may h.may h0 h1, fun p hp => ?_⟩, fun i => lookP_ahead s ps x i⟩
  obtain ⟨q, hq, hc⟩ := List.mem_filterMap.1 hp
  exact hasP_ahead (h.has q hq) hc
/-- one piece of a whole text -/
theorem one_part {s : CSt} {id : Int} {b : List UInt8} (hid : s.l id = some b) (hb : okLen b) (h0 : 1 ≤ id) (h1 : id ≤ 4611686018427387904) : [(⟨0, (b.length : Int), id, 0⟩ : Part)].all fits = true ∧ sumLen [(⟨0, (b.length : Int), id, 0⟩ : Part)] = (b.length : Int) ∧ ∀ p ∈ [(⟨0, (b.length : Int), id, 0⟩ : Part)], hasP s p := by
  obtain ⟨b1, b2⟩ := hb
  refine ⟨?_, by simp [sumLen], fun p hp => ?_⟩
  · simp only [List.all_cons, List.all_nil, Bool.and_true, fits, decide_eq_true_eq]
    omega
  · rw [List.mem_singleton] at hp
    subst hp
    have e : dat s id = b := by unfold dat; rw [hid]; rfl
    exact ⟨Int.le_refl _, by simp only; omega, by simp only; rw [e]; omega⟩
end Go.Proofs.Ytpnfgnddlfkfaaa
