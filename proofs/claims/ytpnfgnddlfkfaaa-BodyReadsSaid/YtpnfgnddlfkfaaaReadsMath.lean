/-
  BodyReads: bytes that are written last, as a list.
-/
import Derived.Test.YtpnfgnddlfkfaaaBodyMath2
import Derived.Test.YtpnfgnddlfkfaaaCopy
set_option linter.unusedSimpArgs false
set_option linter.unusedVariables false
namespace Go.Proofs.Ytpnfgnddlfkfaaa
open Go.RowKit Go.Maps

/-- a body's bytes are ms, and noughts behind -/
structure MOk (s : CSt) (S : Int) (ps : List Part) (ms : List UInt8) : Prop where
  good : Good s S ps
  len : S = (ms.length : Int)
  at_ : ∀ i : Nat, (lookP s ps (i : Int)).getD 0 = ms.getD i 0
theorem MOk.empty (s : CSt) : MOk s 0 [] [] := ⟨Good.empty s, rfl, fun i => rfl⟩
theorem MOk.more {s t : CSt} {S : Int} {ps : List Part} {ms : List UInt8} (h : MOk s S ps ms) (hm : moreC s t) : MOk t S ps ms :=
  ⟨h.good.more hm, h.len, fun i => by rw [lookP_more hm ps i h.good.has]; exact h.at_ i⟩
def fillTo (ms : List UInt8) (T : Nat) : List UInt8 := ms ++ List.replicate (T - ms.length) 0
theorem fillTo_len (ms : List UInt8) (T : Nat) : (fillTo ms T).length = max ms.length T := by
  unfold fillTo
  rw [List.length_append, List.length_replicate]
  omega
theorem fillTo_get (ms : List UInt8) (T i : Nat) : (fillTo ms T).getD i 0 = ms.getD i 0 := by
  unfold fillTo
  rw [List.getD_eq_getElem?_getD, List.getD_eq_getElem?_getD]
  by_cases h : i < ms.length
  · rw [List.getElem?_append_left h]
  · rw [List.getElem?_append_right (by omega), List.getElem?_replicate, List.getElem?_eq_none (by omega)]
    split <;> rfl
theorem fillTo_ge (ms : List UInt8) (T : Nat) (h : T ≤ ms.length) : fillTo ms T = ms := by
  unfold fillTo
  rw [show T - ms.length = 0 by omega]
  simp
theorem fillTo_step (ms : List UInt8) (T k : Nat) (hk : ms.length ≤ k) (hT : k < T) : ms ++ List.replicate (k - ms.length) (0 : UInt8) ++ [0] = ms ++ List.replicate (k + 1 - ms.length) 0 := by
  rw [show k + 1 - ms.length = (k - ms.length) + 1 by omega, List.replicate_succ', List.append_assoc]
theorem take_getD (l : List UInt8) (x i : Nat) : (l.take x).getD i 0 = if i < x then l.getD i 0 else 0 := by
  rw [List.getD_eq_getElem?_getD, List.getD_eq_getElem?_getD, List.getElem?_take]
  split <;> rfl
theorem MOk.trunc {s : CSt} {S : Int} {ps : List Part} {ms : List UInt8} (h : MOk s S ps ms) (x : Nat) (hx : x ≤ 100000) : ∃ ps', truncR S ps (x : Int) = ((x : Int), ps', 0) ∧ MOk s (x : Int) ps' ((fillTo ms x).take x) := by
  obtain ⟨ps', h1, h2, h3⟩ := h.good.trunc (x := (x : Int)) (by omega) (by omega)
  refine ⟨ps', h1, h2, ?_, fun i => ?_⟩
  · rw [List.length_take, fillTo_len]
    omega
  · rw [h3, take_getD, fillTo_get]
    by_cases c : i < x
    · rw [if_pos (by omega), if_pos c]; exact h.at_ i
    · rw [if_neg (by omega), if_neg c]; rfl
theorem lay_get (l : List UInt8) (k : Nat) (cs : List UInt8) (h : k + cs.length ≤ l.length) (i : Nat) : (lay l k cs).getD i 0 = if k ≤ i ∧ i < k + cs.length then cs.getD (i - k) 0 else l.getD i 0 := by
  unfold lay
  simp only [List.getD_eq_getElem?_getD]
  by_cases c : i < k
  · rw [if_neg (by omega), List.getElem?_append_left (by rw [List.length_take]; omega), List.getElem?_take_of_lt c]
  · have hk : (l.take k).length = k := by rw [List.length_take]; omega
    rw [List.getElem?_append_right (by omega), hk]
    by_cases c2 : i < k + cs.length
    · rw [if_pos (by omega), List.getElem?_append_left (by omega)]
    · rw [if_neg (by omega), List.getElem?_append_right (by omega), List.getElem?_drop, show k + cs.length + (i - k - cs.length) = i by omega]
theorem MOk.write {s : CSt} {S : Int} {ps : List Part} {ms : List UInt8} (h : MOk s S ps ms) {l : List Part} (hf : l.all fits = true) (hl : ∀ p ∈ l, hasP s p) (off : Nat) {bt : List UInt8} (hj : joinP s l = bt) (hne : l ≠ []) (h1 : off ≤ 100000) (h2 : bt.length ≤ 100000) :
    ∃ S' ps', writeR S ps (off : Int) l = (S', ps', 0) ∧ MOk s S' ps' (lay (fillTo ms (off + bt.length)) off bt) := by
  have hs := joinP_length s l hl
  rw [hj] at hs
  obtain ⟨S', ps', e, g, g1, _⟩ := h.good.write (off := (off : Int)) hf hl (by omega) (by omega)
  obtain ⟨e1, e2⟩ := g1 hne
  have hlen : off + bt.length ≤ (fillTo ms (off + bt.length)).length := by rw [fillTo_len]; omega
  refine ⟨S', ps', e, g, ?_, fun i => ?_⟩
  · rw [lay_length _ _ _ hlen, fillTo_len, e1, ← hs, h.len]
    omega
  · rw [e2, lay_get _ _ _ hlen, fillTo_get, ← hs, hj]
    by_cases c : off ≤ i ∧ i < off + bt.length
    · rw [if_pos (by omega), if_pos c, List.getD_eq_getElem?_getD, show ((i : Int) - (off : Int)).toNat = i - off by omega]
    · rw [if_neg (by omega), if_neg c]; exact h.at_ i
theorem MOk.write_nil {s : CSt} {S : Int} {ps : List Part} {ms : List UInt8} (h : MOk s S ps ms) (off : Nat) (h1 : off ≤ 100000) : writeR S ps (off : Int) [] = (S, ps, 0) := by
  obtain ⟨S', ps', e, _, _, g⟩ := h.good.write (off := (off : Int)) (l := []) rfl (fun p hp => by cases hp) (by omega) (by simp [sumLen]; omega)
  obtain ⟨rfl, rfl⟩ := g rfl
  exact e
theorem MOk.read {s : CSt} {S : Int} {ps : List Part} {ms : List UInt8} (h : MOk s S ps ms) (x n : Nat) (hn : n ≤ 4096) : readR s S ps (x : Int) (n : Int) = ((ms.drop x).take n, 0) := by
  rw [readR_says h.good.may h.good.has (by omega) (by omega) (by omega), h.len]
  congr 1
  apply List.ext_getElem?
  intro i
  have hl : (rangeB s ps (x : Int) (min (ms.length : Int) ((x : Int) + (n : Int)))).length = min ms.length (x + n) - x := by rw [rangeB_len]; omega
  by_cases c : i < min ms.length (x + n) - x
  · unfold rangeB
    rw [List.getElem?_map, List.getElem?_range (by omega), List.getElem?_take_of_lt (by omega), List.getElem?_drop]
    simp only [Option.map_some]
    rw [show ((x : Int) + (i : Int)) = ((x + i : Nat) : Int) by omega, h.at_, List.getD_eq_getElem?_getD, List.getElem?_eq_getElem (by omega)]
    rfl
  · rw [List.getElem?_eq_none (by omega), List.getElem?_eq_none (by rw [List.length_take, List.length_drop]; omega)]
/-- a piece that lies behind some noughts -/
theorem one_piece {s : CSt} {id : Int} {z b : List UInt8} (hid : s.l id = some (z ++ b)) (hb : 1 ≤ b.length) (hz : z.length + b.length ≤ 64) (h0 : 1 ≤ id) (h1 : id ≤ 4611686018427387904) :
    fits ⟨0, (b.length : Int), id, (z.length : Int)⟩ = true ∧ hasP s ⟨0, (b.length : Int), id, (z.length : Int)⟩ ∧ joinP s [⟨0, (b.length : Int), id, (z.length : Int)⟩] = b := by
  have hd : dat s id = z ++ b := by unfold dat; rw [hid]; rfl
  refine ⟨?_, ?_, ?_⟩
  · simp only [fits, decide_eq_true_eq]
    omega
  · unfold hasP
    simp only [hd, List.length_append]
    omega
  · simp only [joinP, hd]
    simp
theorem joinP_snoc (s : CSt) (l : List Part) (p : Part) : joinP s (l ++ [p]) = joinP s l ++ joinP s [p] := by
  induction l with
  | nil => simp [joinP]
  | cons q l ih => simp only [List.cons_append, joinP, ih, List.append_assoc]
theorem all_fits_snoc {l : List Part} {p : Part} (h : l.all fits = true) (hp : fits p = true) : (l ++ [p]).all fits = true := by
  rw [List.all_append, h]
  simp [hp]
end Go.Proofs.Ytpnfgnddlfkfaaa
