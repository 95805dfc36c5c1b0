/-
  A slot's bytes torn over what lay there: they are the new slot, or what lay there, or no slot.
-/
import Derived.Test.YtangfnenfhkokaaSArg
import Derived.Test.YtangfnenfhkokaaDisk6
set_option linter.unusedSimpArgs false
set_option linter.unusedVariables false
namespace Go.Proofs.Ytangfnenfhkokaa
open Go.RowKit Go.Maps

theorem piece_sect (s : Sup) (h : (penB s).length ≤ 220) (i : Nat) (hi : i < 4) : piece (bytesB s) i = four (numW s) ++ ((plainB s).drop (i * 56)).take 56 ++ four (numW s) := by
  have hp := plainB_len s h
  have e : bytesB s = (((List.range 4).map fun o => four (numW s) ++ ((plainB s).drop (o * 56)).take 56 ++ four (numW s))).flatten := by
    unfold bytesB sect cutsOf
    simp [List.range_succ]
  unfold piece
  rw [e, chunk_flat 64 _ (fun x hx => ?_) i (by simpa using hi)]
  · simp
  · obtain ⟨o, ho, rfl⟩ := List.mem_map.1 hx
    have := List.mem_range.1 ho
    simp only [List.length_append, List.length_take, List.length_drop, four_len, hp]
    omega
theorem piece_ends (s : Sup) (h : (penB s).length ≤ 220) (i : Nat) (hi : i < 4) (j : Nat) (hj : j < 4) : (piece (bytesB s) i)[j]? = (four (numW s))[j]? ∧ (piece (bytesB s) i)[60 + j]? = (four (numW s))[j]? := by
  have hp := plainB_len s h
  have hl : (((plainB s).drop (i * 56)).take 56).length = 56 := by rw [List.length_take, List.length_drop]; omega
  rw [piece_sect s h i hi]
  constructor
  · rw [List.append_assoc, List.getElem?_append_left (by rw [four_len]; omega)]
  · rw [List.getElem?_append_right (by rw [List.length_append, four_len, hl]; omega), List.length_append, four_len, hl, show 60 + j - (4 + 56) = j by omega]
theorem mix_at {α : Type} (P O : List α) (q j : Nat) (hP : P.length = 64) (hO : O.length = 64) (hq : q ≤ 64) (hj : j < 64) : (P.take q ++ O.drop q)[j]? = if j < q then P[j]? else O[j]? := by
  by_cases c : j < q
  · rw [if_pos c, List.getElem?_append_left (by rw [List.length_take]; omega), List.getElem?_take_of_lt c]
  · rw [if_neg c, List.getElem?_append_right (by rw [List.length_take]; omega), List.length_take, List.getElem?_drop, hP, Nat.min_eq_left hq, show q + (j - q) = j by omega]
/-- a slot of number 6 torn over bytes whose sectors do not begin and end with a 6 -/
theorem torn_slot {b s : Sup} (hb : supMay b 96 = true) (h6 : b.number = 6) {X old : List UInt8} (hX : X.length = 256) (ho : old.length = 256) (h0 : ∀ i, i < 4 → (piece old i)[0]? ≠ some 6 ∧ (piece old i)[60]? ≠ some 6)
    (hm : ∀ i, i < 4 → ∃ q, q ≤ 64 ∧ piece X i = (piece (bytesB b) i).take q ++ (piece old i).drop q) (segs : Int) (hs : parseB X segs = some s) : X = bytesB b ∨ X = old := by
  obtain ⟨h1, h2⟩ := (parseB_iff _ _ _).1 hs
  have hs96 := supMay_mono s (min segs 96) 96 (by omega) h1
  have Fb := (mayF b hb).len
  have Fs := (mayF s hs96).len
  have hB := bytesB_len b Fb
  have e6 : four (numW b) = [6, 0, 0, 0] := by unfold numW; rw [h6]; decide
  have endX := fun i hi j hj => piece_ends s Fs i hi j hj
  rw [h2] at endX
  have endB := fun i hi j hj => piece_ends b Fb i hi j hj
  rw [e6] at endB
  have join : ∀ Y : List UInt8, Y.length = 256 → (∀ i, i < 4 → piece X i = piece Y i) → X = Y := fun Y hY h => by
    rw [← pieces_join hX, ← pieces_join hY]
    congr 1
    exact List.map_congr_left fun i hi => h i (List.mem_range.1 hi)
  by_cases c : (four (numW s))[0]? = some 6
  · left
    apply join _ hB
    intro i hi
    obtain ⟨q, hq, hx⟩ := hm i hi
    have hP := piece_len hB hi
    have hO := piece_len ho hi
    have at_ := fun j hj => mix_at (piece (bytesB b) i) (piece old i) q j hP hO hq hj
    rw [← hx] at at_
    have hq60 : 60 < q := by
      by_cases c2 : 60 < q
      · exact c2
      · have h3 := at_ 60 (by omega)
        rw [if_neg c2, (endX i hi 0 (by omega)).2, c] at h3
        exact absurd h3.symm (h0 i hi).2
    have e4 : ∀ j, j < 4 → (four (numW s))[j]? = ([6, 0, 0, 0] : List UInt8)[j]? := fun j hj => by
      have h3 := at_ j (by omega)
      rw [if_pos (by omega), (endX i hi j hj).1, (endB i hi j hj).1] at h3
      exact h3
    apply List.ext_getElem?
    intro j
    by_cases cj : j < 64
    · rw [at_ j cj]
      by_cases c3 : j < q
      · rw [if_pos c3]
      · obtain ⟨k, rfl⟩ : ∃ k, j = 60 + k := ⟨j - 60, by omega⟩
        rw [← at_ _ cj, (endX i hi k (by omega)).2, (endB i hi k (by omega)).2, e4 k (by omega)]
    · rw [List.getElem?_eq_none (by rw [piece_len hX hi]; omega), List.getElem?_eq_none (by omega)]
  · right
    apply join _ ho
    intro i hi
    obtain ⟨q, hq, hx⟩ := hm i hi
    have hP := piece_len hB hi
    have hO := piece_len ho hi
    have h3 := mix_at (piece (bytesB b) i) (piece old i) q 0 hP hO hq (by omega)
    rw [← hx, (endX i hi 0 (by omega)).1] at h3
    have hq0 : q = 0 := by
      by_cases c2 : 0 < q
      · rw [if_pos c2, (endB i hi 0 (by omega)).1] at h3
        exact absurd h3 c
      · omega
    rw [hx, hq0]
    simp

theorem afterB_mix (old b : List UInt8) (ho : old.length = 64) (hb : b.length = 64) (c : Nat) : ∃ q, q ≤ 64 ∧ afterB old b c = b.take q ++ old.drop q := by
  unfold afterB
  split
  · refine ⟨64, Nat.le_refl _, ?_⟩
    rw [List.take_of_length_le (by omega), List.drop_of_length_le (by omega), List.append_nil]
  · split
    · refine ⟨min (c / 4) 64, by omega, ?_⟩
      unfold lay
      rw [List.take_zero, List.nil_append, List.length_take, hb, Nat.zero_add]
      congr 1
      by_cases h : c / 4 ≤ 64
      · rw [Nat.min_eq_left h]
      · rw [Nat.min_eq_right (by omega), List.take_of_length_le (by omega), List.take_of_length_le (by omega)]
    · exact ⟨0, by omega, by simp⟩
theorem crash_mix {s : DSt} (ch : List UInt8) (ks : List Int) {m : Nat} {b : List UInt8} (hc : s.ca (m : Int) = some b) (ho : (s.fl.getD m []).length = 64) (hb : b.length = 64) : ∃ q, q ≤ 64 ∧ crashAt s ch ks m = b.take q ++ (s.fl.getD m []).drop q := by
  unfold crashAt
  split
  · exact ⟨0, by omega, by simp⟩
  · rw [hc]
    exact afterB_mix _ _ ho hb _
theorem torn_best {a b : Sup} (ha : supMay a 96 = true) (hb : supMay b 96 = true) (a5 : a.number = 5) (b6 : b.number = 6) (fl : List (List UInt8)) (m : Int) (old : List UInt8) (hf : fl.length = 8) (ho : old.length = 256)
    (hA : ∀ i, i < 4 → fl.getD i [] = piece (bytesB a) i) (hO : ∀ i, i < 4 → fl.getD (4 + i) [] = piece old i) (h0 : ∀ i, i < 4 → (piece old i)[0]? ≠ some 6 ∧ (piece old i)[60]? ≠ some 6) (hno : parseB old 96 = none) (ch : List UInt8) (ks : List Int) :
    supBest (crashD (liveD fl (caSlot (fun _ => none) 1 (bytesB b) 4) m) ch ks) 96 = (a, 0) ∨ supBest (crashD (liveD fl (caSlot (fun _ => none) 1 (bytesB b) 4) m) ch ks) 96 = (b, 0) := by
  have hBA := bytesB_len a (mayF a ha).len
  have hBB := bytesB_len b (mayF b hb).len
  obtain ⟨s, hs⟩ : ∃ s, liveD fl (caSlot (fun _ => none) 1 (bytesB b) 4) m = s := ⟨_, rfl⟩
  have hsf : s.fl = fl := by rw [← hs]; rfl
  have hca0 : ∀ i : Nat, i < 4 → s.ca (i : Int) = none := fun i hi => by
    rw [← hs]
    exact ca_other (fun _ => none) 1 (bytesB b) (i : Int) (by omega)
  have hca1 : ∀ i : Nat, i < 4 → s.ca ((4 + i : Nat) : Int) = some (piece (bytesB b) i) := fun i hi => by
    rw [← hs]
    simp only [liveD]
    unfold caSlot
    rw [if_pos (by omega), show (((4 + i : Nat) : Int) - ((1 : Nat) : Int) * 4).toNat = i by omega]
  rw [hs]
  have hc0 : ∀ i, i < 4 → crashAt s ch ks i = piece (bytesB a) i := fun i hi => by rw [crashAt_none (hca0 i hi), hsf, hA i hi]
  have hc1 : ∀ i, i < 4 → ∃ q, q ≤ 64 ∧ crashAt s ch ks (4 + i) = (piece (bytesB b) i).take q ++ (piece old i).drop q := fun i hi => by
    obtain ⟨q, hq, e⟩ := crash_mix ch ks (hca1 i hi) (by rw [hsf, hO i hi]; exact piece_len ho hi) (piece_len hBB hi)
    rw [hsf, hO i hi] at e
    exact ⟨q, hq, e⟩
  have hlen1 : ∀ i, i < 4 → (crashAt s ch ks (4 + i)).length = 64 := fun i hi => by
    obtain ⟨q, hq, e⟩ := hc1 i hi
    have h1 := piece_len hBB hi
    have h2 := piece_len ho hi
    rw [e, List.length_append, List.length_take, List.length_drop]
    omega
  have hcur : ∀ k : Nat, k < 8 → curD (crashD s ch ks) (k : Int) = crashAt s ch ks k := fun k hk => by
    rw [crash_live, curD_none _ _ k _ rfl]
    simp [List.getD_eq_getElem?_getD, List.getElem?_map, List.getElem?_range, hsf, hf, hk]
  obtain ⟨X, hX⟩ : ∃ X, ((List.range 4).map fun i => crashAt s ch ks (4 + i)).flatten = X := ⟨_, rfl⟩
  have hpX : ∀ i, i < 4 → piece X i = crashAt s ch ks (4 + i) := fun i hi => by
    unfold piece
    rw [← hX, chunk_flat 64 _ (fun x hx => ?_) i (by simpa using hi)]
    · simp
    · obtain ⟨o, ho', rfl⟩ := List.mem_map.1 hx
      exact hlen1 o (List.mem_range.1 ho')
  have hX256 : X.length = 256 := by
    rw [← hX]
    have l0 : (crashAt s ch ks 4).length = 64 := hlen1 0 (by omega)
    have l1 : (crashAt s ch ks 5).length = 64 := hlen1 1 (by omega)
    have l2 : (crashAt s ch ks 6).length = 64 := hlen1 2 (by omega)
    have l3 : (crashAt s ch ks 7).length = 64 := hlen1 3 (by omega)
    simp [List.range_succ, l0, l1, l2, l3]
  have hr0 : supRead (crashD s ch ks) 0 96 = parseB (bytesB a) 96 := sup_read_live rfl (by simp [crashD, hsf, hf]) 0 (by omega) hBA (fun i hi => by
    rw [show ((0 : Nat) : Int) * 4 + (i : Int) = ((i : Nat) : Int) by omega, hcur i (by omega), hc0 i hi]) 96 0 rfl
  have hr1 : supRead (crashD s ch ks) 1 96 = parseB X 96 := sup_read_live rfl (by simp [crashD, hsf, hf]) 1 (by omega) hX256 (fun i hi => by
    rw [show ((1 : Nat) : Int) * 4 + (i : Int) = ((4 + i : Nat) : Int) by omega, hcur (4 + i) (by omega), hpX i hi]) 96 1 rfl
  have hbest : supBest (crashD s ch ks) 96 = bestOf (some a) (parseB X 96) := by
    unfold supBest
    rw [if_neg (by simp [crashD]), hr0, hr1, parseB_own ha]
  rw [hbest]
  cases hp : parseB X 96 with
  | none => left; rfl
  | some q =>
    right
    have hXB : X = bytesB b := by
      rcases torn_slot hb b6 hX256 ho h0 (fun i hi => by obtain ⟨r, hr, e⟩ := hc1 i hi; exact ⟨r, hr, by rw [hpX i hi, e]⟩) 96 hp with h | h
      · exact h
      · rw [h, hno] at hp; cases hp
    rw [hXB, parseB_own hb] at hp
    cases hp
    unfold bestOf
    simp only
    rw [if_pos (by omega)]

theorem zeros_piece4 (i : Nat) (hi : i < 4) : piece (List.replicate 256 (0 : UInt8)) i = zeros64 := by
  unfold piece zeros64
  rw [List.drop_replicate, List.take_replicate]
  congr 1
  omega
def flA (x : List UInt8) : List (List UInt8) := (List.range (List.replicate 8 zeros64).length).map fun i : Nat => (caSlot (fun _ => none) 0 x 4 (i : Int)).getD ((List.replicate 8 zeros64).getD i [])
theorem flA_get (x : List UInt8) (k : Nat) (hk : k < 8) : (flA x).getD k [] = (caSlot (fun _ => none) 0 x 4 (k : Int)).getD zeros64 := by
  unfold flA
  rw [List.getD_eq_getElem?_getD, List.getElem?_map, List.getElem?_range (by simpa using hk)]
  simp only [Option.map_some, Option.getD_some]
  rw [List.getD_eq_getElem?_getD, List.getElem?_replicate, if_pos hk]
  rfl
theorem three_writes {a b : Sup} (ha : supMay a 96 = true) (hb : supMay b 96 = true) (a5 : a.number = 5) (b6 : b.number = 6) : ∃ d1 d2 d3 : DSt, wrK (newD 8) ((0 : Nat) : Int) (bytesB a) 4 = (0, d1) ∧ d1.ops < 1000 ∧ flushD d1 = (0, d2) ∧ d2.ops < 1000 ∧ wrK d2 ((1 : Nat) : Int) (bytesB b) 4 = (0, d3) ∧ ∀ ch ks, supBest (crashD d3 ch ks) 96 = (a, 0) ∨ supBest (crashD d3 ch ks) 96 = (b, 0) := by
  have hBA := bytesB_len a (mayF a ha).len
  have hBB := bytesB_len b (mayF b hb).len
  have hfl : (flA (bytesB a)).length = 8 := by unfold flA; simp
  refine ⟨liveD (List.replicate 8 zeros64) (caSlot (fun _ => none) 0 (bytesB a) 4) (0 + ((4 : Nat) : Int)), liveD (flA (bytesB a)) (fun _ => none) (0 + ((4 : Nat) : Int) + 1), _, ?_, by simp [liveD], flush_live _ _ _, by simp [liveD], wr_live _ _ _ 1 _ hfl (by omega) hBB 4 (by omega), fun ch ks => ?_⟩
  · rw [newD_live]
    exact wr_live _ _ _ 0 _ (by simp) (by omega) hBA 4 (by omega)
  · refine torn_best ha hb a5 b6 (flA (bytesB a)) _ (List.replicate 256 0) hfl List.length_replicate (fun i hi => ?_) (fun i hi => ?_) (fun i hi => ?_) (zeros_none 96) ch ks
    · rw [flA_get _ i (by omega)]
      unfold caSlot
      rw [if_pos (by omega), show ((i : Int) - ((0 : Nat) : Int) * 4).toNat = i by omega]
      rfl
    · rw [flA_get _ (4 + i) (by omega), zeros_piece4 i hi]
      unfold caSlot
      rw [if_neg (by omega)]
      rfl
    · rw [zeros_piece4 i hi]
      unfold zeros64
      simp
theorem arg_write {w0 w : World} {g m : Nat} {P : Nat → Prop} {d : DSt} (hL : Live w0 w g P m d) (hn : m < 1000) (ho : d.ops < 1000) (slot : Nat) (sl : Int) (hsl : sl = (slot : Int)) (hs : slot ≤ 1) {s : Sup} {A A2 : Option Addr} (h : SArg w s A A2) (c c2 : Nat) (hm : supMay s 96 = true) {r : Int × DSt} (hr : wrK d (slot : Int) (bytesB s) 4 = r) :
    Calls Try.prog 32 #[.pointer (some ⟨g, 0, none⟩), .int .i64 sl, .agg #[.int .i64 s.number, .int .i64 s.boot, .slice A s.jour.segs.length c, .int .i64 s.jour.len, .int .u32 (s.jour.last.toNat : Int), .slice A2 s.chunks.segs.length c2, .int .i64 s.chunks.len, .int .u32 (s.chunks.last.toNat : Int)]] w (SupWPost w0 g m P r w) := by
  subst hr hsl
  exact super_write w0 g m P d slot s A c A2 c2 w hL (by omega) (by omega) hs h.r1 h.r2 h.w1 h.w2 h.a1 h.a2 hm
end Go.Proofs.Ytangfnenfhkokaa
