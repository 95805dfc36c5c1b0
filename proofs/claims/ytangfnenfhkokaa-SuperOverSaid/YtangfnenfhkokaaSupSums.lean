/-
  Up to four bytes one behind another turned in a slot's bytes: they are no slot's.
-/
import Derived.Test.YtangfnenfhkokaaSupMath
set_option linter.unusedSimpArgs false
set_option linter.unusedVariables false
namespace Go.Proofs.Ytangfnenfhkokaa
open Go.RowKit Go.Maps

/-- two texts that agree but for four places from k on -/
def Near {α : Type} (k : Nat) (x l : List α) : Prop := x.length = l.length ∧ ∀ j, j < k ∨ k + 4 ≤ j → x[j]? = l[j]?
theorem Near.burst (c : Crc.W) {l x : List UInt8} {k : Nat} (h : Near k x l) (hk : k + 4 ≤ l.length) : ∃ E, Crc.Burst c l x k 4 E := by
  obtain ⟨hx, ho⟩ := h
  obtain ⟨E1, h1⟩ := (Crc.Burst.start c l k).step (by omega) (by omega) (x[k + 0]'(by omega))
  obtain ⟨E2, h2⟩ := h1.step (by omega) (by omega) (x[k + 1]'(by omega))
  obtain ⟨E3, h3⟩ := h2.step (by omega) (by omega) (x[k + 2]'(by omega))
  obtain ⟨E4, h4⟩ := h3.step (by omega) (by omega) (x[k + 3]'(by omega))
  have : ((((l.set (k + 0) (x[k + 0]'(by omega))).set (k + 1) (x[k + 1]'(by omega))).set (k + 2) (x[k + 2]'(by omega))).set (k + 3) (x[k + 3]'(by omega))) = x := by
    apply List.ext_getElem?
    intro j
    by_cases c : j < k ∨ k + 4 ≤ j
    · rw [List.getElem?_set_ne (by omega), List.getElem?_set_ne (by omega), List.getElem?_set_ne (by omega), List.getElem?_set_ne (by omega), ho j c]
    · obtain rfl | rfl | rfl | rfl : j = k + 0 ∨ j = k + 1 ∨ j = k + 2 ∨ j = k + 3 := by omega
      · rw [List.getElem?_set_ne (by omega), List.getElem?_set_ne (by omega), List.getElem?_set_ne (by omega)]
        exact (List.getElem?_set_self (i := j + 0) (by omega)).trans (List.getElem?_eq_getElem (i := j + 0) (by omega)).symm
      · rw [List.getElem?_set_ne (by omega), List.getElem?_set_ne (by omega), List.getElem?_set_self (by simp; omega), List.getElem?_eq_getElem (by omega)]
      · rw [List.getElem?_set_ne (by omega), List.getElem?_set_self (by simp; omega), List.getElem?_eq_getElem (by omega)]
      · rw [List.getElem?_set_self (by simp; omega), List.getElem?_eq_getElem (by omega)]
  rw [this] at h4
  exact ⟨E4, h4⟩
theorem near_sum {m m' : List UInt8} {k : Nat} (h : Near k (m ++ four (Crc.next 0#32 m)) (m' ++ four (Crc.next 0#32 m'))) (hk : k ≤ m'.length) : m ++ four (Crc.next 0#32 m) = m' ++ four (Crc.next 0#32 m') := by
  obtain ⟨E, hE⟩ := h.burst (~~~0#32) (by rw [List.length_append, four_len]; omega)
  have h1 := (Crc.fits_four m (four (Crc.next 0#32 m)) rfl).1 rfl
  have h2 := (Crc.fits_four m' (four (Crc.next 0#32 m')) rfl).1 rfl
  exact hE.sees.1 (h1.trans h2.symm)
theorem inB_at (b : List UInt8) (hb : b.length = 256) (j : Nat) (hj : j < 224) : (inB b (cutsOf 64 4))[j]? = b[64 * (j / 56) + 4 + j % 56]? := by
  have e : inB b (cutsOf 64 4) = (((b.drop 0).take 64).drop 4).take 56 ++ ((((b.drop 64).take 64).drop 4).take 56 ++ ((((b.drop 128).take 64).drop 4).take 56 ++ (((b.drop 192).take 64).drop 4).take 56)) := by
    unfold inB cutsOf
    simp [List.range_succ]
  have hl : ∀ o, o + 64 ≤ 256 → ((((b.drop o).take 64).drop 4).take 56).length = 56 := fun o ho => by rw [List.length_take, List.length_drop, List.length_take, List.length_drop]; omega
  have hg : ∀ o i, i < 56 → ((((b.drop o).take 64).drop 4).take 56)[i]? = b[o + (4 + i)]? := fun o i hi => by
    rw [List.getElem?_take_of_lt hi, List.getElem?_drop, List.getElem?_take_of_lt (by omega), List.getElem?_drop]
  rw [e]
  by_cases c1 : j < 56
  · rw [List.getElem?_append_left (by rw [hl 0 (by omega)]; exact c1), hg 0 j c1]
    exact congrArg (fun i => b[i]?) (by omega)
  · rw [List.getElem?_append_right (by rw [hl 0 (by omega)]; omega), hl 0 (by omega)]
    by_cases c2 : j < 112
    · rw [List.getElem?_append_left (by rw [hl 64 (by omega)]; omega), hg 64 _ (by omega)]
      exact congrArg (fun i => b[i]?) (by omega)
    · rw [List.getElem?_append_right (by rw [hl 64 (by omega)]; omega), hl 64 (by omega)]
      by_cases c3 : j < 168
      · rw [List.getElem?_append_left (by rw [hl 128 (by omega)]; omega), hg 128 _ (by omega)]
        exact congrArg (fun i => b[i]?) (by omega)
      · rw [List.getElem?_append_right (by rw [hl 128 (by omega)]; omega), hl 128 (by omega), hg 192 _ (by omega)]
        exact congrArg (fun i => b[i]?) (by omega)
theorem inB_len224 (b : List UInt8) (hb : b.length = 256) : (inB b (cutsOf 64 4)).length = 224 := by
  unfold inB cutsOf
  simp [List.range_succ, hb]
theorem Near.inB {k : Nat} {x l : List UInt8} (h : Near k x l) (hl : l.length = 256) : ∃ k', k' ≤ 220 ∧ Near k' (inB x (cutsOf 64 4)) (inB l (cutsOf 64 4)) := by
  obtain ⟨hx, ho⟩ := h
  have aux : ∀ k', (∀ j, j < 224 → j < k' → 64 * (j / 56) + 4 + j % 56 < k) → (∀ j, j < 224 → k' + 4 ≤ j → k + 4 ≤ 64 * (j / 56) + 4 + j % 56) → Near k' (Go.Proofs.Ytangfnenfhkokaa.inB x (cutsOf 64 4)) (Go.Proofs.Ytangfnenfhkokaa.inB l (cutsOf 64 4)) := fun k' h1 h2 => by
    refine ⟨by rw [inB_len224 x (by omega), inB_len224 l hl], fun j hj => ?_⟩
    by_cases c : j < 224
    · rw [inB_at x (by omega) j c, inB_at l hl j c]
      apply ho
      rcases hj with h | h
      · exact .inl (h1 j c h)
      · exact .inr (h2 j c h)
    · rw [List.getElem?_eq_none (by rw [inB_len224 x (by omega)]; omega), List.getElem?_eq_none (by rw [inB_len224 l hl]; omega)]
  by_cases c0 : k % 64 < 4
  · by_cases c1 : 56 * (k / 64) ≤ 220
    · exact ⟨56 * (k / 64), c1, aux _ (fun j _ _ => by omega) (fun j _ _ => by omega)⟩
    · exact ⟨220, by omega, aux _ (fun j _ _ => by omega) (fun j _ _ => by omega)⟩
  · by_cases c2 : k % 64 < 60
    · by_cases c1 : 56 * (k / 64) + (k % 64 - 4) ≤ 220
      · exact ⟨56 * (k / 64) + (k % 64 - 4), c1, aux _ (fun j _ _ => by omega) (fun j _ _ => by omega)⟩
      · exact ⟨220, by omega, aux _ (fun j _ _ => by omega) (fun j _ _ => by omega)⟩
    · by_cases c1 : 56 * (k / 64) + 56 ≤ 220
      · exact ⟨56 * (k / 64) + 56, c1, aux _ (fun j _ _ => by omega) (fun j _ _ => by omega)⟩
      · exact ⟨220, by omega, aux _ (fun j _ _ => by omega) (fun j _ _ => by omega)⟩
theorem bytesB_ends (s : Sup) (h : (penB s).length ≤ 220) (i : Nat) (hi : i < 4) : (bytesB s)[i]? = (four (numW s))[i]? ∧ (bytesB s)[252 + i]? = (four (numW s))[i]? := by
  have hp := plainB_len s h
  have e : bytesB s = (four (numW s) ++ ((plainB s).drop 0).take 56 ++ four (numW s)) ++ ((four (numW s) ++ ((plainB s).drop 56).take 56 ++ four (numW s)) ++ ((four (numW s) ++ ((plainB s).drop 112).take 56 ++ four (numW s)) ++ (four (numW s) ++ ((plainB s).drop 168).take 56 ++ four (numW s)))) := by
    unfold bytesB sect cutsOf
    simp [List.range_succ]
  have hl : ∀ o, o + 56 ≤ 224 → (four (numW s) ++ ((plainB s).drop o).take 56 ++ four (numW s)).length = 64 := fun o ho => by simp [four_len, hp]; omega
  rw [e]
  constructor
  · rw [List.getElem?_append_left (by rw [hl 0 (by omega)]; omega), List.append_assoc, List.getElem?_append_left (by rw [four_len]; omega)]
  · rw [List.getElem?_append_right (by rw [hl 0 (by omega)]; omega), hl 0 (by omega), List.getElem?_append_right (by rw [hl 56 (by omega)]; omega), hl 56 (by omega), List.getElem?_append_right (by rw [hl 112 (by omega)]; omega), hl 112 (by omega), List.getElem?_append_right (by simp [four_len, hp]; omega)]
    congr 1
    simp [four_len, hp]
    omega
theorem bytesB_inB (s : Sup) (h : (penB s).length ≤ 220) : inB (bytesB s) (cutsOf 64 4) = plainB s := inB_sect _ _ (four_len _) (plainB_len s h)
theorem near_bytes {s s' : Sup} {k : Nat} (h1 : (penB s).length ≤ 220) (h2 : (penB s').length ≤ 220) (h : Near k (bytesB s) (bytesB s')) : bytesB s = bytesB s' := by
  have hn : numW s = numW s' := by
    apply Crc.four_inj
    apply List.ext_getElem?
    intro i
    by_cases hi : i < 4
    · obtain ⟨a1, a2⟩ := bytesB_ends s h1 i hi
      obtain ⟨b1, b2⟩ := bytesB_ends s' h2 i hi
      by_cases c : k < 4
      · exact a2.symm.trans ((h.2 (252 + i) (by omega)).trans b2)
      · exact a1.symm.trans ((h.2 i (by omega)).trans b1)
    · rw [List.getElem?_eq_none (by rw [four_len]; omega), List.getElem?_eq_none (by rw [four_len]; omega)]
  obtain ⟨k', hk', hN⟩ := h.inB (bytesB_len s' h2)
  rw [bytesB_inB s h1, bytesB_inB s' h2] at hN
  have hp : plainB s = plainB s' := near_sum hN (by rw [midB_len s' h2]; exact hk')
  unfold bytesB
  rw [hn, hp]
/-- bytes that lie near a slot's and are not its own are no slot -/
theorem near_none {s : Sup} (hs : supMay s 96 = true) {b : List UInt8} {k : Nat} (h : Near k b (bytesB s)) (hne : b ≠ bytesB s) (segs : Int) : parseB b segs = none := by
  cases e : parseB b segs with
  | none => rfl
  | some s' =>
    obtain ⟨h1, h2⟩ := (parseB_iff b segs s').1 e
    have h3 := supMay_mono s' (min segs 96) 96 (by omega) h1
    subst h2
    exact absurd (near_bytes (mayF s' h3).len (mayF s hs).len h) hne
theorem parseB_own {s : Sup} (hs : supMay s 96 = true) : parseB (bytesB s) 96 = some s := (parseB_iff _ _ _).2 ⟨hs, rfl⟩
theorem bytesB_inj {s s' : Sup} (hs : supMay s 96 = true) (hs' : supMay s' 96 = true) : bytesB s = bytesB s' ↔ s = s' := by
  constructor
  · intro e
    have h := parseB_own hs
    rw [e, parseB_own hs'] at h
    exact (Option.some.inj h).symm
  · rintro rfl; rfl
end Go.Proofs.Ytangfnenfhkokaa
