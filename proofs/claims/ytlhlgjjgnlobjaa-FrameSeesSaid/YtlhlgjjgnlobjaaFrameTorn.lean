/-
  A frame of which up to four bytes one behind another are turned is none.
-/
import Derived.Test.YtlhlgjjgnlobjaaFrameMore
set_option linter.unusedSimpArgs false
set_option linter.unusedVariables false
namespace Go.Proofs.Ytlhlgjjgnlobjaa
namespace Frame
open Crc

/-- l, of which the bytes k .. k + i - 1 are those of x -/
theorem burst_mid (c : W) (l x : List UInt8) (k : Nat) (hlen : x.length = l.length) : ∀ i, i ≤ 4 → k + i ≤ l.length →
    ∃ y E, Burst c l y k i E ∧ (∀ q, q < k → y[q]? = l[q]?) ∧ (∀ q, k ≤ q → q < k + i → y[q]? = x[q]?) ∧ (∀ q, k + i ≤ q → y[q]? = l[q]?)
  | 0, _, _ => ⟨l, 0#32, Burst.start _ _ _, fun _ _ => rfl, fun q h1 h2 => by omega, fun _ _ => rfl⟩
  | i + 1, h4, hk => by
    obtain ⟨y, E, hB, h1, h2, h3⟩ := burst_mid c l x k hlen i (by omega) (by omega)
    obtain ⟨E', hB'⟩ := hB.step (by omega) (by omega) (x[k + i]'(by omega))
    have hyl := hB.1
    refine ⟨_, E', hB', fun q hq => ?_, fun q hq1 hq2 => ?_, fun q hq => ?_⟩
    · rw [List.getElem?_set_ne (by omega)]; exact h1 q hq
    · by_cases e : k + i = q
      · subst e
        rw [List.getElem?_set_self (by omega), List.getElem?_eq_getElem (by omega)]
      · rw [List.getElem?_set_ne e]; exact h2 q hq1 (by omega)
    · rw [List.getElem?_set_ne (by omega)]; exact h3 q (by omega)
/-- two texts that agree but for four bytes one behind another: the sums are one just if the texts are -/
theorem apart4 (c : W) (l x : List UInt8) (k : Nat) (hlen : x.length = l.length) (h : ∀ q, q < k ∨ k + 4 ≤ q → x[q]? = l[q]?) : run c x = run c l ↔ x = l := by
  by_cases hk : k ≤ l.length
  · obtain ⟨i, hi, hki, hend⟩ : ∃ i, i ≤ 4 ∧ k + i ≤ l.length ∧ (i = 4 ∨ k + i = l.length) := by
      by_cases h4 : k + 4 ≤ l.length
      · exact ⟨4, by omega, h4, .inl rfl⟩
      · exact ⟨l.length - k, by omega, by omega, .inr (by omega)⟩
    obtain ⟨y, E, hB, h1, h2, h3⟩ := burst_mid c l x k hlen i hi hki
    have hy : x = y := by
      apply List.ext_getElem?
      intro q
      by_cases q1 : q < k
      · rw [h1 q q1, h q (.inl q1)]
      · by_cases q2 : q < k + i
        · exact (h2 q (by omega) q2).symm
        · rw [h3 q (by omega)]
          rcases hend with e | e
          · exact h q (.inr (by omega))
          · rw [List.getElem?_eq_none (by omega), List.getElem?_eq_none (by omega)]
    rw [hy]
    exact hB.sees
  · have : x = l := by
      apply List.ext_getElem?
      intro q
      by_cases q1 : q < l.length
      · exact h q (.inl (by omega))
      · rw [List.getElem?_eq_none (by omega), List.getElem?_eq_none (by omega)]
    rw [this]
    simp

/-- behind its own sum, every text's run ends alike -/
theorem run_sealed (c : W) (m : List UInt8) : run (~~~c) (m ++ four (next c m)) = steps 32 (~~~0#32) := by
  rw [run_append]
  have e : four (next c m) = [UInt8.ofNat ((next c m).toNat % 256), UInt8.ofNat ((next c m).toNat / 256 % 256), UInt8.ofNat ((next c m).toNat / 65536 % 256), UInt8.ofNat ((next c m).toNat / 16777216 % 256)] := rfl
  rw [e, run_four, (four_iff (next c m) _ _ _ _).1 e]
  congr 1
  unfold next
  apply BitVec.eq_of_getLsbD_eq
  intro i hi
  simp only [BitVec.getLsbD_xor, BitVec.getLsbD_not, hi, decide_true, Bool.true_and]
  cases (run (~~~c) m).getLsbD i <;> simp

theorem agree_take (x f : List UInt8) (k n : Nat) (h : ∀ q, q < k ∨ k + 4 ≤ q → x[q]? = f[q]?) : ∀ q, q < k ∨ k + 4 ≤ q → (x.take n)[q]? = (f.take n)[q]? := by
  intro q hq
  rw [List.getElem?_take, List.getElem?_take, h q hq]
theorem agree_drop (x f : List UInt8) (k n : Nat) (hn : 4 ≤ n) (h : ∀ q, q < k ∨ k + 4 ≤ q → x[q]? = f[q]?) : ∀ q, q < k - n ∨ k - n + 4 ≤ q → (x.drop n)[q]? = (f.drop n)[q]? := by
  intro q hq
  rw [List.getElem?_drop, List.getElem?_drop]
  exact h _ (by omega)

/-- a frame, four bytes one behind another of it turned: none, if any is -/
theorem read_torn (last boot : W) (l x : List UInt8) (k : Nat) (h1 : 1 ≤ l.length) (h2 : l.length ≤ 16384) (hlen : x.length = l.length + 16)
    (h : ∀ q, q < k ∨ k + 4 ≤ q → x[q]? = (mk last boot l)[q]?) (hne : x ≠ mk last boot l) : read last x = none := by
  have hfl := mk_length last boot l
  unfold read
  rw [if_neg (by omega)]
  by_cases hs : size (num x).toNat = 0 ∨ (x.length : Int) < size (num x).toNat
  · rw [if_pos hs]
  · rw [if_neg hs, if_neg]
    rintro ⟨_, hmk⟩
    apply hne
    have hN : 1 ≤ (num x).toNat ∧ (num x).toNat ≤ 16384 ∧ (num x).toNat + 16 ≤ x.length := by
      unfold size at hs
      by_cases d1 : ((num x).toNat : Int) < 1
      · simp [d1] at hs
      · by_cases d2 : (16384 : Int) < (num x).toNat
        · simp [d1, d2] at hs
        · rw [if_neg d1, if_neg d2] at hs; omega
    generalize hd : (x.drop 12).take (num x).toNat = d at *
    have hdl : d.length = (num x).toNat := by rw [← hd]; simp; omega
    -- the two heads
    have ef : (mk last boot l).take 12 = head boot l ++ four (next last (head boot l)) := by
      unfold mk
      simp only [List.append_assoc]
      rw [← List.append_assoc (head boot l)]
      exact List.take_left' rfl
    have ex : x.take 12 = head (num (x.drop 4)) d ++ four (next last (head (num (x.drop 4)) d)) := by
      have e1 : x.take 12 = (x.take ((num x).toNat + 16)).take 12 := by rw [List.take_take, Nat.min_eq_left (by omega)]
      rw [e1, ← hmk]
      unfold mk
      simp only [List.append_assoc]
      rw [← List.append_assoc (head _ d)]
      exact List.take_left' rfl
    have hhead : x.take 12 = (mk last boot l).take 12 := by
      refine (apart4 (~~~last) _ _ k (by simp [hlen, hfl]) (agree_take x _ k 12 h)).1 ?_
      rw [ef, ex, run_sealed, run_sealed]
    have hnum : ∀ a b : List UInt8, a.take 12 = b.take 12 → num a = num b := by
      intro a b hab
      have hq : ∀ q, q < 12 → a[q]? = b[q]? := by
        intro q hq
        have := congrArg (fun t => t[q]?) hab
        simpa [List.getElem?_take, hq] using this
      unfold num
      simp only [List.getD_eq_getElem?_getD, hq 0 (by omega), hq 1 (by omega), hq 2 (by omega), hq 3 (by omega)]
    have hnx : (num x).toNat = l.length := by
      rw [hnum _ _ hhead]
      have := mk_num last boot l []
      rw [List.append_nil] at this
      rw [this, BitVec.toNat_ofNat]
      omega
    -- the two texts
    have gf : (mk last boot l).drop 12 = l ++ four (next last l) := by
      unfold mk
      simp only [List.append_assoc]
      rw [← List.append_assoc (head boot l)]
      exact List.drop_left' rfl
    have gx : x.drop 12 = d ++ four (next last d) := by
      have e1 : x = x.take ((num x).toNat + 16) := (List.take_of_length_le (by omega)).symm
      rw [e1, ← hmk]
      unfold mk
      simp only [List.append_assoc]
      rw [← List.append_assoc (head _ d)]
      exact List.drop_left' rfl
    have hrest : x.drop 12 = (mk last boot l).drop 12 := by
      refine (apart4 (~~~last) _ _ (k - 12) (by simp [hlen, hfl]) (agree_drop x _ k 12 (by omega) h)).1 ?_
      rw [gf, gx, run_sealed, run_sealed]
    rw [← List.take_append_drop 12 x, hhead, hrest, List.take_append_drop]
end Frame
end Go.Proofs.Ytlhlgjjgnlobjaa
