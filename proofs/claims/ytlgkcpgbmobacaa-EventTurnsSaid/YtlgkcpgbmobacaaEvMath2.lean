/-
  Items as bytes, the laws: what is written is read; what is read was written; two items with the same bytes are one.
-/
import Derived.Test.YtlgkcpgbmobacaaEvMath
set_option linter.unusedSimpArgs false
set_option linter.unusedVariables false
namespace Go.Proofs.Ytlgkcpgbmobacaa

theorem dItem_enc (i : Item) (rest : List UInt8) (h : may i = true) (hlen : i.parts.length ≤ 4611686018427387904) : dItem (some (enc i ++ rest)) = (i, some rest) := by
  obtain ⟨⟨a1, a2, a3, a4, a5, a6, a7, a8⟩, ⟨b1, b2⟩, ⟨c1, c2⟩, d, e⟩ := (may_iff i).1 h
  obtain ⟨op, path, to_, off, size, data, parts⟩ := i
  simp only at a1 a2 a3 a4 a5 a6 a7 a8 b1 b2 c1 c2 d e
  subst a5
  have hop : (UInt8.ofNat op.toNat).toNat = op.toNat := by rw [UInt8.toNat_ofNat']; omega
  have hop2 : ((op.toNat : Nat) : Int) = op := by omega
  unfold dItem enc
  simp only [List.append_assoc, List.cons_append, List.nil_append, eByte_byte, hop, hop2]
  have ht := fun r => eText_text path r (by omega)
  simp only [List.append_assoc] at ht
  by_cases h5 : op = 5
  · subst h5
    obtain rfl : off = 0 := by omega
    obtain rfl : size = 0 := by omega
    obtain rfl : parts = [] := by rcases e with e | e; exact e; omega
    have ht2 := fun r => eText_text to_ r (by omega)
    simp only [List.append_assoc] at ht2
    simp [ht, ht2]
  · have h5' : to_ = [] := by rcases a6 with h | h; exact absurd h h5; exact h
    subst h5'
    by_cases h4 : op = 4
    · subst h4
      obtain rfl : off = 0 := by omega
      obtain rfl : parts = [] := by rcases e with e | e; exact e; omega
      have hn := fun r => eNum_num size.toNat (by omega) r
      simp [ht, hn]
      omega
    · obtain rfl : size = 0 := by omega
      by_cases h3 : op = 3
      · subst h3
        have hn := fun r => eNum_num off.toNat (by omega) r
        have hm := fun r => eNum_num parts.length hlen r
        have hp := dParts_enc parts rest d
        simp [ht, hn, hm, hp]
        omega
      · obtain rfl : off = 0 := by omega
        obtain rfl : parts = [] := by rcases e with e | e; exact e; exact absurd e h3
        simp [ht, h5, h4, h3]

theorem eText_none_of {st : Option (List UInt8)} (h : st = none) : (eText st).2 = none := by subst h; rfl
theorem dParts_none : ∀ k, (dParts k none).2 = none
  | 0 => rfl
  | k + 1 => rfl
theorem some_or {α : Type} (o : Option α) : o = none ∨ ∃ a, o = some a := by cases o <;> simp

theorem dItem_inv {l r : List UInt8} {i : Item} (h : dItem (some l) = (i, some r)) : l = enc i ++ r ∧ i.data = 0 ∧ i.op < 256 ∧ i.parts.length ≤ 4611686018427387904 := by
  cases l with
  | nil => 
    exfalso
    unfold dItem at h
    have e : eByte (some []) = ((0 : UInt8), (none : Option (List UInt8))) := rfl
    simp [e, eText_none, eNum_none] at h
  | cons x l =>
    have hx := x.toNat_lt
    unfold dItem at h
    simp only [eByte_byte] at h
    cases hp : eText (some l) with
    | mk path s1 =>
      simp only [hp] at h
      rcases some_or s1 with rfl | ⟨l1, rfl⟩
      · exfalso
        obtain ⟨_, h2⟩ := Prod.mk.inj h
        simp only [eText_none, eNum_none] at h2
        by_cases h5 : (x.toNat : Int) = 5 <;> by_cases h4 : (x.toNat : Int) = 4 <;> by_cases h3 : (x.toNat : Int) = 3 <;> simp [h5, h4, h3, eNum_none, dParts_none] at h2
      · obtain ⟨e1, _⟩ := eText_inv hp
        have hb : UInt8.ofNat x.toNat = x := by simp
        by_cases h5 : (x.toNat : Int) = 5
        · have h4 : ¬ (x.toNat : Int) = 4 := by omega
          have h3 : ¬ (x.toNat : Int) = 3 := by omega
          simp only [if_pos h5, if_neg h4, if_neg h3] at h
          cases ht : eText (some l1) with
          | mk to_ s2 =>
            simp only [ht] at h
            obtain ⟨h1, h2⟩ := Prod.mk.inj h
            subst h2 h1
            obtain ⟨e2, _⟩ := eText_inv ht
            refine ⟨?_, rfl, by simp only; omega, by simp⟩
            unfold enc
            simp only [if_pos h5, if_neg h4, if_neg h3, Int.toNat_natCast, hb]
            rw [e1, e2]
            simp only [List.append_assoc, List.cons_append, List.nil_append, List.append_nil]
        · simp only [if_neg h5] at h
          by_cases h4 : (x.toNat : Int) = 4
          · have h3 : ¬ (x.toNat : Int) = 3 := by omega
            simp only [if_pos h4, if_neg h3] at h
            cases ht : eNum (some l1) with
            | mk n s2 =>
              simp only [ht] at h
              obtain ⟨h1, h2⟩ := Prod.mk.inj h
              subst h2 h1
              obtain ⟨e2, _⟩ := eNum_inv ht
              refine ⟨?_, rfl, by simp only; omega, by simp⟩
              unfold enc
              simp only [if_neg h5, if_pos h4, if_neg h3, Int.toNat_natCast, hb]
              rw [e1, e2]
              simp only [List.append_assoc, List.cons_append, List.nil_append, List.append_nil]
          · simp only [if_neg h4] at h
            by_cases h3 : (x.toNat : Int) = 3
            · simp only [if_pos h3] at h
              cases ht : eNum (some l1) with
              | mk n s2 =>
                simp only [ht] at h
                rcases some_or s2 with rfl | ⟨l2, rfl⟩
                · exfalso
                  obtain ⟨_, h2⟩ := Prod.mk.inj h
                  simp [eNum_none, dParts_none] at h2
                · cases hm : eNum (some l2) with
                  | mk m s3 =>
                    simp only [hm] at h
                    rcases some_or s3 with rfl | ⟨l3, rfl⟩
                    · exfalso
                      obtain ⟨_, h2⟩ := Prod.mk.inj h
                      simp [dParts_none] at h2
                    · cases hq : dParts m (some l3) with
                      | mk ps s4 =>
                        simp only [hq] at h
                        obtain ⟨h1, h2⟩ := Prod.mk.inj h
                        subst h2 h1
                        obtain ⟨e2, _⟩ := eNum_inv ht
                        obtain ⟨e3, hm2⟩ := eNum_inv hm
                        obtain ⟨e4, hps⟩ := dParts_inv m hq
                        refine ⟨?_, rfl, by simp only; omega, by simp only; omega⟩
                        unfold enc
                        simp only [if_neg h5, if_neg h4, if_pos h3, Int.toNat_natCast, hb]
                        rw [e1, e2, e3, e4, hps]
                        simp only [List.append_assoc, List.cons_append, List.nil_append, List.append_nil]
            · simp only [if_neg h3] at h
              obtain ⟨h1, h2⟩ := Prod.mk.inj h
              cases h2
              subst h1
              refine ⟨?_, rfl, by simp only; omega, by simp⟩
              unfold enc
              simp only [if_neg h5, if_neg h4, if_neg h3, Int.toNat_natCast, hb]
              rw [e1]
              simp only [List.append_assoc, List.cons_append, List.nil_append, List.append_nil]
theorem enc_inj {a b : Item} (ha : may a = true) (hb : may b = true) (hla : a.parts.length ≤ 4611686018427387904) (hlb : b.parts.length ≤ 4611686018427387904) (h : enc a = enc b) : a = b := by
  have h1 := dItem_enc a [] ha hla
  have h2 := dItem_enc b [] hb hlb
  rw [h] at h1
  rw [h1] at h2
  exact (Prod.mk.inj h2).1
theorem encPart_length (p : Part) (h : p.off = 0 ∧ 1 ≤ p.len ∧ p.len ≤ 64 ∧ 1 ≤ p.chunk ∧ p.chunk ≤ 4611686018427387904 ∧ 0 ≤ p.at_ ∧ p.at_ ≤ 64 - p.len) : (encPart p).length ≤ 30 := by
  unfold encPart
  have h1 := num_10 p.len.toNat (by omega)
  have h2 := num_10 p.chunk.toNat (by omega)
  have h3 := num_10 p.at_.toNat (by omega)
  simp only [List.length_append]
  omega
theorem encParts_length (l : List Part) (h : ∀ p ∈ l, p.off = 0 ∧ 1 ≤ p.len ∧ p.len ≤ 64 ∧ 1 ≤ p.chunk ∧ p.chunk ≤ 4611686018427387904 ∧ 0 ≤ p.at_ ∧ p.at_ ≤ 64 - p.len) : (encParts l).length ≤ 30 * l.length := by
  induction l with
  | nil => exact Nat.le_refl _
  | cons p l ih =>
    have h1 := encPart_length p (h p (List.mem_cons_self ..))
    have h2 := ih fun q hq => h q (List.mem_cons_of_mem _ hq)
    have : encParts (p :: l) = encPart p ++ encParts l := by unfold encParts; simp
    rw [this, List.length_append, List.length_cons]
    omega
theorem enc_length (i : Item) (h : may i = true) (hl : i.parts.length ≤ 4611686018427387904) : (enc i).length ≤ 200 + 30 * i.parts.length := by
  obtain ⟨⟨a1, a2, a3, a4, a5, a6, a7, a8⟩, ⟨b1, b2⟩, ⟨c1, c2⟩, d, e⟩ := (may_iff i).1 h
  have h1 := num_10 i.path.length (by omega)
  have h2 := num_10 i.to_.length (by omega)
  have h3 := num_10 i.size.toNat (by omega)
  have h4 := num_10 i.off.toNat (by omega)
  have h5 := num_10 i.parts.length (by omega)
  have h6 := encParts_length i.parts d
  unfold enc
  by_cases k5 : i.op = 5 <;> by_cases k4 : i.op = 4 <;> by_cases k3 : i.op = 3 <;> simp only [k5, k4, k3, if_true, if_false, List.length_append, List.length_nil, List.length_singleton] <;> (try simp only [List.length_append]) <;> (try simp) <;> omega
end Go.Proofs.Ytlgkcpgbmobacaa
