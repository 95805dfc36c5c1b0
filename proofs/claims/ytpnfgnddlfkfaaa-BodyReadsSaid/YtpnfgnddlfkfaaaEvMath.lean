/-
  Items as bytes: plain Lean, no program. What is written is read; what is read was written.
-/
import Derived.Test.YtpnfgnddlfkfaaaPenTurn
set_option linter.unusedSimpArgs false
set_option linter.unusedVariables false
namespace Go.Proofs.Ytpnfgnddlfkfaaa

/-- a number that is read is the one whose bytes stand there -/
theorem eNumGo_inv : ∀ (k i acc m : Nat) (l r : List UInt8), eNumGo k i acc (some l) = (m, some r) → ∃ x, l = num x ++ r ∧ m = acc + x * 2 ^ (7 * i) ∧ ¬ (x = 0 ∧ 0 < i) ∧ m ≤ 4611686018427387904
  | 0, _, _, _, _, _, h => by simp [eNumGo] at h
  | k + 1, i, acc, m, [], r, h => by simp [eNumGo] at h
  | k + 1, i, acc, m, b :: l, r, h => by
    have hunf : eNumGo (k + 1) i acc (some (b :: l)) = (if 128 ≤ b.toNat then eNumGo k (i + 1) (acc + b.toNat % 128 * 2 ^ (7 * i)) (some l)
      else if 4611686018427387904 < acc + b.toNat % 128 * 2 ^ (7 * i) ∨ (b.toNat = 0 ∧ 0 < i) then (0, none)
      else (acc + b.toNat % 128 * 2 ^ (7 * i), some l)) := rfl
    rw [hunf] at h
    have hb8 := b.toNat_lt
    by_cases h1 : 128 ≤ b.toNat
    · rw [if_pos h1] at h
      obtain ⟨x, rfl, h2, h3, h4⟩ := eNumGo_inv k (i + 1) _ m l r h
      have hx : x ≠ 0 := fun e => h3 ⟨e, by omega⟩
      refine ⟨b.toNat - 128 + x * 128, ?_, ?_, fun h => by have := h.1; omega, h4⟩
      · rw [num_great (b.toNat - 128 + x * 128) (by omega)]
        have e1 : (b.toNat - 128 + x * 128) / 128 = x := by omega
        have e2 : (b.toNat - 128 + x * 128) % 128 + 128 = b.toNat := by omega
        rw [e1, e2]
        simp
      · rw [h2, show 7 * (i + 1) = 7 * i + 7 by omega, Nat.pow_add, show b.toNat % 128 = b.toNat - 128 by omega, Nat.add_mul, Nat.add_assoc, Nat.mul_assoc x, Nat.mul_comm 128]
    · rw [if_neg h1] at h
      by_cases h2 : 4611686018427387904 < acc + b.toNat % 128 * 2 ^ (7 * i) ∨ (b.toNat = 0 ∧ 0 < i)
      · rw [if_pos h2] at h
        cases h
      · rw [if_neg h2] at h
        obtain ⟨h3, h4⟩ := Prod.mk.inj h
        cases h4
        have e : b.toNat % 128 = b.toNat := by omega
        rw [e] at h3 h2
        refine ⟨b.toNat, ?_, h3.symm, fun h => h2 (.inr h), by omega⟩
        rw [num_small _ (by omega)]
        simp
theorem eNum_inv {m : Nat} {l r : List UInt8} (h : eNum (some l) = (m, some r)) : l = num m ++ r ∧ m ≤ 4611686018427387904 := by
  obtain ⟨x, h1, h2, _, h4⟩ := eNumGo_inv 9 0 0 m l r h
  have : m = x := by simpa using h2
  subst this
  exact ⟨h1, h4⟩
theorem eTake_inv {n : Nat} {l s r : List UInt8} (h : eTake n (some l) = (s, some r)) : l = s ++ r ∧ s.length = n := by
  unfold eTake at h
  simp only at h
  split at h
  · rename_i hn
    obtain ⟨h1, h2⟩ := Prod.mk.inj h
    cases h2
    subst h1
    exact ⟨by simp, by rw [List.length_take]; omega⟩
  · cases h
theorem eNum_bad {st : Option (List UInt8)} {m : Nat} (h : eNum st = (m, none)) : m = 0 := by
  have aux : ∀ (k i acc m : Nat) (st : Option (List UInt8)), eNumGo k i acc st = (m, none) → m = 0 := by
    intro k
    induction k with
    | zero => intro i acc m st h; simp [eNumGo] at h; exact h.symm
    | succ k ih =>
      intro i acc m st h
      match st, h with
      | none, h => simp [eNumGo] at h; exact h.symm
      | some [], h => simp [eNumGo] at h; exact h.symm
      | some (b :: l), h =>
        rw [show eNumGo (k + 1) i acc (some (b :: l)) = (if 128 ≤ b.toNat then eNumGo k (i + 1) (acc + b.toNat % 128 * 2 ^ (7 * i)) (some l)
          else if 4611686018427387904 < acc + b.toNat % 128 * 2 ^ (7 * i) ∨ (b.toNat = 0 ∧ 0 < i) then (0, none)
          else (acc + b.toNat % 128 * 2 ^ (7 * i), some l)) from rfl] at h
        split at h
        · exact ih _ _ _ _ h
        · split at h
          · exact (Prod.mk.inj h).1.symm
          · cases (Prod.mk.inj h).2
  exact aux 9 0 0 m st h
theorem eText_inv {l s r : List UInt8} (h : eText (some l) = (s, some r)) : l = num s.length ++ s ++ r ∧ s.length ≤ 4611686018427387904 := by
  unfold eText at h
  cases h1 : eNum (some l) with
  | mk m st =>
    rw [h1] at h
    cases st with
    | none => simp [eTake] at h
    | some l' =>
      obtain ⟨h2, h3⟩ := eNum_inv h1
      obtain ⟨h4, h5⟩ := eTake_inv h
      subst h5 h4 h2
      exact ⟨by rw [List.append_assoc], h3⟩

/-- bytes of a piece -/
structure Part where
  off : Int
  len : Int
  chunk : Int
  at_ : Int
/-- an event, with pieces in the place of data; data: how many bytes of data it has -/
structure Item where
  op : Int
  path : List UInt8
  to_ : List UInt8
  off : Int
  size : Int
  data : Nat
  parts : List Part
def fits (p : Part) : Bool := decide (1 ≤ p.len ∧ p.len ≤ 64 ∧ 1 ≤ p.chunk ∧ p.chunk ≤ 4611686018427387904 ∧ 0 ≤ p.at_ ∧ p.at_ ≤ 64 - p.len)
def okSize (n : Int) : Bool := decide (0 ≤ n ∧ n ≤ 1099511627776)
def okPart (p : Part) : Bool := decide (p.off = 0) && fits p
def okParts (op : Int) (l : List Part) : Bool := l.all okPart && decide (l.length = 0 ∨ op = 3)
def may (i : Item) : Bool :=
  decide (1 ≤ i.op ∧ i.op ≤ 8 ∧ i.path.length ≤ 64 ∧ i.to_.length ≤ 64 ∧ i.data = 0 ∧ (i.op = 5 ∨ i.to_.length = 0) ∧ (i.op = 3 ∨ i.off = 0) ∧ (i.op = 4 ∨ i.size = 0)) && okSize i.off && okSize i.size && okParts i.op i.parts
theorem may_iff (i : Item) : may i = true ↔ (1 ≤ i.op ∧ i.op ≤ 8 ∧ i.path.length ≤ 64 ∧ i.to_.length ≤ 64 ∧ i.data = 0 ∧ (i.op = 5 ∨ i.to_ = []) ∧ (i.op = 3 ∨ i.off = 0) ∧ (i.op = 4 ∨ i.size = 0)) ∧ (0 ≤ i.off ∧ i.off ≤ 1099511627776) ∧ (0 ≤ i.size ∧ i.size ≤ 1099511627776) ∧ (∀ p ∈ i.parts, p.off = 0 ∧ 1 ≤ p.len ∧ p.len ≤ 64 ∧ 1 ≤ p.chunk ∧ p.chunk ≤ 4611686018427387904 ∧ 0 ≤ p.at_ ∧ p.at_ ≤ 64 - p.len) ∧ (i.parts = [] ∨ i.op = 3) := by
  unfold may okParts okSize okPart fits
  simp only [Bool.and_eq_true, decide_eq_true_eq, List.all_eq_true, List.length_eq_zero_iff]
  constructor
  · rintro ⟨⟨⟨h1, h2⟩, h3⟩, h4, h5⟩; exact ⟨h1, h2, h3, h4, h5⟩
  · rintro ⟨h1, h2, h3, h4, h5⟩; exact ⟨⟨⟨h1, h2⟩, h3⟩, h4, h5⟩

def encPart (p : Part) : List UInt8 := num p.len.toNat ++ num p.chunk.toNat ++ num p.at_.toNat
def encParts (l : List Part) : List UInt8 := (l.map encPart).flatten
def enc (i : Item) : List UInt8 :=
  [UInt8.ofNat i.op.toNat] ++ (num i.path.length ++ i.path) ++ (if i.op = 5 then num i.to_.length ++ i.to_ else []) ++ (if i.op = 4 then num i.size.toNat else []) ++
    (if i.op = 3 then num i.off.toNat ++ num i.parts.length ++ encParts i.parts else [])
def dPart (st : Option (List UInt8)) : Part × Option (List UInt8) :=
  (⟨0, ((eNum st).1 : Int), ((eNum (eNum st).2).1 : Int), ((eNum (eNum (eNum st).2).2).1 : Int)⟩, (eNum (eNum (eNum st).2).2).2)
def dParts : Nat → Option (List UInt8) → List Part × Option (List UInt8)
  | 0, st => ([], st)
  | k + 1, st => match (dPart st).2 with
    | none => ([(dPart st).1], none)
    | some l => ((dPart st).1 :: (dParts k (some l)).1, (dParts k (some l)).2)
def dItem (st : Option (List UInt8)) : Item × Option (List UInt8) :=
  let o := eByte st
  let op : Int := (o.1.toNat : Int)
  let p := eText o.2
  let t := if op = 5 then eText p.2 else ([], p.2)
  let s := if op = 4 then eNum t.2 else (0, t.2)
  let f := if op = 3 then eNum s.2 else (0, s.2)
  let c := if op = 3 then eNum f.2 else (0, f.2)
  let ps := if op = 3 then dParts c.1 c.2 else ([], c.2)
  (⟨op, p.1, t.1, (f.1 : Int), (s.1 : Int), 0, ps.1⟩, ps.2)

theorem dPart_enc (p : Part) (rest : List UInt8) (h : p.off = 0 ∧ 1 ≤ p.len ∧ p.len ≤ 64 ∧ 1 ≤ p.chunk ∧ p.chunk ≤ 4611686018427387904 ∧ 0 ≤ p.at_ ∧ p.at_ ≤ 64 - p.len) : dPart (some (encPart p ++ rest)) = (p, some rest) := by
  obtain ⟨h0, h1, h2, h3, h4, h5, h6⟩ := h
  unfold dPart encPart
  rw [List.append_assoc, List.append_assoc, eNum_num _ (by omega)]
  simp only
  rw [eNum_num _ (by omega)]
  simp only
  rw [eNum_num _ (by omega)]
  obtain ⟨o, a, b, c⟩ := p
  simp only at h0 h1 h2 h3 h4 h5 h6
  subst h0
  simp only [Prod.mk.injEq, Part.mk.injEq, true_and, and_true]
  omega
theorem dParts_enc (l : List Part) (rest : List UInt8) (h : ∀ p ∈ l, p.off = 0 ∧ 1 ≤ p.len ∧ p.len ≤ 64 ∧ 1 ≤ p.chunk ∧ p.chunk ≤ 4611686018427387904 ∧ 0 ≤ p.at_ ∧ p.at_ ≤ 64 - p.len) : dParts l.length (some (encParts l ++ rest)) = (l, some rest) := by
  induction l with
  | nil => rfl
  | cons p l ih =>
    have e1 : encParts (p :: l) ++ rest = encPart p ++ (encParts l ++ rest) := by unfold encParts; simp
    rw [e1, List.length_cons]
    unfold dParts
    rw [dPart_enc p _ (h p (List.mem_cons_self ..))]
    simp only
    rw [ih fun q hq => h q (List.mem_cons_of_mem _ hq)]
theorem dPart_inv {l r : List UInt8} {p : Part} (h : dPart (some l) = (p, some r)) : l = encPart p ++ r ∧ p.off = 0 := by
  unfold dPart at h
  obtain ⟨h1, h2⟩ := Prod.mk.inj h
  cases ha : eNum (some l) with
  | mk a s1 =>
    rw [ha] at h1 h2
    cases s1 with
    | none => simp only [eNum_none] at h2; cases h2
    | some l1 =>
      cases hb : eNum (some l1) with
      | mk b s2 =>
        rw [hb] at h1 h2
        cases s2 with
        | none => simp only [eNum_none] at h2; cases h2
        | some l2 =>
          cases hc : eNum (some l2) with
          | mk c s3 =>
            simp only at h1 h2
            rw [hc] at h1 h2
            simp only at h1 h2
            subst h2 h1
            obtain ⟨e1, _⟩ := eNum_inv ha
            obtain ⟨e2, _⟩ := eNum_inv hb
            obtain ⟨e3, _⟩ := eNum_inv hc
            subst e3 e2 e1
            refine ⟨?_, rfl⟩
            simp only [encPart, Int.toNat_natCast, List.append_assoc]
theorem dParts_inv : ∀ (k : Nat) {l r : List UInt8} {ps : List Part}, dParts k (some l) = (ps, some r) → l = encParts ps ++ r ∧ ps.length = k
  | 0, l, r, ps, h => by
    unfold dParts at h
    obtain ⟨h1, h2⟩ := Prod.mk.inj h
    cases h2
    subst h1
    exact ⟨rfl, rfl⟩
  | k + 1, l, r, ps, h => by
    unfold dParts at h
    cases hd : dPart (some l) with
    | mk p s =>
      rw [hd] at h
      cases s with
      | none => simp only at h; cases (Prod.mk.inj h).2
      | some l' =>
        simp only at h
        obtain ⟨e1, _⟩ := dPart_inv hd
        cases hk : dParts k (some l') with
        | mk ps' s' =>
          rw [hk] at h
          obtain ⟨h1, h2⟩ := Prod.mk.inj h
          simp only at h2
          subst h2
          obtain ⟨e2, e3⟩ := dParts_inv k hk
          subst h1
          refine ⟨?_, by simp [e3]⟩
          rw [e1, e2]
          unfold encParts
          simp
end Go.Proofs.Ytpnfgnddlfkfaaa
