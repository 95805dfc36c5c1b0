/-
  Plain facts on CRC-32C: one step, eight steps, a byte, many bytes; it is linear; a burst of up to 32 bits is seen.
-/
import Derived.IntWalk
set_option linter.unusedSimpArgs false
set_option linter.unusedVariables false
namespace Go.Proofs.Ytpnfgnddlfkfaaa
namespace Crc

abbrev W := BitVec 32
def poly : W := 0x82F63B78#32
def step (c : W) : W := (c >>> 1) ^^^ (if c.getLsbD 0 then poly else 0#32)
def steps : Nat → W → W
  | 0, c => c
  | n + 1, c => steps n (step c)
def tab (i : Nat) : W := steps 8 (BitVec.ofNat 32 i)
/-- one byte, bit by bit -/
def byte (c : W) (x : UInt8) : W := steps 8 (c ^^^ BitVec.ofNat 32 x.toNat)
def run (c : W) (l : List UInt8) : W := l.foldl byte c
/-- the sum goes on -/
def next (c : W) (l : List UInt8) : W := ~~~(run (~~~c) l)

theorem steps_succ (n : Nat) (c : W) : steps (n + 1) c = step (steps n c) := by
  induction n generalizing c with
  | zero => rfl
  | succ n ih => rw [steps, ih]; rfl
theorem step_xor (a b : W) : step (a ^^^ b) = step a ^^^ step b := by
  have h : (a ^^^ b).getLsbD 0 = (a.getLsbD 0 ^^ b.getLsbD 0) := by simp
  unfold step
  rw [h, BitVec.ushiftRight_xor_distrib]
  generalize ha : a.getLsbD 0 = p
  generalize hb : b.getLsbD 0 = q
  generalize a >>> 1 = x
  generalize b >>> 1 = y
  cases p <;> cases q <;> simp only [Bool.xor_false, Bool.false_xor, Bool.xor_self, Bool.true_xor, Bool.not_false, Bool.not_true, if_true, if_false, Bool.false_eq_true, BitVec.xor_zero] <;> (apply BitVec.eq_of_getLsbD_eq; intro i hi; simp only [BitVec.getLsbD_xor]; cases x.getLsbD i <;> cases y.getLsbD i <;> cases poly.getLsbD i <;> rfl)
theorem steps_xor (n : Nat) (a b : W) : steps n (a ^^^ b) = steps n a ^^^ steps n b := by
  induction n generalizing a b with
  | zero => rfl
  | succ n ih => simp only [steps, step_xor, ih]
theorem step_even (c : W) (h : c.getLsbD 0 = false) : step c = c >>> 1 := by
  unfold step; rw [h]; simp
/-- what has no low bits is shifted alone -/
theorem steps_high (n : Nat) (c : W) (h : ∀ i, i < n → c.getLsbD i = false) : steps n c = c >>> n := by
  induction n generalizing c with
  | zero => simp [steps]
  | succ n ih =>
    rw [steps, step_even c (h 0 (by omega)), ih]
    · rw [← BitVec.shiftRight_add, Nat.add_comm]
    · intro i hi
      rw [BitVec.getLsbD_ushiftRight]
      exact h _ (by omega)
theorem mask_bit : ∀ i, i < 32 → (0xFFFFFF00#32 : W).getLsbD i = decide (8 ≤ i) := by decide
theorem low_tab (c : W) : steps 8 c = (c >>> 8) ^^^ tab (c.toNat % 256) := by
  have hsplit : c = (c &&& 0xFFFFFF00#32) ^^^ BitVec.ofNat 32 (c.toNat % 256) := by
    apply BitVec.eq_of_getLsbD_eq
    intro i hi
    have e : (BitVec.ofNat 32 (c.toNat % 256)).getLsbD i = (decide (i < 8) && c.getLsbD i) := by
      rw [BitVec.getLsbD_ofNat, show (256 : Nat) = 2 ^ 8 from rfl, Nat.testBit_mod_two_pow]
      simp only [hi, decide_true, Bool.true_and]
      rfl
    rw [BitVec.getLsbD_xor, BitVec.getLsbD_and, e]
    rw [mask_bit i hi]
    by_cases h8 : i < 8
    · simp [h8, show ¬ 8 ≤ i by omega]
    · simp [h8, show 8 ≤ i by omega]
  have hhi : steps 8 (c &&& 0xFFFFFF00#32) = c >>> 8 := by
    rw [steps_high]
    · apply BitVec.eq_of_getLsbD_eq
      intro i hi
      rw [BitVec.getLsbD_ushiftRight, BitVec.getLsbD_ushiftRight, BitVec.getLsbD_and]
      by_cases h : 8 + i < 32
      · rw [mask_bit _ h, decide_eq_true (by omega : 8 ≤ 8 + i), Bool.and_true]
      · rw [BitVec.getLsbD_of_ge c _ (by omega)]; simp
    · intro i hi
      rw [BitVec.getLsbD_and]
      rw [mask_bit i (by omega), decide_eq_false (by omega : ¬ 8 ≤ i), Bool.and_false]
  conv => lhs; rw [hsplit, steps_xor, hhi]
  rfl
theorem byte_tab (c : W) (x : UInt8) : byte c x = (c >>> 8) ^^^ tab ((c.toNat % 256) ^^^ x.toNat) := by
  have hx : x.toNat < 2 ^ 8 := x.toNat_lt
  unfold byte
  rw [low_tab]
  congr 1
  · apply BitVec.eq_of_getLsbD_eq
    intro i hi
    rw [BitVec.getLsbD_ushiftRight, BitVec.getLsbD_ushiftRight, BitVec.getLsbD_xor, BitVec.getLsbD_ofNat]
    rw [Nat.testBit_lt_two_pow (x := x.toNat) (i := 8 + i) (Nat.lt_of_lt_of_le hx (Nat.pow_le_pow_right (by omega) (by omega)))]
    simp
  · congr 1
    rw [BitVec.toNat_xor, BitVec.toNat_ofNat, show (256 : Nat) = 2 ^ 8 from rfl, Nat.xor_mod_two_pow]
    congr 1
    omega

theorem run_append (c : W) (a b : List UInt8) : run c (a ++ b) = run (run c a) b := by unfold run; rw [List.foldl_append]
theorem next_append (c : W) (a b : List UInt8) : next c (a ++ b) = next (next c a) b := by
  unfold next; rw [run_append, BitVec.not_not]
theorem next_cut (c : W) (l : List UInt8) (k : Nat) : next (next c (l.take k)) (l.drop k) = next c l := by
  rw [← next_append, List.take_append_drop]

theorem step_zero : step 0#32 = 0#32 := by decide
theorem steps_zero (n : Nat) : steps n 0#32 = 0#32 := by
  induction n with
  | zero => rfl
  | succ n ih => rw [steps, step_zero, ih]
theorem steps_add (a b : Nat) (c : W) : steps (a + b) c = steps a (steps b c) := by
  induction b generalizing c with
  | zero => rfl
  | succ b ih => rw [← Nat.add_assoc, steps, ih]; rfl
theorem step_top (c : W) : (step c).getLsbD 31 = c.getLsbD 0 := by
  unfold step
  rw [BitVec.getLsbD_xor, BitVec.getLsbD_ushiftRight, BitVec.getLsbD_of_ge c _ (by omega)]
  cases c.getLsbD 0 <;> decide
theorem step_eq_zero (c : W) (h : step c = 0#32) : c = 0#32 := by
  have h0 : c.getLsbD 0 = false := by rw [← step_top, h]; decide
  rw [step_even c h0] at h
  apply BitVec.eq_of_getLsbD_eq
  intro i hi
  rw [BitVec.getLsbD_zero]
  cases i with
  | zero => exact h0
  | succ i =>
    have := congrArg (fun x : W => x.getLsbD i) h
    simp only [BitVec.getLsbD_ushiftRight, BitVec.getLsbD_zero] at this
    rw [Nat.add_comm]; exact this
theorem steps_eq_zero (n : Nat) (c : W) (h : steps n c = 0#32) : c = 0#32 := by
  induction n generalizing c with
  | zero => exact h
  | succ n ih => exact step_eq_zero _ (ih _ h)
theorem steps_inj (n : Nat) (a b : W) (h : steps n a = steps n b) : a = b := by
  have : steps n (a ^^^ b) = 0#32 := by rw [steps_xor, h, BitVec.xor_self]
  have := steps_eq_zero n _ this
  have h2 : a ^^^ b ^^^ b = 0#32 ^^^ b := by rw [this]
  simpa [BitVec.xor_assoc] using h2
theorem byte_xor (c d : W) (x : UInt8) : byte (c ^^^ d) x = byte c x ^^^ steps 8 d := by
  unfold byte
  rw [← steps_xor]
  congr 1
  rw [BitVec.xor_assoc, BitVec.xor_comm d, ← BitVec.xor_assoc]
theorem run_xor (c d : W) (l : List UInt8) : run (c ^^^ d) l = run c l ^^^ steps (8 * l.length) d := by
  induction l generalizing c d with
  | nil => rfl
  | cons x l ih =>
    show run (byte (c ^^^ d) x) l = run (byte c x) l ^^^ _
    rw [byte_xor, ih, ← steps_add]
    rfl
theorem run_inj (c d : W) (l : List UInt8) (h : run c l = run d l) : c = d := by
  have h1 := run_xor c (c ^^^ d) l
  have e : c ^^^ (c ^^^ d) = d := by rw [← BitVec.xor_assoc, BitVec.xor_self, BitVec.zero_xor]
  rw [e, ← h] at h1
  have h2 : steps (8 * l.length) (c ^^^ d) = 0#32 := by
    have := congrArg (fun x => run c l ^^^ x) h1
    simp only [← BitVec.xor_assoc, BitVec.xor_self, BitVec.zero_xor] at this
    exact this.symm
  have h3 := steps_eq_zero _ _ h2
  have h4 : c ^^^ d ^^^ d = 0#32 ^^^ d := by rw [h3]
  simpa [BitVec.xor_assoc] using h4
theorem ofNat_xor (a b : UInt8) : BitVec.ofNat 32 (a ^^^ b).toNat = BitVec.ofNat 32 a.toNat ^^^ BitVec.ofNat 32 b.toNat := by
  apply BitVec.eq_of_toNat_eq
  have ha := a.toNat_lt
  have hb := b.toNat_lt
  have hab := (a ^^^ b).toNat_lt
  rw [BitVec.toNat_xor, BitVec.toNat_ofNat, BitVec.toNat_ofNat, BitVec.toNat_ofNat, Nat.mod_eq_of_lt (by omega), Nat.mod_eq_of_lt (by omega), Nat.mod_eq_of_lt (by omega)]
  simp
/-- one byte is turned: the sum turns by what follows from that byte's turn alone -/
theorem run_set (c : W) (l : List UInt8) (q : Nat) (hq : q < l.length) (e : UInt8) : run c (l.set q (l[q] ^^^ e)) = run c l ^^^ steps (8 * (l.length - q)) (BitVec.ofNat 32 e.toNat) := by
  induction l generalizing c q with
  | nil => simp at hq
  | cons x l ih =>
    cases q with
    | zero =>
      show run (byte c (x ^^^ e)) l = run (byte c x) l ^^^ _
      have hb : byte c (x ^^^ e) = byte c x ^^^ steps 8 (BitVec.ofNat 32 e.toNat) := by
        unfold byte
        rw [ofNat_xor, ← BitVec.xor_assoc, steps_xor]
      rw [hb, run_xor, ← steps_add]
      congr 2
    | succ q =>
      have hq' : q < l.length := by simpa using hq
      show run (byte c x) (l.set q (l[q] ^^^ e)) = run (byte c x) l ^^^ _
      rw [ih _ q hq']
      congr 3
      simp
theorem shl_steps (b : Nat) (x : W) (n : Nat) (hx : ∀ i, 32 ≤ i + b → x.getLsbD i = false) : steps (n + b) (x <<< b) = steps n x := by
  rw [steps_add, steps_high b]
  · congr 1
    apply BitVec.eq_of_getLsbD_eq
    intro i hi
    rw [BitVec.getLsbD_ushiftRight, BitVec.getLsbD_shiftLeft]
    by_cases h : b + i < 32
    · simp [h]
    · rw [hx i (by omega)]; simp [h]
  · intro i hi
    rw [BitVec.getLsbD_shiftLeft]
    simp [hi]
theorem run_xor3 (c : W) : ∀ (a b d : List UInt8) (n : Nat), a.length = n → b.length = n → d.length = n → ∀ ca cb cd : W,
    run (ca ^^^ cb ^^^ cd) ((List.range n).map fun i => a.getD i 0 ^^^ b.getD i 0 ^^^ d.getD i 0) = run ca a ^^^ run cb b ^^^ run cd d := by
  intro a b d n
  induction n generalizing a b d with
  | zero =>
    intro ha hb hd ca cb cd
    have := List.length_eq_zero_iff.1 ha; have := List.length_eq_zero_iff.1 hb; have := List.length_eq_zero_iff.1 hd
    subst_vars; rfl
  | succ n ih =>
    intro ha hb hd ca cb cd
    match a, b, d, ha, hb, hd with
    | x :: a, y :: b, z :: d, ha, hb, hd =>
      rw [List.range_succ_eq_map, List.map_cons, List.map_map]
      have hby : byte (ca ^^^ cb ^^^ cd) (x ^^^ y ^^^ z) = byte ca x ^^^ byte cb y ^^^ byte cd z := by
        unfold byte
        rw [ofNat_xor, ofNat_xor, ← steps_xor, ← steps_xor]
        congr 1
        generalize BitVec.ofNat 32 x.toNat = X
        generalize BitVec.ofNat 32 y.toNat = Y
        generalize BitVec.ofNat 32 z.toNat = Z
        apply BitVec.eq_of_getLsbD_eq
        intro i hi
        simp only [BitVec.getLsbD_xor]
        cases ca.getLsbD i <;> cases cb.getLsbD i <;> cases cd.getLsbD i <;> cases X.getLsbD i <;> cases Y.getLsbD i <;> cases Z.getLsbD i <;> rfl
      have := ih a b d (by simpa using ha) (by simpa using hb) (by simpa using hd) (byte ca x) (byte cb y) (byte cd z)
      rw [← hby] at this
      exact this

theorem ofNat8_bit (e : UInt8) (i : Nat) (hi : 8 ≤ i) : (BitVec.ofNat 32 e.toNat).getLsbD i = false := by
  rw [BitVec.getLsbD_ofNat]
  have : e.toNat.testBit i = false := Nat.testBit_lt_two_pow (Nat.lt_of_lt_of_le e.toNat_lt (Nat.pow_le_pow_right (by omega) hi))
  rw [this]; simp
/-- x is l, but for what was turned in the bytes k .. k + i - 1; the sum tells E -/
def Burst (c : W) (l x : List UInt8) (k i : Nat) (E : W) : Prop :=
  x.length = l.length ∧ run c x = run c l ^^^ steps (8 * (l.length - k)) E ∧ (∀ b, 8 * i ≤ b → E.getLsbD b = false) ∧ (E = 0#32 → x = l) ∧ ∀ j, k + i ≤ j → x[j]? = l[j]?
theorem Burst.start (c : W) (l : List UInt8) (k : Nat) : Burst c l l k 0 0#32 := ⟨rfl, by rw [steps_zero, BitVec.xor_zero], fun b _ => by simp, fun _ => rfl, fun _ _ => rfl⟩
theorem Burst.step {c : W} {l x : List UInt8} {k i : Nat} {E : W} (h : Burst c l x k i E) (hi : i < 4) (hk : k + i < l.length) (d : UInt8) : ∃ E', Burst c l (x.set (k + i) d) k (i + 1) E' := by
  obtain ⟨h1, h2, h3, h4, h5⟩ := h
  have hx : k + i < x.length := by omega
  have hxl : x[k + i] = l[k + i] := by
    have := h5 (k + i) (Nat.le_refl _)
    rw [List.getElem?_eq_getElem hx, List.getElem?_eq_getElem hk] at this
    exact Option.some.inj this
  have hd : x.set (k + i) d = x.set (k + i) (x[k + i] ^^^ (x[k + i] ^^^ d)) := by
    congr 1
    rw [← UInt8.xor_assoc, UInt8.xor_self, UInt8.zero_xor]
  have hs : steps (8 * (x.length - (k + i))) (BitVec.ofNat 32 (x[k + i] ^^^ d).toNat) = steps (8 * (l.length - k)) (BitVec.ofNat 32 (x[k + i] ^^^ d).toNat <<< (8 * i)) := by
    rw [show 8 * (l.length - k) = 8 * (x.length - (k + i)) + 8 * i by omega, shl_steps]
    intro b hb
    exact ofNat8_bit _ _ (by omega)
  refine ⟨E ^^^ (BitVec.ofNat 32 (x[k + i] ^^^ d).toNat <<< (8 * i)), by simp [h1], ?_, ?_, ?_, ?_⟩
  · rw [hd, run_set, h2, hs, steps_xor, BitVec.xor_assoc]
  · intro b hb
    rw [BitVec.getLsbD_xor, h3 b (by omega), BitVec.getLsbD_shiftLeft, ofNat8_bit _ _ (by omega)]
    simp
  · intro hz
    have hE : E = 0#32 := by
      apply BitVec.eq_of_getLsbD_eq
      intro b hb
      by_cases h8 : 8 * i ≤ b
      · rw [h3 b h8]; simp
      · have := congrArg (fun y : W => y.getLsbD b) hz
        simp only [BitVec.getLsbD_xor, BitVec.getLsbD_shiftLeft, BitVec.getLsbD_zero] at this
        rw [show decide (b < 8 * i) = true from decide_eq_true (by omega)] at this
        simpa using this
    have he : BitVec.ofNat 32 (x[k + i] ^^^ d).toNat = 0#32 := by
      apply BitVec.eq_of_getLsbD_eq
      intro b hb
      by_cases h8 : 8 ≤ b
      · rw [ofNat8_bit _ _ h8]; simp
      · have := congrArg (fun y : W => y.getLsbD (8 * i + b)) hz
        simp only [BitVec.getLsbD_xor, BitVec.getLsbD_shiftLeft, BitVec.getLsbD_zero, h3 (8 * i + b) (by omega)] at this
        rw [show decide (8 * i + b < 32) = true from decide_eq_true (by omega), show decide (8 * i + b < 8 * i) = false from decide_eq_false (by omega), show 8 * i + b - 8 * i = b by omega] at this
        rw [BitVec.getLsbD_zero]
        simpa using this
    have hlt := (x[k + i] ^^^ d).toNat_lt
    have h0 : (x[k + i] ^^^ d).toNat = 0 := by
      have := congrArg BitVec.toNat he
      rw [BitVec.toNat_ofNat, Nat.mod_eq_of_lt (by omega)] at this
      simpa using this
    have h00 : x[k + i] ^^^ d = 0 := UInt8.toNat_inj.1 h0
    have hdd : d = x[k + i] := by
      have := congrArg (fun y => x[k + i] ^^^ y) h00
      simp only [← UInt8.xor_assoc, UInt8.xor_self, UInt8.zero_xor, UInt8.xor_zero] at this
      exact this
    rw [hdd, List.set_getElem_self]
    exact h4 hE
  · intro j hj
    rw [List.getElem?_set_ne (by omega)]
    exact h5 j (by omega)
/-- the sums are one just if the texts are -/
theorem Burst.sees {c : W} {l x : List UInt8} {k i : Nat} {E : W} (h : Burst c l x k i E) : run c x = run c l ↔ x = l := by
  obtain ⟨h1, h2, h3, h4, h5⟩ := h
  constructor
  · intro e
    apply h4
    rw [h2] at e
    have : steps (8 * (l.length - k)) E = 0#32 := by
      have := congrArg (fun y => run c l ^^^ y) e
      simp only [← BitVec.xor_assoc, BitVec.xor_self, BitVec.zero_xor] at this
      exact this
    exact steps_eq_zero _ _ this
  · rintro rfl; rfl
theorem next_eq (c : W) (a b : List UInt8) : next c a = next c b ↔ run (~~~c) a = run (~~~c) b := by
  unfold next
  constructor
  · intro h
    have := congrArg (fun y => ~~~y) h
    simpa using this
  · intro h; rw [h]

theorem one_bit (i : Nat) : (1#32 : W).getLsbD i = decide (i = 0) := by
  by_cases h : i < 32
  · have : ∀ i, i < 32 → (1#32 : W).getLsbD i = decide (i = 0) := by decide
    exact this i h
  · rw [BitVec.getLsbD_of_ge _ _ (by omega), decide_eq_false (by omega)]
/-- x is l, but for bits that were turned among k .. k + i - 1 -/
def Turn (c : W) (l x : List UInt8) (k i : Nat) (E : W) : Prop :=
  x.length = l.length ∧ run c x = run c l ^^^ steps (8 * l.length - k) E ∧ (∀ b, i ≤ b → E.getLsbD b = false) ∧ (E = 0#32 → x = l)
theorem Turn.start (c : W) (l : List UInt8) (k : Nat) : Turn c l l k 0 0#32 := ⟨rfl, by rw [steps_zero, BitVec.xor_zero], fun b _ => by simp, fun _ => rfl⟩
theorem Turn.stay {c : W} {l x : List UInt8} {k i : Nat} {E : W} (h : Turn c l x k i E) : Turn c l x k (i + 1) E := ⟨h.1, h.2.1, fun b hb => h.2.2.1 b (by omega), h.2.2.2⟩
theorem Turn.flip {c : W} {l x : List UInt8} {k i : Nat} {E : W} (h : Turn c l x k i E) (hi : i < 32) (hk : k + i < 8 * l.length) (q : Nat) (hq : q = (k + i) / 8) (hqx : q < x.length) (e : UInt8) (he : e.toNat = 2 ^ ((k + i) % 8)) :
    Turn c l (x.set q (x[q] ^^^ e)) k (i + 1) (E ^^^ (1#32 <<< i)) := by
  obtain ⟨h1, h2, h3, h4⟩ := h
  have hr : (k + i) % 8 < 8 := Nat.mod_lt _ (by omega)
  have hdm := Nat.div_add_mod (k + i) 8
  have heb : BitVec.ofNat 32 e.toNat = 1#32 <<< ((k + i) % 8) := by
    rw [he]
    apply BitVec.eq_of_toNat_eq
    rw [BitVec.toNat_ofNat, BitVec.toNat_shiftLeft, Nat.shiftLeft_eq, show (1#32 : W).toNat = 1 from rfl, Nat.one_mul]
  have hs1 : steps (8 * (x.length - q)) (BitVec.ofNat 32 e.toNat) = steps (8 * l.length - (k + i)) 1#32 := by
    rw [heb, show 8 * (x.length - q) = (8 * l.length - (k + i)) + (k + i) % 8 by omega, shl_steps]
    intro b hb
    rw [one_bit, decide_eq_false (by omega)]
  have hs2 : steps (8 * l.length - k) (1#32 <<< i) = steps (8 * l.length - (k + i)) 1#32 := by
    rw [show 8 * l.length - k = (8 * l.length - (k + i)) + i by omega, shl_steps]
    intro b hb
    rw [one_bit, decide_eq_false (by omega)]
  have hbit : (1#32 <<< i : W).getLsbD i = true := by
    rw [BitVec.getLsbD_shiftLeft, one_bit]
    simp [hi]
  refine ⟨by simp [h1], ?_, ?_, ?_⟩
  · rw [run_set c x q hqx e, h2, hs1, steps_xor, hs2, BitVec.xor_assoc]
  · intro b hb
    rw [BitVec.getLsbD_xor, h3 b (by omega), BitVec.getLsbD_shiftLeft, one_bit]
    by_cases hb32 : b < 32
    · rw [decide_eq_false (show ¬ b - i = 0 by omega)]; simp
    · simp [hb32]
  · intro hz
    have := congrArg (fun y : W => y.getLsbD i) hz
    simp only [BitVec.getLsbD_xor, h3 i (Nat.le_refl _), hbit, BitVec.getLsbD_zero] at this
    simp at this
theorem Turn.sees {c : W} {l x : List UInt8} {k i : Nat} {E : W} (h : Turn c l x k i E) : run c x = run c l ↔ x = l := by
  obtain ⟨h1, h2, h3, h4⟩ := h
  constructor
  · intro e
    apply h4
    rw [h2] at e
    have : steps (8 * l.length - k) E = 0#32 := by
      have := congrArg (fun y => run c l ^^^ y) e
      simp only [← BitVec.xor_assoc, BitVec.xor_self, BitVec.zero_xor] at this
      exact this
    exact steps_eq_zero _ _ this
  · rintro rfl; rfl
/-- the number of four bytes, the lowest first -/
def le4 (a b c d : UInt8) : W := BitVec.ofNat 32 a.toNat ^^^ (BitVec.ofNat 32 b.toNat <<< 8) ^^^ (BitVec.ofNat 32 c.toNat <<< 16) ^^^ (BitVec.ofNat 32 d.toNat <<< 24)
theorem run_four (s : W) (a b c d : UInt8) : run s [a, b, c, d] = steps 32 (s ^^^ le4 a b c d) := by
  show byte (byte (byte (byte s a) b) c) d = _
  unfold byte
  have h1 : ∀ (n : Nat) (x : UInt8), n ≤ 24 → steps n (BitVec.ofNat 32 x.toNat <<< n) = BitVec.ofNat 32 x.toNat := by
    intro n x hn
    have := shl_steps n (BitVec.ofNat 32 x.toNat) 0 (fun i hi => ofNat8_bit _ _ (by omega))
    simpa [steps] using this
  have hp : ∀ (n : Nat) (S : W) (x : UInt8), n ≤ 24 → steps n S ^^^ BitVec.ofNat 32 x.toNat = steps n (S ^^^ BitVec.ofNat 32 x.toNat <<< n) := by
    intro n S x hn
    have := steps_xor n S (BitVec.ofNat 32 x.toNat <<< n)
    rw [h1 n x hn] at this
    exact this.symm
  rw [hp 8 _ b (by omega), ← steps_add, hp 16 _ c (by omega), ← steps_add, hp 24 _ d (by omega), ← steps_add]
  unfold le4
  simp only [BitVec.xor_assoc]

/-- 'the sum stands behind the text': said of the run over all -/
theorem fits_iff (m : List UInt8) (a b c d : UInt8) : le4 a b c d = next 0#32 m ↔ run (~~~0#32) (m ++ [a, b, c, d]) = steps 32 (~~~0#32) := by
  rw [run_append, run_four]
  unfold next
  constructor
  · intro h
    rw [h]
    congr 1
    apply BitVec.eq_of_getLsbD_eq
    intro i hi
    simp only [BitVec.getLsbD_xor, BitVec.getLsbD_not, hi, decide_true, Bool.true_and]
    cases (run (~~~0#32) m).getLsbD i <;> simp
  · intro h
    have h2 := steps_inj _ _ _ h
    have h3 := congrArg (fun y => run (~~~0#32) m ^^^ y) h2
    simp only [← BitVec.xor_assoc, BitVec.xor_self, BitVec.zero_xor] at h3
    rw [h3]
    apply BitVec.eq_of_getLsbD_eq
    intro i hi
    simp only [BitVec.getLsbD_xor, BitVec.getLsbD_not, hi, decide_true, Bool.true_and]
    cases (run (~~~0#32) m).getLsbD i <;> simp

def four (c : W) : List UInt8 := [UInt8.ofNat (c.toNat % 256), UInt8.ofNat (c.toNat / 256 % 256), UInt8.ofNat (c.toNat / 65536 % 256), UInt8.ofNat (c.toNat / 16777216 % 256)]
theorem byte_bit (c k : Nat) (j : Nat) : (UInt8.ofNat (c / 2 ^ k % 256)).toNat.testBit j = (decide (j < 8) && c.testBit (k + j)) := by
  have e : (UInt8.ofNat (c / 2 ^ k % 256)).toNat = c / 2 ^ k % 2 ^ 8 := by simp
  rw [e, Nat.testBit_mod_two_pow, Nat.testBit_div_two_pow, Nat.add_comm]
theorem le4_bit (a b c d : UInt8) (n : Nat) (hn : n < 32) : (le4 a b c d).getLsbD n =
    (if n < 8 then a.toNat.testBit n else if n < 16 then b.toNat.testBit (n - 8) else if n < 24 then c.toNat.testBit (n - 16) else d.toNat.testBit (n - 24)) := by
  have hb : ∀ (x : UInt8) (i : Nat), 8 ≤ i → x.toNat.testBit i = false := fun x i hi => Nat.testBit_lt_two_pow (Nat.lt_of_lt_of_le x.toNat_lt (Nat.pow_le_pow_right (by omega) hi))
  have ho : ∀ (x : UInt8) (i : Nat), (BitVec.ofNat 32 x.toNat).getLsbD i = (decide (i < 32) && x.toNat.testBit i) := fun x i => by rw [BitVec.getLsbD_ofNat]
  unfold le4
  simp only [BitVec.getLsbD_xor, BitVec.getLsbD_shiftLeft, ho, hn, decide_true, Bool.true_and]
  by_cases h1 : n < 8
  · rw [if_pos h1]; simp [h1, show n < 16 by omega, show n < 24 by omega]
  · rw [if_neg h1, hb a n (by omega)]
    by_cases h2 : n < 16
    · rw [if_pos h2]; simp [h1, h2, show n < 24 by omega, show n - 8 < 32 by omega]
    · rw [if_neg h2, hb b (n - 8) (by omega)]
      by_cases h3 : n < 24
      · rw [if_pos h3]; simp [h1, h2, h3, show n - 16 < 32 by omega]
      · rw [if_neg h3, hb c (n - 16) (by omega)]
        simp [h1, h2, h3, show n - 24 < 32 by omega]
theorem four_iff (x : W) (a b c d : UInt8) : four x = [a, b, c, d] ↔ le4 a b c d = x := by
  have h0 := byte_bit x.toNat 0
  have h1 := byte_bit x.toNat 8
  have h2 := byte_bit x.toNat 16
  have h3 := byte_bit x.toNat 24
  simp only [Nat.pow_zero, Nat.div_one, Nat.zero_add] at h0
  rw [show 2 ^ 8 = 256 from rfl] at h1
  rw [show 2 ^ 16 = 65536 from rfl] at h2
  rw [show 2 ^ 24 = 16777216 from rfl] at h3
  constructor
  · intro h
    simp only [four, List.cons.injEq, and_true] at h
    obtain ⟨rfl, rfl, rfl, rfl⟩ := h
    apply BitVec.eq_of_getLsbD_eq
    intro n hn
    rw [le4_bit _ _ _ _ n hn]
    have hx : x.getLsbD n = x.toNat.testBit n := rfl
    rw [hx]
    by_cases q1 : n < 8
    · rw [if_pos q1, h0]; simp [q1]
    · rw [if_neg q1]
      by_cases q2 : n < 16
      · rw [if_pos q2, h1, decide_eq_true (by omega), Bool.true_and]; congr 1; omega
      · rw [if_neg q2]
        by_cases q3 : n < 24
        · rw [if_pos q3, h2, decide_eq_true (by omega), Bool.true_and]; congr 1; omega
        · rw [if_neg q3, h3, decide_eq_true (by omega), Bool.true_and]; congr 1; omega
  · rintro rfl
    have hb : ∀ (x : UInt8) (i : Nat), 8 ≤ i → x.toNat.testBit i = false := fun x i hi => Nat.testBit_lt_two_pow (Nat.lt_of_lt_of_le x.toNat_lt (Nat.pow_le_pow_right (by omega) hi))
    have key : ∀ (k : Nat) (y z : UInt8), (∀ j, y.toNat.testBit j = (decide (j < 8) && (le4 a b c d).toNat.testBit (k + j))) → (∀ j, j < 8 → (le4 a b c d).getLsbD (k + j) = z.toNat.testBit j) → y = z := by
      intro k y z hy hz
      apply UInt8.toNat_inj.1
      apply Nat.eq_of_testBit_eq
      intro j
      rw [hy j]
      by_cases hj : j < 8
      · rw [decide_eq_true hj, Bool.true_and]; exact hz j hj
      · rw [decide_eq_false hj, Bool.false_and, hb z j (by omega)]
    simp only [four, List.cons.injEq, and_true]
    refine ⟨key 0 _ a (fun j => by rw [h0 j, Nat.zero_add]) ?_, key 8 _ b h1 ?_, key 16 _ c h2 ?_, key 24 _ d h3 ?_⟩ <;> intro j hj <;> rw [le4_bit _ _ _ _ _ (by omega)]
    · rw [if_pos (by omega), Nat.zero_add]
    · rw [if_neg (by omega), if_pos (by omega)]; congr 1; omega
    · rw [if_neg (by omega), if_neg (by omega), if_pos (by omega)]; congr 1; omega
    · rw [if_neg (by omega), if_neg (by omega), if_neg (by omega)]; congr 1; omega
theorem four_inj (x y : W) (h : four x = four y) : x = y := by
  have h1 := (four_iff x (UInt8.ofNat (y.toNat % 256)) (UInt8.ofNat (y.toNat / 256 % 256)) (UInt8.ofNat (y.toNat / 65536 % 256)) (UInt8.ofNat (y.toNat / 16777216 % 256))).1 h
  have h2 := (four_iff y (UInt8.ofNat (y.toNat % 256)) (UInt8.ofNat (y.toNat / 256 % 256)) (UInt8.ofNat (y.toNat / 65536 % 256)) (UInt8.ofNat (y.toNat / 16777216 % 256))).1 rfl
  exact h1.symm.trans h2
theorem four_length (x : W) : (four x).length = 4 := rfl
/-- the sum behind a text: whatever four bytes stand there -/
theorem fits_four (m t : List UInt8) (ht : t.length = 4) : four (next 0#32 m) = t ↔ run (~~~0#32) (m ++ t) = steps 32 (~~~0#32) := by
  match t, ht with
  | [a, b, c, d], _ => rw [four_iff, fits_iff]

end Crc
end Go.Proofs.Ytpnfgnddlfkfaaa
