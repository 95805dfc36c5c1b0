/-
  Bodies, in plain words: what is at a place; written, cut, read.
-/
import Derived.Test.YtpnfgnddlfkfaaaBodyR
set_option linter.unusedSimpArgs false
set_option linter.unusedVariables false
namespace Go.Proofs.Ytpnfgnddlfkfaaa
/-! what a body says at a place -/
def dat (s : CSt) (c : Int) : List UInt8 := (s.l c).getD []
def here (s : CSt) (p : Part) (i : Int) : Option UInt8 := if p.off ≤ i ∧ i < p.off + p.len then some ((dat s p.chunk).getD (p.at_ + (i - p.off)).toNat 0) else none
/-- the last piece that covers a place says what is there -/
def lookP (s : CSt) : List Part → Int → Option UInt8
  | [], _ => none
  | p :: ps, i => (lookP s ps i).or (here s p i)
theorem lookP_cons (s : CSt) (p : Part) (ps : List Part) (i : Int) : lookP s (p :: ps) i = (lookP s ps i).or (here s p i) := rfl
theorem lookP_append (s : CSt) (ls bs : List Part) (i : Int) : lookP s (ls ++ bs) i = (lookP s bs i).or (lookP s ls i) := by
  induction ls with
  | nil => simp [lookP]
  | cons p ls ih => simp only [List.cons_append, lookP, ih, Option.or_assoc]
theorem here_ahead (s : CSt) (p : Part) (x i : Int) : ((aheadP p x).bind fun q => here s q i) = if i < x then here s p i else none := by
  unfold aheadP
  by_cases h : x ≤ p.off
  · rw [if_pos h]
    simp only [Option.bind_none]
    split
    · unfold here; rw [if_neg (by omega)]
    · rfl
  · rw [if_neg h]
    simp only [Option.bind_some, here]
    by_cases h2 : i < x
    · rw [if_pos h2]
      by_cases h3 : p.off ≤ i ∧ i < p.off + p.len
      · rw [if_pos h3, if_pos (by omega)]
      · rw [if_neg h3, if_neg (by omega)]
    · rw [if_neg h2, if_neg (by omega)]
theorem here_behind (s : CSt) (p : Part) (x i : Int) : ((behindP p x).bind fun q => here s q i) = if x ≤ i then here s p i else none := by
  unfold behindP
  by_cases h : p.off + p.len ≤ x
  · rw [if_pos h]
    simp only [Option.bind_none]
    split
    · unfold here; rw [if_neg (by omega)]
    · rfl
  · rw [if_neg h]
    by_cases h1 : p.off < x
    · rw [if_pos h1]
      simp only [Option.bind_some, here]
      by_cases h2 : x ≤ i
      · rw [if_pos h2]
        by_cases h3 : p.off ≤ i ∧ i < p.off + p.len
        · rw [if_pos h3, if_pos (by omega), show p.at_ + (x - p.off) + (i - x) = p.at_ + (i - p.off) by omega]
        · rw [if_neg h3, if_neg (by omega)]
      · rw [if_neg h2, if_neg (by omega)]
    · rw [if_neg h1]
      simp only [Option.bind_some]
      by_cases h2 : x ≤ i
      · rw [if_pos h2]
      · rw [if_neg h2]; unfold here; rw [if_neg (by omega)]
theorem lookP_map (s : CSt) (f : Part → Option Part) (i : Int) (b : Bool) (h : ∀ p, ((f p).bind fun q => here s q i) = if b then here s p i else none) (ps : List Part) : lookP s (ps.filterMap f) i = if b then lookP s ps i else none := by
  induction ps with
  | nil => cases b <;> rfl
  | cons p ps ih =>
    have h1 := h p
    rw [List.filterMap_cons]
    cases hf : f p with
    | none =>
      rw [hf] at h1
      simp only [Option.bind_none] at h1
      simp only [ih, lookP]
      cases b with
      | false => rfl
      | true => simp only [if_true] at h1 ⊢; rw [← h1]; simp
    | some q =>
      rw [hf] at h1
      simp only [Option.bind_some] at h1
      simp only [lookP, ih, h1]
      cases b <;> simp
theorem lookP_ahead (s : CSt) (ps : List Part) (x i : Int) : lookP s (ps.filterMap fun p => aheadP p x) i = if i < x then lookP s ps i else none := by
  have := lookP_map s (fun p => aheadP p x) i (decide (i < x)) (fun p => by simpa using here_ahead s p x i) ps
  simpa using this
theorem lookP_behind (s : CSt) (ps : List Part) (x i : Int) : lookP s (ps.filterMap fun p => behindP p x) i = if x ≤ i then lookP s ps i else none := by
  have := lookP_map s (fun p => behindP p x) i (decide (x ≤ i)) (fun p => by simpa using here_behind s p x i) ps
  simpa using this

/-- the bytes of pieces, one behind another -/
def joinP (s : CSt) : List Part → List UInt8
  | [] => []
  | p :: l => ((dat s p.chunk).drop p.at_.toNat).take p.len.toNat ++ joinP s l
/-- there is what a piece says -/
def hasP (s : CSt) (p : Part) : Prop := 0 ≤ p.at_ ∧ 1 ≤ p.len ∧ p.at_ + p.len ≤ ((dat s p.chunk).length : Int)
theorem joinP_length (s : CSt) : ∀ (l : List Part), (∀ p ∈ l, hasP s p) → ((joinP s l).length : Int) = sumLen l
  | [], _ => rfl
  | p :: l, h => by
    have ih := joinP_length s l fun q hq => h q (List.mem_cons_of_mem _ hq)
    obtain ⟨h1, h2, h3⟩ := h p (List.mem_cons_self ..)
    unfold joinP sumLen
    rw [List.length_append, List.length_take, List.length_drop]
    omega
theorem here_get (s : CSt) (p : Part) (i : Int) (h : hasP s p) (h1 : p.off ≤ i) (h2 : i < p.off + p.len) : here s p i = (((dat s p.chunk).drop p.at_.toNat).take p.len.toNat)[(i - p.off).toNat]? := by
  obtain ⟨h3, h4, h5⟩ := h
  unfold here
  rw [if_pos ⟨h1, h2⟩, List.getElem?_take, if_pos (by omega), List.getElem?_drop, show p.at_.toNat + (i - p.off).toNat = (p.at_ + (i - p.off)).toNat by omega, List.getD_eq_getElem?_getD, List.getElem?_eq_getElem (by omega)]
  rfl
theorem lookP_placed (s : CSt) : ∀ (l : List Part) (x i : Int), (∀ p ∈ l, hasP s p) → lookP s (placed x l) i = if x ≤ i then (joinP s l)[(i - x).toNat]? else none
  | [], x, i, _ => by simp [placed, lookP, joinP]
  | p :: l, x, i, h => by
    have hp := h p (List.mem_cons_self ..)
    have ih := lookP_placed s l (x + p.len) i fun q hq => h q (List.mem_cons_of_mem _ hq)
    obtain ⟨h3, h4, h5⟩ := hp
    unfold placed lookP joinP
    rw [ih]
    by_cases h1 : x ≤ i
    · rw [if_pos h1]
      have hl : (((dat s p.chunk).drop p.at_.toNat).take p.len.toNat).length = p.len.toNat := by rw [List.length_take, List.length_drop]; omega
      by_cases h2 : x + p.len ≤ i
      · rw [if_pos h2, List.getElem?_append_right (by omega), hl, show (i - x).toNat - p.len.toNat = (i - (x + p.len)).toNat by omega]
        have : here s ⟨x, p.len, p.chunk, p.at_⟩ i = none := by unfold here; rw [if_neg (by simp only; omega)]
        rw [this, Option.or_none]
      · rw [if_neg h2, List.getElem?_append_left (by omega), Option.none_or]
        exact here_get s ⟨x, p.len, p.chunk, p.at_⟩ i ⟨h3, h4, h5⟩ (by simp only; omega) (by simp only; omega)
    · rw [if_neg h1, if_neg (by omega), Option.none_or]
      unfold here
      rw [if_neg (by simp only; omega)]

/-- what is read is what is there -/
theorem splice_get {α : Type} (l cs : List α) (k j : Nat) (hk : k + cs.length ≤ l.length) (hj : j < l.length) : (splice l k cs)[j]? = if k ≤ j ∧ j < k + cs.length then cs[j - k]? else l[j]? := by
  unfold splice
  by_cases h1 : j < k
  · rw [if_neg (by omega), List.getElem?_append_left (by rw [List.length_take]; omega), List.getElem?_take, if_pos h1]
  · rw [List.getElem?_append_right (by rw [List.length_take]; omega)]
    have e : (l.take k).length = k := by rw [List.length_take]; omega
    rw [e]
    by_cases h2 : j < k + cs.length
    · rw [if_pos (by omega), List.getElem?_append_left (by omega)]
    · rw [if_neg (by omega), List.getElem?_append_right (by omega), List.getElem?_drop]
      congr 1
      omega
theorem splice_len {α : Type} (l cs : List α) (k : Nat) (hk : k + cs.length ≤ l.length) : (splice l k cs).length = l.length := by
  unfold splice
  simp only [List.length_append, List.length_take, List.length_drop]
  omega
theorem cut_has {s : CSt} {p q : Part} {x y : Int} (h : hasP s p) (hc : cutP p x y = some q) : hasP s q ∧ x ≤ q.off ∧ q.off + q.len ≤ y := by
  obtain ⟨h1, h2, h3⟩ := h
  unfold cutP aheadP at hc
  split at hc
  · cases hc
  · simp only [Option.bind_some] at hc
    unfold behindP at hc
    simp only at hc
    split at hc
    · cases hc
    · split at hc
      · cases hc
        refine ⟨⟨?_, ?_, ?_⟩, ?_, ?_⟩ <;> simp only <;> omega
      · cases hc
        refine ⟨⟨?_, ?_, ?_⟩, ?_, ?_⟩ <;> simp only <;> omega
theorem cut_here (s : CSt) (p : Part) (x y i : Int) : ((cutP p x y).bind fun q => here s q i) = if x ≤ i ∧ i < y then here s p i else none := by
  unfold cutP
  cases ha : aheadP p y with
  | none =>
    have h1 := here_ahead s p y i
    rw [ha] at h1
    simp only [Option.bind_none] at h1 ⊢
    by_cases h2 : x ≤ i ∧ i < y
    · rw [if_pos h2, h1, if_pos h2.2]
    · rw [if_neg h2]
  | some q =>
    have h1 := here_ahead s p y i
    rw [ha] at h1
    simp only [Option.bind_some] at h1 ⊢
    rw [here_behind s q x i, h1]
    by_cases h2 : x ≤ i
    · by_cases h3 : i < y
      · rw [if_pos h2, if_pos h3, if_pos ⟨h2, h3⟩]
      · rw [if_pos h2, if_neg h3, if_neg (by omega)]
    · rw [if_neg h2, if_neg (by omega)]
theorem readGo_says (s : CSt) (x y : Int) : ∀ (ps : List Part) (out : List UInt8), (∀ p ∈ ps, hasP s p) → (out.length : Int) = y - x →
    ∃ o, readGo s x y ps out = some o ∧ o.length = out.length ∧ ∀ j (hj : j < o.length), o[j]? = some ((lookP s ps (x + j)).getD (out.getD j 0))
  | [], out, _, _ => ⟨out, rfl, rfl, fun j hj => by simp [lookP, List.getD_eq_getElem?_getD, hj]⟩
  | p :: ps, out, h, hl => by
    have hp := h p (List.mem_cons_self ..)
    have hps : ∀ q ∈ ps, hasP s q := fun q hq => h q (List.mem_cons_of_mem _ hq)
    have hu : readGo s x y (p :: ps) out = (match cutP p x y with
      | none => readGo s x y ps out
      | some q => if ((s.l q.chunk).getD []).length < (q.at_ + q.len).toNat then none else readGo s x y ps (splice out (q.off - x).toNat ((((s.l q.chunk).getD []).drop q.at_.toNat).take q.len.toNat))) := rfl
    rw [hu]
    cases hc : cutP p x y with
    | none =>
      obtain ⟨o, h1, h2, h3⟩ := readGo_says s x y ps out hps hl
      refine ⟨o, h1, h2, fun j hj => ?_⟩
      rw [h3 j hj]
      have h4 := cut_here s p x y (x + j)
      rw [hc, if_pos (by omega)] at h4
      simp only [Option.bind_none] at h4
      rw [lookP_cons, ← h4, Option.or_none]
    | some q =>
      obtain ⟨⟨q1, q2, q3⟩, q4, q5⟩ := cut_has hp hc
      have q3' : q.at_ + q.len ≤ (((s.l q.chunk).getD []).length : Int) := q3
      simp only
      rw [if_neg (by omega)]
      have hcl : ((((s.l q.chunk).getD []).drop q.at_.toNat).take q.len.toNat).length = q.len.toNat := by rw [List.length_take, List.length_drop]; omega
      have hsl := splice_len out ((((s.l q.chunk).getD []).drop q.at_.toNat).take q.len.toNat) (q.off - x).toNat (by omega)
      obtain ⟨o, h1, h2, h3⟩ := readGo_says s x y ps (splice out (q.off - x).toNat ((((s.l q.chunk).getD []).drop q.at_.toNat).take q.len.toNat)) hps (by omega)
      refine ⟨o, h1, by omega, fun j hj => ?_⟩
      rw [h3 j hj]
      have h4 := cut_here s p x y (x + j)
      rw [hc, if_pos (by omega)] at h4
      simp only [Option.bind_some] at h4
      rw [lookP_cons, ← h4]
      have hsg := splice_get out ((((s.l q.chunk).getD []).drop q.at_.toNat).take q.len.toNat) (q.off - x).toNat j (by omega) (by omega)
      rw [List.getD_eq_getElem?_getD, hsg, hcl]
      cases hlk : lookP s ps (x + j) with
      | some b => simp
      | none =>
        simp only [Option.none_or, Option.getD_none]
        by_cases hin : (q.off - x).toNat ≤ j ∧ j < (q.off - x).toNat + q.len.toNat
        · rw [if_pos hin]
          rw [here_get s q (x + j) ⟨q1, q2, q3⟩ (by omega) (by omega), show (x + (j : Int) - q.off).toNat = j - (q.off - x).toNat by omega]
          show some (((List.take q.len.toNat (List.drop q.at_.toNat (dat s q.chunk)))[j - (q.off - x).toNat]?).getD 0) = _
          have : j - (q.off - x).toNat < (List.take q.len.toNat (List.drop q.at_.toNat (dat s q.chunk))).length := by
            show _ < (List.take q.len.toNat (List.drop q.at_.toNat ((s.l q.chunk).getD []))).length
            omega
          rw [List.getElem?_eq_getElem this]
          rfl
        · rw [if_neg hin]
          have : here s q (x + j) = none := by unfold here; rw [if_neg (by omega)]
          rw [this]
          simp [List.getD_eq_getElem?_getD]
/-! pieces in a row -/
theorem hasP_ahead {s : CSt} {p q : Part} {x : Int} (h : hasP s p) (hc : aheadP p x = some q) : hasP s q := by
  obtain ⟨h1, h2, h3⟩ := h
  unfold aheadP at hc
  split at hc
  · cases hc
  · cases hc
    refine ⟨?_, ?_, ?_⟩ <;> simp only <;> omega
theorem hasP_behind {s : CSt} {p q : Part} {x : Int} (h : hasP s p) (hc : behindP p x = some q) : hasP s q := by
  obtain ⟨h1, h2, h3⟩ := h
  unfold behindP at hc
  split at hc
  · cases hc
  · split at hc
    · cases hc
      refine ⟨?_, ?_, ?_⟩ <;> simp only <;> omega
    · cases hc
      exact ⟨h1, h2, h3⟩
theorem hasP_placed (s : CSt) : ∀ (l : List Part) (x : Int), (∀ p ∈ l, hasP s p) → ∀ p ∈ placed x l, hasP s p
  | [], _, _, p, hp => by cases hp
  | q :: l, x, h, p, hp => by
    unfold placed at hp
    rcases List.mem_cons.1 hp with rfl | hp
    · exact h q (List.mem_cons_self ..)
    · exact hasP_placed s l _ (fun r hr => h r (List.mem_cons_of_mem _ hr)) p hp
/-- a store that has what another had, and more -/
def moreC (s t : CSt) : Prop := ∀ id b, s.l id = some b → t.l id = some b
theorem dat_more {s t : CSt} (h : moreC s t) {c : Int} (hc : 0 < (dat s c).length) : dat t c = dat s c := by
  unfold dat at hc ⊢
  cases hs : s.l c with
  | none => rw [hs] at hc; simp at hc
  | some b => rw [h c b hs]
theorem hasP_more {s t : CSt} (h : moreC s t) {p : Part} (hp : hasP s p) : hasP t p ∧ dat t p.chunk = dat s p.chunk := by
  obtain ⟨h1, h2, h3⟩ := hp
  have e := dat_more h (c := p.chunk) (by omega)
  exact ⟨⟨h1, h2, by rw [e]; exact h3⟩, e⟩
theorem lookP_more {s t : CSt} (h : moreC s t) : ∀ (ps : List Part) (i : Int), (∀ p ∈ ps, hasP s p) → lookP t ps i = lookP s ps i
  | [], _, _ => rfl
  | p :: ps, i, hp => by
    rw [lookP_cons, lookP_cons, lookP_more h ps i fun q hq => hp q (List.mem_cons_of_mem _ hq)]
    have e := (hasP_more h (hp p (List.mem_cons_self ..))).2
    unfold here
    rw [e]
theorem joinP_more {s t : CSt} (h : moreC s t) : ∀ (l : List Part), (∀ p ∈ l, hasP s p) → joinP t l = joinP s l
  | [], _ => rfl
  | p :: l, hp => by
    unfold joinP
    rw [joinP_more h l fun q hq => hp q (List.mem_cons_of_mem _ hq), (hasP_more h (hp p (List.mem_cons_self ..))).2]

def chain : Int → List Part → Int → Prop
  | x, [], y => x ≤ y
  | x, p :: ps, y => fits p = true ∧ x ≤ p.off ∧ chain (p.off + p.len) ps y
theorem chain_cons (x y : Int) (p : Part) (ps : List Part) : chain x (p :: ps) y ↔ fits p = true ∧ x ≤ p.off ∧ chain (p.off + p.len) ps y := Iff.rfl
theorem fits_len {p : Part} (h : fits p = true) : 1 ≤ p.len := by
  unfold fits at h
  simp only [decide_eq_true_eq] at h
  exact h.1
theorem chain_le : ∀ {ps : List Part} {x y : Int}, chain x ps y → x ≤ y
  | [], _, _, h => h
  | p :: ps, x, y, h => by
    obtain ⟨h1, h2, h3⟩ := h
    have := chain_le h3
    have := fits_len h1
    omega
theorem chain_mem : ∀ {ps : List Part} {x y : Int}, chain x ps y → ∀ p ∈ ps, fits p = true ∧ x ≤ p.off ∧ p.off + p.len ≤ y
  | [], _, _, _, p, hp => by cases hp
  | q :: ps, x, y, h, p, hp => by
    obtain ⟨h1, h2, h3⟩ := h
    rcases List.mem_cons.1 hp with rfl | hp
    · exact ⟨h1, h2, chain_le h3⟩
    · obtain ⟨g1, g2, g3⟩ := chain_mem h3 p hp
      have := fits_len h1
      exact ⟨g1, by omega, g3⟩
theorem chain_mono : ∀ {ps : List Part} {x x' y y' : Int}, chain x ps y → x' ≤ x → y ≤ y' → chain x' ps y'
  | [], _, _, _, _, h, h1, h2 => by have h' : _ ≤ _ := h; show _ ≤ _; omega
  | p :: ps, _, _, _, _, h, h1, h2 => ⟨h.1, by have := h.2.1; omega, chain_mono h.2.2 (Int.le_refl _) h2⟩
theorem chain_append : ∀ {ls bs : List Part} {x y z : Int}, chain x ls y → chain y bs z → chain x (ls ++ bs) z
  | [], _, _, _, _, h, k => chain_mono k h (Int.le_refl _)
  | p :: ls, bs, _, _, _, h, k => ⟨h.1, h.2.1, chain_append h.2.2 k⟩
theorem partsOk_chain {size : Int} : ∀ {ps : List Part} {x : Int}, x ≤ size → (partsOk size x ps = true ↔ chain x ps size)
  | [], x, hx => ⟨fun _ => hx, fun _ => rfl⟩
  | p :: ps, x, hx => by
    have hu : partsOk size x (p :: ps) = (fits p && decide (x ≤ p.off) && decide (p.off ≤ size - p.len) && partsOk size (p.off + p.len) ps) := rfl
    rw [hu, chain_cons]
    simp only [Bool.and_eq_true, decide_eq_true_eq]
    constructor
    · rintro ⟨⟨⟨h1, h2⟩, h3⟩, h4⟩
      exact ⟨h1, h2, (partsOk_chain (by omega)).1 h4⟩
    · rintro ⟨h1, h2, h3⟩
      have := chain_le h3
      exact ⟨⟨⟨h1, h2⟩, by omega⟩, (partsOk_chain (by omega)).2 h3⟩
theorem bodyMay_chain {size : Int} {ps : List Part} : bodyMay size ps = true ↔ (0 ≤ size ∧ size ≤ 1099511627776) ∧ chain 0 ps size := by
  unfold bodyMay
  rw [Bool.and_eq_true, decide_eq_true_eq]
  constructor
  · rintro ⟨h1, h2⟩
    exact ⟨h1, (partsOk_chain h1.1).1 h2⟩
  · rintro ⟨h1, h2⟩
    exact ⟨h1, (partsOk_chain h1.1).2 h2⟩
theorem fits_ahead {p q : Part} {x : Int} (h : fits p = true) (hc : aheadP p x = some q) : fits q = true ∧ q.off = p.off ∧ q.off + q.len ≤ x ∧ q.off + q.len ≤ p.off + p.len ∧ q.off < x := by
  unfold fits at h
  simp only [decide_eq_true_eq] at h
  unfold aheadP at hc
  split at hc
  · cases hc
  · cases hc
    refine ⟨by unfold fits; simp only [decide_eq_true_eq]; omega, rfl, by simp only; omega, by simp only; omega, by simp only; omega⟩
theorem fits_behind {p q : Part} {x : Int} (h : fits p = true) (hc : behindP p x = some q) : fits q = true ∧ x ≤ q.off ∧ p.off ≤ q.off ∧ q.off + q.len = p.off + p.len := by
  unfold fits at h
  simp only [decide_eq_true_eq] at h
  unfold behindP at hc
  split at hc
  · cases hc
  · split at hc
    · cases hc
      refine ⟨by unfold fits; simp only [decide_eq_true_eq]; omega, by simp only; omega, by simp only; omega, by simp only; omega⟩
    · cases hc
      exact ⟨by unfold fits; simp only [decide_eq_true_eq]; omega, by omega, by omega, rfl⟩
theorem ahead_gone {x z : Int} : ∀ {ps : List Part} {y : Int}, chain x ps z → y ≤ x → ps.filterMap (fun p => aheadP p y) = []
  | [], _, _, _ => rfl
  | p :: ps, y, h, hy => by
    have h1 : aheadP p y = none := by unfold aheadP; rw [if_pos (by have := h.2.1; omega)]
    rw [List.filterMap_cons, h1]
    have := fits_len h.1
    exact ahead_gone (x := p.off + p.len) h.2.2 (by have := h.2.1; omega)
theorem chain_ahead {z y : Int} : ∀ {ps : List Part} {x : Int}, chain x ps z → x ≤ y → chain x (ps.filterMap fun p => aheadP p y) y
  | [], _, _, h => h
  | p :: ps, x, h, hy => by
    obtain ⟨h1, h2, h3⟩ := h
    rw [List.filterMap_cons]
    cases ha : aheadP p y with
    | none =>
      have h4 : y ≤ p.off := by
        unfold aheadP at ha
        split at ha
        · assumption
        · cases ha
      have := fits_len h1
      simp only
      rw [ahead_gone h3 (by omega)]
      exact hy
    | some q =>
      obtain ⟨g1, g2, g3, g4, g5⟩ := fits_ahead h1 ha
      simp only
      refine ⟨g1, by omega, ?_⟩
      by_cases hc : p.off + p.len ≤ y
      · exact chain_mono (chain_ahead h3 hc) g4 (Int.le_refl _)
      · rw [ahead_gone h3 (by omega)]
        exact g3
theorem chain_behind {z y : Int} : ∀ {ps : List Part} {x : Int}, chain x ps z → chain (max x y) (ps.filterMap fun p => behindP p y) (max z y)
  | [], x, h => by have h' : x ≤ z := h; show max x y ≤ max z y; omega
  | p :: ps, x, h => by
    obtain ⟨h1, h2, h3⟩ := h
    have hl := fits_len h1
    rw [List.filterMap_cons]
    have ih := chain_behind (y := y) h3
    cases ha : behindP p y with
    | none =>
      simp only
      exact chain_mono ih (by omega) (Int.le_refl _)
    | some q =>
      obtain ⟨g1, g2, g3, g4⟩ := fits_behind h1 ha
      have := fits_len g1
      have hq : max (p.off + p.len) y = q.off + q.len := by omega
      simp only
      rw [hq] at ih
      refine ⟨g1, ?_, ih⟩
      unfold behindP at ha
      split at ha
      · cases ha
      · split at ha
        · cases ha; simp only; omega
        · cases ha; omega
theorem chain_placed : ∀ {l : List Part} (x : Int), l.all fits = true → chain x (placed x l) (x + sumLen l)
  | [], x, _ => by show x ≤ x + 0; omega
  | p :: l, x, h => by
    rw [List.all_cons, Bool.and_eq_true] at h
    refine ⟨?_, Int.le_refl _, ?_⟩
    · have := h.1
      unfold fits at this ⊢
      exact this
    · have := chain_placed (l := l) (x + p.len) h.2
      unfold sumLen
      rw [← Int.add_assoc]
      exact this
theorem sumLen_pos {l : List Part} (h : l.all fits = true) : (l.length : Int) ≤ sumLen l := by
  induction l with
  | nil => simp [sumLen]
  | cons p l ih =>
    rw [List.all_cons, Bool.and_eq_true] at h
    have h1 := fits_len h.1
    have h2 := ih h.2
    simp only [sumLen, List.length_cons]
    omega
/-- what was written is a body that may be -/
def written (ps : List Part) (off : Int) (l : List Part) : List Part := (ps.filterMap (fun p => aheadP p off) ++ placed off l) ++ ps.filterMap (fun p => behindP p (off + sumLen l))
theorem writeR_ok {size : Int} {ps : List Part} {off : Int} {l : List Part} (hm : bodyMay size ps = true) (hf : l.all fits = true) (h0 : 0 ≤ off) (h1 : off ≤ 1099511627776 - sumLen l) : writeR size ps off l = if l = [] then (size, ps, 0) else (max size (off + sumLen l), written ps off l, 0) := by
  unfold writeR written
  rw [if_pos ⟨hm, hf⟩, if_pos ⟨h0, h1⟩]
theorem written_may {size : Int} {ps : List Part} {off : Int} {l : List Part} (hm : bodyMay size ps = true) (hf : l.all fits = true) (h0 : 0 ≤ off) (h1 : off ≤ 1099511627776 - sumLen l) : bodyMay (max size (off + sumLen l)) (written ps off l) = true := by
  obtain ⟨⟨h2, h3⟩, h4⟩ := bodyMay_chain.1 hm
  have h5 := sumLen_pos hf
  refine bodyMay_chain.2 ⟨by omega, ?_⟩
  refine chain_append (chain_append (chain_ahead h4 h0) (chain_placed off hf)) ?_
  have := chain_behind (y := off + sumLen l) h4
  exact chain_mono this (by omega) (by omega)
theorem writeR_may {size : Int} {ps : List Part} {off : Int} {l : List Part} (h : (writeR size ps off l).2.2 = 0) : bodyMay (writeR size ps off l).1 (writeR size ps off l).2.1 = true ∧ bodyMay size ps = true ∧ l.all fits = true ∧ 0 ≤ off ∧ off ≤ 1099511627776 - sumLen l := by
  by_cases h1 : bodyMay size ps = true ∧ l.all fits = true
  · by_cases h2 : 0 ≤ off ∧ off ≤ 1099511627776 - sumLen l
    · refine ⟨?_, h1.1, h1.2, h2.1, h2.2⟩
      rw [writeR_ok h1.1 h1.2 h2.1 h2.2]
      split
      · exact h1.1
      · exact written_may h1.1 h1.2 h2.1 h2.2
    · unfold writeR at h
      rw [if_pos h1, if_neg h2] at h
      cases h
  · unfold writeR at h
    rw [if_neg h1] at h
    cases h
theorem truncR_ok {size : Int} {ps : List Part} {x : Int} (hm : bodyMay size ps = true) (h0 : 0 ≤ x) (h1 : x ≤ 1099511627776) : truncR size ps x = (x, ps.filterMap (fun p => aheadP p x), 0) := by
  unfold truncR
  rw [if_pos hm, if_pos ⟨h0, h1⟩]
theorem trunc_may {size : Int} {ps : List Part} {x : Int} (hm : bodyMay size ps = true) (h0 : 0 ≤ x) (h1 : x ≤ 1099511627776) : bodyMay x (ps.filterMap fun p => aheadP p x) = true := by
  obtain ⟨_, h4⟩ := bodyMay_chain.1 hm
  exact bodyMay_chain.2 ⟨⟨h0, h1⟩, chain_ahead h4 h0⟩
theorem ahead_all {x y z : Int} : ∀ {ps : List Part}, chain x ps y → y ≤ z → ps.filterMap (fun p => aheadP p z) = ps
  | ps, h, hz => by
    have hm := chain_mem h
    clear h
    induction ps with
    | nil => rfl
    | cons p ps ih =>
      obtain ⟨h1, h2, h3⟩ := hm p (List.mem_cons_self ..)
      have := fits_len h1
      have e : aheadP p z = some p := by
        obtain ⟨o, l, c, a⟩ := p
        simp only at h3 this
        unfold aheadP
        rw [if_neg (by simp only; omega)]
        simp only
        rw [Int.min_eq_left (by omega)]
      rw [List.filterMap_cons, e]
      simp only
      rw [ih fun q hq => hm q (List.mem_cons_of_mem _ hq)]
/-- written twice -/
theorem filterMap_none {α β : Type} {f : α → Option β} {l : List α} (h : ∀ a ∈ l, f a = none) : l.filterMap f = [] := List.filterMap_eq_nil_iff.2 h
theorem ahead_twice (ps : List Part) (x : Int) : (ps.filterMap fun p => aheadP p x).filterMap (fun p => aheadP p x) = ps.filterMap fun p => aheadP p x := by
  induction ps with
  | nil => rfl
  | cons p ps ih =>
    rw [List.filterMap_cons]
    cases ha : aheadP p x with
    | none => exact ih
    | some q =>
      have e : aheadP q x = some q := by
        unfold aheadP at ha
        split at ha
        · cases ha
        · cases ha
          unfold aheadP
          simp only
          rw [if_neg (by omega), Int.min_eq_left (by omega)]
      simp only
      rw [List.filterMap_cons, e, ih]
theorem behind_twice (ps : List Part) (x : Int) (hf : ∀ p ∈ ps, 1 ≤ p.len) : (ps.filterMap fun p => behindP p x).filterMap (fun p => behindP p x) = ps.filterMap fun p => behindP p x := by
  induction ps with
  | nil => rfl
  | cons p ps ih =>
    have hp := hf p (List.mem_cons_self ..)
    rw [List.filterMap_cons]
    cases ha : behindP p x with
    | none => exact ih fun q hq => hf q (List.mem_cons_of_mem _ hq)
    | some q =>
      have e : behindP q x = some q := by
        unfold behindP at ha
        split at ha
        · cases ha
        · split at ha
          · cases ha
            unfold behindP
            simp only
            rw [if_neg (by omega), if_neg (by omega)]
          · cases ha
            unfold behindP
            rw [if_neg (by omega), if_neg (by omega)]
      simp only
      rw [List.filterMap_cons, e, ih fun q hq => hf q (List.mem_cons_of_mem _ hq)]
theorem written_twice {size : Int} {ps : List Part} {off : Int} {l : List Part} (hm : bodyMay size ps = true) (hf : l.all fits = true) (h0 : 0 ≤ off) : written (written ps off l) off l = written ps off l := by
  obtain ⟨_, h4⟩ := bodyMay_chain.1 hm
  have hsum := sumLen_pos hf
  have hA := chain_mem (chain_ahead h4 h0)
  have hP := chain_mem (chain_placed off hf)
  have hB := chain_mem (chain_behind (y := off + sumLen l) h4)
  have e1 : (written ps off l).filterMap (fun p => aheadP p off) = ps.filterMap (fun p => aheadP p off) := by
    unfold written
    rw [List.filterMap_append, List.filterMap_append, ahead_twice, filterMap_none (l := placed off l) fun p hp => by unfold aheadP; rw [if_pos (hP p hp).2.1], filterMap_none (l := ps.filterMap fun p => behindP p (off + sumLen l)) fun p hp => by unfold aheadP; rw [if_pos (by have := (hB p hp).2.1; omega)], List.append_nil, List.append_nil]
  have e2 : (written ps off l).filterMap (fun p => behindP p (off + sumLen l)) = ps.filterMap (fun p => behindP p (off + sumLen l)) := by
    unfold written
    rw [List.filterMap_append, List.filterMap_append, behind_twice _ _ fun p hp => fits_len (chain_mem h4 p hp).1, filterMap_none (l := placed off l) fun p hp => by unfold behindP; rw [if_pos (hP p hp).2.2], filterMap_none (l := ps.filterMap fun p => aheadP p off) fun p hp => by unfold behindP; rw [if_pos (by have := (hA p hp).2.2; omega)], List.nil_append, List.nil_append]
  show ((written ps off l).filterMap (fun p => aheadP p off) ++ placed off l) ++ (written ps off l).filterMap (fun p => behindP p (off + sumLen l)) = _
  rw [e1, e2]
  rfl
/-! the document's own way -/
def withoutR (x y : Int) (ps : List Part) : List Part := ps.flatMap fun p => (aheadP p x).toList ++ (behindP p y).toList
theorem without_behind {x y z : Int} (hxy : x ≤ y) : ∀ {ps : List Part} {a : Int}, chain a ps z → x ≤ a → withoutR x y ps = ps.filterMap fun p => behindP p y
  | [], _, _, _ => rfl
  | p :: ps, a, h, ha => by
    have h1 : aheadP p x = none := by unfold aheadP; rw [if_pos (by have := h.2.1; omega)]
    have hl := fits_len h.1
    have ih := without_behind hxy h.2.2 (by have := h.2.1; omega)
    unfold withoutR at ih ⊢
    rw [List.flatMap_cons, h1, List.filterMap_cons, ih]
    cases behindP p y <;> rfl
theorem without_take {x y z : Int} (hxy : x ≤ y) : ∀ {ps : List Part} {a : Int}, chain a ps z → (withoutR x y ps).takeWhile (fun p => decide (p.off < x)) = ps.filterMap (fun p => aheadP p x) ∧ (withoutR x y ps).filter (fun p => decide (x ≤ p.off)) = ps.filterMap fun p => behindP p y
  | [], _, _ => ⟨rfl, rfl⟩
  | p :: ps, a, h => by
    have hl := fits_len h.1
    cases hb : behindP p y with
    | none =>
      obtain ⟨ih1, ih2⟩ := without_take hxy h.2.2
      unfold withoutR at ih1 ih2 ⊢
      rw [List.flatMap_cons, hb, List.filterMap_cons, List.filterMap_cons, hb]
      cases ha : aheadP p x with
      | none => simp only [Option.toList_none, List.nil_append]; exact ⟨ih1, ih2⟩
      | some q =>
        have h5 := (fits_ahead h.1 ha).2.2.2.2
        simp only [Option.toList_some, Option.toList_none, List.append_nil, List.cons_append, List.nil_append]
        rw [List.takeWhile_cons, if_pos (by simpa using h5), ih1, List.filter_cons, if_neg (by simp only [decide_eq_true_eq]; omega), ih2]
        exact ⟨rfl, rfl⟩
    | some r =>
      obtain ⟨g1, g2, g3, g4⟩ := fits_behind h.1 hb
      have g5 := fits_len g1
      have e1 := without_behind hxy h.2.2 (show x ≤ p.off + p.len by omega)
      have e2 : ps.filterMap (fun p => aheadP p x) = [] := ahead_gone h.2.2 (by omega)
      have hB := chain_mem (chain_behind (y := y) h.2.2)
      have e3 : (ps.filterMap fun p => behindP p y).filter (fun p => decide (x ≤ p.off)) = ps.filterMap fun p => behindP p y := List.filter_eq_self.2 fun q hq => by have := (hB q hq).2.1; simp only [decide_eq_true_eq]; omega
      unfold withoutR at e1 ⊢
      rw [List.flatMap_cons, e1, List.filterMap_cons, List.filterMap_cons, hb, e2]
      cases ha : aheadP p x with
      | none =>
        simp only [Option.toList_none, Option.toList_some, List.nil_append, List.cons_append]
        rw [List.takeWhile_cons, if_neg (by simp only [decide_eq_true_eq]; omega), List.filter_cons, if_pos (by simp only [decide_eq_true_eq]; omega), e3]
        exact ⟨rfl, rfl⟩
      | some q =>
        have h5 := (fits_ahead h.1 ha).2.2.2.2
        simp only [Option.toList_some, List.cons_append, List.nil_append]
        rw [List.takeWhile_cons, if_pos (by simpa using h5), List.takeWhile_cons, if_neg (by simp only [decide_eq_true_eq]; omega), List.filter_cons, if_neg (by simp only [decide_eq_true_eq]; omega), List.filter_cons, if_pos (by simp only [decide_eq_true_eq]; omega), e3]
        exact ⟨rfl, rfl⟩
theorem written_ref {size : Int} {ps : List Part} {off : Int} {l : List Part} (hm : bodyMay size ps = true) (hf : l.all fits = true) : ((withoutR off (off + sumLen l) ps).takeWhile (fun p => decide (p.off < off)) ++ placed off l) ++ (withoutR off (off + sumLen l) ps).filter (fun p => decide (off ≤ p.off)) = written ps off l := by
  obtain ⟨_, h4⟩ := bodyMay_chain.1 hm
  have hsum := sumLen_pos hf
  obtain ⟨e1, e2⟩ := without_take (x := off) (y := off + sumLen l) (by omega) h4
  rw [e1, e2]
  rfl
theorem trunc_ref {size : Int} {ps : List Part} {x y : Int} (hm : bodyMay size ps = true) (hy : size ≤ y) : withoutR x y ps = ps.filterMap fun p => aheadP p x := by
  obtain ⟨_, h4⟩ := bodyMay_chain.1 hm
  have hM := chain_mem h4
  clear h4 hm
  unfold withoutR
  induction ps with
  | nil => rfl
  | cons p ps ih =>
    obtain ⟨h1, h2, h3⟩ := hM p (List.mem_cons_self ..)
    have e : behindP p y = none := by unfold behindP; rw [if_pos (by omega)]
    rw [List.flatMap_cons, List.filterMap_cons, ih fun q hq => hM q (List.mem_cons_of_mem _ hq), e]
    cases aheadP p x <;> rfl
end Go.Proofs.Ytpnfgnddlfkfaaa
