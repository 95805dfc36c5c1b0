/-
  The reference's eye: 'REyeAt w g st'; st: what is left; none: it is bad. It reads as the program's eye does.
-/
import Derived.Test.YtlgkcpgbmobacaaPenTurn
set_option linter.unusedSimpArgs false
set_option linter.unusedVariables false
namespace Go.Proofs.Ytlgkcpgbmobacaa
open Go.RowKit

def REyeAt (w : World) (g : Nat) (st : Option (List UInt8)) : Prop :=
  ∃ A n c, Blk w g 42 #[.slice A n c, .bool st.isNone] ∧ ∀ l, st = some l → l.length = n ∧ n ≤ c ∧ RB w A l

/-- bytes that are read lie in no eye -/
theorem RB.keep {w w' : World} {g B : Nat} {e : TypeId} {B' : Option Addr} {n c : Nat} {b : Bool} {A : Option Addr} {l : List UInt8} (h : RB w A l) (hb : Blk w g e #[.slice B' n c, .bool b]) (hk : Kept g B w w') (hB : w.heap.size ≤ B) : RB w' A l := by
  by_cases hl : 0 < l.length
  · obtain ⟨ad, rfl⟩ := h.some_of hl
    obtain ⟨b', off, rfl, hc⟩ := h.lit_of hl
    have hne : b' ≠ g := by
      intro e1
      subst e1
      have h0 := hc 0 hl
      rw [hb.cell] at h0
      match off, h0 with
      | 0, h0 => simp at h0
      | 1, h0 => simp at h0
      | k + 2, h0 => simp at h0
    intro j v hj
    refine ⟨_, rfl, ?_⟩
    obtain ⟨ad', e1, hcell⟩ := h j v hj
    cases e1
    have hlt := block_lt_of_cell hcell
    have hk : w'.heap[((⟨b', off, none⟩ : Addr).add j).block]? = w.heap[((⟨b', off, none⟩ : Addr).add j).block]? :=
      hk.block _ (by omega) (by rw [add_block]; exact hne)
    exact (World.cell?_of_block hk).trans hcell
  · have : l = [] := List.eq_nil_of_length_eq_zero (by omega)
    subst this
    exact RB.nil _ _
theorem REyeAt.lt {w : World} {g : Nat} {st : Option (List UInt8)} (h : REyeAt w g st) : g < w.heap.size := by
  obtain ⟨_, _, _, h, _⟩ := h; exact h.lt
theorem EyeAt.lt {w : World} {g : Nat} {st : Option (List UInt8)} (h : EyeAt w g st) : g < w.heap.size := by
  cases st with
  | none => exact Blk.lt h
  | some l => obtain ⟨_, _, h, _⟩ := h; exact h.lt
theorem EyeAt.blk {w : World} {g : Nat} {st : Option (List UInt8)} (h : EyeAt w g st) : ∃ A n c b, Blk w g 89 #[.slice A n c, .bool b] := by
  cases st with
  | none => exact ⟨_, _, _, _, h⟩
  | some l => obtain ⟨_, _, h, _⟩ := h; exact ⟨_, _, _, _, h⟩
/-- two eyes: what one reads leaves the other -/
theorem REyeAt.keep {w w' : World} {g g' : Nat} {st st' : Option (List UInt8)} (h : REyeAt w g st) (h' : EyeAt w g' st') (hk : Kept g' w.heap.size w w') (hne : g ≠ g') : REyeAt w' g st := by
  obtain ⟨A, n, c, h1, h2⟩ := h
  obtain ⟨A', n', c', b', h3⟩ := h'.blk
  refine ⟨A, n, c, h1.keep hk h1.lt hne, fun l e => ?_⟩
  obtain ⟨k1, k2, k3⟩ := h2 l e
  exact ⟨k1, k2, k3.keep h3 hk (Nat.le_refl _)⟩
theorem EyeAt.keep2 {w w' : World} {g g' : Nat} {st st' : Option (List UInt8)} (h : EyeAt w g st) (h' : REyeAt w g' st') (hk : Kept g' w.heap.size w w') (hne : g ≠ g') : EyeAt w' g st := by
  obtain ⟨A', n', c', h3, _⟩ := h'
  cases st with
  | none => exact Blk.keep h hk (Blk.lt h) hne
  | some l =>
    obtain ⟨A, c, h1, h2, h4⟩ := h
    exact ⟨A, c, h1.keep hk h1.lt hne, h2, h4.keep h3 hk (Nat.le_refl _)⟩

set_option maxRecDepth 100000 in
set_option maxHeartbeats 2000000 in
theorem ref_eye_byte (g : Nat) (st : Option (List UInt8)) (w : World) (h : REyeAt w g st) :
    Calls Try.prog 23 #[.pointer (some ⟨g, 0, none⟩)] w fun e w' => e = .returned (.int .u8 ((eByte st).1.toNat : Int)) ∧ REyeAt w' g (eByte st).2 ∧ Kept g w.heap.size w w' := by
  obtain ⟨A, n, c, hb, hst⟩ := h
  have f0 := hb.frozen 0
  have f1 := hb.frozen 1
  match st, hb, hst with
  | none, hb, hst =>
    have c0 : w.cell? ⟨g, 0, none⟩ = some (.slice A n c) := hb.cell 0
    have c1 : w.cell? ⟨g, 1, none⟩ = some (.bool true) := hb.cell 1
    clear hst
    go_enter Try.func23, Try.ntmps23
    go_wp2
    go_ret
    exact ⟨rfl, ⟨A, n, c, hb.set 1 _, by simp [eByte]⟩, (Kept.refl g _ w).setCell 1 _⟩
  | some [], hb, hst =>
    obtain ⟨h1, h2, h3⟩ := hst _ rfl
    simp only [List.length_nil] at h1
    subst h1
    have c0 : w.cell? ⟨g, 0, none⟩ = some (.slice A 0 c) := hb.cell 0
    have c1 : w.cell? ⟨g, 1, none⟩ = some (.bool false) := hb.cell 1
    clear hst
    go_enter Try.func23, Try.ntmps23
    go_wp2
    go_ret
    exact ⟨rfl, ⟨A, 0, c, hb.set 1 _, by simp [eByte]⟩, (Kept.refl g _ w).setCell 1 _⟩
  | some (x :: l), hb, hst =>
    obtain ⟨h1, h2, h3⟩ := hst _ rfl
    obtain ⟨ad, rfl⟩ := h3.some_of (by simp)
    obtain ⟨bk, off, rfl, hcell⟩ := h3.lit_of (by simp)
    have x0 := hcell 0 (by simp)
    rw [Nat.add_zero] at x0
    simp only [List.getElem_cons_zero] at x0
    have c0 : w.cell? ⟨g, 0, none⟩ = some (.slice (some ⟨bk, off, none⟩) n c) := hb.cell 0
    have c1 : w.cell? ⟨g, 1, none⟩ = some (.bool false) := hb.cell 1
    have hn : 0 < n := by rw [← h1]; simp
    have hnl : n = l.length + 1 := by rw [← h1]; simp
    obtain ⟨A3, hcut, hdr, _⟩ := cut_from (P := Try.prog) 24 5 Try.underlying24 size_u8 (some ⟨bk, off, none⟩) n c 1 (by omega) (by omega)
    have hr3 := hdr w _ (by rw [List.length_map, h1]; exact h2) h3
    rw [show (1 : Int).toNat = 1 from rfl] at hcut hr3
    have hr4 : RB w A3 l := by simpa [RB] using hr3
    have hR := RB.not_eye hr4 hb 0 (.slice A3 (n - 1) (c - 1))
    have HNL := Lib.hid hnl
    clear hst hcell h1 hdr hr3 hnl
    go_enter Try.func23, Try.ntmps23
    go_wp2
    go_ret
    refine ⟨rfl, ⟨A3, n - 1, c - 1, hb.set 0 _, fun l' e => ?_⟩, (Kept.refl g _ w).setCell 0 _⟩
    have : l = l' := Option.some.inj e
    subst this
    have := HNL.out
    exact ⟨by omega, by omega, hR⟩

set_option maxRecDepth 100000 in
set_option maxHeartbeats 2000000 in
theorem ref_eye_left (g : Nat) (st : Option (List UInt8)) (w : World) (h : REyeAt w g st) :
    Calls Try.prog 29 #[.pointer (some ⟨g, 0, none⟩)] w fun e w' => e = .returned (.int .i64 (left st : Int)) ∧ w = w' := by
  obtain ⟨A, n, c, hb, hst⟩ := h
  have c0 : w.cell? ⟨g, 0, none⟩ = some (.slice A n c) := hb.cell 0
  cases st with
  | none =>
    have c1 : w.cell? ⟨g, 1, none⟩ = some (.bool true) := hb.cell 1
    clear hst
    go_enter Try.func29, Try.ntmps29
    go_wp2
    go_ret
    exact ⟨rfl, rfl⟩
  | some l =>
    have c1 : w.cell? ⟨g, 1, none⟩ = some (.bool false) := hb.cell 1
    obtain ⟨h1, h2, h3⟩ := hst _ rfl
    subst h1
    clear hst
    go_enter Try.func29, Try.ntmps29
    go_wp2
    go_ret
    exact ⟨rfl, rfl⟩

theorem eNumGo_next (k q n : Nat) (b : UInt8) (l : List UInt8) : eNumGo (k + 1) q n (some (b :: l)) = (if 128 ≤ b.toNat then eNumGo k (q + 1) (n + b.toNat % 128 * 2 ^ (7 * q)) (some l)
    else if 4611686018427387904 < n + b.toNat % 128 * 2 ^ (7 * q) ∨ (b.toNat = 0 ∧ 0 < q) then (0, none)
    else (n + b.toNat % 128 * 2 ^ (7 * q), some l)) := rfl
theorem next_lt (n q : Nat) (b : UInt8) (h : n < 2 ^ (7 * q)) : n + b.toNat % 128 * 2 ^ (7 * q) < 2 ^ (7 * (q + 1)) := by
  have hx : b.toNat % 128 < 128 := Nat.mod_lt _ (by omega)
  rw [show 7 * (q + 1) = 7 * q + 7 by omega, Nat.pow_add]
  generalize 2 ^ (7 * q) = P at *
  have : b.toNat % 128 * P ≤ 127 * P := Nat.mul_le_mul_right _ (by omega)
  omega
/-- how the reference parts the cases of a number's next byte -/
theorem eNumGo_ref (k q n : Nat) (b : UInt8) (l : List UInt8) (hkq : k + 1 + q = 9) (hn : n < 2 ^ (7 * q)) :
    eNumGo (k + 1) q n (some (b :: l)) = if (q = 8 ∧ 64 < b.toNat) ∨ (q = 8 ∧ b.toNat = 64 ∧ 0 < n) ∨ (0 < q ∧ b.toNat = 0) then (0, none)
      else if b.toNat < 128 then (n + b.toNat % 128 * 2 ^ (7 * q), some l) else eNumGo k (q + 1) (n + b.toNat % 128 * 2 ^ (7 * q)) (some l) := by
  rw [eNumGo_next]
  by_cases hq : q = 8
  · subst hq
    obtain rfl : k = 0 := by omega
    by_cases h1 : 64 < b.toNat
    · by_cases hc : 128 ≤ b.toNat
      · rw [if_pos hc, if_pos (.inl ⟨rfl, h1⟩)]
        rfl
      · rw [if_neg hc, if_pos (c := (8 = 8 ∧ 64 < b.toNat) ∨ (8 = 8 ∧ b.toNat = 64 ∧ 0 < n) ∨ (0 < 8 ∧ b.toNat = 0)) (.inl ⟨rfl, h1⟩)]
        have : b.toNat % 128 = b.toNat := Nat.mod_eq_of_lt (by omega)
        rw [this, if_pos (by omega)]
    · rw [if_neg (by omega)]
      have : b.toNat % 128 = b.toNat := Nat.mod_eq_of_lt (by omega)
      rw [this] at *
      by_cases h2 : (b.toNat = 64 ∧ 0 < n) ∨ b.toNat = 0
      · rw [if_pos (by omega), if_pos (by omega)]
      · rw [if_neg (by omega), if_neg (by omega), if_pos (by omega)]
  · have hlt := next_lt n q b hn
    have hp : 2 ^ (7 * (q + 1)) ≤ 72057594037927936 := pow_le (q + 1) (by omega)
    by_cases h0 : 0 < q ∧ b.toNat = 0
    · rw [if_neg (by omega), if_pos (by omega), if_pos (by omega)]
    · rw [if_neg (c := (q = 8 ∧ 64 < b.toNat) ∨ (q = 8 ∧ b.toNat = 64 ∧ 0 < n) ∨ (0 < q ∧ b.toNat = 0)) (by omega)]
      by_cases h1 : b.toNat < 128
      · rw [if_neg (by omega), if_pos h1, if_neg (by omega)]
      · rw [if_pos (by omega), if_neg h1]

/-- what the reference's walk spells for the next seven bits -/
theorem sum_bits (n q : Nat) (b : UInt8) (hq : q ≤ 8) (h : n < 2 ^ (7 * q)) :
    wrap64 ((n : Int) + wrap64 (wrap64 (bits .and .u8 (b.toNat : Int) 127) * 2 ^ (7 * q))) = ((n + b.toNat % 128 * 2 ^ (7 * q) : Nat) : Int) := by
  rw [and_127]
  have hp := pow_le q hq
  have hpow : (2 : Int) ^ (7 * q) = ((2 ^ (7 * q) : Nat) : Int) := by simp
  rw [hpow]
  generalize hP : 2 ^ (7 * q) = P at *
  have hx : b.toNat % 128 < 128 := Nat.mod_lt _ (by omega)
  generalize b.toNat % 128 = x at *
  have hm : x * P ≤ 127 * P := Nat.mul_le_mul_right _ (by omega)
  have e1 : wrap64 (x : Int) = (x : Int) := by unfold wrap64; omega
  have e2 : wrap64 ((x : Int) * (P : Int)) = ((x * P : Nat) : Int) := by
    rw [← Int.natCast_mul]
    generalize x * P = y at *
    unfold wrap64
    omega
  rw [e1, e2]
  generalize x * P = y at *
  unfold wrap64
  omega

set_option maxRecDepth 100000 in
set_option maxHeartbeats 4000000 in
theorem ref_eye_num (g : Nat) (st : Option (List UInt8)) (w : World) (h : REyeAt w g st) :
    Calls Try.prog 24 #[.pointer (some ⟨g, 0, none⟩)] w fun e w' => e = .returned (.int .i64 ((eNum st).1 : Int)) ∧ REyeAt w' g (eNum st).2 ∧ Kept g w.heap.size w w' := by
  have hres : ∃ r, eNum st = r := ⟨_, rfl⟩
  obtain ⟨r, hres⟩ := hres
  rw [hres]
  have HRES := Lib.hid hres
  clear hres
  go_enter Try.func24, Try.ntmps24
  go_wp2
  go_loopw [3, 4] (fun z i wr => ∃ (k q n : Nat) (st' : Option (List UInt8)), k + q = 9 ∧ q ≤ 8 ∧ i = .int .i64 (q : Int) ∧ z = .int .i64 (n : Int) ∧ REyeAt wr g st' ∧ Hid (eNumGo k q n st' = r) ∧ Hid (n < 2 ^ (7 * q)) ∧ Kept g w.heap.size w wr) (fun _ i _ => 9 - (intOf i).toNat)
  case atStart => exact ⟨9, 0, 0, st, rfl, by omega, rfl, rfl, h, HRES, (show 0 < 2 ^ (7 * 0) by decide), Kept.refl _ _ _⟩
  case round =>
    obtain ⟨k, q, n, st', hkq, hq8, rfl, rfl, he, hr, hn, hk⟩ := hrel
    clear h HRES
    obtain ⟨k, rfl⟩ : ∃ j, k = j + 1 := ⟨k - 1, by omega⟩
    have hcase : (∃ b l, st' = some (b :: l)) ∨ (eByte st' = (0, none) ∧ eNumGo (k + 1) q n st' = (0, none)) := by
      match st' with
      | none => exact .inr ⟨rfl, rfl⟩
      | some [] => exact .inr ⟨rfl, rfl⟩
      | some (b :: l) => exact .inl ⟨b, l, rfl⟩
    rcases hcase with ⟨b, l, rfl⟩ | ⟨e1, e2⟩
    · have hlt' := next_lt n q b hn.out
      have hgo := eNumGo_ref k q n b l hkq hn.out
      rw [hr.out] at hgo
      have hb8 := b.toNat_lt
      have e1 : eByte (some (b :: l)) = (b, some l) := rfl
      have HE := Lib.hid e1
      clear e1
      by_cases hbad : (q = 8 ∧ 64 < b.toNat) ∨ (q = 8 ∧ b.toNat = 64 ∧ 0 < n) ∨ (0 < q ∧ b.toNat = 0)
      · rw [if_pos hbad] at hgo
        subst hgo
        clear hr hn hlt' hkq
        have hb2 : (q = 8 ∧ 64 < b.toNat ∧ b.toNat ≠ 64) ∨ (q = 8 ∧ b = 64 ∧ 0 < n) ∨ (q = 8 ∧ b = 0) ∨ (q ≠ 8 ∧ 0 < q ∧ b = 0) := by
          have hz : ∀ m : UInt8, b.toNat = m.toNat → b = m := fun m h => UInt8.toNat_inj.1 h
          rcases hbad with h | h | h
          · left; omega
          · right; left; exact ⟨h.1, hz 64 h.2.1, h.2.2⟩
          · by_cases h8 : q = 8
            · right; right; left; exact ⟨h8, hz 0 h.2⟩
            · right; right; right; exact ⟨h8, h.1, hz 0 h.2⟩
        clear hbad
        rcases hb2 with ⟨rfl, h1, h2⟩ | ⟨rfl, rfl, h1⟩ | ⟨rfl, rfl⟩ | ⟨h1, h2, rfl⟩
        · have t1 : (64 : Int) < (b.toNat : Int) := by omega
          go_wp2_with fail
          refine (ref_eye_byte g _ wr he).mono ?_
          rintro e w1 ⟨rfl, h1, hk1⟩
          rw [HE.out] at h1 ⊢
          obtain ⟨A1, n1, c1, hB1, hs1⟩ := h1
          have f1 := hB1.frozen 1
          have x1 : w1.cell? ⟨g, 1, none⟩ = some (.bool false) := hB1.cell 1
          clear hs1
          go_wp2
          go_ret
          exact ⟨rfl, ⟨A1, n1, c1, hB1.set 1 _, by simp⟩, (hk.trans (hk1.mono hk.size)).setCell 1 _⟩
        · have t1 : (0 : Int) < (n : Int) := by omega
          clear h1 hb8
          go_wp2_with fail
          refine (ref_eye_byte g _ wr he).mono ?_
          rintro e w1 ⟨rfl, h1, hk1⟩
          rw [HE.out] at h1 ⊢
          rw [show (((64 : UInt8).toNat : Nat) : Int) = 64 from rfl]
          obtain ⟨A1, n1, c1, hB1, hs1⟩ := h1
          have f1 := hB1.frozen 1
          have x1 : w1.cell? ⟨g, 1, none⟩ = some (.bool false) := hB1.cell 1
          clear hs1
          go_wp2
          go_ret
          exact ⟨rfl, ⟨A1, n1, c1, hB1.set 1 _, by simp⟩, (hk.trans (hk1.mono hk.size)).setCell 1 _⟩
        · clear hb8
          go_wp2_with fail
          refine (ref_eye_byte g _ wr he).mono ?_
          rintro e w1 ⟨rfl, h1, hk1⟩
          rw [HE.out] at h1 ⊢
          rw [show (((0 : UInt8).toNat : Nat) : Int) = 0 from rfl]
          obtain ⟨A1, n1, c1, hB1, hs1⟩ := h1
          have f1 := hB1.frozen 1
          have x1 : w1.cell? ⟨g, 1, none⟩ = some (.bool false) := hB1.cell 1
          clear hs1
          go_wp2
          go_ret
          exact ⟨rfl, ⟨A1, n1, c1, hB1.set 1 _, by simp⟩, (hk.trans (hk1.mono hk.size)).setCell 1 _⟩
        · have t1 : (0 : Int) < (q : Int) := by omega
          have t2 : ((q : Int) == 8) = false := beq_eq_false_iff_ne.2 (by omega)
          clear h1 h2 hb8
          go_wp2_with fail
          refine (ref_eye_byte g _ wr he).mono ?_
          rintro e w1 ⟨rfl, h1, hk1⟩
          rw [HE.out] at h1 ⊢
          rw [show (((0 : UInt8).toNat : Nat) : Int) = 0 from rfl]
          obtain ⟨A1, n1, c1, hB1, hs1⟩ := h1
          have f1 := hB1.frozen 1
          have x1 : w1.cell? ⟨g, 1, none⟩ = some (.bool false) := hB1.cell 1
          clear hs1
          go_wp2
          go_ret
          exact ⟨rfl, ⟨A1, n1, c1, hB1.set 1 _, by simp⟩, (hk.trans (hk1.mono hk.size)).setCell 1 _⟩
      · rw [if_neg hbad] at hgo
        have hsum := sum_bits n q b hq8 hn.out
        by_cases hlt : b.toNat < 128
        · rw [if_pos hlt] at hgo
          subst hgo
          have hc : (q ≠ 8 ∧ b.toNat ≠ 0) ∨ (q = 0 ∧ b = 0) ∨ (q = 8 ∧ b.toNat < 64 ∧ b.toNat ≠ 0) ∨ (q = 8 ∧ b = 64 ∧ n = 0) := by
            have hz : ∀ m : UInt8, b.toNat = m.toNat → b = m := fun m h => UInt8.toNat_inj.1 h
            by_cases h8 : q = 8
            · by_cases h64 : b.toNat = 64
              · right; right; right; exact ⟨h8, hz 64 h64, by omega⟩
              · right; right; left; omega
            · by_cases h0 : b.toNat = 0
              · right; left; exact ⟨by omega, hz 0 h0⟩
              · left; omega
          have HS := Lib.hid hsum
          clear hsum hbad hlt' hr
          rcases hc with ⟨h1, h2⟩ | ⟨rfl, rfl⟩ | ⟨rfl, h1, h2⟩ | ⟨rfl, rfl, rfl⟩
          · have t1 : ((q : Int) == 8) = false := beq_eq_false_iff_ne.2 (by omega)
            have t2 : ((b.toNat : Int) == 0) = false := beq_eq_false_iff_ne.2 (by omega)
            have t3 : (b.toNat : Int) < 128 := by omega
            have t4 : ¬ (8 : Int) < (q : Int) := by omega
            clear h1 h2
            go_wp2_with fail
            refine (ref_eye_byte g _ wr he).mono ?_
            rintro e w1 ⟨rfl, h1, hk1⟩
            rw [HE.out] at h1 ⊢
            have h1' := h1
            obtain ⟨A1, n1, c1, hB1, hs1⟩ := h1
            have x1 : w1.cell? ⟨g, 1, none⟩ = some (.bool false) := hB1.cell 1
            clear hs1
            go_wp2
            all_goals go_ret
            all_goals exact ⟨ret_int HS.out, h1', hk.trans (hk1.mono hk.size)⟩
          · have hn0 : n = 0 := by have := hn.out; simp at this; omega
            subst hn0
            go_wp2_with fail
            refine (ref_eye_byte g _ wr he).mono ?_
            rintro e w1 ⟨rfl, h1, hk1⟩
            rw [HE.out] at h1 ⊢
            rw [show (((0 : UInt8).toNat : Nat) : Int) = 0 from rfl]
            have h1' := h1
            obtain ⟨A1, n1, c1, hB1, hs1⟩ := h1
            have x1 : w1.cell? ⟨g, 1, none⟩ = some (.bool false) := hB1.cell 1
            clear hs1
            go_wp2
            go_ret
            refine ⟨ret_int ?_, h1', hk.trans (hk1.mono hk.size)⟩
            decide +kernel
          · have t2 : ((b.toNat : Int) == 0) = false := beq_eq_false_iff_ne.2 (by omega)
            have t3 : (b.toNat : Int) < 128 := by omega
            have t4 : ¬ (64 : Int) < (b.toNat : Int) := by omega
            have t5 : ((b.toNat : Int) == 64) = false := beq_eq_false_iff_ne.2 (by omega)
            clear h1 h2
            go_wp2_with fail
            refine (ref_eye_byte g _ wr he).mono ?_
            rintro e w1 ⟨rfl, h1, hk1⟩
            rw [HE.out] at h1 ⊢
            have h1' := h1
            obtain ⟨A1, n1, c1, hB1, hs1⟩ := h1
            have x1 : w1.cell? ⟨g, 1, none⟩ = some (.bool false) := hB1.cell 1
            clear hs1
            go_wp2
            go_ret
            refine ⟨ret_int ?_, h1', hk.trans (hk1.mono hk.size)⟩
            simpa using HS.out
          · go_wp2_with fail
            refine (ref_eye_byte g _ wr he).mono ?_
            rintro e w1 ⟨rfl, h1, hk1⟩
            rw [HE.out] at h1 ⊢
            rw [show (((64 : UInt8).toNat : Nat) : Int) = 64 from rfl]
            have h1' := h1
            obtain ⟨A1, n1, c1, hB1, hs1⟩ := h1
            have x1 : w1.cell? ⟨g, 1, none⟩ = some (.bool false) := hB1.cell 1
            clear hs1
            go_wp2
            go_ret
            refine ⟨ret_int ?_, h1', hk.trans (hk1.mono hk.size)⟩
            decide +kernel
        · rw [if_neg hlt] at hgo
          have t6 : q + 1 ≤ 8 := by omega
          have t1 : ((q : Int) == 8) = false := beq_eq_false_iff_ne.2 (by omega)
          have t2 : ((b.toNat : Int) == 0) = false := beq_eq_false_iff_ne.2 (by omega)
          have t3 : (128 : Int) ≤ (b.toNat : Int) := by omega
          have t4 : ¬ (8 : Int) < (q : Int) := by omega
          generalize hm : n + b.toNat % 128 * 2 ^ (7 * q) = m at *
          have HGO := Lib.hid hgo
          have HS := Lib.hid hsum
          have HM := Lib.hid hlt'
          clear hgo hbad hm hsum hlt'
          go_wp2_with fail
          refine (ref_eye_byte g _ wr he).mono ?_
          rintro e w1 ⟨rfl, h1, hk1⟩
          rw [HE.out] at h1 ⊢
          obtain ⟨A1, n1, c1, hB1, hs1⟩ := h1
          have x1 : w1.cell? ⟨g, 1, none⟩ = some (.bool false) := hB1.cell 1
          have hs2 := hs1 l rfl
          clear hs1
          go_wp2
          all_goals go_roundw
          all_goals first
            | exact ⟨k, q + 1, m, some l, by omega, t6, by go_num, by rw [HS.out], ⟨A1, n1, c1, hB1, by intro l' e; cases e; exact hs2⟩, HGO.out.symm, HM.out, hk.trans (hk1.mono hk.size)⟩
            | (simp [intOf]; try omega)
    · have HE := Lib.hid e1
      rw [hr.out] at e2
      subst e2
      clear hr hn e1
      go_wp2_with fail
      refine (ref_eye_byte g _ wr he).mono ?_
      rintro e w1 ⟨rfl, h1, hk1⟩
      rw [HE.out] at h1 ⊢
      obtain ⟨A1, n1, c1, hB1, hs1⟩ := h1
      have f1 := hB1.frozen 1
      have x1 : w1.cell? ⟨g, 1, none⟩ = some (.bool true) := hB1.cell 1
      clear hs1
      go_wp2
      go_ret
      exact ⟨rfl, ⟨A1, n1, c1, hB1.set 1 _, by simp⟩, (hk.trans (hk1.mono hk.size)).setCell 1 _⟩
end Go.Proofs.Ytlgkcpgbmobacaa
