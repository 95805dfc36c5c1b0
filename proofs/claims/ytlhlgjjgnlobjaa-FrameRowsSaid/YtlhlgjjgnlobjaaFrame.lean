/-
  The contracts of package frame.
-/
import Derived.Test.YtlhlgjjgnlobjaaSlices
import Derived.Test.YtlhlgjjgnlobjaaCrc
import Derived.Test.YtlhlgjjgnlobjaaFrameMath
set_option linter.unusedSimpArgs false
set_option linter.unusedVariables false
namespace Go.Proofs.Ytlhlgjjgnlobjaa
open Go.RowKit

set_option maxHeartbeats 400000 in
theorem frame_size (n : Int) (h0 : -9223372036854775808 ≤ n) (h1 : n ≤ 9223372036854775807) (w : World) :
    Calls Try.prog 23 #[.int .i64 n] w fun e w' => e = .returned (.int .i64 (Frame.size n)) ∧ w = w' := by
  unfold Frame.size
  by_cases c1 : n < 1
  · rw [if_pos c1]
    go_enter Try.func23, Try.ntmps23
    go_wp2
    go_ret
    exact ⟨rfl, rfl⟩
  · rw [if_neg c1]
    by_cases c2 : 16384 < n
    · rw [if_pos c2]
      go_enter Try.func23, Try.ntmps23
      go_wp2
      go_ret
      exact ⟨rfl, rfl⟩
    · rw [if_neg c2]
      go_enter Try.func23, Try.ntmps23
      go_wp2
      go_ret
      exact ⟨ret_int (by omega), rfl⟩

/-- four bytes as the walks below take them -/
theorem crc_four (c : Crc.W) (n : Int) (hn : n = (c.toNat : Int)) (w : World) :
    Calls Try.prog 19 #[.int .u32 n] w fun e w' => ∃ A cap, e = .returned (.slice A 4 cap) ∧ 4 ≤ cap ∧ RB w' A (Crc.four c) ∧ Below w.heap.size w w' :=
  (crc_bytes c n hn w).mono fun e w' ⟨v, he, ho, hb⟩ => by
    obtain ⟨A, cap, rfl, hc, hr⟩ := ho.bytes
    exact ⟨A, cap, he, hc, hr, hb⟩

theorem or_step (n s : Nat) (b : UInt8) (hn : n < 2 ^ s) (hs : s ≤ 24) : bits .or .i64 (n : Int) ((b.toNat * 2 ^ s : Nat) : Int) = ((n + b.toNat * 2 ^ s : Nat) : Int) := by
  have hb := b.toNat_lt
  have h24 : (2 : Nat) ^ s ≤ 2 ^ 24 := Nat.pow_le_pow_right (by omega) hs
  have hprod : b.toNat * 2 ^ s ≤ 255 * 2 ^ 24 := Nat.mul_le_mul (by omega) h24
  have hor : n ||| (b.toNat * 2 ^ s) = n + b.toNat * 2 ^ s := by
    rw [Nat.or_comm, Nat.mul_comm, Nat.add_comm]
    exact (Nat.two_pow_add_eq_or_of_lt hn _).symm
  unfold bits
  simp only [IntKind.bits]
  show IntKind.wrap .i64 ((BitVec.ofInt 64 (n : Int) ||| BitVec.ofInt 64 ((b.toNat * 2 ^ s : Nat) : Int)).toNat : Int) = _
  have e : (BitVec.ofInt 64 (n : Int) ||| BitVec.ofInt 64 ((b.toNat * 2 ^ s : Nat) : Int)).toNat = n + b.toNat * 2 ^ s := by
    simp only [BitVec.ofInt_natCast, BitVec.toNat_or, BitVec.toNat_ofNat]
    rw [Nat.mod_eq_of_lt (by omega), Nat.mod_eq_of_lt (by omega), hor]
  rw [e, IntKind.wrap_i64]
  omega

def numTo (a b c d : UInt8) : Nat → Nat
  | 0 => 0
  | 1 => a.toNat
  | 2 => a.toNat + b.toNat * 256
  | 3 => a.toNat + b.toNat * 256 + c.toNat * 65536
  | _ => a.toNat + b.toNat * 256 + c.toNat * 65536 + d.toNat * 16777216
theorem le4_nat (a b c d : UInt8) : (Crc.le4 a b c d).toNat = numTo a b c d 4 := by
  have ha := a.toNat_lt
  have hb := b.toNat_lt
  have hc := c.toNat_lt
  have hd := d.toNat_lt
  have hN : numTo a b c d 4 < 2 ^ 32 := by simp only [numTo]; omega
  have h : Crc.le4 a b c d = BitVec.ofNat 32 (numTo a b c d 4) := by
    rw [← Crc.four_iff]
    unfold Crc.four
    rw [BitVec.toNat_ofNat, Nat.mod_eq_of_lt hN]
    simp only [numTo]
    have key : ∀ (x : UInt8) (n : Nat), n = x.toNat → UInt8.ofNat n = x := by rintro x n rfl; simp
    rw [key a _ (by omega), key b _ (by omega), key c _ (by omega), key d _ (by omega)]
  rw [h, BitVec.toNat_ofNat, Nat.mod_eq_of_lt hN]
theorem num_step (a b c d : UInt8) (k : Nat) (hk : k < 4) (y : UInt8) (hy : y = [a, b, c, d][k]) : bits .or .i64 (numTo a b c d k : Int) (wrap64 ((y.toNat : Int) * 2 ^ (8 * k))) = (numTo a b c d (k + 1) : Int) := by
  have ha := a.toNat_lt
  have hb := b.toNat_lt
  have hc := c.toNat_lt
  have hy8 := y.toNat_lt
  have e : wrap64 ((y.toNat : Int) * 2 ^ (8 * k)) = ((y.toNat * 2 ^ (8 * k) : Nat) : Int) := by
    have h24 : (2 : Nat) ^ (8 * k) ≤ 2 ^ 24 := Nat.pow_le_pow_right (by omega) (by omega)
    have hp : y.toNat * 2 ^ (8 * k) ≤ 255 * 2 ^ 24 := Nat.mul_le_mul (by omega) h24
    have hc : ((y.toNat * 2 ^ (8 * k) : Nat) : Int) = (y.toNat : Int) * 2 ^ (8 * k) := by simp
    rw [← hc]
    unfold wrap64
    omega
  rw [e, or_step _ _ _ ?_ (by omega)]
  · subst hy
    match k, hk with
    | 0, _ => simp [numTo]
    | 1, _ => simp [numTo]
    | 2, _ => simp [numTo]
    | 3, _ => simp [numTo]
  · match k, hk with
    | 0, _ => simp [numTo]
    | 1, _ => simp only [numTo]; omega
    | 2, _ => simp only [numTo]; omega
    | 3, _ => simp only [numTo]; omega
set_option maxRecDepth 100000 in
set_option maxHeartbeats 1000000 in
theorem frame_number (A : Option Addr) (m cap : Nat) (l : List UInt8) (w : World) (hm : l.length = m) (h4 : 4 ≤ l.length) (hl : l.length ≤ maxLen) (hr : RB w A l) :
    Calls Try.prog 29 #[.slice A m cap] w fun e w' => e = .returned (.int .i64 ((Frame.num l).toNat : Int)) ∧ w = w' := by
  subst hm
  unfold maxLen at hl
  obtain ⟨ad, rfl⟩ := hr.some_of (by omega)
  go_enter Try.func29, Try.ntmps29
  go_wp2
  go_loop [3, 5] (fun s i => ∃ k : Nat, k ≤ 4 ∧ i = .int .i64 k ∧ s = .int .i64 (numTo (l.getD 0 0) (l.getD 1 0) (l.getD 2 0) (l.getD 3 0) k : Nat)) (fun _ i => 4 - (intOf i).toNat)
  case atStart => exact ⟨0, by omega, rfl, rfl⟩
  case round =>
    obtain ⟨k, hk, rfl, rfl⟩ := hrel
    by_cases hlt : k < 4
    · have hc := hr.at_ k (by omega)
      have hb1 : ((l[k]'(by omega)).toNat : Int) < 256 := by have := (l[k]'(by omega)).toNat_lt; omega
      have hb0 : (0 : Int) ≤ ((l[k]'(by omega)).toNat : Int) := by omega
      generalize hy : l[k]'(by omega) = y at *
      have HY := Lib.hid hy
      clear hy
      generalize hnt : numTo (l.getD 0 0) (l.getD 1 0) (l.getD 2 0) (l.getD 3 0) k = nt at *
      have HNT := Lib.hid hnt
      clear hnt
      have hstep := num_step (l.getD 0 0) (l.getD 1 0) (l.getD 2 0) (l.getD 3 0) k hlt y (by
        rw [← HY.out]
        match k, hlt with
        | 0, _ => simp [List.getD_eq_getElem?_getD, List.getElem?_eq_getElem (show 0 < l.length by omega)]
        | 1, _ => simp [List.getD_eq_getElem?_getD, List.getElem?_eq_getElem (show 1 < l.length by omega)]
        | 2, _ => simp [List.getD_eq_getElem?_getD, List.getElem?_eq_getElem (show 2 < l.length by omega)]
        | 3, _ => simp [List.getD_eq_getElem?_getD, List.getElem?_eq_getElem (show 3 < l.length by omega)])
      rw [HNT.out] at hstep
      have HSTEP := Lib.hid hstep
      clear hstep
      go_wp2
      go_round
      case rel => exact ⟨k + 1, by omega, by go_num, by rw [HSTEP.out]⟩
      case measure => simp [intOf]; try omega
    · obtain rfl : k = 4 := by omega
      have hfin := le4_nat (l.getD 0 0) (l.getD 1 0) (l.getD 2 0) (l.getD 3 0)
      have HF := Lib.hid hfin
      clear hfin
      go_wp2
      go_ret
      exact ⟨ret_int (by rw [show Frame.num l = Crc.le4 (l.getD 0 0) (l.getD 1 0) (l.getD 2 0) (l.getD 3 0) from rfl, HF.out]; simp [List.getD_eq_getElem?_getD]), rfl⟩

set_option maxRecDepth 100000 in
set_option maxHeartbeats 1000000 in
theorem frame_make_bad (n : Int) (boot : Int) (hbl : -9223372036854775808 ≤ boot) (hbh : boot ≤ 9223372036854775807) (A : Option Addr) (m cap : Nat) (l : List UInt8) (w : World) (hm : l.length = m) (hl : l.length ≤ maxLen)
    (hbad : Frame.size l.length = 0 ∨ boot < 0 ∨ 2147483647 < boot) :
    Calls Try.prog 22 #[.int .u32 n, .int .i64 boot, .slice A m cap] w fun e w' => e = .returned (.tuple #[.slice none 0 0, .int .u32 0, .int .i64 1]) ∧ w = w' := by
  subst hm
  unfold maxLen at hl
  by_cases c1 : Frame.size l.length = 0
  · have c1b : (Frame.size (l.length : Int) == 0) = true := beq_iff_eq.2 c1
    clear c1 hbad
    go_enter Try.func22, Try.ntmps22
    go_wp2_with (go_at_call 23; refine (frame_size (l.length : Int) (by omega) (by omega) _).mono ?_; rintro e w1 ⟨rfl, rfl⟩)
    go_ret3
    exact ⟨rfl, rfl⟩
  · have c1b : (Frame.size (l.length : Int) == 0) = false := beq_eq_false_iff_ne.2 c1
    have hb2 : boot < 0 ∨ 2147483647 < boot := by rcases hbad with h | h; exact absurd h c1; exact h
    clear c1 hbad
    rcases hb2 with c2 | c2
    · go_enter Try.func22, Try.ntmps22
      go_wp2_with (go_at_call 23; refine (frame_size (l.length : Int) (by omega) (by omega) _).mono ?_; rintro e w1 ⟨rfl, rfl⟩)
      go_ret3
      exact ⟨rfl, rfl⟩
    · have c3 : ¬ boot < 0 := by omega
      go_enter Try.func22, Try.ntmps22
      go_wp2_with (go_at_call 23; refine (frame_size (l.length : Int) (by omega) (by omega) _).mono ?_; rintro e w1 ⟨rfl, rfl⟩)
      go_ret3
      exact ⟨rfl, rfl⟩

set_option maxRecDepth 100000 in
set_option maxHeartbeats 2000000 in
theorem frame_make_ok (last : Crc.W) (n : Int) (hn : n = (last.toNat : Int)) (boot : Crc.W) (bi : Int) (hbi : bi = (boot.toNat : Int)) (hb31 : boot.toNat < 2147483648) (A : Option Addr) (m cap : Nat) (l : List UInt8) (w : World) (hm : l.length = m) (h1 : 1 ≤ l.length) (h2 : l.length ≤ 16384) (hr : RB w A l) :
    Calls Try.prog 22 #[.int .u32 n, .int .i64 bi, .slice A m cap] w fun e w' => ∃ v, e = .returned (.tuple #[v, .int .u32 ((Crc.next last l).toNat : Int), .int .i64 0]) ∧ Own w' w.heap.size 5 v ((Frame.mk last boot l).map eb) ∧ Below w.heap.size w w' := by
  subst hn
  subst hbi
  subst hm
  have hsz : Frame.size (l.length : Int) = (l.length : Int) + 16 := by unfold Frame.size; rw [if_neg (by omega), if_neg (by omega)]
  have hlw : (l.length : Int) = ((BitVec.ofNat 32 l.length : Crc.W).toNat : Int) := by simp; omega
  have HLW := Lib.hid hlw
  clear hlw
  go_enter Try.func22, Try.ntmps22
  go_wp2_with fail
  refine (frame_size (l.length : Int) (by omega) (by omega) _).mono ?_
  rintro e w1 ⟨rfl, rfl⟩
  rw [hsz]
  have hne : ((l.length : Int) + 16 == 0) = false := beq_eq_false_iff_ne.2 (by omega)
  have HSZ := Lib.hid hsz
  clear hsz
  go_wp2_with fail
  refine (crc_four (BitVec.ofNat 32 l.length) _ HLW.out _).mono ?_
  rintro e w1 ⟨A1, c1, rfl, k1, r1, hb1⟩
  go_wp2_with fail
  refine (crc_four boot _ rfl _).mono ?_
  rintro e w2 ⟨A2, c2, rfl, k2, r2, hb2⟩
  have hrow : Rd (w2.alloc (.cells #[.slice A1 4 c1, .slice A2 4 c2] 22)) (some ⟨w2.heap.size, 0, none⟩) [.slice A1 4 c1, .slice A2 4 c2] := Rd.lit w2 _ _ _
  have hb3 := bal (Below.refl w2.heap.size w2) (.cells #[.slice A1 4 c1, .slice A2 4 c2] 22)
  have hare : AreB (w2.alloc (.cells #[.slice A1 4 c1, .slice A2 4 c2] 22)) [.slice A1 4 c1, .slice A2 4 c2] [Crc.four (BitVec.ofNat 32 l.length), Crc.four boot] :=
    AreB.cons ⟨A1, c1, rfl, k1, (r1.below hb2).below hb3⟩ (AreB.cons ⟨A2, c2, rfl, k2, r2.below hb3⟩ (AreB.nil _))
  have hb03 := bn (bn hb1 hb2) hb3
  go_wp2_with fail
  refine (concat_bytes _ 2 2 _ _ _ rfl hrow hare (by simp [Crc.four]) (by omega)).mono ?_
  rintro e w4 ⟨v4, rfl, ho4, hb4⟩
  have hhd : [Crc.four (BitVec.ofNat 32 l.length), Crc.four boot].flatten = Frame.head boot l := rfl
  rw [hhd] at ho4
  have hz2 := (bn hb1 hb2).size
  have hb04 := bn hb03 hb4
  obtain ⟨A4, c4, rfl, k4, r4⟩ := ho4.bytes
  have hh8 : (Frame.head boot l).length = 8 := rfl
  rw [hh8]
  rw [hh8] at ho4 k4
  clear hrow hare hb1 hb2 hb3 hb03 r1 r2
  go_wp2_with fail
  refine (crc_next last _ rfl A4 8 c4 (Frame.head boot l) _ rfl (by rw [hh8]; unfold maxLen; omega) r4).mono ?_
  rintro e w5 ⟨rfl, hb5⟩
  go_wp2_with fail
  refine (crc_four _ _ rfl _).mono ?_
  rintro e w6 ⟨A6, c6, rfl, k6, r6, hb6⟩
  have z4 := hb04.size
  have z5 := hb5.size
  have z6 := hb6.size
  have hown4 : Own w4 w.heap.size 5 (.slice A4 8 c4) ((Frame.head boot l).map eb) := ho4.lower (Nat.le_trans hz2 (by simp))
  obtain ⟨v7, w7, HR7, ho7, hb7, _⟩ := append_bytes w6 w.heap.size _ _ ((hown4.below hb5).below hb6) A6 4 c6 _ rfl r6 (by simp [hh8, Crc.four]) (by omega)
  have hb07 := (bn (bn hb04 hb5) hb6).trans hb7
  go_wp2_with (at_builtin; refine wpList_append_run rfl _ _ 22 22 rfl _ _ _ _ rfl rfl HR7.out ?_)
  refine (crc_next last _ rfl A l.length cap l _ rfl (by unfold maxLen; omega) (hr.below hb07)).mono ?_
  rintro e w8 ⟨rfl, hb8⟩
  have z7 := hb07.size
  have z8 := hb8.size
  obtain ⟨v9, w9, HR9, ho9, hb9, _⟩ := append_bytes w8 w.heap.size _ _ (ho7.below hb8) A l.length cap l rfl (hr.below (bn hb07 hb8)) (by simp [hh8, Crc.four]; omega) (by omega)
  have hb09 := (bn hb07 hb8).trans hb9
  go_wp2_with (at_builtin; refine wpList_append_run rfl _ _ 22 22 rfl _ _ _ _ rfl rfl HR9.out ?_)
  refine (crc_four _ _ rfl _).mono ?_
  rintro e w10 ⟨A10, c10, rfl, k10, r10, hb10⟩
  have z9 := hb09.size
  have z10 := hb10.size
  obtain ⟨v11, w11, HR11, ho11, hb11, _⟩ := append_bytes w10 w.heap.size _ _ (ho9.below hb10) A10 4 c10 _ rfl r10 (by simp [hh8, Crc.four]; omega) (by omega)
  go_wp2_with (at_builtin; refine wpList_append_run rfl _ _ 22 22 rfl _ _ _ _ rfl rfl HR11.out ?_)
  go_ret3
  exact ⟨_, rfl, ho11, (bn hb09 hb10).trans hb11⟩

/-- what Read answers -/
def ReadPost (last : Crc.W) (l : List UInt8) (w : World) (e : Ending) (w' : World) : Prop :=
  Below w.heap.size w w' ∧ match Frame.read last l with
  | none => e = .returned (.tuple #[.slice none 0 0, .int .i64 0, .int .u32 0, .bool false])
  | some (x, boot, next) => ∃ v, e = .returned (.tuple #[v, .int .i64 (boot.toNat : Int), .int .u32 (next.toNat : Int), .bool true]) ∧ Own w' w.heap.size 5 v (x.map eb)

theorem number_quiet (A : Option Addr) (m cap : Nat) (l : List UInt8) (w : World) (hm : l.length = m) (h4 : 4 ≤ l.length) (hl : l.length ≤ maxLen) (hr : RB w A l) :
    Calls Try.prog 29 #[.slice A m cap] w fun e w' => e = .returned (.int .i64 ((Frame.num l).toNat : Int)) ∧ w' = w :=
  (frame_number A m cap l w hm h4 hl hr).mono fun e w' ⟨h, hw⟩ => ⟨h, hw.symm⟩

theorem ReadPost.none_ {last : Crc.W} {l : List UInt8} {w w' : World} (hb : Below w.heap.size w w') (h : Frame.read last l = none) : ReadPost last l w (.returned (.tuple #[.slice none 0 0, .int .i64 0, .int .u32 0, .bool false])) w' := by
  unfold ReadPost; rw [h]; exact ⟨hb, rfl⟩
theorem ReadPost.some_ {last : Crc.W} {l x : List UInt8} {w w' : World} {boot next : Crc.W} {v : Value} (hb : Below w.heap.size w w') (h : Frame.read last l = some (x, boot, next)) (ho : Own w' w.heap.size 5 v (x.map eb)) :
    ReadPost last l w (.returned (.tuple #[v, .int .i64 (boot.toNat : Int), .int .u32 (next.toNat : Int), .bool true])) w' := by
  unfold ReadPost; rw [h]; exact ⟨hb, v, rfl, ho⟩

set_option maxRecDepth 100000 in
set_option maxHeartbeats 2000000 in
theorem frame_read (last : Crc.W) (n : Int) (hn : n = (last.toNat : Int)) (A : Option Addr) (m cap : Nat) (l : List UInt8) (w : World) (hm : l.length = m) (hl : l.length ≤ 140737488355328) (hc : l.length ≤ cap) (hr : RB w A l) :
    Calls Try.prog 25 #[.int .u32 n, .slice A m cap] w (ReadPost last l w) := by
  subst hn
  subst hm
  by_cases c12 : l.length < 12
  · have hread : Frame.read last l = none := by unfold Frame.read; rw [if_pos c12]
    have HREAD := Lib.hid hread
    clear hread
    go_enter Try.func25, Try.ntmps25
    go_wp2
    refine bodyPost_ret (results_tmp4 rfl _ _ _) rfl ?_
    exact ReadPost.none_ (Below.refl _ _) HREAD.out
  · obtain ⟨A', hfrom, hdrop, _⟩ := cut_from (P := Try.prog) 22 5 Try.underlying22 size_u8 A l.length cap 4 (by omega) (by omega)
    have hdropB : ∀ w', RB w' A l → RB w' A' (l.drop 4) := fun w' h => by have := hdrop _ _ (by simpa using hc) h; simpa [RB, List.map_drop] using this
    have hl4 : (l.drop 4).length = l.length - 4 := by simp
    have HL4 := Lib.hid hl4
    clear hl4 hdrop
    go_enter Try.func25, Try.ntmps25
    go_wp2
    go_quiet (first | ((go_at_call 29; with_reducible exact Calls.quiet_of_same (number_quiet A l.length cap l _ rfl (by omega) (by unfold maxLen; omega) (hr.below (below_drewN (Below.refl _ _) _))))) | ((go_at_call 29; with_reducible exact Calls.quiet_of_same (number_quiet A' (l.length - 4) (cap - 4) (l.drop 4) _ HL4.out (by rw [HL4.out]; omega) (by rw [HL4.out]; unfold maxLen; omega) (hdropB _ (hr.below (below_drewN (Below.refl _ _) _)))))))
    have hb1 : Below w.heap.size w (w.drewN nq) := below_drewN (Below.refl _ _) _
    have q1 := hr.below hb1
    generalize w.drewN nq = w1 at *
    have hNlt := (Frame.num l).isLt
    generalize hN : (Frame.num l).toNat = N at *
    have HN := Lib.hid hN
    clear hN hfrom hdropB HL4
    generalize hB : Frame.num (l.drop 4) = bt at *
    have HB := Lib.hid hB
    clear hB
    by_cases cs : Frame.size (N : Int) = 0 ∨ (l.length : Int) < Frame.size (N : Int)
    · have hread : Frame.read last l = none := by unfold Frame.read; rw [if_neg c12, HN.out, if_pos cs]
      have HREAD := Lib.hid hread
      clear hread
      by_cases c0 : Frame.size (N : Int) = 0
      · have c0b : (Frame.size (N : Int) == 0) = true := beq_iff_eq.2 c0
        clear c0 cs
        go_wp2_with (go_at_call 23; refine (frame_size (N : Int) (by omega) (by omega) _).mono ?_; rintro e w2 ⟨rfl, rfl⟩)
        refine bodyPost_ret (results_tmp4 rfl _ _ _) rfl ?_
        exact ReadPost.none_ hb1 HREAD.out
      · have c0b : (Frame.size (N : Int) == 0) = false := beq_eq_false_iff_ne.2 c0
        have c1 : (l.length : Int) < Frame.size (N : Int) := by rcases cs with h | h; exact absurd h c0; exact h
        clear c0 cs
        go_wp2_with (go_at_call 23; refine (frame_size (N : Int) (by omega) (by omega) _).mono ?_; rintro e w2 ⟨rfl, rfl⟩)
        refine bodyPost_ret (results_tmp4 rfl _ _ _) rfl ?_
        exact ReadPost.none_ hb1 HREAD.out
    · have hsz : Frame.size (N : Int) = (N : Int) + 16 ∧ 1 ≤ N ∧ N ≤ 16384 := by
        unfold Frame.size at cs ⊢
        by_cases d1 : (N : Int) < 1
        · simp [d1] at cs
        · by_cases d2 : (16384 : Int) < N
          · simp [d1, d2] at cs
          · rw [if_neg d1, if_neg d2]; omega
      obtain ⟨hs1, hs2, hs3⟩ := hsz
      have hfit : N + 16 ≤ l.length := by rw [hs1] at cs; omega
      have hread : Frame.read last l = (if bt.toNat < 2147483648 ∧ Frame.mk last bt ((l.drop 12).take N) = l.take (N + 16) then some ((l.drop 12).take N, bt, Crc.next last ((l.drop 12).take N)) else none) := by
        unfold Frame.read; rw [if_neg c12, HN.out, if_neg cs, HB.out]
      have HREAD := Lib.hid hread
      have HS := Lib.hid hs1
      clear hread hs1 cs
      have c0b : ((N : Int) + 16 == 0) = false := beq_eq_false_iff_ne.2 (by omega)
      obtain ⟨Ac, hcut, hdr, _⟩ := cut_mid (P := Try.prog) 22 5 Try.underlying22 size_u8 A l.length cap 12 (12 + (N : Int)) (by omega) (by omega) (by omega)
      rw [show (12 + (N : Int)).toNat - (12 : Int).toNat = N by omega] at hcut
      have hdrB : ∀ w', RB w' A l → RB w' Ac ((l.drop 12).take N) := fun w' h => by
        have := hdr _ _ (by simpa using hc) h
        have h2 : RB w' Ac (l.drop 12) := by unfold RB; rw [List.map_drop]; exact this
        exact h2.take N
      have hlr : ((l.drop 12).take N).length = N := by simp; omega
      have HLR := Lib.hid hlr
      clear hlr hdr
      have hb32 := bt.isLt
      by_cases cb : bt.toNat < 2147483648
      · go_wp2_with (go_at_call 23; refine (frame_size (N : Int) (by omega) (by omega) _).mono ?_; rintro e w2 ⟨rfl, rfl⟩; rw [HS.out])
        refine (frame_make_ok last _ rfl bt _ rfl cb Ac N (cap - 12) ((l.drop 12).take N) w1 HLR.out (by rw [HLR.out]; omega) (by rw [HLR.out]; omega) (hdrB _ q1)).mono ?_
        rintro e w3 ⟨v3, rfl, ho3, hb3⟩
        have hml : (Frame.mk last bt ((l.drop 12).take N)).length = N + 16 := by rw [Frame.mk_length, HLR.out]
        obtain ⟨A3, c3, rfl, k3, r3⟩ := ho3.bytes
        rw [hml]
        have hto := cut_to (P := Try.prog) 22 5 Try.underlying22 size_u8 A l.length cap ((N : Int) + 16) (by omega) (by omega)
        rw [show ((N : Int) + 16).toNat = N + 16 by omega] at hto
        have htl : (l.take (N + 16)).length = N + 16 := by simp; omega
        have HML := Lib.hid hml
        have HTL := Lib.hid htl
        have q3 := q1.below hb3
        have hb13 := bn hb1 hb3
        clear hml htl k3
        by_cases he : Frame.mk last bt ((l.drop 12).take N) = l.take (N + 16)
        · have hr2 := HREAD.out
          rw [if_pos ⟨cb, he⟩] at hr2
          have hbeq : (Frame.mk last bt ((l.drop 12).take N) == l.take (N + 16)) = true := beq_iff_eq.2 he
          have HR2 := Lib.hid hr2
          clear hr2 he HREAD
          go_wp2_with fail
          refine (bytes_equal A3 (N + 16) c3 _ A (N + 16) cap _ w3 HML.out r3 HTL.out (q3.take _)).mono ?_
          rintro e w4 ⟨rfl, rfl⟩
          rw [hbeq]
          clear hbeq
          go_wp2_with fail
          refine (bytes_clone Ac N (cap - 12) _ _ HLR.out (by rw [HLR.out]; omega) (hdrB _ q3)).mono ?_
          rintro e w5 ⟨v5, rfl, ho5, hb5⟩
          go_wp2
          refine bodyPost_ret (results_tmp4 rfl _ _ _) rfl ?_
          exact ReadPost.some_ (bn hb13 hb5) HR2.out (ho5.lower hb13.size)
        · have hr2 := HREAD.out
          rw [if_neg (fun h => he h.2)] at hr2
          have hbeq : (Frame.mk last bt ((l.drop 12).take N) == l.take (N + 16)) = false := beq_eq_false_iff_ne.2 he
          have HR2 := Lib.hid hr2
          clear hr2 he HREAD
          go_wp2_with fail
          refine (bytes_equal A3 (N + 16) c3 _ A (N + 16) cap _ w3 HML.out r3 HTL.out (q3.take _)).mono ?_
          rintro e w4 ⟨rfl, rfl⟩
          rw [hbeq]
          clear hbeq
          go_wp2
          refine bodyPost_ret (results_tmp4 rfl _ _ _) rfl ?_
          exact ReadPost.none_ hb13 HR2.out
      · have hr2 := HREAD.out
        rw [if_neg (fun h => cb h.1)] at hr2
        have HR2 := Lib.hid hr2
        clear hr2 HREAD
        go_wp2_with (go_at_call 23; refine (frame_size (N : Int) (by omega) (by omega) _).mono ?_; rintro e w2 ⟨rfl, rfl⟩; rw [HS.out])
        refine (frame_make_bad _ _ (by omega) (by omega) Ac N (cap - 12) ((l.drop 12).take N) w1 HLR.out (by rw [HLR.out]; unfold maxLen; omega) (.inr (.inr (by omega)))).mono ?_
        rintro e w3 ⟨rfl, rfl⟩
        go_wp2
        refine bodyPost_ret (results_tmp4 rfl _ _ _) rfl ?_
        exact ReadPost.none_ hb1 HR2.out
end Go.Proofs.Ytlhlgjjgnlobjaa
