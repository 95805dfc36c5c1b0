/-
  What EventReads calls and gives.
-/
import Derived.Test.YtlgkcpgbmobacaaLaw14
set_option linter.unusedSimpArgs false
set_option linter.unusedVariables false
namespace Go.Proofs.Ytlgkcpgbmobacaa
open Go.RowKit

theorem num_pos (n : Nat) : 0 < (num n).length := List.length_pos_iff.2 (by
  by_cases hn : n < 128
  · rw [num_small n hn]; simp
  · rw [num_great n (by omega)]; simp)
theorem parts_le (l : List Part) : l.length ≤ (encParts l).length := by
  induction l with
  | nil => exact Nat.le_refl _
  | cons p l ih =>
    have : encParts (p :: l) = encPart p ++ encParts l := by unfold encParts; simp
    rw [this, List.length_append, List.length_cons]
    have := num_pos p.len.toNat
    unfold encPart
    simp only [List.length_append]
    omega
theorem parts_le_enc (i : Item) (h : may i = true) : i.parts.length ≤ (enc i).length := by
  obtain ⟨_, _, _, _, e⟩ := (may_iff i).1 h
  rcases e with e | e
  · rw [e]; simp
  · have := parts_le i.parts
    unfold enc
    rw [if_pos e]
    simp only [List.length_append]
    omega
set_option maxRecDepth 100000 in
set_option maxHeartbeats 1000000 in
theorem ereads_walk (A0 : Option Addr) (m0 c0 : Nat) (l0 : List UInt8) (hm0 : l0.length = m0) (hM0 : m0 ≤ 9223372036854775807) (w : World) (hr0 : RB w A0 l0) :
    Calls Try.prog 9 #[.slice A0 m0 c0] w fun e w' => e = .returned (.bool true) ∧ Below w.heap.size w w' := by
  subst hm0
  by_cases hs0 : (1000 : Int) < (l0.length : Int)
  · go_enter Try.func9, Try.ntmps9
    go_wp2_with fail
    refine (law14_awake _).mono ?_
    rintro e w1 ⟨rfl, hb1⟩
    go_wp2
    go_ret
    exact ⟨rfl, hb1⟩
  · go_enter Try.func9, Try.ntmps9
    go_wp2_with fail
    refine (law14_awake _).mono ?_
    rintro e w1 ⟨rfl, hb1⟩
    go_wp2_with fail
    refine (event_parse A0 l0.length c0 l0 _ rfl (by omega) (hr0.below hb1)).mono ?_
    rintro e w2 ⟨it, ok, A5, c5, A6, c6, rfl, hok, hit, hrd, had, hb2⟩
    have hb12 := bn hb1 hb2
    cases ok with
    | false =>
      rw [if_neg (by simp)] at hit
      subst hit
      clear hok hrd had
      simp only [zeroItem, iv_eq, List.length_nil]
      rw [show (if false = true then (0 : Int) else 2) = 2 from rfl]
      go_wp2
      go_ret
      exact ⟨rfl, bal hb12 _⟩
    | true =>
      rw [if_pos rfl] at hit
      obtain ⟨hm, hst⟩ := hok.1 rfl
      have hD : dItem (some l0) = (it, some []) := by rw [hit, ← hst]
      rw [← hit] at hm
      obtain ⟨he, hdat, hop2, hpl⟩ := dItem_inv hD
      rw [List.append_nil] at he
      have hpl2 : it.parts.length ≤ 4000000000000 := by
        have := parts_le_enc it hm
        rw [← he] at this
        omega
      have hb := fun W (hb : Below w2.heap.size w2 W) => event_bytes it A5 c5 A6 c6 W (hrd.below hb) (fun ad e => Nat.lt_of_lt_of_le (had ad e).1 hb.size) hpl2 hm
      rw [← he] at hb
      clear hok hrd had hit hD hst hm he hpl hpl2 hdat hop2
      obtain ⟨op, path, to_, off, size, data, ps⟩ := it
      simp only [iv_eq] at hb ⊢
      have HB := Lib.hid hb
      clear hb
      simp only [if_true]
      go_wp2_with fail
      (with_reducible refine (HB.out _ ?_).mono ?_)
      · exact bal (Below.refl _ _) _
      rintro e w3 ⟨v3, rfl, ho3, hb3⟩
      obtain ⟨A3, c3, rfl, k3, r3⟩ := ho3.bytes
      have hb13 := bn (bal hb12 _) hb3
      have hv0 := run_str_try w3 A0 c0 l0.length l0 rfl (hr0.below hb13)
      have hv3 := run_str_try w3 A3 c3 l0.length l0 rfl r3
      obtain ⟨sw, hsw⟩ : ∃ sw : ByteArray, (⟨l0.toArray⟩ : ByteArray) = sw := ⟨_, rfl⟩
      rw [hsw] at hv0 hv3
      clear hsw
      go_wp2
      go_ret
      exact ⟨rfl, hb13⟩
end Go.Proofs.Ytlgkcpgbmobacaa
