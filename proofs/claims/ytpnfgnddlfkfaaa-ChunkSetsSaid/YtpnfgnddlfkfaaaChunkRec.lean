/-
  chunk.Record and chunk.Parse.
-/
import Derived.Test.YtpnfgnddlfkfaaaLaw10
import Derived.Test.YtpnfgnddlfkfaaaEvMath
import Derived.Test.YtpnfgnddlfkfaaaEyeText
import Derived.Test.YtpnfgnddlfkfaaaFoot
set_option linter.unusedSimpArgs false
set_option linter.unusedVariables false
namespace Go.Proofs.Ytpnfgnddlfkfaaa
open Go.RowKit

theorem pen_fresh' (w : World) : PenAt (w.alloc (.cells #[.slice none 0 0] 98)) w.heap.size (w.heap.size + 1) [] := ⟨_, Blk.new _ _ _, Own.nil _ _ _⟩
theorem EyeAt.lt2 {w : World} {g : Nat} {st : Option (List UInt8)} (h : EyeAt w g st) : g < w.heap.size := by
  cases st with
  | none => exact Blk.lt h
  | some l => obtain ⟨A, c, h1, _⟩ := h; exact h1.lt
theorem bytes_of_text (w : World) (s : List UInt8) : ∃ A c w', (convert 9 23 (.string ⟨s.toArray⟩)).run Try.prog w = .ok (.slice A s.length c) w' ∧ RB w' A s ∧ Below w.heap.size w w' := by
  have h := run_bytes_of_string (P := Try.prog) w 9 23 5 ⟨s.toArray⟩ Try.underlying9 Try.underlying23 Try.underlying5
  have hsz : (⟨s.toArray⟩ : ByteArray).size = s.length := by simp [ByteArray.size]
  rw [hsz] at h
  refine ⟨_, _, _, h, ?_, bal (bdr (Below.refl _ _)) _⟩
  intro i u hi
  refine ⟨_, rfl, ?_⟩
  have e1 : (⟨w.heap.size, 0, none⟩ : Addr).add i = ⟨w.heap.size, i, none⟩ := by unfold Addr.add; split <;> simp_all
  have e2 : w.drew.heap.size = w.heap.size := rfl
  have hnew := heap_alloc_new w.drew (.cells (bytesRow ⟨s.toArray⟩ (grownCap w s.length 0 5)) 5 ((bytesRow ⟨s.toArray⟩ (grownCap w s.length 0 5)).size, (bytesRow ⟨s.toArray⟩ (grownCap w s.length 0 5)).size + 1))
  rw [e2] at hnew
  rw [e1, cell_of_row _ w.heap.size i _ 5 _ hnew]
  have hi2 : i < s.length := by
    have := (List.getElem?_eq_some_iff.1 hi).1
    simpa using this
  have hi3 : (s.map eb)[i]? = some u := hi
  rw [List.getElem?_map, List.getElem?_eq_getElem hi2] at hi3
  unfold bytesRow
  rw [Array.getElem?_append_left (by simpa using hi2)]
  simpa [eb, List.getElem?_eq_getElem hi2] using hi3

def recB (n : Nat) (b : List UInt8) : List UInt8 := num n ++ (num b.length ++ b)
set_option maxRecDepth 100000 in
set_option maxHeartbeats 2000000 in
theorem chunk_record (n : Int) (h0 : -9223372036854775808 ≤ n) (h1 : n ≤ 9223372036854775807) (A : Option Addr) (m c : Nat) (b : List UInt8) (w : World) (hm : b.length = m) (hl : b.length ≤ 1000000000) (hr : RB w A b) :
    Calls Try.prog 19 #[.int .i64 n, .slice A m c] w fun e w' => ∃ v, e = .returned v ∧ Own w' w.heap.size 5 v ((recB n.toNat b).map eb) ∧ Below w.heap.size w w' := by
  subst hm
  have hp := pen_fresh' w
  have hz : (w.alloc (.cells #[.slice none 0 0] 98)).heap.size = w.heap.size + 1 := by simp
  have hb1 := bal (Below.refl w.heap.size w) (.cells #[.slice none 0 0] 98)
  have hn10 := num_10 n.toNat (by omega)
  have hn11 := num_10 b.length (by omega)
  go_enter Try.func19, Try.ntmps19
  go_wp2_with fail
  (with_reducible refine (pen_num w.heap.size (w.heap.size + 1) [] n h0 h1 _ hp (by omega) (by simp)).mono ?_)
  rintro e w2 ⟨rfl, hp2, hk2⟩
  rw [List.nil_append] at hp2
  have hz2 := hk2.size
  have hb2 := hb1.trans (hk2.below (B' := w.heap.size) (by omega) (Nat.le_refl _))
  have hv := run_str_try w2 A c _ _ rfl (hr.below hb2)
  clear hk2 hp hb1 hr
  go_wp2_with fail
  (with_reducible refine (pen_text w.heap.size (w.heap.size + 1) _ b _ hp2 (by omega) (by omega)).mono ?_)
  rintro e w3 ⟨rfl, hp3, hk3⟩
  have hb3 := hb2.trans (hk3.below (B' := w.heap.size) (by omega) (Nat.le_refl _))
  clear hk3 hp2 hb2 hv
  go_wp2_with fail
  (with_reducible refine (pen_bytes _ _ _ _ hp3 (by simp only [List.length_append]; omega)).mono ?_)
  rintro e w4 ⟨v, rfl, ho, hb4⟩
  go_wp2
  go_ret
  exact ⟨v, rfl, by unfold recB; rw [← List.append_assoc]; exact ho.lower hb3.size, bn hb3 hb4⟩

def parseR (l : List UInt8) : Nat × List UInt8 × Bool :=
  match (eText (eNum (some l)).2).2 with
  | some [] => ((eNum (some l)).1, (eText (eNum (some l)).2).1, true)
  | _ => (0, [], false)
theorem parseR_rec (n : Nat) (hn : n ≤ 4611686018427387904) (b : List UInt8) (hb : b.length ≤ 1000000000) : parseR (recB n b) = (n, b, true) := by
  unfold parseR recB
  rw [eNum_num n hn]
  have h := eText_text b [] (by omega)
  rw [List.append_nil] at h
  rw [h]
theorem parseR_inv {l : List UInt8} {n : Nat} {b : List UInt8} (h : parseR l = (n, b, true)) : l = recB n b ∧ n ≤ 4611686018427387904 ∧ b.length ≤ l.length := by
  unfold parseR at h
  cases h1 : eNum (some l) with
  | mk m st =>
    rw [h1] at h
    simp only at h
    cases st with
    | none => cases h
    | some l' =>
      cases h2 : eText (some l') with
      | mk s st2 =>
        rw [h2] at h
        simp only at h
        match st2, h, h2 with
        | some [], h, h2 =>
          cases h
          obtain ⟨e1, e2⟩ := eNum_inv h1
          obtain ⟨e3, e4⟩ := eText_inv h2
          rw [List.append_nil] at e3
          refine ⟨by rw [e1, e3]; rfl, e2, ?_⟩
          rw [e1, e3]
          simp only [List.length_append]
          omega
        | some (x :: r), h, h2 => cases h
        | none, h, h2 => cases h
theorem parseR_bad {l : List UInt8} {n : Nat} {b : List UInt8} (h : parseR l = (n, b, false)) : n = 0 ∧ b = [] := by
  unfold parseR at h
  split at h <;> cases h
  exact ⟨rfl, rfl⟩
theorem parse_of {l : List UInt8} : (∃ s, parseR l = ((eNum (some l)).1, s, true) ∧ eText (eNum (some l)).2 = (s, some [])) ∨ (parseR l = (0, [], false) ∧ ((eText (eNum (some l)).2).2 = none ∨ ∃ x r, (eText (eNum (some l)).2).2 = some (x :: r))) := by
  unfold parseR
  cases h : eText (eNum (some l)).2 with
  | mk s st =>
    match st with
    | none => exact .inr ⟨rfl, .inl rfl⟩
    | some [] => exact .inl ⟨s, rfl, rfl⟩
    | some (x :: r) => exact .inr ⟨rfl, .inr ⟨x, r, rfl⟩⟩

set_option maxRecDepth 100000 in
set_option maxHeartbeats 2000000 in
theorem chunk_parse (A : Option Addr) (m c : Nat) (l : List UInt8) (w : World) (hm : l.length = m) (hl : l.length ≤ 1000000000) (hr : RB w A l) :
    Calls Try.prog 22 #[.slice A m c] w fun e w' => ∃ A2 c2, e = .returned (.tuple #[.int .i64 ((parseR l).1 : Int), .slice A2 (parseR l).2.1.length c2, .int .i64 (if (parseR l).2.2 then 0 else 2)]) ∧ RB w' A2 (parseR l).2.1 ∧ Below w.heap.size w w' := by
  subst hm
  have HOF := Lib.hid (parse_of (l := l))
  generalize parseR l = pr at *
  go_enter Try.func22, Try.ntmps22
  go_wp2_with fail
  (with_reducible refine (eye_new A _ c l w rfl (by omega) hr).mono ?_)
  rintro e w2 ⟨g, rfl, hg, he2, hb2⟩
  go_wp2_with fail
  (with_reducible refine (eye_num g _ _ he2 he2.lt2).mono ?_)
  rintro e w3 ⟨rfl, he3, hk3⟩
  have hb3 := hb2.trans (hk3.below hb2.size hg)
  clear he2 hb2 hk3
  generalize hE : eNum (some l) = E at *
  obtain ⟨n, st⟩ := E
  simp only at he3 HOF ⊢
  go_wp2_with fail
  (with_reducible refine (eye_text g _ _ he3 he3.lt2).mono ?_)
  rintro e w4 ⟨rfl, he4, hk4⟩
  have hb4 := hb3.trans (hk4.below hb3.size hg)
  clear he3 hb3 hk4 hE
  rcases HOF.out with ⟨s, rfl, hs⟩ | ⟨rfl, hs | ⟨x, r, hs⟩⟩
  · rw [hs] at he4 ⊢
    simp only at he4 ⊢
    clear hs HOF
    obtain ⟨A5, c5, w5, hcv, hr5, hb5⟩ := bytes_of_text w4 s
    generalize (⟨s.toArray⟩ : ByteArray) = ss at *
    go_wp2_with fail
    (with_reducible refine (eye_bad g _ _ he4).mono ?_)
    rintro e _ ⟨rfl, rfl⟩
    go_wp2_with fail
    (with_reducible refine (eye_left g _ _ he4).mono ?_)
    rintro e _ ⟨rfl, rfl⟩
    simp only [left, Option.isNone_some, List.length_nil]
    go_wp2
    go_ret3
    exact ⟨A5, ⟨c5, rfl⟩, hr5, bn hb4 hb5⟩
  · rw [hs] at he4
    clear hs HOF
    generalize (ByteArray.mk _) = ss at *
    go_wp2_with fail
    (with_reducible refine (eye_bad g _ _ he4).mono ?_)
    rintro e _ ⟨rfl, rfl⟩
    simp only [Option.isNone_none]
    go_wp2
    go_ret3
    exact ⟨none, ⟨0, rfl⟩, RB.nil _ _, hb4⟩
  · rw [hs] at he4
    clear hs HOF
    generalize (ByteArray.mk _) = ss at *
    go_wp2_with fail
    (with_reducible refine (eye_bad g _ _ he4).mono ?_)
    rintro e _ ⟨rfl, rfl⟩
    go_wp2_with fail
    (with_reducible refine (eye_left g _ _ he4).mono ?_)
    rintro e _ ⟨rfl, rfl⟩
    have hpos : (0 : Int) < ((left (some (x :: r)) : Nat) : Int) := by simp [left]
    generalize ((left (some (x :: r)) : Nat) : Int) = q at *
    simp only [Option.isNone_some]
    go_wp2
    go_ret3
    exact ⟨none, ⟨0, rfl⟩, RB.nil _ _, hb4⟩
end Go.Proofs.Ytpnfgnddlfkfaaa
