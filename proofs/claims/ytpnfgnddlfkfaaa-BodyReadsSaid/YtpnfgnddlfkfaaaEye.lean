/-
  Eye: bytes that are read. An eye at block g: 'EyeAt w g st'; st: what is left; none: it is bad.
-/
import Derived.Test.YtpnfgnddlfkfaaaPenFl
set_option linter.unusedSimpArgs false
set_option linter.unusedVariables false
namespace Go.Proofs.Ytpnfgnddlfkfaaa
open Go.RowKit

def EyeAt (w : World) (g : Nat) : Option (List UInt8) → Prop
  | some l => ∃ A c, Blk w g 125 #[.slice A l.length c, .bool false] ∧ l.length ≤ c ∧ RB w A l
  | none => Blk w g 125 #[.slice none 0 0, .bool true]

/-- bytes that are read lie in no eye -/
theorem RB.not_eye {w : World} {g : Nat} {e : TypeId} {B : Option Addr} {n c : Nat} {b : Bool} {A : Option Addr} {l : List UInt8} (h : RB w A l) (hb : Blk w g e #[.slice B n c, .bool b]) (i : Nat) (u : Value) : RB (w.setCell ⟨g, i, none⟩ u) A l := by
  by_cases hl : 0 < l.length
  · obtain ⟨ad, rfl⟩ := h.some_of hl
    obtain ⟨b', off, rfl, hc⟩ := h.lit_of hl
    have hne : b' ≠ g := by
      intro e1
      subst e1
      have h0 := hc 0 hl
      rw [hb.cell] at h0
      match off, h0 with
      | 0, h0 => simp at h0
      | 1, h0 => simp at h0
      | k + 2, h0 => simp at h0
    intro j v hj
    refine ⟨_, rfl, ?_⟩
    obtain ⟨ad', e1, hcell⟩ := h j v hj
    cases e1
    have hk : (w.setCell ⟨g, i, none⟩ u).heap[((⟨b', off, none⟩ : Addr).add j).block]? = w.heap[((⟨b', off, none⟩ : Addr).add j).block]? := by
      rw [add_block]
      exact Below.heap_setCell _ _ _ _ hne
    exact (World.cell?_of_block hk).trans hcell
  · have : l = [] := List.eq_nil_of_length_eq_zero (by omega)
    subst this
    exact RB.nil _ _
theorem EyeAt.keep {w w' : World} {g : Nat} {st : Option (List UInt8)} (h : EyeAt w g st) (hb : Below w.heap.size w w') : EyeAt w' g st := by
  cases st with
  | none => exact Blk.below h hb
  | some l =>
    obtain ⟨A, c, h1, h2, h3⟩ := h
    exact ⟨A, c, h1.below hb, h2, h3.below hb⟩

set_option maxRecDepth 100000 in
set_option maxHeartbeats 2000000 in
theorem eye_new (A : Option Addr) (m cap : Nat) (l : List UInt8) (w : World) (hm : l.length = m) (hl : l.length ≤ 140737488355328) (hr : RB w A l) :
    Calls Try.prog 46 #[.slice A m cap] w fun e w' => ∃ g, e = .returned (.pointer (some ⟨g, 0, none⟩)) ∧ w.heap.size ≤ g ∧ EyeAt w' g (some l) ∧ Below w.heap.size w w' := by
  subst hm
  go_enter Try.func46, Try.ntmps46
  go_wp2_with fail
  refine (slices_clone A l.length cap l _ rfl hl (by first | exact hr | exact hr.below (bal (Below.refl _ _) _))).mono ?_
  rintro e w' ⟨v', rfl, ho', hb'⟩
  obtain ⟨A', c', rfl, hc', hr'⟩ := ho'.bytes
  go_wp2
  go_ret
  exact ⟨_, rfl, hb'.size, ⟨A', c', Blk.new _ _ _, hc', hr'.below (bal (Below.refl _ _) _)⟩, bal hb' _⟩

set_option maxRecDepth 100000 in
set_option maxHeartbeats 2000000 in
theorem eye_bad (g : Nat) (st : Option (List UInt8)) (w : World) (h : EyeAt w g st) :
    Calls Try.prog 49 #[.pointer (some ⟨g, 0, none⟩)] w fun e w' => e = .returned (.bool st.isNone) ∧ w = w' := by
  cases st with
  | none =>
    have h0 : w.cell? ⟨g, 1, none⟩ = some (.bool true) := Blk.cell h 1
    go_enter Try.func49, Try.ntmps49
    go_wp2
    go_ret
    exact ⟨rfl, rfl⟩
  | some l =>
    obtain ⟨A, c, h1, _, _⟩ := h
    have h0 : w.cell? ⟨g, 1, none⟩ = some (.bool false) := Blk.cell h1 1
    go_enter Try.func49, Try.ntmps49
    go_wp2
    go_ret
    exact ⟨rfl, rfl⟩

def left : Option (List UInt8) → Nat
  | some l => l.length
  | none => 0
set_option maxRecDepth 100000 in
set_option maxHeartbeats 2000000 in
theorem eye_left (g : Nat) (st : Option (List UInt8)) (w : World) (h : EyeAt w g st) :
    Calls Try.prog 50 #[.pointer (some ⟨g, 0, none⟩)] w fun e w' => e = .returned (.int .i64 (left st : Int)) ∧ w = w' := by
  cases st with
  | none =>
    have h0 : w.cell? ⟨g, 0, none⟩ = some (.slice none 0 0) := Blk.cell h 0
    go_enter Try.func50, Try.ntmps50
    go_wp2
    go_ret
    exact ⟨rfl, rfl⟩
  | some l =>
    obtain ⟨A, c, h1, _, _⟩ := h
    have h0 : w.cell? ⟨g, 0, none⟩ = some (.slice A l.length c) := Blk.cell h1 0
    go_enter Try.func50, Try.ntmps50
    go_wp2
    go_ret
    exact ⟨rfl, rfl⟩

set_option maxRecDepth 100000 in
set_option maxHeartbeats 2000000 in
theorem eye_fail (g : Nat) (st : Option (List UInt8)) (w : World) (h : EyeAt w g st) :
    Calls Try.prog 70 #[.pointer (some ⟨g, 0, none⟩)] w fun e w' => e = .returned (.tuple #[]) ∧ EyeAt w' g none ∧ Kept g w.heap.size w w' := by
  obtain ⟨A, n, c, b, hb⟩ : ∃ A n c b, Blk w g 125 #[.slice A n c, .bool b] := by
    cases st with
    | none => exact ⟨_, _, _, _, h⟩
    | some l => obtain ⟨A, c, h1, _, _⟩ := h; exact ⟨_, _, _, _, h1⟩
  have c0 : w.cell? ⟨g, 0, none⟩ = some (.slice A n c) := hb.cell 0
  have c1 : w.cell? ⟨g, 1, none⟩ = some (.bool b) := hb.cell 1
  have f0 := hb.frozen 0
  have f1 := hb.frozen 1
  clear h
  go_enter Try.func70, Try.ntmps70
  go_wp2
  go_end0
  exact ⟨rfl, (hb.set 0 _).set 1 _, ((Kept.refl g _ w).setCell 0 _).setCell 1 _⟩

/-- the next n bytes -/
def eTake (n : Nat) : Option (List UInt8) → List UInt8 × Option (List UInt8)
  | some l => if n ≤ l.length then (l.take n, some (l.drop n)) else ([], none)
  | none => ([], none)
set_option maxRecDepth 100000 in
set_option maxHeartbeats 2000000 in
theorem eye_take (g : Nat) (st : Option (List UInt8)) (n : Nat) (hn : n ≤ 9223372036854775807) (w : World) (h : EyeAt w g st) (hg : g < w.heap.size) :
    Calls Try.prog 71 #[.pointer (some ⟨g, 0, none⟩), .int .i64 (n : Int)] w fun e w' => ∃ A c, e = .returned (.slice A (eTake n st).1.length c) ∧ (eTake n st).1.length ≤ c ∧ RB w' A (eTake n st).1 ∧ EyeAt w' g (eTake n st).2 ∧ Kept g w.heap.size w w' := by
  cases st with
  | none =>
    have c0 : w.cell? ⟨g, 0, none⟩ = some (.slice none 0 0) := Blk.cell h 0
    have c1 : w.cell? ⟨g, 1, none⟩ = some (.bool true) := Blk.cell h 1
    go_enter Try.func71, Try.ntmps71
    go_wp2_with fail
    refine (eye_fail g none w h).mono ?_
    rintro e w1 ⟨rfl, h1, hk1⟩
    go_wp2
    go_ret
    exact ⟨_, _, rfl, Nat.le_refl _, RB.nil _ _, h1, hk1⟩
  | some l =>
    obtain ⟨A, c, hb, hlc, hr⟩ := h
    have c0 : w.cell? ⟨g, 0, none⟩ = some (.slice A l.length c) := hb.cell 0
    have c1 : w.cell? ⟨g, 1, none⟩ = some (.bool false) := hb.cell 1
    by_cases hnl : (l.length : Int) < (n : Int)
    · have he : eTake n (some l) = ([], none) := by unfold eTake; simp only; rw [if_neg (by omega)]
      rw [he]
      clear he
      go_enter Try.func71, Try.ntmps71
      go_wp2_with fail
      refine (eye_fail g (some l) w ⟨A, c, hb, hlc, hr⟩).mono ?_
      rintro e w1 ⟨rfl, h1, hk1⟩
      go_wp2
      go_ret
      exact ⟨_, _, rfl, Nat.le_refl _, RB.nil _ _, h1, hk1⟩
    · have he : eTake n (some l) = (l.take n, some (l.drop n)) := by unfold eTake; simp only; rw [if_pos (by omega)]
      rw [he]
      have hto := cut_to (P := Try.prog) 23 5 Try.underlying23 size_u8 A l.length c (n : Int) (by omega) (by omega)
      rw [show (n : Int).toNat = n by omega] at hto
      obtain ⟨A3, hcut, hdr, _⟩ := cut_from (P := Try.prog) 23 5 Try.underlying23 size_u8 A l.length c (n : Int) (by omega) (by omega)
      rw [show (n : Int).toNat = n by omega] at hcut
      have hr3 := hdr w _ (by rw [List.length_map]; exact hlc) hr
      rw [show (n : Int).toNat = n by omega, ← List.map_drop] at hr3
      have hr1 := hr.take n
      have f0 := hb.frozen 0
      have hl1 : (l.take n).length = n := by rw [List.length_take]; omega
      have hl2 : l.length - n = (l.drop n).length := by rw [List.length_drop]
      simp only [hl1]
      have hc1 : n ≤ c := by omega
      have hc2 : (l.drop n).length ≤ c - n := by omega
      clear hdr he hl1 hl2
      go_enter Try.func71, Try.ntmps71
      go_wp2
      go_ret
      exact ⟨_, _, rfl, hc1, hr1.not_eye hb 0 _, ⟨A3, c - n, by rw [List.length_drop]; exact hb.set 0 _, hc2, RB.not_eye hr3 hb 0 _⟩, (Kept.refl g _ w).setCell 0 _⟩

def eByte : Option (List UInt8) → UInt8 × Option (List UInt8)
  | some (x :: l) => (x, some l)
  | _ => (0, none)
set_option maxRecDepth 100000 in
set_option maxHeartbeats 2000000 in
theorem eye_byte (g : Nat) (st : Option (List UInt8)) (w : World) (h : EyeAt w g st) (hg : g < w.heap.size) :
    Calls Try.prog 69 #[.pointer (some ⟨g, 0, none⟩)] w fun e w' => e = .returned (.int .u8 ((eByte st).1.toNat : Int)) ∧ EyeAt w' g (eByte st).2 ∧ Kept g w.heap.size w w' := by
  have hcase : (∃ x l, st = some (x :: l)) ∨ (eTake 1 st = ([], none) ∧ eByte st = (0, none)) := by
    match st with
    | none => exact .inr ⟨rfl, rfl⟩
    | some [] => exact .inr ⟨rfl, rfl⟩
    | some (x :: l) => exact .inl ⟨x, l, rfl⟩
  rcases hcase with ⟨x, l, rfl⟩ | ⟨e1, e2⟩
  · have e1 : eTake 1 (some (x :: l)) = ([x], some l) := by simp [eTake]
    have HE := Lib.hid e1
    clear e1
    have e2 : eByte (some (x :: l)) = (x, some l) := rfl
    rw [e2]
    clear e2
    go_enter Try.func69, Try.ntmps69
    go_wp2_with fail
    refine (eye_take g (some (x :: l)) 1 (by omega) w h hg).mono ?_
    rintro e w1 ⟨A, c, rfl, hc, hr, h1, hk1⟩
    rw [HE.out] at hc hr h1 ⊢
    obtain ⟨ad, rfl⟩ := hr.some_of (by simp)
    obtain ⟨bk, off, rfl, hcell⟩ := hr.lit_of (by simp)
    have x0 := hcell 0 (by simp)
    rw [Nat.add_zero] at x0
    simp only [List.getElem_cons_zero] at x0
    clear hcell hr
    go_wp2
    go_ret
    exact ⟨rfl, h1, hk1⟩
  · rw [e2]
    have HE := Lib.hid e1
    clear e1 e2
    go_enter Try.func69, Try.ntmps69
    go_wp2_with fail
    refine (eye_take g st 1 (by omega) w h hg).mono ?_
    rintro e w1 ⟨A, c, rfl, hc, hr, h1, hk1⟩
    rw [HE.out] at hc hr h1 ⊢
    go_wp2
    go_ret
    exact ⟨rfl, h1, hk1⟩
end Go.Proofs.Ytpnfgnddlfkfaaa
