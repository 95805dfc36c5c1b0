/-
  Layer 12: awake.
-/
import Derived.Test.YtpnfgnddlfkfaaaLaw12
set_option linter.unusedSimpArgs false
set_option linter.unusedVariables false
namespace Go.Proofs.Ytpnfgnddlfkfaaa
open Go.RowKit Go.Maps

def xyz : List UInt8 := [120, 121, 122]
theorem lit_part (w : World) (o l c a : Int) : Rd (w.alloc (.cells #[.int .i64 o, .int .i64 l, .int .i64 c, .int .i64 a] 50)) (some ⟨w.heap.size, 0, none⟩) (pcs [⟨o, l, c, a⟩]) := Rd.lit w 50 (0, 0) (pcs [⟨o, l, c, a⟩])
theorem aw_write : writeR 0 [] 5 [⟨0, 3, 1, 0⟩] = (8, [⟨5, 3, 1, 0⟩], 0) := by rfl
theorem aw_read : readR (setSt CSt.empty 1 xyz) 8 [⟨5, 3, 1, 0⟩] 0 8 = ([0, 0, 0, 0, 0, 120, 121, 122], 0) := by decide +kernel
theorem aw_may : bodyMay 8 [⟨5, 3, 1, 0⟩] = true := by decide +kernel

set_option maxRecDepth 100000 in
set_option maxHeartbeats 2000000 in
theorem law12_awake (w : World) :
    Calls Try.prog 23 #[] w fun e w' => e = .returned (.bool true) ∧ Below w.heap.size w w' := by
  have hv : 1 ≤ xyz.length ∧ xyz.length ≤ 64 := by decide
  have HP1 := Lib.hid fun (g : Nat) (P : Nat → Prop) (A : Option Addr) W (hr : RB W A xyz) hA h => chunk_put g P 0 CSt.empty A 3 3 xyz W rfl hr (by decide) hA h COk.empty CInv.empty (by omega) (by decide)
  rw [put_first xyz hv] at HP1
  have HSL : Hid (∀ id b, (setSt CSt.empty 1 xyz).l id = some b → b.length ≤ 1000) := Lib.hid fun id b h => by
    unfold setSt CSt.empty at h
    simp only at h
    split at h
    · cases h; decide
    · cases h
  have HW := Lib.hid fun W A (hr : Rd W A (pcs [⟨0, 3, 1, 0⟩])) => body_write 0 none 0 0 [] 5 A 1 1 [⟨0, 3, 1, 0⟩] W rfl (by omega) (Rd.nil _ _) rfl (by omega) hr
  rw [aw_write] at HW
  have HR := Lib.hid fun W g P n A c (hr : Rd W A (pcs [⟨5, 3, 1, 0⟩])) hc => body_read g P n (setSt CSt.empty 1 xyz) 8 A 1 c [⟨5, 3, 1, 0⟩] 0 8 W rfl (by omega) hr hc HSL.out (by omega) (by omega) (by omega) (by omega)
  rw [aw_read] at HR
  have HM := Lib.hid fun W A c (hr : Rd W A (pcs [⟨5, 3, 1, 0⟩])) => body_may 8 A 1 c [⟨5, 3, 1, 0⟩] W rfl (by omega) hr
  rw [aw_may] at HM
  simp only [bv] at HW HR HM
  have HLIT : Hid (∀ (W : World) fz, RB (W.alloc (.cells #[.int .u8 120, .int .u8 121, .int .u8 122] 5 fz)) (some ⟨W.heap.size, 0, none⟩) xyz) := fun W fz => RB.lit W _ fz _ _ rfl
  have kc := fun (w : World) (C : Array Value) (n c : Nat) => Lib.run_convert_bytes_const (P := Try.prog) w 23 5 C n c Try.underlying23 Try.underlying5
  clear hv
  generalize setSt CSt.empty 1 xyz = s1 at *
  go_enter Try.func23, Try.ntmps23
  go_wp2_with fail
  (with_reducible refine (chunk_new w).mono ?_)
  rintro e w1 ⟨g, rfl, hc1, hb1⟩
  have hz1 := hb1.size
  have HA1 : Hid (∀ ad, some (⟨w1.heap.size, 0, none⟩ : Addr) = some ad → ¬ (w.heap.size ≤ ad.block ∧ ad.block < w1.heap.size)) := fun ad e h => by cases e; simp only at h; omega
  go_wp2_with fail
  (with_reducible refine (HP1.out g _ _ _ (HLIT.out w1 _) HA1.out (hc1.below (bal (Below.refl _ _) _))).mono ?_)
  rintro e w3 ⟨rfl, hk3, hc3⟩
  simp only at hc3
  have hz2 := hk3.size
  have hb3 : Below w.heap.size w w3 := (bal hb1 _).trans (hk3.below (by simp; omega) fun j hj => hj.1)
  generalize (fun j => (w.heap.size ≤ j ∧ j < w1.heap.size) ∨ _) = P3 at hc3
  clear hk3 HA1 hc1 hb1 hz1 hz2 HP1 HLIT
  have hl3 := Lib.hid (lit_part w3 0 3 1 0)
  go_wp2_with fail
  (with_reducible refine (HW.out _ _ hl3.out).mono ?_)
  rintro e w5 ⟨A5, c5, rfl, hr5, hb5⟩
  have hb6 := bn (bal hb3 _) hb5
  have hc5 := hc3.below (bn (bal (Below.refl _ _) _) hb5)
  have hl5 : [(⟨5, 3, 1, 0⟩ : Part)].length = 1 := rfl
  simp only [bv, hl5] at hr5 ⊢
  have hr6 := Lib.hid (hr5.below (bal (Below.refl _ _) (.cells #[.int .i64 8, .slice A5 1 c5] 46)))
  have hc6 := Lib.hid (hc5.below (bal (Below.refl _ _) (.cells #[.int .i64 8, .slice A5 1 c5] 46)))
  have hB6 := Blk.new w5 46 #[.int .i64 8, .slice A5 1 c5]
  clear hb3 hb5 hc3 hc5 hr5 HW hl3
  go_wp2_with fail
  (with_reducible refine (HR.out _ _ _ _ _ _ hr6.out hc6.out).mono ?_)
  rintro e w7 ⟨A7, c7, rfl, hr7, hb7⟩
  have hB7 := hB6.below hb7
  have hb8 := bn (bal hb6 _) hb7
  have hr8 := Lib.hid (hr6.out.below hb7)
  have hcv := run_str_try w7 A7 c7 8 [0, 0, 0, 0, 0, 120, 121, 122] rfl hr7
  have x0 : w7.cell? ⟨w5.heap.size, 0, none⟩ = some (.int .i64 8) := hB7.cell 0
  have x1 : w7.cell? ⟨w5.heap.size, 1, none⟩ = some (.slice A5 1 c5) := hB7.cell 1
  have hl7 : ([0, 0, 0, 0, 0, 120, 121, 122] : List UInt8).length = 8 := rfl
  simp only [hl7]
  clear hb6 hb7 hB6 hB7 hr6 hc6 hr7 HR
  go_wp2_with fail
  (with_reducible refine (HM.out _ _ _ hr8.out).mono ?_)
  rintro e w9 ⟨rfl, hb9⟩
  go_wp2
  go_ret
  exact ⟨rfl, bn hb8 hb9⟩

/-- pieces that are read do not lie in a struct of two cells -/
theorem rd_off {w : World} {A : Option Addr} {ps : List Part} {Z : Nat} {e : TypeId} {a b : Value} (h : Rd w A (pcs ps)) (hZ : Blk w Z e #[a, b]) : pcs ps = [] ∨ ∀ ad, A = some ad → ad.block ≠ Z := by
  cases ps with
  | nil => exact .inl rfl
  | cons p ps =>
    obtain ⟨b', o, e', _, hc⟩ := Rd.lit_of h 0 (by simp [pcs, flat, pc])
    refine .inr fun ad e e2 => ?_
    rw [e] at e'
    cases e'
    simp only at e2
    subst e2
    have h3 := hc 3 (by simp [pcs, flat, pc])
    rw [hZ.cell] at h3
    simp at h3
theorem rd_set2 {w : World} {A : Option Addr} {ps : List Part} {Z : Nat} {e : TypeId} {a b : Value} (h : Rd w A (pcs ps)) (hZ : Blk w Z e #[a, b]) (u v : Value) : Rd ((w.setCell ⟨Z, 0, none⟩ u).setCell ⟨Z, 1, none⟩ v) A (pcs ps) := by
  rcases rd_off h hZ with h0 | h0
  · rw [h0]; exact Rd.nil _ _
  · exact h.kp (kp_set2 w _ _ _) fun ad e f => h0 ad e f
theorem ORow.rd {α : Type} {n : Nat} {f : α → List Value} {w : World} {B : Nat} {e : TypeId} {A : Option Addr} {m c : Nat} {l : List α} (h : ORow (f := f) (n := n) w B e (.slice A m c) l) : Rd w A (flat f l) := by
  obtain ⟨A', c', e', _, hr, _⟩ := ORow.read h
  cases e'
  exact hr
end Go.Proofs.Ytpnfgnddlfkfaaa
