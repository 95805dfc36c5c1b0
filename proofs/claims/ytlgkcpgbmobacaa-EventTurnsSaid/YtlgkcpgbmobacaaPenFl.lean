/-
  Pen.Float.
-/
import Derived.Test.YtlgkcpgbmobacaaPenNum
import Derived.Laws.Externs
set_option linter.unusedSimpArgs false
set_option linter.unusedVariables false
namespace Go.Proofs.Ytlgkcpgbmobacaa
open Go.RowKit

theorem bits_run (f : Nat) (w : World) : (callFunc 25 #[.float .f64 f]).run Try.prog w = .ok (.value (.int .u64 f)) w := by
  rw [run_callFunc_extern (e := Extern.MathFloatBits.float64bits) Try.func25 (by kernel_rfl) (by kernel_rfl) (by kernel_rfl) (by kernel_rfl)]
  rfl
theorem frombits_run (n : Int) (w : World) : (callFunc 50 #[.int .u64 n]).run Try.prog w = .ok (.value (.float .f64 n.toNat)) w := by
  rw [run_callFunc_extern (e := Extern.MathFloatBits.float64frombits) Try.func50 (by kernel_rfl) (by kernel_rfl) (by kernel_rfl) (by kernel_rfl)]
  rfl
/-- the k lowest bytes of a number -/
def low : Nat → Nat → List UInt8
  | 0, _ => []
  | k + 1, n => UInt8.ofNat (n % 256) :: low k (n / 256)
theorem low_length : ∀ (k n : Nat), (low k n).length = k
  | 0, _ => rfl
  | k + 1, n => by simp [low, low_length k]

set_option maxRecDepth 100000 in
set_option maxHeartbeats 2000000 in
theorem pen_float (g B : Nat) (l : List UInt8) (f : Nat) (w : World) (hp : PenAt w g B l) (hB : B ≤ w.heap.size) (hl : l.length < 140737488355000) :
    Calls Try.prog 30 #[.pointer (some ⟨g, 0, none⟩), .float .f64 f] w fun e w' => e = .returned (.tuple #[]) ∧ PenAt w' g B (l ++ low 8 f) ∧ Kept g B w w' := by
  have hbits := bits_run f
  go_enter Try.func30, Try.ntmps30
  go_wp2
  clear hbits
  go_loopw [4, 7] (fun z i wr => ∃ (k q : Nat) (pre : List UInt8), k ≤ 8 ∧ i = .int .i64 ((8 - k : Nat) : Int) ∧ z = .int .u64 (q : Int) ∧ pre.length ≤ 8 ∧ PenAt wr g B (l ++ pre) ∧ Hid (pre.length + k = 8 ∧ pre ++ low k q = low 8 f) ∧ Kept g B w wr) (fun _ i _ => 8 - (intOf i).toNat)
  case atStart => exact ⟨8, f, [], Nat.le_refl _, rfl, rfl, by simp, by rw [List.append_nil]; exact hp, ⟨rfl, rfl⟩, Kept.refl _ _ _⟩
  case round =>
    obtain ⟨k, q, pre, hk8, rfl, rfl, hpl, hpq, hpre, hk⟩ := hrel
    have hBr : B ≤ wr.heap.size := Nat.le_trans hB hk.size
    have hlq : (l ++ pre).length < 140737488355328 := by rw [List.length_append]; omega
    clear hp
    cases k with
    | succ k =>
      have hby : (q : Int) % 256 = ((UInt8.ofNat (q % 256)).toNat : Int) := by rw [UInt8.toNat_ofNat']; omega
      have hpre2 : (pre ++ [UInt8.ofNat (q % 256)]) ++ low k (q / 256) = low 8 f := by rw [← hpre.out.2, List.append_assoc]; rfl
      generalize UInt8.ofNat (q % 256) = y at *
      have HBY := Lib.hid hby
      have HP2 := Lib.hid hpre2
      clear hby hpre2
      have hlt : ((8 - (k + 1) : Nat) : Int) < 8 := by omega
      have hge : (0 : Int) ≤ ((8 - (k + 1) : Nat) : Int) := by omega
      generalize hi : ((8 - (k + 1) : Nat) : Int) = i at *
      have HI := Lib.hid hi
      clear hi
      go_wp2_with fail
      refine (pen_byte g B _ y _ HBY.out wr hpq hBr hlq).mono ?_
      rintro e w' ⟨rfl, hp', hk'⟩
      rw [List.append_assoc] at hp'
      have hnum : Value.int .u64 ((q : Int) / 256) = .int .u64 ((q / 256 : Nat) : Int) := by simp
      have hinum : i + 1 = ((8 - k : Nat) : Int) := by rw [← HI.out]; omega
      have HN := Lib.hid hnum
      have HIN := Lib.hid hinum
      clear hnum hinum
      go_wp2
      go_roundw
      case rel => exact ⟨k, q / 256, pre ++ [y], by omega, by rw [HIN.out], HN.out, by have := hpre.out.1; simp; omega, hp', ⟨by have := hpre.out.1; simp; omega, HP2.out⟩, hk.trans hk'⟩
      case measure => 
        show 8 - (i + 1).toNat < 8 - i.toNat
        rw [HIN.out, ← HI.out]
        omega
    | zero =>
      have h2 := hpre.out.2
      rw [show low 0 q = [] from rfl, List.append_nil] at h2
      subst h2
      clear hpre hpl
      go_wp2
      go_end0
      exact ⟨rfl, hpq, hk⟩
end Go.Proofs.Ytlgkcpgbmobacaa
