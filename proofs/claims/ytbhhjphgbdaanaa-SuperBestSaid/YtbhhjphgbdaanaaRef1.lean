/-
  The reference's numbers, texts, floats as bytes.
-/
import Derived.Test.YtbhhjphgbdaanaaEyeText
set_option linter.unusedSimpArgs false
set_option linter.unusedVariables false
namespace Go.Proofs.Ytbhhjphgbdaanaa
open Go.RowKit

/-- 'append(x, b)' of one byte, x the call's own -/
theorem append_one (w : World) (B : Nat) (v : Value) (a : List UInt8) (hown : Own w B 5 v (a.map eb)) (x : UInt8) (hl : a.length < 140737488355328) (hB : B ≤ w.heap.size) :
    ∃ v' w2, Hid ((Builtin.append_ #[35, 35] 35 #[v, .slice (some ⟨w.heap.size, 0, none⟩) 1 1]).run Try.prog (w.alloc (.cells #[.int .u8 (x.toNat : Int)] 5)) = .ok v' w2) ∧ Own w2 B 5 v' ((a ++ [x]).map eb) ∧ Below B w w2 := by
  obtain ⟨v2, w2, HR, ho2, hb2, _⟩ := append_bytes (w.alloc (.cells #[.int .u8 (x.toNat : Int)] 5)) B v a (hown.below (bal (Below.refl _ w) _)) (some ⟨w.heap.size, 0, none⟩) 1 1 [x] rfl (RB.lit _ _ _ _ _ rfl) (by simp; omega) (by simp; omega)
  exact ⟨v2, w2, HR, ho2, ((Below.refl B w).alloc hB _).trans hb2⟩

set_option maxRecDepth 100000 in
set_option maxHeartbeats 2000000 in
theorem ref_num (n : Int) (h0 : -9223372036854775808 ≤ n) (h1 : n ≤ 9223372036854775807) (w : World) :
    Calls Try.prog 56 #[.int .i64 n] w fun e w' => ∃ v, e = .returned v ∧ Own w' w.heap.size 5 v ((num n.toNat).map eb) ∧ Below w.heap.size w w' := by
  obtain ⟨m, hm, hm1, hmn⟩ : ∃ m : Nat, (if n < 0 then 0 else n) = (m : Int) ∧ m ≤ 9223372036854775807 ∧ n.toNat = m := ⟨n.toNat, by split <;> omega, by omega, rfl⟩
  rw [hmn]
  clear hmn
  go_enter Try.func56, Try.ntmps56
  go_wp2
  clear hm h0 h1
  go_loopw [3, 0] (fun v z wr => ∃ (q : Nat) (pre : List UInt8), q ≤ m ∧ z = .int .i64 q ∧ Own wr w.heap.size 5 v (pre.map eb) ∧ Hid (pre ++ num q = num m) ∧ Below w.heap.size w wr) (fun _ z _ => (intOf z).toNat)
  case atStart => exact ⟨m, [], Nat.le_refl _, rfl, Own.nil _ _ _, rfl, Below.refl _ _⟩
  case round =>
    obtain ⟨q, pre, hq, rfl, ho, hpre, hb⟩ := hrel
    have hlen : pre.length + (num q).length ≤ 10 := by rw [← List.length_append, hpre.out]; exact num_10 m hm1
    have hlp : pre.length < 140737488355328 := by omega
    have hsz := hb.size
    by_cases h128 : (128 : Int) ≤ (q : Int)
    · have hng := num_great q (by omega)
      obtain ⟨v2, w2, HR, ho2, hb2⟩ := append_one wr w.heap.size _ pre ho (UInt8.ofNat (q % 128 + 128)) hlp hsz
      have hby : ((UInt8.ofNat (q % 128 + 128)).toNat : Int) = (q : Int) % 128 + 128 := by rw [UInt8.toNat_ofNat']; omega
      rw [hby] at HR
      generalize UInt8.ofNat (q % 128 + 128) = y at *
      have hfin : (pre ++ [y]) ++ num (q / 128) = num m := by
        have h1 := hpre.out
        rw [hng] at h1
        rw [← h1, List.append_assoc]
        simp
      have HF := Lib.hid hfin
      clear hng hlen hby hfin
      obtain ⟨A2, c2, rfl, _, _⟩ := ho2.bytes
      rw [show (pre ++ [y]).length = pre.length + 1 by simp] at HR ho2
      go_wp2_with (at_builtin; refine wpList_append_run rfl _ _ 35 35 rfl _ _ _ _ rfl rfl HR.out ?_)
      go_roundw
      case measure => 
        have e1 : ((q : Int) / 128).toNat = q / 128 := by omega
        show (q : Int).toNat > ((q : Int) / 128).toNat
        rw [e1]
        omega
      case rel => 
        have hle : q / 128 ≤ m := by omega
        have hnum : (Value.int .i64 ((q : Int) / 128)) = .int .i64 ((q / 128 : Nat) : Int) := by simp
        exact ⟨q / 128, pre ++ [y], hle, hnum, ho2, HF.out, hb.trans hb2⟩
    · have hsm := num_small q (by omega)
      obtain ⟨v2, w2, HR, ho2, hb2⟩ := append_one wr w.heap.size _ pre ho (UInt8.ofNat q) hlp hsz
      have hby : ((UInt8.ofNat q).toNat : Int) = (q : Int) := by rw [UInt8.toNat_ofNat']; omega
      rw [hby] at HR
      have hfin : pre ++ [UInt8.ofNat q] = num m := by
        have h1 := hpre.out
        rw [hsm] at h1
        exact h1
      rw [hfin] at ho2
      clear hsm hby hfin hlen
      go_wp2_with (at_builtin; refine wpList_append_run rfl _ _ 35 35 rfl _ _ _ _ rfl rfl HR.out ?_)
      go_ret
      exact ⟨_, rfl, ho2, hb.trans hb2⟩

end Go.Proofs.Ytbhhjphgbdaanaa
