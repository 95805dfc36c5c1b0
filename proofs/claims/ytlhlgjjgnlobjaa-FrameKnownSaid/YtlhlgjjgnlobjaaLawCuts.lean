/-
  What FrameCuts calls and gives.
-/
import Derived.Test.YtlhlgjjgnlobjaaLaw7
set_option linter.unusedSimpArgs false
set_option linter.unusedVariables false
namespace Go.Proofs.Ytlhlgjjgnlobjaa
open Go.RowKit

/-- a frame of which the end is missing is none -/
theorem cut_none (last boot : Crc.W) (l : List UInt8) (h1 : 1 ≤ l.length) (h2 : l.length ≤ 16384) (k : Nat) (hk : k < l.length + 16) : Frame.read last ((Frame.mk last boot l).take k) = none := by
  have hlen : ((Frame.mk last boot l).take k).length = k := by rw [List.length_take, Frame.mk_length]; omega
  by_cases h17 : k < 17
  · exact Frame.read_short _ _ (by omega)
  · refine Frame.read_bad _ _ (.inr (.inr (.inr ?_)))
    have hn : Frame.num ((Frame.mk last boot l).take k) = Frame.num (Frame.mk last boot l) := by
      unfold Frame.num
      simp [List.getD_eq_getElem?_getD, List.getElem?_take, show 0 < k by omega, show 1 < k by omega, show 2 < k by omega, show 3 < k by omega]
    have hm := Frame.mk_num last boot l []
    rw [List.append_nil] at hm
    rw [hn, hm, hlen, BitVec.toNat_ofNat]
    omega

set_option maxRecDepth 100000 in
set_option maxHeartbeats 4000000 in
theorem cuts_walk (A : Option Addr) (m cap : Nat) (l : List UInt8) (hm : l.length = m) (c : Nat) (hc16 : c < 65536) (A' : Option Addr) (m' cap' : Nat) (l' : List UInt8) (hm' : l'.length = m') (w : World) (hl : l.length ≤ maxLen) (hl' : l'.length ≤ maxLen) (hc : m ≤ cap) (hc' : m' ≤ cap') (hr : RB w A l) (hr' : RB w A' l') :
    Calls Try.prog 14 #[.slice A m cap, .int .u16 (c : Int), .slice A' m' cap'] w fun e w' => e = .returned (.bool true) ∧ Below w.heap.size w w' := by
  subst hm
  subst hm'
  by_cases cl : (l.length : Int) < 1
  · go_enter Try.func14, Try.ntmps14
    go_wp2_with fail
    refine (law7_awake _).mono ?_
    rintro e w1 ⟨rfl, hb1⟩
    go_wp2
    go_ret
    exact ⟨rfl, hb1⟩
  · by_cases ch : (2000 : Int) < (l.length : Int)
    · go_enter Try.func14, Try.ntmps14
      go_wp2_with fail
      refine (law7_awake _).mono ?_
      rintro e w1 ⟨rfl, hb1⟩
      go_wp2
      go_ret
      exact ⟨rfl, hb1⟩
    · by_cases cm : (200 : Int) < (l'.length : Int)
      · go_enter Try.func14, Try.ntmps14
        go_wp2_with fail
        refine (law7_awake _).mono ?_
        rintro e w1 ⟨rfl, hb1⟩
        go_wp2
        go_ret
        exact ⟨rfl, hb1⟩
      · have h1 : 1 ≤ l.length := by omega
        have h2 : l.length ≤ 2000 := by omega
        go_enter Try.func14, Try.ntmps14
        go_wp2_with fail
        refine (law7_awake _).mono ?_
        rintro e w1 ⟨rfl, hb1⟩
        go_wp2_with fail
        refine (frame_make_ok 3#32 _ rfl 2#32 _ rfl (by decide) A l.length cap l _ rfl h1 (by omega) (hr.below hb1)).mono ?_
        rintro e w3 ⟨v3, rfl, ho3, hb3⟩
        obtain ⟨A3, c3, rfl, k3, r3⟩ := ho3.bytes
        have hb03 := bn hb1 hb3
        have hml := Frame.mk_length 3#32 2#32 l
        have hrd := Frame.read_mk 3#32 2#32 (by decide) l l' h1 (by omega)
        have hcn := cut_none 3#32 2#32 l h1 (by omega) (c % (l.length + 16)) (Nat.mod_lt _ (by omega))
        have hkk : (c : Int) % ((l.length : Int) + 16) = ((c % (l.length + 16) : Nat) : Int) := by simp
        have hkl : c % (l.length + 16) < l.length + 16 := Nat.mod_lt _ (by omega)
        generalize Frame.mk 3#32 2#32 l = f at *
        rw [hml] at k3 ⊢
        generalize Crc.next 3#32 l = nx at *
        generalize c % (l.length + 16) = k at *
        have hto := cut_to (P := Try.prog) 22 5 Try.underlying22 size_u8 A3 (l.length + 16) c3 (k : Int) (by omega) (by omega)
        rw [show (k : Int).toNat = k by omega] at hto
        have hkt : (f.take k).length = k := by rw [List.length_take, hml]; omega
        have HKT := Lib.hid hkt
        have HRD := Lib.hid hrd
        have HCN := Lib.hid hcn
        have HML := Lib.hid hml
        clear hkt hrd hcn hml
        go_wp2_with fail
        refine (frame_read 3#32 _ rfl A3 k c3 (f.take k) _ HKT.out (by rw [HKT.out]; omega) (by rw [HKT.out]; omega) (r3.take k)).mono ?_
        intro e w4 hp
        obtain ⟨rfl, hb4⟩ := hp.get_none HCN.out
        clear hp HCN
        have hb04 := bn hb03 hb4
        obtain ⟨v5, w5, HR5, ho5, hb5⟩ := append_fresh w4 A3 (l.length + 16) c3 f HML.out (r3.below hb4) (by rw [HML.out]; omega)
        have z5 := hb5.size
        obtain ⟨v6, w6, HR6, ho6, hb6, _⟩ := append_bytes w5 w4.heap.size v5 f ho5 A' l'.length cap' l' rfl ((hr'.below hb04).below hb5) (by rw [HML.out]; omega) z5
        have hb46 := hb5.trans hb6
        have hb06 := bn hb04 hb46
        obtain ⟨A6, c6, rfl, k6, r6⟩ := ho6.bytes
        have hl6 : (f ++ l').length = l.length + 16 + l'.length := by rw [List.length_append, HML.out]
        rw [hl6] at HR6 k6
        have HL6 := Lib.hid hl6
        clear hl6 hb5 hb6
        go_wp2_with (first | (at_builtin; refine wpList_append_run rfl _ _ 22 22 rfl _ _ _ _ rfl rfl HR5.out ?_) | (at_builtin; refine wpList_append_run rfl _ _ 22 22 rfl _ _ _ _ rfl rfl HR6.out ?_))
        refine (frame_read 3#32 _ rfl A6 _ c6 (f ++ l') _ HL6.out (by rw [HL6.out]; omega) (by rw [HL6.out]; exact k6) r6).mono ?_
        intro e w7 hp
        obtain ⟨A7, c7, rfl, k7, r7, hb7⟩ := hp.get_some HRD.out
        clear hp HRD
        have hb07 := bn hb06 hb7
        have v1 := run_str_try w7 A7 c7 l.length _ rfl r7
        have v2 := run_str_try w7 A cap l.length _ rfl (hr.below hb07)
        clear HR5 HR6 ho3 ho5 ho6
        go_wp2
        go_ret
        exact ⟨rfl, hb07⟩
end Go.Proofs.Ytlhlgjjgnlobjaa
