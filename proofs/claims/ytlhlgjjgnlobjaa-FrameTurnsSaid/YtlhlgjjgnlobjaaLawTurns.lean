/-
  What FrameTurns calls and gives.
-/
import Derived.Test.YtlhlgjjgnlobjaaLaw7
set_option linter.unusedSimpArgs false
set_option linter.unusedVariables false
namespace Go.Proofs.Ytlhlgjjgnlobjaa
open Go.RowKit

set_option maxRecDepth 100000 in
set_option maxHeartbeats 4000000 in
theorem turns_walk (x0 x1 : Int) (h0 : -9223372036854775808 ≤ x0 ∧ x0 ≤ 9223372036854775807) (h1 : -9223372036854775808 ≤ x1 ∧ x1 ≤ 9223372036854775807) (A : Option Addr) (m cap : Nat) (l : List UInt8) (hm : l.length = m) (A' : Option Addr) (m' cap' : Nat) (l' : List UInt8) (hm' : l'.length = m') (w : World) (hl : l.length ≤ maxLen) (hl' : l'.length ≤ maxLen) (hc : m ≤ cap) (hc' : m' ≤ cap') (hr : RB w A l) (hr' : RB w A' l') :
    Calls Try.prog 8 #[.agg #[.int .i64 x0, .int .i64 x1], .slice A m cap, .slice A' m' cap'] w fun e w' => e = .returned (.bool true) ∧ Below w.heap.size w w' := by
  subst hm
  subst hm'
  obtain ⟨h0l, h0h⟩ := h0
  obtain ⟨h1l, h1h⟩ := h1
  by_cases cl : (40000 : Int) < (l.length : Int)
  · go_enter Try.func8, Try.ntmps8
    go_wp2_with fail
    refine (law7_awake _).mono ?_
    rintro e w1 ⟨rfl, hb1⟩
    go_wp2
    go_ret
    exact ⟨rfl, bn (bal (Below.refl _ _) _) hb1⟩
  · by_cases cm : (100 : Int) < (l'.length : Int)
    · go_enter Try.func8, Try.ntmps8
      go_wp2_with fail
      refine (law7_awake _).mono ?_
      rintro e w1 ⟨rfl, hb1⟩
      go_wp2
      go_ret
      exact ⟨rfl, bn (bal (Below.refl _ _) _) hb1⟩
    · go_enter Try.func8, Try.ntmps8
      go_wp2_with fail
      refine (law7_awake _).mono ?_
      rintro e w1 ⟨rfl, hb1⟩
      have hb01 := bn (bal (Below.refl _ w) _) hb1
      have hblk := (Blk.new w 34 #[.int .i64 x0, .int .i64 x1]).below hb1
      have y0 : w1.cell? ⟨w.heap.size, 0, none⟩ = some (.int .i64 x0) := hblk.cell 0
      have y1 : w1.cell? ⟨w.heap.size, 1, none⟩ = some (.int .i64 x1) := hblk.cell 1
      clear hblk
      go_wp2
      go_quiet (fail)
      have hb2 : Below w1.heap.size w1 (w1.drewN nq) := below_drewN (Below.refl _ _) _
      have hb02 := bn hb01 hb2
      clear y0 y1 hb01 hb1 hb2
      generalize w1.drewN nq = w2 at *
      have r2 := hr.below hb02
      have t2 := hr'.below hb02
      clear hr hr'
      have hb00 := hb02
      by_cases cb : Frame.size l.length = 0 ∨ x1 < 0 ∨ 2147483647 < x1
      · by_cases s1 : (l.length : Int) < 1
        · have hsz : Frame.size l.length = 0 := by unfold Frame.size; rw [if_pos s1]
          have HSZ := Lib.hid hsz
          have CB := Lib.hid cb
          clear hsz cb
          go_wp2_with fail
          refine (frame_make_bad _ x1 h1l h1h A l.length cap l _ rfl hl CB.out).mono ?_
          rintro e w3 ⟨rfl, rfl⟩
          go_wp2_with (go_at_call 23; refine (frame_size _ (by omega) (by omega) _).mono ?_; rintro e w3 ⟨rfl, rfl⟩; rw [HSZ.out])
          go_ret
          exact ⟨rfl, hb00⟩
        · by_cases s2 : (16384 : Int) < (l.length : Int)
          · have hsz : Frame.size l.length = 0 := by unfold Frame.size; rw [if_neg s1, if_pos s2]
            have HSZ := Lib.hid hsz
            have CB := Lib.hid cb
            clear hsz cb
            go_wp2_with fail
            refine (frame_make_bad _ x1 h1l h1h A l.length cap l _ rfl hl CB.out).mono ?_
            rintro e w3 ⟨rfl, rfl⟩
            go_wp2_with (go_at_call 23; refine (frame_size _ (by omega) (by omega) _).mono ?_; rintro e w3 ⟨rfl, rfl⟩; rw [HSZ.out])
            go_ret
            exact ⟨ret_bool (by simp; omega), hb00⟩
          · have hsz : Frame.size l.length = (l.length : Int) + 16 := by unfold Frame.size; rw [if_neg s1, if_neg s2]
            have cb2 : x1 < 0 ∨ 2147483647 < x1 := by rw [hsz] at cb; omega
            have HSZ := Lib.hid hsz
            have CB := Lib.hid cb
            clear hsz cb
            by_cases s3 : x1 < 0
            · go_wp2_with fail
              refine (frame_make_bad _ x1 h1l h1h A l.length cap l _ rfl hl CB.out).mono ?_
              rintro e w3 ⟨rfl, rfl⟩
              go_wp2_with (go_at_call 23; refine (frame_size _ (by omega) (by omega) _).mono ?_; rintro e w3 ⟨rfl, rfl⟩; rw [HSZ.out])
              go_ret
              exact ⟨ret_bool (by simp; omega), hb00⟩
            · have s4 : 2147483647 < x1 := by omega
              go_wp2_with fail
              refine (frame_make_bad _ x1 h1l h1h A l.length cap l _ rfl hl CB.out).mono ?_
              rintro e w3 ⟨rfl, rfl⟩
              go_wp2_with (go_at_call 23; refine (frame_size _ (by omega) (by omega) _).mono ?_; rintro e w3 ⟨rfl, rfl⟩; rw [HSZ.out])
              go_ret
              exact ⟨ret_bool (by simp; omega), hb00⟩
      · have s1 : ¬ (l.length : Int) < 1 := fun h => cb (.inl (by unfold Frame.size; rw [if_pos h]))
        have s2 : ¬ (16384 : Int) < (l.length : Int) := fun h => cb (.inl (by unfold Frame.size; rw [if_neg s1, if_pos h]))
        have s3 : ¬ x1 < 0 := fun h => cb (.inr (.inl h))
        have s4 : ¬ 2147483647 < x1 := fun h => cb (.inr (.inr h))
        clear cb
        have hsz : Frame.size l.length = (l.length : Int) + 16 := by unfold Frame.size; rw [if_neg s1, if_neg s2]
        have HSZ := Lib.hid hsz
        clear hsz
        have hl0 : x0 % 4294967296 = ((BitVec.ofInt 32 x0).toNat : Int) := by rw [BitVec.toNat_ofInt]; omega
        have hl1 : x1 = ((BitVec.ofInt 32 x1).toNat : Int) := by rw [BitVec.toNat_ofInt]; omega
        rw [hl0]
        clear hl0
        generalize BitVec.ofInt 32 x0 = last at *
        generalize BitVec.ofInt 32 x1 = boot at *
        subst hl1
        have hb32 := boot.isLt
        have hbo : boot.toNat < 2147483648 := by omega
        go_wp2_with fail
        refine (frame_make_ok last _ rfl boot _ rfl hbo A l.length cap l _ rfl (by omega) (by omega) r2).mono ?_
        rintro e w3 ⟨v3, rfl, ho3, hb3⟩
        obtain ⟨A3, c3, rfl, k3, r3⟩ := ho3.bytes
        have hml := Frame.mk_length last boot l
        have hrd := Frame.read_mk last boot hbo l l' (by omega) (by omega)
        have HRD := Lib.hid hrd
        have REF := Lib.hid (fun W => ref4_frame last _ rfl boot _ rfl A l.length cap l W rfl (by omega))
        clear hrd hbo
        generalize Frame.mk last boot l = f at *
        rw [hml] at k3 ⊢
        generalize Crc.next last l = nx at *
        have hb03 := bn hb02 hb3
        have HML := Lib.hid hml
        clear hml
        go_wp2_with fail
        refine (REF.out _ (r2.below hb3)).mono ?_
        rintro e w4 ⟨v4, rfl, ho4, hb4⟩
        obtain ⟨A4, c4, rfl, k4, r4⟩ := ho4.bytes
        rw [HML.out] at k4 ⊢
        have hb04 := bn hb03 hb4
        obtain ⟨v5, w5, HR5, ho5, hb5⟩ := append_fresh w4 A3 (l.length + 16) c3 f HML.out (r3.below hb4) (by rw [HML.out]; omega)
        have hb05 := bn hb04 hb5
        have z4 := hb4.size
        have z5 := hb5.size
        obtain ⟨v6, w6, HR6, ho6, hb6, _⟩ := append_bytes w5 w4.heap.size v5 f ho5 A' l'.length cap' l' rfl ((t2.below (bn hb3 hb4)).below hb5) (by rw [HML.out]; omega) z5
        have hb46 := hb5.trans hb6
        have hb06 := bn hb04 hb46
        obtain ⟨A6, c6, rfl, k6, r6⟩ := ho6.bytes
        have hl6 : (f ++ l').length = l.length + 16 + l'.length := by rw [List.length_append, HML.out]
        rw [hl6] at HR6 k6
        have HL6 := Lib.hid hl6
        clear hl6 hb5 hb6
        go_wp2_with (first | (at_builtin; refine wpList_append_run rfl _ _ 22 22 rfl _ _ _ _ rfl rfl HR5.out ?_) | (at_builtin; refine wpList_append_run rfl _ _ 22 22 rfl _ _ _ _ rfl rfl HR6.out ?_))
        refine (frame_read last _ rfl A6 _ c6 (f ++ l') _ HL6.out (by rw [HL6.out]; omega) (by rw [HL6.out]; exact k6) r6).mono ?_
        intro e w7 hp
        obtain ⟨A7, c7, rfl, k7, r7, hb7⟩ := hp.get_some HRD.out
        clear hp HRD REF
        have hb07 := bn hb06 hb7
        have hb47 := bn hb46 hb7
        have v1 := run_str_try w7 A3 c3 (l.length + 16) _ HML.out ((r3.below hb4).below hb47)
        have v2 := run_str_try w7 A4 c4 (l.length + 16) _ HML.out (r4.below hb47)
        have v3 := run_str_try w7 A7 c7 l.length _ rfl r7
        have v4 := run_str_try w7 A cap l.length _ rfl (((r2.below hb3).below hb4).below hb47)
        clear HR5 HR6 ho3 ho4 ho5 ho6
        go_wp2_with (go_at_call 23; refine (frame_size _ (by omega) (by omega) _).mono ?_; rintro e w3 ⟨rfl, rfl⟩; rw [HSZ.out])
        go_ret
        exact ⟨rfl, hb07⟩
end Go.Proofs.Ytlhlgjjgnlobjaa
