/-
  What FrameLast calls and gives.
-/
import Derived.Test.YtlhlgjjgnlobjaaLaw7
import Derived.Test.YtlhlgjjgnlobjaaFrameMore
set_option linter.unusedSimpArgs false
set_option linter.unusedVariables false
namespace Go.Proofs.Ytlhlgjjgnlobjaa
open Go.RowKit

theorem size_more (w : World) (o : Obj) : (w.alloc o).heap.size = w.heap.size + 1 := by simp

set_option maxRecDepth 100000 in
set_option maxHeartbeats 4000000 in
theorem last_walk (A : Option Addr) (m cap : Nat) (l : List UInt8) (hm : l.length = m) (p q : Crc.W) (b c : Nat) (hb16 : b < 65536) (hc16 : c < 65536) (w : World) (hl : l.length ≤ maxLen) (hc : m ≤ cap) (hr : RB w A l) :
    Calls Try.prog 13 #[.slice A m cap, .agg #[.int .u32 (p.toNat : Int), .int .u32 (q.toNat : Int)], .agg #[.int .u16 (b : Int), .int .u16 (c : Int)]] w fun e w' => e = .returned (.bool true) ∧ Below w.heap.size w w' := by
  subst hm
  have hp32 := p.isLt
  have hq32 := q.isLt
  by_cases cl : (l.length : Int) < 1
  · go_enter Try.func13, Try.ntmps13
    go_wp2_with fail
    refine (law7_awake _).mono ?_
    rintro e w1 ⟨rfl, hb1⟩
    go_wp2
    go_ret
    exact ⟨rfl, bn (bal (bal (Below.refl _ _) _) _) hb1⟩
  · by_cases ch : (2000 : Int) < (l.length : Int)
    · go_enter Try.func13, Try.ntmps13
      go_wp2_with fail
      refine (law7_awake _).mono ?_
      rintro e w1 ⟨rfl, hb1⟩
      go_wp2
      go_ret
      exact ⟨rfl, bn (bal (bal (Below.refl _ _) _) _) hb1⟩
    · have h1 : 1 ≤ l.length := by omega
      have h2 : l.length ≤ 2000 := by omega
      go_enter Try.func13, Try.ntmps13
      go_wp2_with fail
      refine (law7_awake _).mono ?_
      rintro e w1 ⟨rfl, hb1⟩
      have hb01 := bn (bal (bal (Below.refl _ w) _) _) hb1
      have P1 := ((Blk.new w 48 #[.int .u32 (p.toNat : Int), .int .u32 (q.toNat : Int)]).alloc (.cells #[.int .u16 (b : Int), .int .u16 (c : Int)] 49)).below hb1
      have B1 := (Blk.new (w.alloc (.cells #[.int .u32 (p.toNat : Int), .int .u32 (q.toNat : Int)] 48)) 49 #[.int .u16 (b : Int), .int .u16 (c : Int)]).below hb1
      rw [show (w.alloc (.cells #[.int .u32 (p.toNat : Int), .int .u32 (q.toNat : Int)] 48)).heap.size = w.heap.size + 1 from size_more _ _] at B1
      have r1 := hr.below hb01
      clear hb1 hr
      have p0 : w1.cell? ⟨w.heap.size, 0, none⟩ = some (.int .u32 (p.toNat : Int)) := P1.cell 0
      have b0 : w1.cell? ⟨w.heap.size + 1, 0, none⟩ = some (.int .u16 (b : Int)) := B1.cell 0
      go_wp2_with fail
      have hB : ((BitVec.ofNat 32 b : Crc.W).toNat) = b := by rw [BitVec.toNat_ofNat]; omega
      have hC : ((BitVec.ofNat 32 c : Crc.W).toNat) = c := by rw [BitVec.toNat_ofNat]; omega
      refine (frame_make_ok p _ rfl (BitVec.ofNat 32 b) _ (by rw [hB]) (by omega) A l.length cap l _ rfl h1 (by omega) r1).mono ?_
      rintro e w3 ⟨v3, rfl, ho3, hb3⟩
      obtain ⟨A3, c3, rfl, k3, r3⟩ := ho3.bytes
      have hb03 := bn hb01 hb3
      have P3 := P1.below hb3
      have B3 := B1.below hb3
      have r1' := r1.below hb3
      clear p0 b0 hb3 P1 B1 r1 hb01
      have p1 : w3.cell? ⟨w.heap.size, 1, none⟩ = some (.int .u32 (q.toNat : Int)) := P3.cell 1
      have b1 : w3.cell? ⟨w.heap.size + 1, 1, none⟩ = some (.int .u16 (c : Int)) := B3.cell 1
      go_wp2_with fail
      refine (frame_make_ok q _ rfl (BitVec.ofNat 32 c) _ (by rw [hC]) (by omega) A l.length cap l _ rfl h1 (by omega) r1').mono ?_
      rintro e w4 ⟨v4, rfl, ho4, hb4⟩
      obtain ⟨A4, c4, rfl, k4, r4⟩ := ho4.bytes
      have hb04 := bn hb03 hb4
      have P4 := P3.below hb4
      have B4 := B3.below hb4
      have r4' := r3.below hb4
      clear p1 b1 hb4 P3 B3 r3 hb03 ho3 ho4 r1'
      have p1 : w4.cell? ⟨w.heap.size, 1, none⟩ = some (.int .u32 (q.toNat : Int)) := P4.cell 1
      have hm1 := Frame.mk_length p (BitVec.ofNat 32 b) l
      have hm2 := Frame.mk_length q (BitVec.ofNat 32 c) l
      have hr1 : p = q → Frame.read q (Frame.mk p (BitVec.ofNat 32 b) l) = some (l, BitVec.ofNat 32 b, Crc.next p l) := by
        rintro rfl
        have := Frame.read_mk p (BitVec.ofNat 32 b) (by omega) l [] h1 (by omega)
        rwa [List.append_nil] at this
      have hr2 : p ≠ q → Frame.read q (Frame.mk p (BitVec.ofNat 32 b) l) = none := by
        intro h
        have := Frame.read_other p q (BitVec.ofNat 32 b) h l [] h1 (by omega)
        rwa [List.append_nil] at this
      have hne : (Frame.mk p (BitVec.ofNat 32 b) l = Frame.mk q (BitVec.ofNat 32 c) l) ↔ p = q ∧ b = c := by
        constructor
        · intro h
          obtain ⟨h3, h4⟩ := Frame.mk_parts _ _ _ _ _ _ h
          exact ⟨h3, by rw [← hB, ← hC, h4]⟩
        · rintro ⟨rfl, rfl⟩; rfl
      have hnx : p = q → Crc.next p l = Crc.next q l := by rintro rfl; rfl
      generalize Crc.next p l = n1 at *
      generalize Crc.next q l = n2 at *
      generalize Frame.mk p (BitVec.ofNat 32 b) l = f1 at *
      generalize Frame.mk q (BitVec.ofNat 32 c) l = f2 at *
      rw [hm2]
      rw [hm1] at k3 ⊢
      have HM1 := Lib.hid hm1
      have HM2 := Lib.hid hm2
      have HNE := Lib.hid hne
      have HNX := Lib.hid hnx
      have HR1 := Lib.hid hr1
      have HR2 := Lib.hid hr2
      have HB := Lib.hid hB
      clear hm1 hm2 hne hnx hr1 hr2 hB hC
      go_wp2_with fail
      refine (frame_read q _ rfl A3 _ c3 f1 _ HM1.out (by rw [HM1.out]; omega) (by rw [HM1.out]; omega) r4').mono ?_
      intro e w5 hp
      by_cases hpq : p = q
      · obtain ⟨A5, c5, rfl, k5, r5, hb5⟩ := hp.get_some (HR1.out hpq)
        rw [HB.out]
        have hb05 := bn hb04 hb5
        have p0 : w5.cell? ⟨w.heap.size, 0, none⟩ = some (.int .u32 (p.toNat : Int)) := (P4.below hb5).cell 0
        have p1 : w5.cell? ⟨w.heap.size, 1, none⟩ = some (.int .u32 (q.toNat : Int)) := (P4.below hb5).cell 1
        have b0 : w5.cell? ⟨w.heap.size + 1, 0, none⟩ = some (.int .u16 (b : Int)) := (B4.below hb5).cell 0
        have b1 : w5.cell? ⟨w.heap.size + 1, 1, none⟩ = some (.int .u16 (c : Int)) := (B4.below hb5).cell 1
        have v1 := run_str_try w5 A3 c3 (l.length + 16) _ HM1.out (r4'.below hb5)
        have v2 := run_str_try w5 A4 c4 (l.length + 16) _ HM2.out (r4.below hb5)
        have hn := HNX.out hpq
        subst hpq
        subst hn
        clear hp HR1 HR2 P4 B4 HNX hb5 r4' r4
        by_cases hbc : b = c
        · subst hbc
          have hff := HNE.out.2 ⟨rfl, rfl⟩
          subst hff
          clear HNE
          go_wp2
          go_ret
          exact ⟨rfl, hb05⟩
        · have hbeq : ((⟨f1.toArray⟩ : ByteArray).toList == (⟨f2.toArray⟩ : ByteArray).toList) = false := by rw [str_list, str_list]; exact beq_eq_false_iff_ne.2 (fun h => hbc (HNE.out.1 h).2)
          generalize (⟨f1.toArray⟩ : ByteArray) = s1 at *
          generalize (⟨f2.toArray⟩ : ByteArray) = s2 at *
          have hbc2 : ((b : Int) == (c : Int)) = false := beq_eq_false_iff_ne.2 (by omega)
          clear HNE hbc
          go_wp2
          go_ret
          exact ⟨rfl, hb05⟩
      · obtain ⟨rfl, hb5⟩ := hp.get_none (HR2.out hpq)
        have hb05 := bn hb04 hb5
        have p0 : w5.cell? ⟨w.heap.size, 0, none⟩ = some (.int .u32 (p.toNat : Int)) := (P4.below hb5).cell 0
        have p1 : w5.cell? ⟨w.heap.size, 1, none⟩ = some (.int .u32 (q.toNat : Int)) := (P4.below hb5).cell 1
        have b0 : w5.cell? ⟨w.heap.size + 1, 0, none⟩ = some (.int .u16 (b : Int)) := (B4.below hb5).cell 0
        have b1 : w5.cell? ⟨w.heap.size + 1, 1, none⟩ = some (.int .u16 (c : Int)) := (B4.below hb5).cell 1
        have v1 := run_str_try w5 A3 c3 (l.length + 16) _ HM1.out (r4'.below hb5)
        have v2 := run_str_try w5 A4 c4 (l.length + 16) _ HM2.out (r4.below hb5)
        have hbeq : ((⟨f1.toArray⟩ : ByteArray).toList == (⟨f2.toArray⟩ : ByteArray).toList) = false := by rw [str_list, str_list]; exact beq_eq_false_iff_ne.2 (fun h => hpq (HNE.out.1 h).1)
        generalize (⟨f1.toArray⟩ : ByteArray) = s1 at *
        generalize (⟨f2.toArray⟩ : ByteArray) = s2 at *
        have hpq2 : ((p.toNat : Int) == (q.toNat : Int)) = false := beq_eq_false_iff_ne.2 (fun h => hpq (BitVec.eq_of_toNat_eq (by omega)))
        clear hp HR1 HR2 P4 B4 HNX hb5 r4' r4 HNE hpq
        go_wp2
        go_ret
        exact ⟨rfl, hb05⟩
end Go.Proofs.Ytlhlgjjgnlobjaa
