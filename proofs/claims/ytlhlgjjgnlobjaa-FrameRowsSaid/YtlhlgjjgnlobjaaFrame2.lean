/-
  The reference's frames, and the example of layer 7.
-/
import Derived.Test.YtlhlgjjgnlobjaaFrame
set_option linter.unusedSimpArgs false
set_option linter.unusedVariables false
namespace Go.Proofs.Ytlhlgjjgnlobjaa
open Go.RowKit

theorem str_list (a : List UInt8) : (⟨a.toArray⟩ : ByteArray).toList = a := by simp

set_option maxRecDepth 100000 in
set_option maxHeartbeats 2000000 in
theorem ref4_frame (last : Crc.W) (n : Int) (hn : n = (last.toNat : Int)) (boot : Crc.W) (bi : Int) (hbi : bi = (boot.toNat : Int)) (A : Option Addr) (m cap : Nat) (l : List UInt8) (w : World) (hm : l.length = m) (h2 : l.length ≤ 16384) (hr : RB w A l) :
    Calls Try.prog 24 #[.int .u32 n, .int .i64 bi, .slice A m cap] w fun e w' => ∃ v, e = .returned (.tuple #[v, .int .u32 ((Crc.next last l).toNat : Int)]) ∧ Own w' w.heap.size 5 v ((Frame.mk last boot l).map eb) ∧ Below w.heap.size w w' := by
  subst hn
  subst hbi
  subst hm
  have hlw : (l.length : Int) = ((BitVec.ofNat 32 l.length : Crc.W).toNat : Int) := by simp; omega
  have HLW := Lib.hid hlw
  clear hlw
  have hb32 := boot.isLt
  go_enter Try.func24, Try.ntmps24
  go_wp2_with fail
  refine (ref_four (BitVec.ofNat 32 l.length) _ HLW.out _).mono ?_
  rintro e w1 ⟨v1, rfl, ho1, hb1⟩
  go_wp2_with fail
  refine (ref_four boot _ rfl _).mono ?_
  rintro e w2 ⟨v2, rfl, ho2, hb2⟩
  obtain ⟨A2, c2, rfl, k2, r2⟩ := ho2.bytes
  have z1 := hb1.size
  have z2 := hb2.size
  obtain ⟨v3, w3, HR3, ho3, hb3, _⟩ := append_bytes w2 w.heap.size _ _ (ho1.below hb2) A2 4 c2 _ rfl r2 (by simp [Crc.four]) (by omega)
  have hb03 := (bn hb1 hb2).trans hb3
  have hh : four (BitVec.ofNat 32 l.length) ++ four boot = Frame.head boot l := rfl
  rw [hh] at ho3
  have hh8 : (Frame.head boot l).length = 8 := rfl
  go_wp2_with (at_builtin; refine wpList_append_run rfl _ _ 22 22 rfl _ _ _ _ rfl rfl HR3.out ?_)
  refine (ref_next last _ rfl A l.length cap l _ rfl (by unfold maxLen; omega) (hr.below hb03)).mono ?_
  rintro e w4 ⟨rfl, rfl⟩
  obtain ⟨A3, c3, rfl, k3, r3⟩ := ho3.bytes
  rw [hh8] at HR3 k3 ⊢
  have z3 := hb03.size
  obtain ⟨v5, w5, HR5, ho5, hb5, _⟩ := append_bytes w3 w3.heap.size _ [] (Own.nil _ _ _) A3 8 c3 _ rfl r3 (by simp [hh8]) (Nat.le_refl _)
  have hb05 := bn hb03 hb5
  go_wp2_with (at_builtin; refine wpList_append_run rfl _ _ 22 22 rfl _ _ _ _ rfl rfl HR5.out ?_)
  refine (ref_next last _ rfl A3 8 c3 (Frame.head boot l) _ hh8 (by rw [hh8]; unfold maxLen; omega) (r3.below hb5)).mono ?_
  rintro e w6 ⟨rfl, rfl⟩
  go_wp2_with fail
  refine (ref_four _ _ rfl _).mono ?_
  rintro e w7 ⟨v7, rfl, ho7, hb7⟩
  obtain ⟨A7, c7, rfl, k7, r7⟩ := ho7.bytes
  have z5 := hb5.size
  have z7 := hb7.size
  obtain ⟨v8, w8, HR8, ho8, hb8, _⟩ := append_bytes w7 w3.heap.size _ _ (ho5.below hb7) A7 4 c7 _ rfl r7 (by simp [hh8, Crc.four]) (by omega)
  have hb08 := (bn hb05 hb7).trans (hb8.mono z3)
  rw [show (four (Crc.next last (Frame.head boot l))).length = 4 from rfl]
  have z8 := hb8.size
  obtain ⟨v9, w9, HR9, ho9, hb9, _⟩ := append_bytes w8 w3.heap.size _ _ ho8 A l.length cap l rfl (hr.below hb08) (by simp [hh8, Crc.four]; omega) (by omega)
  have hb09 := hb08.trans (hb9.mono z3)
  go_wp2_with (first | (at_builtin; refine wpList_append_run rfl _ _ 22 22 rfl _ _ _ _ rfl rfl HR8.out ?_) | (at_builtin; refine wpList_append_run rfl _ _ 22 22 rfl _ _ _ _ rfl rfl HR9.out ?_))
  refine (ref_four _ _ rfl _).mono ?_
  rintro e w10 ⟨v10, rfl, ho10, hb10⟩
  obtain ⟨A10, c10, rfl, k10, r10⟩ := ho10.bytes
  have z9 := hb9.size
  have z10 := hb10.size
  obtain ⟨v11, w11, HR11, ho11, hb11, _⟩ := append_bytes w10 w3.heap.size _ _ (ho9.below hb10) A10 4 c10 _ rfl r10 (by simp [hh8, Crc.four]; omega) (by omega)
  rw [show (four (Crc.next last l)).length = 4 from rfl]
  go_wp2_with (at_builtin; refine wpList_append_run rfl _ _ 22 22 rfl _ _ _ _ rfl rfl HR11.out ?_)
  go_ret2
  exact ⟨_, rfl, ho11.lower z3, (bn hb09 hb10).trans (hb11.mono z3)⟩

/-- what the reference's Unframe answers: bytes of the row that came in -/
def UnPost (last : Crc.W) (l : List UInt8) (w : World) (e : Ending) (w' : World) : Prop :=
  Below w.heap.size w w' ∧ match Frame.read last l with
  | none => e = .returned (.tuple #[.slice none 0 0, .int .i64 0, .int .u32 0, .bool false])
  | some (x, boot, next) => ∃ A c, e = .returned (.tuple #[.slice A x.length c, .int .i64 (boot.toNat : Int), .int .u32 (next.toNat : Int), .bool true]) ∧ RB w' A x
theorem UnPost.none_ {last : Crc.W} {l : List UInt8} {w w' : World} (hb : Below w.heap.size w w') (h : Frame.read last l = none) : UnPost last l w (.returned (.tuple #[.slice none 0 0, .int .i64 0, .int .u32 0, .bool false])) w' := by
  unfold UnPost; rw [h]; exact ⟨hb, rfl⟩
theorem UnPost.some_ {last : Crc.W} {l x : List UInt8} {w w' : World} {boot next : Crc.W} {A : Option Addr} {n c : Nat} (hb : Below w.heap.size w w') (h : Frame.read last l = some (x, boot, next)) (hn : x.length = n) (ho : RB w' A x) :
    UnPost last l w (.returned (.tuple #[.slice A n c, .int .i64 (boot.toNat : Int), .int .u32 (next.toNat : Int), .bool true])) w' := by
  unfold UnPost; rw [h]; exact ⟨hb, A, c, by rw [hn], ho⟩

theorem or4 (a b c d : UInt8) : bits .or .i64 (bits .or .i64 (bits .or .i64 (wrap64 (a.toNat : Int)) (wrap64 (wrap64 (b.toNat : Int) * 256))) (wrap64 (wrap64 (c.toNat : Int) * 65536))) (wrap64 (wrap64 (d.toNat : Int) * 16777216)) = ((Crc.le4 a b c d).toNat : Int) := by
  have ha := a.toNat_lt
  have hb := b.toNat_lt
  have hc := c.toNat_lt
  have hd := d.toNat_lt
  have e0 : wrap64 (a.toNat : Int) = ((a.toNat : Nat) : Int) := by unfold wrap64; omega
  have e1 : wrap64 (wrap64 (b.toNat : Int) * 256) = ((b.toNat * 2 ^ 8 : Nat) : Int) := by unfold wrap64; omega
  have e2 : wrap64 (wrap64 (c.toNat : Int) * 65536) = ((c.toNat * 2 ^ 16 : Nat) : Int) := by unfold wrap64; omega
  have e3 : wrap64 (wrap64 (d.toNat : Int) * 16777216) = ((d.toNat * 2 ^ 24 : Nat) : Int) := by unfold wrap64; omega
  rw [e0, e1, e2, e3, or_step a.toNat 8 b (by omega) (by omega), or_step _ 16 c (by omega) (by omega), or_step _ 24 d (by omega) (by omega), le4_nat]
  simp only [numTo]
theorem num_get (l : List UInt8) (k : Nat) (h : k + 3 < l.length) : Crc.le4 (l[k]'(by omega)) (l[k + 1]'(by omega)) (l[k + 2]'(by omega)) (l[k + 3]'(by omega)) = Frame.num (l.drop k) := by
  unfold Frame.num
  simp [List.getD_eq_getElem?_getD, List.getElem?_drop, List.getElem?_eq_getElem (show k < l.length by omega), List.getElem?_eq_getElem (show k + 1 < l.length by omega), List.getElem?_eq_getElem (show k + 2 < l.length by omega), List.getElem?_eq_getElem (show k + 3 < l.length by omega)]

set_option maxRecDepth 100000 in
set_option maxHeartbeats 4000000 in
theorem ref4_unframe (last : Crc.W) (n : Int) (hn : n = (last.toNat : Int)) (A : Option Addr) (m cap : Nat) (l : List UInt8) (w : World) (hm : l.length = m) (hl : l.length ≤ 140737488355328) (hc : l.length ≤ cap) (hr : RB w A l) :
    Calls Try.prog 26 #[.int .u32 n, .slice A m cap] w (UnPost last l w) := by
  subst hn
  subst hm
  by_cases c17 : l.length < 17
  · have HREAD := Lib.hid (Frame.read_short last l c17)
    go_enter Try.func26, Try.ntmps26
    go_wp2
    refine bodyPost_ret (results_tmp4 rfl _ _ _) rfl ?_
    exact UnPost.none_ (Below.refl _ _) HREAD.out
  · obtain ⟨ad, rfl⟩ := hr.some_of (by omega)
    obtain ⟨bk, off, rfl, hcell⟩ := hr.lit_of (by omega)
    have x0 := hcell 0 (by omega)
    have x1 := hcell 1 (by omega)
    have x2 := hcell 2 (by omega)
    have x3 := hcell 3 (by omega)
    have x4 := hcell 4 (by omega)
    have x5 := hcell 5 (by omega)
    have x6 := hcell 6 (by omega)
    have x7 := hcell 7 (by omega)
    clear hcell
    rw [Nat.add_zero] at x0
    have l17 : (17 : Int) ≤ (l.length : Int) := by omega
    have i7 : (7 : Int) < (l.length : Int) := by omega
    have i6 : (6 : Int) < (l.length : Int) := by omega
    have i5 : (5 : Int) < (l.length : Int) := by omega
    have i4 : (4 : Int) < (l.length : Int) := by omega
    have i3 : (3 : Int) < (l.length : Int) := by omega
    have i2 : (2 : Int) < (l.length : Int) := by omega
    have i1 : (1 : Int) < (l.length : Int) := by omega
    have i0 : (0 : Int) < (l.length : Int) := by omega
    have hn0 := num_get l 0 (by omega)
    have hn4 := num_get l 4 (by omega)
    simp only [Nat.zero_add, List.drop_zero, Nat.reduceAdd] at hn0 hn4
    generalize hy0 : l[0]'(by omega) = y0 at *
    generalize hy1 : l[1]'(by omega) = y1 at *
    generalize hy2 : l[2]'(by omega) = y2 at *
    generalize hy3 : l[3]'(by omega) = y3 at *
    generalize hy4 : l[4]'(by omega) = y4 at *
    generalize hy5 : l[5]'(by omega) = y5 at *
    generalize hy6 : l[6]'(by omega) = y6 at *
    generalize hy7 : l[7]'(by omega) = y7 at *
    clear hy0 hy1 hy2 hy3 hy4 hy5 hy6 hy7
    have HN0 := Lib.hid hn0
    have HN4 := Lib.hid hn4
    clear hn0 hn4
    go_enter Try.func26, Try.ntmps26
    go_wp2
    go_quiet (fail)
    have hb1 : Below w.heap.size w (w.drewN nq) := below_drewN (Below.refl _ _) _
    rw [or4, HN0.out]
    have z4 := x4
    have z5 := x5
    have z6 := x6
    have z7 := x7
    replace z4 : (w.drewN nq).cell? _ = _ := x4
    replace z5 : (w.drewN nq).cell? _ = _ := x5
    replace z6 : (w.drewN nq).cell? _ = _ := x6
    replace z7 : (w.drewN nq).cell? _ = _ := x7
    have q1 := hr.below hb1
    clear x0 x1 x2 x3 x4 x5 x6 x7 HN0
    generalize w.drewN nq = w1 at *
    have hNlt := (Frame.num l).isLt
    generalize hN : (Frame.num l).toNat = N at *
    have HN := Lib.hid hN
    clear hN
    go_wp2
    go_quiet (fail)
    have hb2 : Below w1.heap.size w1 (w1.drewN nq) := below_drewN (Below.refl _ _) _
    rw [or4, HN4.out]
    have q2 := q1.below hb2
    have hb02 := bn hb1 hb2
    clear z4 z5 z6 z7 HN4 hb1 hb2 q1
    generalize w1.drewN nq = w2 at *
    generalize hbt : Frame.num (l.drop 4) = bt at *
    have hb32 := bt.isLt
    by_cases cg : (N : Int) < 1 ∨ (16384 : Int) < (N : Int) ∨ (2147483648 : Int) ≤ (bt.toNat : Int) ∨ (l.length : Int) < (N : Int) + 16
    · have hrd : Frame.read last l = none := Frame.read_bad last l (by rw [HN.out, hbt]; omega)
      have HRD := Lib.hid hrd
      clear hrd hbt
      by_cases c1 : (N : Int) < 1
      · go_wp2
        refine bodyPost_ret (results_tmp4 rfl _ _ _) rfl ?_
        exact UnPost.none_ hb02 HRD.out
      · by_cases c2 : (16384 : Int) < (N : Int)
        · go_wp2
          refine bodyPost_ret (results_tmp4 rfl _ _ _) rfl ?_
          exact UnPost.none_ hb02 HRD.out
        · by_cases c3 : (2147483648 : Int) ≤ (bt.toNat : Int)
          · go_wp2
            refine bodyPost_ret (results_tmp4 rfl _ _ _) rfl ?_
            exact UnPost.none_ hb02 HRD.out
          · have c4 : (l.length : Int) < (N : Int) + 16 := by omega
            go_wp2
            refine bodyPost_ret (results_tmp4 rfl _ _ _) rfl ?_
            exact UnPost.none_ hb02 HRD.out
    · have c1 : ¬ (N : Int) < 1 := by omega
      have c2 : ¬ (16384 : Int) < (N : Int) := by omega
      have c3 : ¬ (2147483648 : Int) ≤ (bt.toNat : Int) := by omega
      have c4 : ¬ (l.length : Int) < (N : Int) + 16 := by omega
      have c5 : N + 16 ≤ l.length := by omega
      have hrd := Frame.read_good last l (by rw [HN.out]; omega) (by rw [HN.out]; omega) (by rw [hbt]; omega) (by rw [HN.out]; omega)
      rw [HN.out, hbt] at hrd
      have HRD := Lib.hid hrd
      clear hrd hbt cg
      obtain ⟨Ac, hcm, hdr, _⟩ := cut_mid (P := Try.prog) 22 5 Try.underlying22 size_u8 (some ⟨bk, off, none⟩) l.length cap 12 (12 + (N : Int)) (by omega) (by omega) (by omega)
      rw [show (12 + (N : Int)).toNat - (12 : Int).toNat = N by omega, show cap - (12 : Int).toNat = cap - 12 by omega] at hcm
      have hto := cut_to (P := Try.prog) 22 5 Try.underlying22 size_u8 (some ⟨bk, off, none⟩) l.length cap ((N : Int) + 16) (by omega) (by omega)
      rw [show ((N : Int) + 16).toNat = N + 16 by omega] at hto
      have htl : (l.take (N + 16)).length = N + 16 := by simp; omega
      have hlr : ((l.drop 12).take N).length = N := by simp; omega
      have HML := Lib.hid htl
      have HLR := Lib.hid hlr
      have hdrB : ∀ W, RB W (some ⟨bk, off, none⟩) l → RB W Ac ((l.drop 12).take N) := by
        intro W h
        have h2 := hdr W _ (by simp; exact hc) h
        rw [show (12 : Int).toNat = 12 from rfl, ← List.map_drop] at h2
        exact RB.take h2 N
      clear htl hlr hdr
      go_wp2_with fail
      refine (ref4_frame last _ rfl bt _ rfl Ac N (cap - 12) ((l.drop 12).take N) w2 HLR.out (by rw [HLR.out]; omega) (hdrB _ q2)).mono ?_
      rintro e w3 ⟨v3, rfl, ho3, hb3⟩
      have hml : (Frame.mk last bt ((l.drop 12).take N)).length = N + 16 := by rw [Frame.mk_length, HLR.out]
      obtain ⟨A3, c3, rfl, k3, r3⟩ := ho3.bytes
      rw [hml]
      have q3 := q2.below hb3
      have hb03 := bn hb02 hb3
      have t1 : ∀ nq, (convert 22 9 (.slice A3 (N + 16) c3)).run Try.prog (w3.drewN nq) = .ok (.string ⟨(Frame.mk last bt ((l.drop 12).take N)).toArray⟩) (w3.drewN nq) := fun nq => run_str_try _ _ _ _ _ hml (r3.below (below_drewN (Below.refl _ _) _))
      have t2 : ∀ nq, (convert 22 9 (.slice (some ⟨bk, off, none⟩) (N + 16) cap)).run Try.prog (w3.drewN nq) = .ok (.string ⟨(l.take (N + 16)).toArray⟩) (w3.drewN nq) := fun nq => run_str_try _ _ _ _ _ HML.out ((q3.take _).below (below_drewN (Below.refl _ _) _))
      by_cases he : Frame.mk last bt ((l.drop 12).take N) = l.take (N + 16)
      · have hr2 := HRD.out
        rw [if_pos he] at hr2
        have hbeq : ((⟨(Frame.mk last bt ((l.drop 12).take N)).toArray⟩ : ByteArray).toList == (⟨(l.take (N + 16)).toArray⟩ : ByteArray).toList) = true := by rw [str_list, str_list]; exact beq_iff_eq.2 he
        generalize (⟨(Frame.mk last bt ((l.drop 12).take N)).toArray⟩ : ByteArray) = s1 at *
        generalize (⟨(l.take (N + 16)).toArray⟩ : ByteArray) = s2 at *
        have HR2 := Lib.hid hr2
        clear hr2 he HRD hml
        go_wp2
        go_quiet (fail)
        have hb4 : Below w3.heap.size w3 (w3.drewN nq) := below_drewN (Below.refl _ _) _
        have q4 := q3.below hb4
        have hb04 := bn hb03 hb4
        clear t1 t2 hb4
        generalize w3.drewN nq = w4 at *
        go_wp2
        refine bodyPost_ret (results_tmp4 rfl _ _ _) rfl ?_
        exact UnPost.some_ hb04 HR2.out HLR.out (hdrB _ q4)
      · have hr2 := HRD.out
        rw [if_neg he] at hr2
        have hbeq : ((⟨(Frame.mk last bt ((l.drop 12).take N)).toArray⟩ : ByteArray).toList == (⟨(l.take (N + 16)).toArray⟩ : ByteArray).toList) = false := by rw [str_list, str_list]; exact beq_eq_false_iff_ne.2 he
        generalize (⟨(Frame.mk last bt ((l.drop 12).take N)).toArray⟩ : ByteArray) = s1 at *
        generalize (⟨(l.take (N + 16)).toArray⟩ : ByteArray) = s2 at *
        have HR2 := Lib.hid hr2
        clear hr2 he HRD hml
        go_wp2
        go_quiet (fail)
        have hb4 : Below w3.heap.size w3 (w3.drewN nq) := below_drewN (Below.refl _ _) _
        have hb04 := bn hb03 hb4
        clear t1 t2 hb4
        generalize w3.drewN nq = w4 at *
        go_wp2
        refine bodyPost_ret (results_tmp4 rfl _ _ _) rfl ?_
        exact UnPost.none_ hb04 HR2.out
end Go.Proofs.Ytlhlgjjgnlobjaa
