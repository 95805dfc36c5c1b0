/-
  What DiskHands calls and gives.
-/
import Derived.Test.YtbhhjphgbdaanaaLaw4
set_option linter.unusedSimpArgs false
set_option linter.unusedVariables false
namespace Go.Proofs.Ytbhhjphgbdaanaa
open Go.RowKit Go.Maps

theorem own_len_lt {w : World} {B : Nat} {A : Option Addr} {n c : Nat} {cs : List Value} (ho : Own w B 5 (.slice A n c) cs) : ∀ ad, A = some ad → B ≤ ad.block ∧ ad.block < w.heap.size := fun ad e => ⟨(ho.typed ad.block (by rw [e]; rfl)).1, (ho.typed ad.block (by rw [e]; rfl)).2.1⟩
/-- a row of 64 bytes, its block -/
theorem own64 {w : World} {B : Nat} {v : Value} {l : List UInt8} (ho : Own w B 5 v (l.map eb)) (hl : l.length = 64) : ∃ g cap cur, v = .slice (some ⟨g, 0, none⟩) 64 cap ∧ B ≤ g ∧ g < w.heap.size ∧ Blk w g 5 cur ∧ ∀ i, i < 64 → ∃ x : UInt8, w.cell? ⟨g, i, none⟩ = some (.int .u8 (x.toNat : Int)) := by
  obtain ⟨g, cap, cur, rfl, hg, hb, hle, hs, hm, ht⟩ := ho.blk (by rw [List.length_map]; omega)
  refine ⟨g, cap, cur, by rw [List.length_map, hl], hg, hb.lt, hb, fun i hi => ⟨l[i]'(by omega), ?_⟩⟩
  rw [hb.cell i, row_get ht i (by rw [List.length_map]; omega), List.getElem_map]
  rfl
set_option maxRecDepth 100000 in
set_option maxHeartbeats 8000000 in
theorem hands_walk (A0 : Option Addr) (m0 c0 : Nat) (a : List UInt8) (hm0 : a.length = m0) (A1 : Option Addr) (m1 c1 : Nat) (b : List UInt8) (hm1 : b.length = m1) (w : World) (hb0 : m0 ≤ 9223372036854775807) (hb1 : m1 ≤ 9223372036854775807) (hr0 : RB w A0 a) (hr1 : RB w A1 b) :
    Calls Try.prog 10 #[.slice A0 m0 c0, .slice A1 m1 c1] w fun e w' => e = .returned (.bool true) ∧ Below w.heap.size w w' := by
  subst hm0 hm1
  by_cases c5 : (100 : Int) < (a.length : Int)
  · go_enter Try.func10, Try.ntmps10
    go_wp2_with fail
    (with_reducible refine (law4_awake _).mono ?_)
    rintro e w1 ⟨rfl, hb1⟩
    go_wp2
    go_ret
    exact ⟨rfl, hb1⟩
  by_cases c6 : (100 : Int) < (b.length : Int)
  · go_enter Try.func10, Try.ntmps10
    go_wp2_with fail
    (with_reducible refine (law4_awake _).mono ?_)
    rintro e w1 ⟨rfl, hb1⟩
    go_wp2
    go_ret
    exact ⟨rfl, hb1⟩
  have HA := Lib.hid fun W (hb : Below w.heap.size w W) => law4_full A0 a.length c0 a W rfl hb0 (hr0.below hb)
  have HB := Lib.hid fun W (hb : Below w.heap.size w W) => law4_full A1 b.length c1 b W rfl hb1 (hr1.below hb)
  have hFa := fullB_len a
  have hFb := fullB_len b
  generalize fullB a = fa at *
  generalize fullB b = fb at *
  have HFa := Lib.hid hFa
  have HFb := Lib.hid hFb
  clear hr0 hr1 hFa hFb
  go_enter Try.func10, Try.ntmps10
  go_wp2_with fail
  (with_reducible refine (law4_awake _).mono ?_)
  rintro e w1 ⟨rfl, hb1⟩
  go_wp2_with fail
  (with_reducible refine (live_new hb1 2 2 rfl (by omega)).mono ?_)
  rintro e w2 ⟨g, P, rfl, hd2, _, _⟩
  rw [newD_live] at hd2
  -- x
  go_wp2_with fail
  (with_reducible refine (HA.out _ hd2.bel).mono ?_)
  rintro e w3 ⟨v3, rfl, ho3, hb3⟩
  have hr3 := ho3.isB
  obtain ⟨gx, cx, _, rfl, hgx0, hgx1, hbx, hcx⟩ := own64 ho3 HFa.out
  have hr3' : RB w3 (some ⟨gx, 0, none⟩) fa := ho3.bytes_at
  have hPlt2 := Lib.hid hd2.disk.lt
  have hd3 := hd2.below hb3
  go_wp2_with fail
  (with_reducible refine (live_write hd3 0 _ 64 cx fa HFa.out hr3' (by rw [HFa.out]; omega) (by omega) (by simp [liveD]) (write_live (k := 0) 0 rfl (by simp) HFa.out)).mono ?_)
  rintro e w4 ⟨rfl, hd4, hk4⟩
  simp only at hd4
  have hxP : ¬ P gx := fun f => by have := hPlt2.out gx f; omega
  have hbx4 := hbx.kp hk4 hxP
  have hP4 : ∀ j, Grow P w3 w4 j → ¬ j = gx := fun j hj e => by
    subst e
    rcases hj with hj | hj
    · exact hxP hj
    · omega
  have hz2 := hd2.bel.size
  obtain ⟨x0, hx0⟩ := hcx 0 (by omega)
  have hx4 : w4.cell? ⟨gx, 0, none⟩ = some (.int .u8 (x0.toNat : Int)) := by
    rw [hbx4.cell 0, ← hbx.cell 0]; exact hx0
  have hxf := hbx4.frozen 0
  have hx256 := x0.toNat_lt
  generalize x0.toNat = xn at *
  have HSET := Lib.hid fun (u : Value) => hd4.kp ((Kp.refl (fun j => j = gx) w4).setCell 0 u rfl) hP4 (fun j e => by subst e; omega)
  clear hd2 hd3 hr3 hr3' ho3 hb3 hbx hcx hx0 hd4 hk4 hbx4 hPlt2
  go_wp2_with fail
  have hd5 := HSET.out (.int .u8 (((xn : Int) + 1) % 256))
  generalize w4.setCell ⟨gx, 0, none⟩ (.int .u8 (((xn : Int) + 1) % 256)) = w5 at *
  have HP5 := Lib.hid hP4
  generalize Grow P w3 w4 = P5 at *
  clear HSET hx4 hxf hP4 HP5
  -- y
  (with_reducible refine (live_read hd5 0 (r := (fa, 0)) (by rw [readD_live rfl (k := 0) 0 rfl (by simp [liveD])]; simp [curD, liveD])).mono ?_)
  rintro e w6 ⟨v6, rfl, ho6, hb6⟩
  obtain ⟨gy, cy, _, rfl, hgy0, hgy1, hby, hcy⟩ := own64 ho6 HFa.out
  have hPlt5 := Lib.hid hd5.disk.lt
  have hd6 := hd5.below hb6
  obtain ⟨y1, hy1⟩ := hcy 1 (by omega)
  have hyf := hby.frozen 1
  have hy256 := y1.toNat_lt
  generalize y1.toNat = yn at *
  have hz5 := hd5.bel.size
  have hd7 := hd6.kp ((Kp.refl (fun j => j = gy) w6).setCell 1 (.int .u8 (((yn : Int) + 1) % 256)) rfl) (fun j hj e => by subst e; have := hPlt5.out _ hj; omega) (fun j e => by subst e; omega)
  clear hd5 hd6 ho6 hb6 hby hcy hPlt5
  go_wp2_with fail
  have hz7 : (w6.setCell ⟨gy, 1, none⟩ (.int .u8 (((yn : Int) + 1) % 256))).heap.size = w6.heap.size := by simp
  generalize w6.setCell ⟨gy, 1, none⟩ (.int .u8 (((yn : Int) + 1) % 256)) = w7 at *
  clear hy1 hyf
  -- the crash
  (with_reducible refine (live_crash (hd7.alloc (.cells #[.int .u8 1] 5)) _ 1 1 [1] rfl (by simp) (lit1' w7 1 1 rfl _ hz7) (by omega)).mono ?_)
  rintro e w8 ⟨g8, ks, P8, rfl, _, _, hc8, hP8, hb8⟩
  have hd8 := (hd7.alloc (.cells #[.int .u8 1] 5)).below hb8
  have hPd : Hid (∀ j, P5 j → ¬ P8 j) := Lib.hid fun j hj f => by have h1 := (hd7.alloc (.cells #[.int .u8 1] 5)).disk.lt j hj; have h2 := hP8 j f; omega
  have hPd2 := Lib.hid hd8.disk.lt
  rw [crash_live] at hc8
  have hcl : ((List.range (liveD (List.replicate 2 zeros64) (fun y => if y = 0 then some fa else none) (0 + 1)).fl.length).map (crashAt (liveD (List.replicate 2 zeros64) (fun y => if y = 0 then some fa else none) (0 + 1)) [1] ks)).length = 2 := by simp [liveD]
  generalize (List.range (liveD (List.replicate 2 zeros64) (fun y => if y = 0 then some fa else none) (0 + 1)).fl.length).map (crashAt (liveD (List.replicate 2 zeros64) (fun y => if y = 0 then some fa else none) (0 + 1)) [1] ks) = cl at *
  have HCL := Lib.hid hcl
  clear hd7 hb8 hP8 hcl
  go_wp2_with fail
  (with_reducible refine (HB.out _ hd8.bel).mono ?_)
  rintro e w9 ⟨v9, rfl, ho9, hb9⟩
  have hd9 := hd8.below hb9
  have hc9 := hc8.below hb9
  have hz9 := hb9.size
  obtain ⟨A9, c9, rfl, _, hr9⟩ := ho9.bytes
  rw [HFb.out]
  clear hd8 hc8 hb9 ho9
  go_wp2_with fail
  (with_reducible refine (live_write hc9 0 _ 64 c9 fb HFb.out hr9 (by rw [HFb.out]; omega) (by omega) (by simp [liveD]) (write_live (k := 0) 0 rfl (by rw [HCL.out]; omega) HFb.out)).mono ?_)
  rintro e w10 ⟨rfl, hc10, hk10⟩
  simp only at hc10
  have hd10 := hd9.kp hk10 hPd.out hc9.frm
  have hPd3 : ∀ j, P5 j → ¬ Grow P8 w9 w10 j := fun j hj f => by
    rcases f with f | f
    · exact hPd.out j hj f
    · have := hPd2.out j hj; omega
  have HPD3 := Lib.hid hPd3
  clear hd9 hc9 hk10 hPd3
  go_wp2_with fail
  (with_reducible refine (live_flush hc10 (by simp [liveD]) (flush_live _ _ _)).mono ?_)
  rintro e w11 ⟨rfl, hc11, hk11⟩
  simp only at hc11
  have hd11 := hd10.kp hk11 HPD3.out hc10.frm
  have hcl2 : ((List.range cl.length).map fun i : Nat => ((fun y => if y = 0 then some fb else none) (i : Int)).getD (cl.getD i [])).getD 0 [] = fb := by
    simp [List.getD_eq_getElem?_getD, List.getElem?_map, List.getElem?_range, HCL.out]
  have hcl3 : ((List.range cl.length).map fun i : Nat => ((fun y => if y = 0 then some fb else none) (i : Int)).getD (cl.getD i [])).length = 2 := by simp [HCL.out]
  generalize ((List.range cl.length).map fun i : Nat => ((fun y => if y = 0 then some fb else none) (i : Int)).getD (cl.getD i [])) = cm at *
  have HC2 := Lib.hid hcl2
  have HC3 := Lib.hid hcl3
  clear hd10 hc10 hk11 hcl2 hcl3
  go_wp2_with fail
  (with_reducible refine (live_read hd11 0 (r := (fa, 0)) (by rw [readD_live rfl (k := 0) 0 rfl (by simp [liveD])]; simp [curD, liveD])).mono ?_)
  rintro e w12 ⟨v12, rfl, ho12, hb12⟩
  obtain ⟨A12, c12, rfl, _, hr12⟩ := ho12.bytes
  rw [HFa.out] at ho12 ⊢
  have hc12 := hc11.below hb12
  clear hd11 hc11 hb12 ho12
  go_wp2_with fail
  (with_reducible refine (live_read hc12 0 (r := (fb, 0)) (by rw [readD_live rfl (k := 0) 0 rfl (by simp [liveD, HC3.out])]; rw [curD_none _ _ 0 0 rfl, HC2.out])).mono ?_)
  rintro e w13 ⟨v13, rfl, ho13, hb13⟩
  obtain ⟨A13, c13, rfl, _, hr13⟩ := ho13.bytes
  rw [HFb.out] at ho13 ⊢
  have hbw := (hc12.below hb13).bel
  have HR12 := Lib.hid (hr12.below hb13)
  have HR13 := Lib.hid hr13
  have HBW := Lib.hid hbw
  clear hc12 hb13 ho13 hr12 hr13 hbw
  have hba : ((⟨fa.toArray⟩ : ByteArray).toList == (⟨fa.toArray⟩ : ByteArray).toList) = true := beq_iff_eq.2 rfl
  have hbb : ((⟨fb.toArray⟩ : ByteArray).toList == (⟨fb.toArray⟩ : ByteArray).toList) = true := beq_iff_eq.2 rfl
  have HCV := Lib.hid fun W (A : Option Addr) (c : Nat) (h : RB W A fa) => run_str_try W A c 64 fa HFa.out h
  have HCW := Lib.hid fun W (A : Option Addr) (c : Nat) (h : RB W A fb) => run_str_try W A c 64 fb HFb.out h
  generalize (⟨fa.toArray⟩ : ByteArray) = sa at *
  generalize (⟨fb.toArray⟩ : ByteArray) = sb at *
  have hk : Below w13.heap.size w13 w13.drew := bdr (Below.refl _ _)
  go_wp2_with fail
  go_region_held (fun W => (convert 35 9 (.slice A12 64 c12)).run Try.prog W = .ok (.string sa) W ∧ (convert 35 9 (.slice A13 64 c13)).run Try.prog W = .ok (.string sb) W) (exact ⟨HCV.out _ _ _ (HR12.out.below hk), HCW.out _ _ _ (HR13.out.below hk)⟩) (first
    | (go_at_call 31; (with_reducible refine (HA.out _ (bn HBW.out hk)).mono ?_); rintro e w' ⟨v', rfl, ho', hb'⟩; obtain ⟨A', c', rfl, _, hr'⟩ := ho'.bytes; rw [HFa.out]; have hcv' := HCV.out _ _ c' hr'; replace hk := bn hk hb'; clear ho' hb' hr')
    | (go_at_call 31; (with_reducible refine (HB.out _ (bn HBW.out hk)).mono ?_); rintro e w' ⟨v', rfl, ho', hb'⟩; obtain ⟨A', c', rfl, _, hr'⟩ := ho'.bytes; rw [HFb.out]; have hcw' := HCW.out _ _ c' hr'; replace hk := bn hk hb'; clear ho' hb' hr'))
  all_goals
    go_wp2_with fail
    go_ret
    exact ⟨rfl, bn HBW.out hk⟩
end Go.Proofs.Ytbhhjphgbdaanaa
