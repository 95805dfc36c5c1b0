/-
  What BodyRanges calls and gives.
-/
import Derived.Test.YtpnfgnddlfkfaaaLawBTwice
import Derived.Test.YtpnfgnddlfkfaaaBodyMath2
set_option linter.unusedSimpArgs false
set_option linter.unusedVariables false
namespace Go.Proofs.Ytpnfgnddlfkfaaa
open Go.RowKit Go.Maps

theorem lit_part' (w : World) (o l c a : Int) (n : Nat) (hn : w.heap.size = n) : Rd (w.alloc (.cells #[.int .i64 o, .int .i64 l, .int .i64 c, .int .i64 a] 50)) (some ⟨n, 0, none⟩) (pcs [⟨o, l, c, a⟩]) := by subst hn; exact lit_part w o l c a

theorem Grw.fresh {B : Nat} {W0 W W' : World} {A : Option Addr} (h : Grw B W0 W) (_ : Below W.heap.size W W') (hf : ∀ ad, A = some ad → W.heap.size ≤ ad.block) : ∀ ad, A = some ad → B ≤ ad.block := fun ad e => Nat.le_trans h.le (hf ad e)
theorem Rd.drew' {w : World} {A : Option Addr} {cs : List Value} (h : Rd w A cs) : Rd w.drew A cs := h
set_option maxRecDepth 100000 in
set_option maxHeartbeats 8000000 in
theorem ranges_walk (A : Option Addr) (m cap : Nat) (vs : List Value) (ls : List (List UInt8)) (hm : ls.length = m) (A1 : Option Addr) (m1 c1 : Nat) (ns : List Nat) (hm1 : ns.length = m1) (x0 x1 x2 : Nat) (w : World) (hmm : m ≤ 9223372036854775807) (hm1m : m1 ≤ 9223372036854775807) (hv : Rd w A vs) (hl : AreB w vs ls) (hlen : ∀ b ∈ ls, b.length ≤ 9223372036854775807) (hr1 : Rd w A1 (ns.map fun x : Nat => Value.int .u16 (x : Int))) (hns : ∀ x ∈ ns, x < 65536) (hx0 : x0 < 65536) (hx1 : x1 < 65536) (hx2 : x2 < 65536) :
    Calls Try.prog 5 #[.slice A m cap, .slice A1 m1 c1, .agg #[.int .u16 (x0 : Int), .int .u16 (x1 : Int), .int .u16 (x2 : Int)]] w fun e w' => e = .returned (.bool true) ∧ Below w.heap.size w w' := by
  subst hm hm1
  have hP0 := Blk.new w 43 #[.int .u16 (x0 : Int), .int .u16 (x1 : Int), .int .u16 (x2 : Int)]
  have hb0 := bal (Below.refl w.heap.size w) (.cells #[.int .u16 (x0 : Int), .int .u16 (x1 : Int), .int .u16 (x2 : Int)] 43)
  by_cases c60 : 30 < ls.length ∨ ns.length < ls.length
  · rcases (show 30 < ls.length ∨ ls.length ≤ 30 ∧ ns.length < ls.length by omega) with h | ⟨h, h'⟩
    all_goals
      go_enter Try.func5, Try.ntmps5
      go_wp2_with fail
      (with_reducible refine (law12_awake _).mono ?_)
      rintro e w1 ⟨rfl, hb1⟩
      go_wp2
      go_ret
      exact ⟨rfl, bn hb0 hb1⟩
  have hl30 : ls.length ≤ 30 := by omega
  have hln : ls.length ≤ ns.length := by omega
  clear c60
  have HV := Lib.hid hv
  have HL := Lib.hid hl
  have HLEN := Lib.hid hlen
  have HR1 := Lib.hid hr1
  have HNS := Lib.hid hns
  clear hv hl hlen hr1 hns
  go_enter Try.func5, Try.ntmps5
  go_wp2_with fail
  (with_reducible refine (law12_awake _).mono ?_)
  rintro e w1 ⟨rfl, hb1⟩
  have hb2 := bn hb0 hb1
  have hP1 := hP0.below hb1
  have hz1 := hb1.size
  rw [size_more'] at hz1
  clear hb0 hb1 hP0
  go_wp2_with fail
  (with_reducible refine (chunk_new _).mono ?_)
  rintro e w2 ⟨g, rfl, hc2, hb3⟩
  have hz2 := hb3.size
  have hb4 := bal (bn hb2 hb3) (.cells #[.int .i64 0, .slice none 0 0] 46)
  have hP2 := (hP1.below hb3).alloc (.cells #[.int .i64 0, .slice none 0 0] 46)
  have hX2 := Blk.new w2 46 #[.int .i64 0, .slice none 0 0]
  have hc3 := hc2.below (bal (Below.refl _ _) (.cells #[.int .i64 0, .slice none 0 0] 46))
  clear hb2 hb3 hP1 hc2
  go_wp2
  obtain ⟨R, hRe⟩ : ∃ R, w2.heap.size = R := ⟨_, rfl⟩
  have hPP : ∀ j, (w1.heap.size ≤ j ∧ j < w2.heap.size) → w.heap.size + 1 ≤ j ∧ j ≠ R := fun j hj => by omega
  have hRlow : w.heap.size + 1 ≤ R := by omega
  rw [hRe] at hX2 ⊢
  generalize hw3 : (w2.alloc (.cells #[.int .i64 0, .slice none 0 0] 46)) = W3 at *
  have HP3 := Lib.hid hP2
  have HC3 := Lib.hid hc3
  have HB4 := Lib.hid hb4
  have HPP := Lib.hid hPP
  have HX3 := Lib.hid hX2
  clear hw3 hP2 hc3 hb4 hPP hX2
  go_loopw [9] (fun i wr => ∃ (k n : Nat) (s : CSt) (P : Nat → Prop) (S : Int) (ps : List Part) (Ab : Option Addr) (cb : Nat), k ≤ ls.length ∧ n ≤ 2 * k ∧ i = .int .i64 (k : Int) ∧ Chunks wr g P n s ∧ Hid (∀ j, P j → w.heap.size + 1 ≤ j ∧ j ≠ R ∧ ∀ ad, Ab = some ad → ad.block ≠ j) ∧ Blk wr R 46 #[.int .i64 S, .slice Ab ps.length cb] ∧ Rd wr Ab (pcs ps) ∧ Hid (COk n s ∧ CInv s ∧ s.next ≤ (k : Int) + 1) ∧ Hid (Good s S ps ∧ 0 ≤ S ∧ S ≤ 65600) ∧ Below (w.heap.size + 1) W3 wr) (fun i _ => ls.length - (intOf i).toNat)
  case atStart => exact ⟨0, 0, CSt.empty, _, 0, [], none, 0, Nat.zero_le _, Nat.le_refl _, rfl, HC3.out, Lib.hid fun j hj => ⟨(HPP.out j hj).1, (HPP.out j hj).2, fun _ h => by cases h⟩, HX3.out, Rd.nil _ _, Lib.hid ⟨COk.empty, CInv.empty, by decide⟩, Lib.hid ⟨Good.empty _, by decide, by decide⟩, Below.refl _ _⟩
  case round =>
    obtain ⟨k, n, s, P, S, ps, Ab, cb, hk, hnk, rfl, hc, hP, hX, hrp, hinv, hgood, hb⟩ := hrel
    by_cases hlt : k < ls.length
    · have hbw := HB4.out.trans (hb.mono (Nat.le_succ _))
      obtain ⟨bb, ob, rfl, hbblt, HT0⟩ := texts_at HV.out HL.out (by omega)
      obtain ⟨Ai, ci, hAlt, hti⟩ := HT0 k hlt
      have hbl := HLEN.out (ls.getD k []) (by rw [List.getD_eq_getElem?_getD, List.getElem?_eq_getElem hlt]; exact List.getElem_mem hlt)
      obtain ⟨a1b, a1o, rfl, ha1lt, ha1c⟩ := Rd.lit_of HR1.out k (by rw [List.length_map]; omega)
      obtain ⟨off, hoff⟩ : ∃ off, ns[k]'(by omega) = off := ⟨_, rfl⟩
      have hoffb : off < 65536 := by rw [← hoff]; exact HNS.out _ (List.getElem_mem _)
      have ha1 := ha1c k (by rw [List.length_map]; omega)
      rw [List.getElem_map, hoff] at ha1
      have HT := Lib.hid hti
      have HA1 : Hid (∀ W, Below w.heap.size w W → W.cell? ⟨a1b, a1o + k, none⟩ = some (.int .u16 (off : Int))) := fun W h => (h.cell (p := ⟨a1b, a1o + k, none⟩) ha1lt).trans ha1
      have hcell1 := (hti wr hbw).1
      have i0 : (0 : Int) ≤ (k : Int) := by omega
      have i1 : (k : Int) < (ls.length : Int) := by omega
      have i2 : (k : Int) < (ns.length : Int) := by omega
      clear HT0 hti ha1c ha1 hoff
      generalize ls.getD k [] = bt at *
      by_cases hok : okLen bt
      · have HOK := Lib.hid hok
        obtain ⟨hb1, hb64⟩ := hok
        obtain ⟨ok, inv, hnx⟩ := hinv.out
        obtain ⟨g1, g2, g3⟩ := hgood.out
        have HPUT := Lib.hid (chunk_put g P n s Ai bt.length ci bt wr rfl (HT.out wr hbw).2 (by omega) (fun ad e f => by have := hAlt ad e hb1; have := (hP.out _ f).1; omega) hc ok inv (by omega) (by omega))
        obtain ⟨r0, r1, r2, r3, r4⟩ := putR_says ok inv HOK.out
        obtain ⟨ok4, inv4, hnx4⟩ := putR_ok ok inv (by omega) (by omega) bt
        have hlt4 := hc.lt
        have hpg := hc.pg
        generalize putR s bt = pr at *
        obtain ⟨id, fresh, er, s4⟩ := pr
        simp only at r0 r1 r2 r3 r4 ok4 inv4 hnx4
        subst r0
        obtain ⟨f1, f2, f3⟩ := one_part r1 HOK.out r3 (by omega)
        obtain ⟨S2, qs, hwr, hg2, hg3, _⟩ := (g1.more r2).write (off := (off : Int)) f1 f3 (by omega) (by rw [f2]; omega)
        have hS2 : 0 ≤ S2 ∧ S2 ≤ 65600 := by
          have := (hg3 (by simp)).1
          rw [f2] at this
          omega
        have hpl := may_len g1.may
        have HWF := Lib.hid fun W Al (h : Rd W Ab (pcs ps)) (h2 : Rd W Al (pcs [⟨0, (bt.length : Int), id, 0⟩])) => body_writeF S Ab ps.length cb ps (off : Int) Al 1 1 [⟨0, (bt.length : Int), id, 0⟩] W rfl (by omega) h rfl (by omega) h2
        rw [hwr] at HWF
        unfold bv at HWF
        have HG2 : Hid (Good s4 S2 qs ∧ 0 ≤ S2 ∧ S2 ≤ 65600) := Lib.hid ⟨hg2, hS2⟩
        have HINV4 : Hid (COk (n + 2) s4 ∧ CInv s4 ∧ s4.next ≤ ((k + 1 : Nat) : Int) + 1) := Lib.hid ⟨ok4, inv4, by omega⟩
        have hRlt := hX.lt
        have HRP : Hid (¬ P R) := Lib.hid fun f => (hP.out R f).2.1 rfl
        have HLT := Lib.hid hlt4
        clear ok inv hnx g1 g2 g3 r1 r2 r3 r4 ok4 inv4 hnx4 f1 f2 f3 hwr hg2 hg3 hS2 hpl hlt4 hpg
        go_wp2_with fail
        (with_reducible refine HPUT.out.mono ?_)
        rintro e w4 ⟨rfl, hk4, hc4⟩
        simp only at hc4
        have hz4 := hk4.size
        have hX4 := hX.kp hk4 HRP.out
        have hrp4 := hrp.kp hk4 fun ad e f => (hP.out _ f).2.2 ad e rfl
        have hb4 := hb.trans (hk4.below (by have := hb.size; omega) fun j hj => (hP.out j hj).1)
        have hbw4 := HB4.out.trans (hb4.mono (Nat.le_succ _))
        have HLT4 : Hid (∀ j, (P j ∨ (wr.heap.size ≤ j ∧ j < w4.heap.size)) → j < w4.heap.size) := Lib.hid fun j hj => by
          rcases hj with hj | hj
          · exact Nat.lt_of_lt_of_le (HLT.out j hj) hz4
          · exact hj.2
        clear hX hrp hb hbw hcell1 hc
        have x0 : w4.cell? ⟨R, 0, none⟩ = some (.int .i64 S) := hX4.cell 0
        have x1 : w4.cell? ⟨R, 1, none⟩ = some (.slice Ab ps.length cb) := hX4.cell 1
        go_wp2_with fail
        go_cut [13, 14] (fun s13 s14 wx => ∃ Z A' c', s13 = .pointer (some ⟨Z, 0, none⟩) ∧ s14 = .int .i64 0 ∧ Blk wx Z 46 #[.int .i64 S2, .slice A' qs.length c'] ∧ Rd wx A' (pcs qs) ∧ (∀ ad, A' = some ad → w4.heap.size ≤ ad.block) ∧ w4.heap.size ≤ Z ∧ Below w4.heap.size w4 wx)
        case first =>
          have HCL : Hid (∀ W : World, Grw w4.heap.size w4 W → (W.cell? ⟨R, 0, none⟩ = some (.int .i64 S) ∧ W.cell? ⟨R, 1, none⟩ = some (.slice Ab ps.length cb) ∧ W.cell? ⟨a1b, a1o + k, none⟩ = some (.int .u16 (off : Int)) ∧ W.cell? ⟨bb, ob + k, none⟩ = some (.slice Ai bt.length ci)) ∧ Rd W Ab (pcs ps)) := fun W h =>
            ⟨⟨(hX4.below h.bel).cell 0, (hX4.below h.bel).cell 1, HA1.out W (hbw4.trans (h.bel.mono hbw4.size)), (HT.out W (hbw4.trans (h.bel.mono hbw4.size))).1⟩, hrp4.below h.bel⟩
          have hkg := Grw.refl (B := w4.heap.size) (W := w4) (Nat.le_refl _)
          have hwo : IntKind.i64.wrap (off : Int) = (off : Int) := IntWalk.i64_in _ (by omega)
          clear hX4 hrp4 hb4 hbw4 x0 x1 hc4
          go_region_held (fun W => W.cell? ⟨R, 0, none⟩ = some (.int .i64 S) ∧ W.cell? ⟨R, 1, none⟩ = some (.slice Ab ps.length cb) ∧ W.cell? ⟨a1b, a1o + k, none⟩ = some (.int .u16 (off : Int)) ∧ W.cell? ⟨bb, ob + k, none⟩ = some (.slice Ai bt.length ci)) (exact (HCL.out _ (by repeat (first | (with_reducible exact hkg) | (with_reducible refine Grw.drew ?_) | (with_reducible refine Grw.alloc ?_ _) | (with_reducible refine Grw.setCell ?_ (by omega) _ _)))).1) ((go_at_call 24; (with_reducible refine (HWF.out _ _ (HCL.out _ (by repeat (first | (with_reducible exact hkg) | (with_reducible refine Grw.drew ?_) | (with_reducible refine Grw.alloc ?_ _) | (with_reducible refine Grw.setCell ?_ (by omega) _ _)))).2 (by first | (with_reducible exact Rd.drew' (lit_part' _ _ _ _ _ _ (by simp))) | (with_reducible exact Rd.drew' ((lit_part' _ _ _ _ _ _ (by simp)).below (bal (Below.refl _ _) _))) | (with_reducible exact lit_part' _ _ _ _ _ _ (by simp)) | (with_reducible exact (lit_part' _ _ _ _ _ _ (by simp)).below (bal (Below.refl _ _) _)))).mono ?_); rintro e w9 ⟨A9, c9, rfl, hr9, hfr9, hb9⟩; simp only [bv]; have hfr : ∀ ad, A9 = some ad → w4.heap.size ≤ ad.block := Grw.fresh (W0 := w4) (by repeat (first | (with_reducible exact hkg) | (with_reducible refine Grw.drew ?_) | (with_reducible refine Grw.alloc ?_ _) | (with_reducible refine Grw.setCell ?_ (by omega) _ _))) hb9 hfr9; have hkg : Grw w4.heap.size w4 w9 := Grw.call (by repeat (first | (with_reducible exact hkg) | (with_reducible refine Grw.drew ?_) | (with_reducible refine Grw.alloc ?_ _) | (with_reducible refine Grw.setCell ?_ (by omega) _ _))) hb9; (first | (with_reducible (have hZ := Blk.below (Blk.drew' (Blk.new _ 46 #[.int .i64 0, .slice none 0 0])) hb9; try simp only [World.size_alloc, World.size_drew] at hZ)) | (with_reducible (have hZ := Blk.below ((Blk.new _ 46 #[.int .i64 0, .slice none 0 0]).alloc _) hb9; try simp only [World.size_alloc, World.size_drew] at hZ)) | (with_reducible (have hZ := Blk.below (Blk.drew' ((Blk.new _ 46 #[.int .i64 0, .slice none 0 0]).alloc _)) hb9; try simp only [World.size_alloc, World.size_drew] at hZ)) | (with_reducible (have hZ := Blk.below (Blk.new _ 46 #[.int .i64 0, .slice none 0 0]) hb9; try simp only [World.size_alloc, World.size_drew] at hZ)) | skip); (first | (have t0 : w9.cell? ⟨_, 0, none⟩ = some (.int .i64 0) := hZ.cell 0; have t1 : w9.cell? ⟨_, 1, none⟩ = some (.slice none 0 0) := hZ.cell 1; have u0 := hZ.frozen 0; have u1 := hZ.frozen 1; have hr9z := rd_set2 hr9 hZ (.int .i64 S2) (.slice A9 qs.length c9)) | skip)))
          all_goals (go_wp2_with fail; go_meet)
          · exact ⟨_, A9, c9, rfl, rfl, Blk.new w9 46 #[.int .i64 S2, .slice A9 qs.length c9], hr9.below (bal (Below.refl _ _) _), hfr, hkg.le, (hkg.alloc _).bel⟩
          · exact ⟨_, A9, c9, rfl, rfl, blk_set2 hZ, hr9z, hfr, by omega, ((hkg.setCell (by omega) 0 _).setCell (by omega) 1 _).bel⟩
          · exact ⟨_, A9, c9, rfl, rfl, blk_set2 hZ, hr9z, hfr, by omega, ((hkg.setCell (by omega) 0 _).setCell (by omega) 1 _).bel⟩
        case rest =>
          obtain ⟨Z, A6, c6, rfl, rfl, hZ6, hr6, hfr6, hzl, hbx⟩ := hcut
          have hX5 := hX4.below hbx
          have z0 : wc.cell? ⟨Z, 0, none⟩ = some (.int .i64 S2) := hZ6.cell 0
          have z1 : wc.cell? ⟨Z, 1, none⟩ = some (.slice A6 qs.length c6) := hZ6.cell 1
          have y0 : wc.cell? ⟨R, 0, none⟩ = some (.int .i64 S) := hX5.cell 0
          have y1 : wc.cell? ⟨R, 1, none⟩ = some (.slice Ab ps.length cb) := hX5.cell 1
          have u0 := hX5.frozen 0
          have u1 := hX5.frozen 1
          have HCF := Lib.hid ((hc4.below hbx).kp (kp_set2 wc R (.int .i64 S2) (.slice A6 qs.length c6)) fun j hj e => by
            subst e
            rcases hj with hj | hj
            · exact HRP.out hj
            · omega)
          have HXF := Lib.hid (blk_set2 (v0 := .int .i64 S2) (v1 := .slice A6 qs.length c6) hX5)
          have HRF := Lib.hid (hr6.kp (kp_set2 wc R (.int .i64 S2) (.slice A6 qs.length c6)) fun ad e f => by have := hfr6 ad e; omega)
          have HBF : Hid (Below (w.heap.size + 1) W3 ((wc.setCell ⟨R, 0, none⟩ (.int .i64 S2)).setCell ⟨R, 1, none⟩ (.slice A6 qs.length c6))) := Lib.hid (((hb4.trans (hbx.mono (by omega))).setCell (by simp only; omega) _).setCell (by simp only; omega) _)
          have HPF : Hid (∀ j, (P j ∨ (wr.heap.size ≤ j ∧ j < w4.heap.size)) → w.heap.size + 1 ≤ j ∧ j ≠ R ∧ ∀ ad, A6 = some ad → ad.block ≠ j) := Lib.hid fun j hj => by
            have h4 := HLT4.out j hj
            refine ⟨?_, ?_, fun ad e f => by have := hfr6 ad e; omega⟩
            · rcases hj with hj | hj
              · exact (hP.out j hj).1
              · omega
            · rcases hj with hj | hj
              · exact (hP.out j hj).2.1
              · omega
          clear hX4 hrp4 hb4 hbw4 x0 x1 hc4 hX5 hZ6 hr6 hfr6 hbx hk4
          go_wp2
          go_roundw
          case rel => exact ⟨k + 1, n + 2, s4, _, S2, qs, A6, c6, by omega, by omega, by go_num, HCF.out, HPF, HXF.out, HRF.out, HINV4, HG2, HBF.out⟩
          case measure => simp [intOf]; try omega
      · have hinv2 : Hid (COk n s ∧ CInv s ∧ s.next ≤ ((k + 1 : Nat) : Int) + 1) := Lib.hid ⟨hinv.out.1, hinv.out.2.1, by have := hinv.out.2.2; omega⟩
        rcases (show bt.length < 1 ∨ 1 ≤ bt.length ∧ 64 < bt.length by unfold okLen at hok; omega) with h9 | ⟨h9, h8⟩
        all_goals
          clear hok HT HA1 hAlt
          go_wp2
          go_roundw
          case rel => exact ⟨k + 1, n, s, P, S, ps, Ab, cb, by omega, by omega, by go_num, hc, hP, hX, hrp, hinv2, hgood, hb⟩
          case measure => simp [intOf]; try omega
    · obtain rfl : k = ls.length := by omega
      have a0 : wr.cell? ⟨w.heap.size, 0, none⟩ = some (.int .u16 (x0 : Int)) := (hb.cell (p := ⟨w.heap.size, 0, none⟩) (by simp only; omega)).trans (HP3.out.cell 0)
      have a1 : wr.cell? ⟨w.heap.size, 1, none⟩ = some (.int .u16 (x1 : Int)) := (hb.cell (p := ⟨w.heap.size, 1, none⟩) (by simp only; omega)).trans (HP3.out.cell 1)
      have a2 : wr.cell? ⟨w.heap.size, 2, none⟩ = some (.int .u16 (x2 : Int)) := (hb.cell (p := ⟨w.heap.size, 2, none⟩) (by simp only; omega)).trans (HP3.out.cell 2)
      obtain ⟨f, hf⟩ : ∃ f : Int, (x0 : Int) = f := ⟨_, rfl⟩
      obtain ⟨p, hp⟩ : ∃ p : Nat, x1 % 1000 = p := ⟨_, rfl⟩
      obtain ⟨q, hq⟩ : ∃ q : Nat, x2 % 1000 = q := ⟨_, rfl⟩
      have hf0 : 0 ≤ f ∧ f < 65536 := by omega
      have hp1 : p < 1000 := by omega
      have hq1 : q < 1000 := by omega
      have hw0 : IntKind.i64.wrap (x0 : Int) = (x0 : Int) := IntWalk.i64_in _ (by omega)
      have hw1 : IntKind.i64.wrap (x1 : Int) = (x1 : Int) := IntWalk.i64_in _ (by omega)
      have hw2 : IntKind.i64.wrap (x2 : Int) = (x2 : Int) := IntWalk.i64_in _ (by omega)
      have hm1 : Int.tmod (x1 : Int) 1000 = (p : Int) := by rw [Int.tmod_eq_emod_of_nonneg (by omega)]; omega
      have hm2 : Int.tmod (x2 : Int) 1000 = (q : Int) := by rw [Int.tmod_eq_emod_of_nonneg (by omega)]; omega
      obtain ⟨ok, inv, _⟩ := hinv.out
      obtain ⟨g1, g2, g3⟩ := hgood.out
      have hpl := may_len g1.may
      have hsl : ∀ id b, s.l id = some b → b.length ≤ 1000 := fun id b h => by have := ok.len id b h; omega
      have HRD := Lib.hid fun W x n0 (hh : Chunks W g P n s ∧ Rd W Ab (pcs ps)) (h0 : 0 ≤ x) (h1 : x < 100000) (h2 : 0 ≤ n0) (h3 : n0 ≤ 4096) => body_read g P n s S Ab ps.length cb ps x n0 W rfl (by omega) hh.2 hh.1 hsl (by omega) (by omega) (by omega) (by omega)
      have HSAY := Lib.hid fun x n0 (h0 : 0 ≤ x) (h2 : 0 ≤ n0) (h3 : n0 ≤ 4096) => readR_says (off := x) (n := n0) g1.may g1.has h0 h2 h3
      have HEQ := Lib.hid (ranges_eq s ps (S := S) (f := f) (p := (p : Int)) (q := (q : Int)) (by omega) (by omega))
      have hbw := HB4.out.trans (hb.mono (Nat.le_succ _))
      clear ok inv g1 g2 g3 hsl hinv hgood
      go_wp2_with fail
      go_region_held (fun W => W.cell? ⟨w.heap.size, 0, none⟩ = some (.int .u16 (x0 : Int)) ∧ W.cell? ⟨w.heap.size, 1, none⟩ = some (.int .u16 (x1 : Int)) ∧ W.cell? ⟨w.heap.size, 2, none⟩ = some (.int .u16 (x2 : Int))) (exact ⟨a0, a1, a2⟩) (fail)
      have HF := Lib.hid hf
      rw [hf]
      have hX1 : Blk wr.drew R 46 #[.int .i64 S, .slice Ab ps.length cb] := hX
      have hcr1 : Chunks wr.drew g P n s ∧ Rd wr.drew Ab (pcs ps) := ⟨hc.below (bdr (Below.refl _ _)), hrp⟩
      have hbw1 := bdr hbw
      clear a0 a1 a2 hw0 hw1 hw2 hm1 hm2 hf hp hq hX hrp hc hb hbw
      have y0 : wr.drew.cell? ⟨R, 0, none⟩ = some (.int .i64 S) := hX1.cell 0
      have y1 : wr.drew.cell? ⟨R, 1, none⟩ = some (.slice Ab ps.length cb) := hX1.cell 1
      have HR0 := HRD.out wr.drew f (p : Int) hcr1 (by omega) (by omega) (by omega) (by omega)
      rw [HSAY.out f (p : Int) (by omega) (by omega) (by omega)] at HR0
      unfold bv at HR0
      replace HR0 := Lib.hid HR0
      go_wp2_with fail
      (with_reducible refine HR0.out.mono ?_)
      rintro e w5 ⟨A5, c5, rfl, hr5, hb5⟩
      have hX2 := hX1.below hb5
      have hcr2 : Chunks w5 g P n s ∧ Rd w5 Ab (pcs ps) := ⟨hcr1.1.below hb5, hcr1.2.below hb5⟩
      have hbw2 := bn hbw1 hb5
      clear y0 y1 hX1 hcr1 hbw1 HR0 hb5
      have y0 : w5.cell? ⟨R, 0, none⟩ = some (.int .i64 S) := hX2.cell 0
      have y1 : w5.cell? ⟨R, 1, none⟩ = some (.slice Ab ps.length cb) := hX2.cell 1
      have HR0 := HRD.out w5 (f + (p : Int)) (q : Int) hcr2 (by omega) (by omega) (by omega) (by omega)
      rw [HSAY.out (f + (p : Int)) (q : Int) (by omega) (by omega) (by omega)] at HR0
      unfold bv at HR0
      replace HR0 := Lib.hid HR0
      go_wp2_with fail
      (with_reducible refine HR0.out.mono ?_)
      rintro e w6 ⟨A6, c6, rfl, hr6, hb6⟩
      have hX3 := hX2.below hb6
      have hcr3 : Chunks w6 g P n s ∧ Rd w6 Ab (pcs ps) := ⟨hcr2.1.below hb6, hcr2.2.below hb6⟩
      have hbw3 := bn hbw2 hb6
      have hr56 := RB.below hr5 hb6
      clear y0 y1 hX2 hcr2 hbw2 HR0 hb6 hr5
      have y0 : w6.cell? ⟨R, 0, none⟩ = some (.int .i64 S) := hX3.cell 0
      have y1 : w6.cell? ⟨R, 1, none⟩ = some (.slice Ab ps.length cb) := hX3.cell 1
      have HR0 := HRD.out w6 f ((p : Int) + (q : Int)) hcr3 (by omega) (by omega) (by omega) (by omega)
      rw [HSAY.out f ((p : Int) + (q : Int)) (by omega) (by omega) (by omega)] at HR0
      unfold bv at HR0
      replace HR0 := Lib.hid HR0
      go_wp2_with fail
      (with_reducible refine HR0.out.mono ?_)
      rintro e w7 ⟨A7, c7, rfl, hr7, hb7⟩
      have hr57 := RB.below hr56 hb7
      have hr67 := RB.below hr6 hb7
      have hbw4 := bn hbw3 hb7
      simp only at hr57 hr67 hr7 ⊢
      have hlx : (rangeB s ps f (min S (f + (p : Int)))).length ≤ 5000 := by rw [rangeB_len]; omega
      have hly : (rangeB s ps (f + (p : Int)) (min S (f + (p : Int) + (q : Int)))).length ≤ 5000 := by rw [rangeB_len]; omega
      clear y0 y1 hX3 hcr3 hbw3 HR0 hb7 hr56 hr6 HRD HSAY
      have HEQ2 := HEQ.out
      generalize rangeB s ps f (min S (f + (p : Int))) = X at *
      generalize rangeB s ps (f + (p : Int)) (min S (f + (p : Int) + (q : Int))) = Y at *
      generalize rangeB s ps f (min S (f + ((p : Int) + (q : Int)))) = Zl at *
      subst HEQ2
      have hcx := run_str_try w7 A5 c5 _ X rfl hr57
      have hcy := run_str_try w7 A6 c6 _ Y rfl hr67
      have hcz := run_str_try w7 A7 c7 (X.length + Y.length) (X ++ Y) (by simp) hr7
      go_wp2_with fail
      go_ret
      refine ⟨ret_bool ?_, hbw4⟩
      rw [beq_iff_eq, ByteArray.toList_eq, ByteArray.mk_append_mk]
end Go.Proofs.Ytpnfgnddlfkfaaa
