/-
  SuperSees.
-/
import Derived.Test.YtbhhjphgbdaanaaLawSApart
import Derived.Test.YtbhhjphgbdaanaaSupQ
set_option linter.unusedSimpArgs false
set_option linter.unusedVariables false
namespace Go.Proofs.Ytbhhjphgbdaanaa
open Go.RowKit Go.Maps

/-- x is f but for the bytes k .. k + j - 1 -/
def Torn (f x : List UInt8) (k j : Nat) : Prop := x.length = f.length ∧ ∀ q, q < k ∨ k + j ≤ q → x[q]? = f[q]?
theorem Torn.start (f : List UInt8) (k : Nat) : Torn f f k 0 := ⟨rfl, fun _ _ => rfl⟩
theorem Torn.same {f x : List UInt8} {k j : Nat} (h : Torn f x k j) (hx : k + j < x.length) (hf : k + j < f.length) : x[k + j] = f[k + j] := by
  have := h.2 (k + j) (.inr (Nat.le_refl _))
  rw [List.getElem?_eq_getElem hx, List.getElem?_eq_getElem hf] at this
  exact Option.some.inj this
theorem Torn.step {f x : List UInt8} {k j : Nat} (h : Torn f x k j) (t : UInt8) : Torn f (x.set (k + j) t) k (j + 1) := by
  refine ⟨by simp [h.1], fun q hq => ?_⟩
  rw [List.getElem?_set_ne (by omega)]
  exact h.2 q (by omega)
theorem Torn.turn {f x : List UInt8} {k j : Nat} (h : Torn f x k j) (hx : k + j < x.length) (hf : k + j < f.length) (t : UInt8) : (!(x.set (k + j) (x[k + j] ^^^ t) == f)) = (!(x == f) || !((t.toNat : Int) == 0)) := by
  have hs := h.same hx hf
  by_cases ht : t = 0
  · subst ht
    rw [UInt8.xor_zero, List.set_getElem_self]
    simp
  · have h0 : t.toNat ≠ 0 := fun e => ht (UInt8.toNat_inj.1 e)
    have h1 : ((t.toNat : Int) == 0) = false := beq_eq_false_iff_ne.2 (by omega)
    rw [h1]
    have h2 : (x.set (k + j) (x[k + j] ^^^ t) == f) = false := by
      apply beq_eq_false_iff_ne.2
      intro e
      have := congrArg (fun l => l[k + j]?) e
      simp only [List.getElem?_set_self hx, List.getElem?_eq_getElem hf] at this
      have h3 := Option.some.inj this
      rw [hs] at h3
      apply ht
      have h4 := congrArg (fun y => f[k + j] ^^^ y) h3
      simpa only [← UInt8.xor_assoc, UInt8.xor_self, UInt8.zero_xor] using h4
    rw [h2]
    simp
theorem Torn.wide {f x : List UInt8} {k j : Nat} (h : Torn f x k j) (hj : j ≤ 4) : ∀ q, q < k ∨ k + 4 ≤ q → x[q]? = f[q]? := fun q hq => h.2 q (by omega)
theorem turn_byte (t : Crc.W) (j : Nat) : (t.toNat : Int) / (2 : Int) ^ (8 * j) % 256 = ((UInt8.ofNat (t.toNat / 2 ^ (8 * j) % 256)).toNat : Int) := by
  rw [UInt8.toNat_ofNat']
  simp


set_option maxRecDepth 100000 in
set_option maxHeartbeats 8000000 in
theorem ssees_walk (s : Sup) (A : Option Addr) (c : Nat) (A2 : Option Addr) (c2 : Nat) (at_ : UInt8) (t : Crc.W) (W : World) (h : SArg W s A A2) (hl1 : s.jour.segs.length ≤ 10000000) (hl2 : s.chunks.segs.length ≤ 10000000) :
    Calls Try.prog 5 #[supV s A c A2 c2, .int .u8 (at_.toNat : Int), .int .u32 (t.toNat : Int)] W fun e w' => e = .returned (.bool true) ∧ Below W.heap.size W w' := by
  have hk255 := at_.toNat_lt
  generalize at_.toNat = k at *
  unfold supV
  have B0 := Blk.new W 27 #[.int .i64 s.number, .int .i64 s.boot, .slice A s.jour.segs.length c, .int .i64 s.jour.len, .int .u32 (s.jour.last.toNat : Int), .slice A2 s.chunks.segs.length c2, .int .i64 s.chunks.len, .int .u32 (s.chunks.last.toNat : Int)]
  have b0 := bal (Below.refl W.heap.size W) (.cells #[.int .i64 s.number, .int .i64 s.boot, .slice A s.jour.segs.length c, .int .i64 s.jour.len, .int .u32 (s.jour.last.toNat : Int), .slice A2 s.chunks.segs.length c2, .int .i64 s.chunks.len, .int .u32 (s.chunks.last.toNat : Int)] 27)
  go_enter Try.func5, Try.ntmps5
  go_wp2_with fail
  generalize (W.alloc (.cells #[.int .i64 s.number, .int .i64 s.boot, .slice A s.jour.segs.length c, .int .i64 s.jour.len, .int .u32 (s.jour.last.toNat : Int), .slice A2 s.chunks.segs.length c2, .int .i64 s.chunks.len, .int .u32 (s.chunks.last.toNat : Int)] 27)) = W0 at *
  have HC := Lib.hid (fun (V : World) (hb : Below W0.heap.size W0 V) => box_cells B0 hb)
  have HA := Lib.hid (fun (V : World) (hb : Below W0.heap.size W0 V) => (h.below b0).below hb)
  have HB0 := Lib.hid b0
  clear B0 b0 h
  (with_reducible refine (law5_awake _).mono ?_)
  rintro e w1 ⟨rfl, hb⟩
  obtain ⟨x0, x1, x2, x3, x4, x5, x6, x7⟩ := HC.out _ hb
  cases hm : supMay s 96 with
  | false =>
    have HRM := Lib.hid (arg_rmay (HA.out w1 hb) 96 c c2 hl1 hl2 (by omega) hm)
    go_wp2_with fail
    (with_reducible refine HRM.out.mono ?_)
    rintro e w2 ⟨rfl, hb'⟩
    replace hb := bn hb hb'
    go_wp2
    go_ret
    exact ⟨rfl, bn HB0.out hb⟩
  | true =>
    have HRM := Lib.hid (arg_rmay (HA.out w1 hb) 96 c c2 hl1 hl2 (by omega) hm)
    have HBY := Lib.hid (fun V (hb : Below W0.heap.size W0 V) => arg_bytes (HA.out V hb) c c2 hm)
    have F := mayF s hm
    have g1 : (s.jour.segs.length : Int) ≤ 96 := by have := F.n; omega
    have g2 : (s.chunks.segs.length : Int) ≤ 96 := by have := F.n; omega
    have HBL : Hid ((bytesB s).length = 256) := Lib.hid (bytesB_len s F.len)
    have HOWN := Lib.hid (parseB_own hm)
    have HNONE := Lib.hid (fun (b : List UInt8) (h : Near k b (bytesB s)) (hne : b ≠ bytesB s) => near_none hm h hne 96)
    clear hm F
    have HM := Lib.hid (arg_made s A c A2 c2)
    go_wp2_with fail
    (with_reducible refine HRM.out.mono ?_)
    rintro e w2 ⟨rfl, hb'⟩
    replace hb := bn hb hb'
    clear hb' x0 x1 x2 x3 x4 x5 x6 x7
    obtain ⟨x0, x1, x2, x3, x4, x5, x6, x7⟩ := HC.out _ hb
    go_wp2_with fail
    (with_reducible refine (HM.out _).mono ?_)
    rintro e w4 ⟨rfl, hb'⟩
    replace hb := bn hb hb'
    clear hb' x0 x1 x2 x3 x4 x5 x6 x7
    go_wp2_with fail
    (with_reducible refine (HBY.out _ hb).mono ?_)
    rintro e w5 ⟨A3, c3, rfl, hc3, ho3, hb'⟩
    have hb5 := bn hb hb'
    generalize bytesB s = f at *
    obtain ⟨b5, c5, cur, hv5, hg5, hblk, hle, hcs, hcm, htk⟩ := ho3.blk (by rw [List.length_map, HBL.out]; omega)
    rw [List.length_map, HBL.out] at hv5 hle htk
    injection hv5 with e1 _ e3
    subst e1 e3
    have hg0 : W0.heap.size ≤ b5 := Nat.le_trans hb.size hg5
    have HCS := Lib.hid hcs
    have HTK := Lib.hid htk
    clear hb' hcs htk ho3 hb
    go_wp2_with fail
    go_loopw [9, 10] (fun v i wr => ∃ (j : Nat) (x : List UInt8) (cur : Array Value), j ≤ 4 ∧ i = .int .i64 j ∧ v = .bool (!(x == f)) ∧ Blk wr b5 5 cur ∧ Hid (cur.size = c3) ∧ Hid (cur.toList.take (x.map eb).length = x.map eb) ∧ Torn f x k j ∧ Below W0.heap.size W0 wr) (fun _ i _ => 4 - (intOf i).toNat)
    case atStart => exact ⟨0, f, cur, by omega, rfl, by simp, hblk, HCS, by show List.take _ _ = _; rw [List.length_map, HBL.out]; exact HTK.out, Torn.start _ _, hb5⟩
    case round =>
      clear hblk HCS HTK hb5
      obtain ⟨j, x, cur, hj4, rfl, rfl, hblk, hcs, htk, hT, hb⟩ := hrel
      by_cases hgo : j < 4 ∧ k + j < 256
      · obtain ⟨hj, hkj⟩ := hgo
        have hxl : x.length = 256 := hT.1.trans HBL.out
        have hxk : k + j < x.length := by omega
        have hcell : wr.cell? ⟨b5, k + j, none⟩ = some _ := (hblk.cell _).trans (row_get htk.out (k + j) (by simpa using hxk))
        rw [List.getElem_map] at hcell
        have hfz := hblk.frozen (k + j)
        have htb := turn_byte t j
        generalize UInt8.ofNat (t.toNat / 2 ^ (8 * j) % 256) = tb at *
        have hT' := hT.step (x[k + j] ^^^ tb)
        have hch := hT.turn hxk (by rw [HBL.out]; exact hkj) tb
        have hset := row_set htk.out (k + j) (eb (x[k + j] ^^^ tb))
        rw [← List.map_set] at hset
        generalize x[k + j] = y at *
        generalize hx' : x.set (k + j) (y ^^^ tb) = x' at *
        have hbx := (bits_xor8 y.toNat tb.toNat y.toNat_lt tb.toNat_lt).1
        rw [← UInt8.toNat_xor] at hbx
        have HSET := Lib.hid hset
        have HCH := Lib.hid hch
        clear hset hxl hxk hch hx'
        unfold eb at hcell
        generalize (!(x == f)) = bb at *
        have i0 : ((k : Int) + (j : Int)) < 256 := by omega
        have heb : Value.int .u8 ((y.toNat ^^^ tb.toNat : Nat) : Int) = eb (y ^^^ tb) := by unfold eb; rw [UInt8.toNat_xor]
        have HEB := Lib.hid heb
        clear heb
        cases bb
        all_goals
          go_wp2
          go_roundw
          case rel =>
            rw [HEB.out]
            exact ⟨j + 1, x', cur.setIfInBounds (k + j) (eb (y ^^^ tb)), by omega, by go_num, by rw [HCH.out]; first | rfl | (simp; done) | (simp; rfl), hblk.set _ _, by show Array.size _ = _; rw [Array.size_setIfInBounds]; exact hcs.out, HSET, hT', hb.setCell hg0 _⟩
          case measure => simp [intOf]; try omega
      · have hxl : x.length = 256 := hT.1.trans HBL.out
        have hcs3 := hcs.out
        have tx : RB wr (some ⟨b5, 0, none⟩) x := (Blk.own hblk (B := 0) (Nat.zero_le _) (by simp; omega) hcs3 hcm htk.out).bytes_at
        have HP := Lib.hid (super_parse x 96 (some ⟨b5, 0, none⟩) c3 wr hxl (by omega) tx)
        have HREAD : Hid (parseB x 96 = if x = f then some s else none) := Lib.hid (by
          by_cases e : x = f
          · rw [if_pos e, e]; exact HOWN.out
          · rw [if_neg e]; exact HNONE.out x ⟨hT.1, hT.wide hj4⟩ e)
        have HBR := Lib.hid hb
        clear hxl hblk hcs htk hT tx HNONE HOWN hcs3 hb
        by_cases e : x = f
        · have hbb : (!(x == f)) = false := by rw [beq_iff_eq.2 e]; rfl
          have hrd := HREAD.out
          rw [if_pos e] at hrd
          rw [hbb]
          have HRD := Lib.hid hrd
          clear hrd hbb e HREAD
          rcases Nat.lt_or_ge j 4 with hj | hj
          all_goals
            have hjb := hj
            go_wp2_with fail
            (with_reducible refine HP.out.mono ?_)
            rintro e wp ⟨q, D, e1, D2, e2, ok, rfl, hpo, -, hq1, hq2, -, -, hb'⟩
            rw [HRD.out] at hpo
            obtain ⟨rfl, hqs⟩ : ok = true ∧ s = q := by
              cases ok with
              | false => cases hpo
              | true => exact ⟨rfl, Option.some.inj hpo⟩
            have hb := bn HBR.out hb'
            have X1 := Blk.new wp 32 #[.int .i64 q.number, .int .i64 q.boot, .slice D q.jour.segs.length e1, .int .i64 q.jour.len, .int .u32 (q.jour.last.toNat : Int), .slice D2 q.chunks.segs.length e2, .int .i64 q.chunks.len, .int .u32 (q.chunks.last.toNat : Int)]
            have bx := bal (Below.refl wp.heap.size wp) (.cells #[.int .i64 q.number, .int .i64 q.boot, .slice D q.jour.segs.length e1, .int .i64 q.jour.len, .int .u32 (q.jour.last.toNat : Int), .slice D2 q.chunks.segs.length e2, .int .i64 q.chunks.len, .int .u32 (q.chunks.last.toNat : Int)] 32)
            have hX := bal hb (.cells #[.int .i64 q.number, .int .i64 q.boot, .slice D q.jour.segs.length e1, .int .i64 q.jour.len, .int .u32 (q.jour.last.toNat : Int), .slice D2 q.chunks.segs.length e2, .int .i64 q.chunks.len, .int .u32 (q.chunks.last.toNat : Int)] 32)
            have hAx := HA.out _ hX
            have HS := Lib.hid (law5_same q s D e1 D2 e2 A c A2 c2 _ (hq1.below bx) (hq2.below bx) hAx.r1 hAx.r2 (by rw [← hqs]; omega) (by rw [← hqs]; omega))
            unfold supV at HS
            obtain ⟨x0, x1, x2, x3, x4, x5, x6, x7⟩ := HC.out _ hX
            obtain ⟨y0, y1, y2, y3, y4, y5, y6, y7⟩ := box_cells X1 (Below.refl _ _)
            have HQS := Lib.hid hqs.symm
            unfold supV
            clear hqs hpo hq1 hq2 hb' hAx bx X1 hb
            go_upto_region 15 with (fail)
            generalize (wp.alloc (.cells #[.int .i64 q.number, .int .i64 q.boot, .slice D q.jour.segs.length e1, .int .i64 q.jour.len, .int .u32 (q.jour.last.toNat : Int), .slice D2 q.chunks.segs.length e2, .int .i64 q.chunks.len, .int .u32 (q.chunks.last.toNat : Int)] 32)) = wx at *
            go_wp2_with fail
            (with_reducible refine HS.out.mono ?_)
            rintro e w8 ⟨rs, rfl, hrs, hb8⟩
            have hrs' := hrs.2 HQS.out
            subst hrs'
            clear hrs
            have hb9 := bn hX hb8
            go_wp2
            go_ret
            exact ⟨rfl, bn HB0.out hb9⟩
        · have hbb : (!(x == f)) = true := by rw [beq_eq_false_iff_ne.2 e]; rfl
          have hrd := HREAD.out
          rw [if_neg e] at hrd
          rw [hbb]
          have HRD := Lib.hid hrd
          clear hrd hbb e HREAD
          rcases Nat.lt_or_ge j 4 with hj | hj
          all_goals
            have hjb := hj
            go_wp2_with fail
            (with_reducible refine HP.out.mono ?_)
            rintro e wp ⟨q, D, e1, D2, e2, ok, rfl, hpo, -, hq1, hq2, -, -, hb'⟩
            rw [HRD.out] at hpo
            obtain rfl : ok = false := by
              cases ok with
              | false => rfl
              | true => cases hpo
            have hb := bn HBR.out hb'
            have hX := bal hb (.cells #[.int .i64 q.number, .int .i64 q.boot, .slice D q.jour.segs.length e1, .int .i64 q.jour.len, .int .u32 (q.jour.last.toNat : Int), .slice D2 q.chunks.segs.length e2, .int .i64 q.chunks.len, .int .u32 (q.chunks.last.toNat : Int)] 32)
            unfold supV
            clear hpo hq1 hq2 hb'
            go_wp2
            go_ret
            exact ⟨rfl, bn HB0.out hX⟩
end Go.Proofs.Ytbhhjphgbdaanaa
