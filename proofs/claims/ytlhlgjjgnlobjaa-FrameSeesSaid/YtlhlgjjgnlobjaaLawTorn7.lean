/-
  What FrameSees calls and gives.
-/
import Derived.Test.YtlhlgjjgnlobjaaLaw7
import Derived.Test.YtlhlgjjgnlobjaaFrameTorn
set_option linter.unusedSimpArgs false
set_option linter.unusedVariables false
namespace Go.Proofs.Ytlhlgjjgnlobjaa
open Go.RowKit

/-- x is f but for the bytes k .. k + j - 1 -/
def Torn (f x : List UInt8) (k j : Nat) : Prop := x.length = f.length ∧ ∀ q, q < k ∨ k + j ≤ q → x[q]? = f[q]?
theorem Torn.start (f : List UInt8) (k : Nat) : Torn f f k 0 := ⟨rfl, fun _ _ => rfl⟩
theorem Torn.same {f x : List UInt8} {k j : Nat} (h : Torn f x k j) (hx : k + j < x.length) (hf : k + j < f.length) : x[k + j] = f[k + j] := by
  have := h.2 (k + j) (.inr (Nat.le_refl _))
  rw [List.getElem?_eq_getElem hx, List.getElem?_eq_getElem hf] at this
  exact Option.some.inj this
theorem Torn.step {f x : List UInt8} {k j : Nat} (h : Torn f x k j) (t : UInt8) : Torn f (x.set (k + j) t) k (j + 1) := by
  refine ⟨by simp [h.1], fun q hq => ?_⟩
  rw [List.getElem?_set_ne (by omega)]
  exact h.2 q (by omega)
theorem Torn.turn {f x : List UInt8} {k j : Nat} (h : Torn f x k j) (hx : k + j < x.length) (hf : k + j < f.length) (t : UInt8) : (!(x.set (k + j) (x[k + j] ^^^ t) == f)) = (!(x == f) || !((t.toNat : Int) == 0)) := by
  have hs := h.same hx hf
  by_cases ht : t = 0
  · subst ht
    rw [UInt8.xor_zero, List.set_getElem_self]
    simp
  · have h0 : t.toNat ≠ 0 := fun e => ht (UInt8.toNat_inj.1 e)
    have h1 : ((t.toNat : Int) == 0) = false := beq_eq_false_iff_ne.2 (by omega)
    rw [h1]
    have h2 : (x.set (k + j) (x[k + j] ^^^ t) == f) = false := by
      apply beq_eq_false_iff_ne.2
      intro e
      have := congrArg (fun l => l[k + j]?) e
      simp only [List.getElem?_set_self hx, List.getElem?_eq_getElem hf] at this
      have h3 := Option.some.inj this
      rw [hs] at h3
      apply ht
      have h4 := congrArg (fun y => f[k + j] ^^^ y) h3
      simpa only [← UInt8.xor_assoc, UInt8.xor_self, UInt8.zero_xor] using h4
    rw [h2]
    simp
theorem Torn.wide {f x : List UInt8} {k j : Nat} (h : Torn f x k j) (hj : j ≤ 4) : ∀ q, q < k ∨ k + 4 ≤ q → x[q]? = f[q]? := fun q hq => h.2 q (by omega)
theorem turn_byte (t : Crc.W) (j : Nat) : (t.toNat : Int) / (2 : Int) ^ (8 * j) % 256 = ((UInt8.ofNat (t.toNat / 2 ^ (8 * j) % 256)).toNat : Int) := by
  rw [UInt8.toNat_ofNat']
  simp

set_option maxRecDepth 100000 in
set_option maxHeartbeats 4000000 in
theorem torn_walk (A : Option Addr) (m cap : Nat) (l : List UInt8) (hm : l.length = m) (c : Nat) (hc16 : c < 65536) (t : Crc.W) (w : World) (hl : l.length ≤ maxLen) (hc : m ≤ cap) (hr : RB w A l) :
    Calls Try.prog 10 #[.slice A m cap, .int .u16 (c : Int), .int .u32 (t.toNat : Int)] w fun e w' => e = .returned (.bool true) ∧ Below w.heap.size w w' := by
  subst hm
  have ht32 := t.isLt
  by_cases cl : (l.length : Int) < 1
  · go_enter Try.func10, Try.ntmps10
    go_wp2_with fail
    refine (law7_awake _).mono ?_
    rintro e w1 ⟨rfl, hb1⟩
    go_wp2
    go_ret
    exact ⟨rfl, hb1⟩
  · by_cases ch : (3000 : Int) < (l.length : Int)
    · go_enter Try.func10, Try.ntmps10
      go_wp2_with fail
      refine (law7_awake _).mono ?_
      rintro e w1 ⟨rfl, hb1⟩
      go_wp2
      go_ret
      exact ⟨rfl, hb1⟩
    · by_cases ct : t = 0#32
      · subst ct
        go_enter Try.func10, Try.ntmps10
        go_wp2_with fail
        refine (law7_awake _).mono ?_
        rintro e w1 ⟨rfl, hb1⟩
        go_wp2
        go_ret
        exact ⟨rfl, hb1⟩
      · have ct2 : ((t.toNat : Int) == 0) = false := beq_eq_false_iff_ne.2 (fun h => ct (BitVec.eq_of_toNat_eq (by simp; omega)))
        have kc := fun (w : World) (C : Array Value) (n c : Nat) => Lib.run_convert_bytes_const (P := Try.prog) w 22 5 C n c Try.underlying22 Try.underlying5
        have h1 : 1 ≤ l.length := by omega
        have h2 : l.length ≤ 3000 := by omega
        go_enter Try.func10, Try.ntmps10
        go_wp2_with fail
        refine (law7_awake _).mono ?_
        rintro e w1 ⟨rfl, hb1⟩
        go_wp2_with fail
        refine (frame_make_ok 9#32 _ rfl 3#32 _ rfl (by decide) A l.length cap l _ rfl h1 (by omega) (hr.below hb1)).mono ?_
        rintro e w2 ⟨v2, rfl, ho2, hb2⟩
        obtain ⟨A2, c2, rfl, k2, r2⟩ := ho2.bytes
        have hb02 := bn hb1 hb2
        have hml := Frame.mk_length 9#32 3#32 l
        rw [hml] at k2 ⊢
        go_wp2_with fail
        refine (frame_make_ok (Crc.next 9#32 l) _ rfl 3#32 _ rfl (by decide) _ 6 _ [98, 101, 104, 105, 110, 100] _ rfl (by decide) (by decide) (RB.lit _ _ _ _ _ rfl)).mono ?_
        rintro e w3 ⟨v3, rfl, ho3, hb3⟩
        obtain ⟨A3, c3, rfl, k3, r3⟩ := ho3.bytes
        have hb23 := bn (bal (Below.refl _ w2) _) hb3
        have hb03 := bn hb02 hb23
        have hgl := Frame.mk_length (Crc.next 9#32 l) 3#32 [98, 101, 104, 105, 110, 100]
        rw [hgl] at k3 ⊢
        have hkk : (c : Int) % ((l.length : Int) + 16) = ((c % (l.length + 16) : Nat) : Int) := by simp
        have hkl : c % (l.length + 16) < l.length + 16 := Nat.mod_lt _ (by omega)
        have hsame := Frame.read_mk 9#32 3#32 (by decide) l [] h1 (by omega)
        rw [List.append_nil] at hsame
        have htorn : ∀ x k j, Torn (Frame.mk 9#32 3#32 l) x k j → j ≤ 4 → x ≠ Frame.mk 9#32 3#32 l → Frame.read 9#32 x = none := fun x k j h hj hx => Frame.read_torn 9#32 3#32 l x k h1 (by omega) (h.1.trans hml) (h.wide hj) hx
        have hg := Frame.read_mk (Crc.next 9#32 l) 3#32 (by decide) [98, 101, 104, 105, 110, 100] [] (by decide) (by decide)
        rw [List.append_nil] at hg
        have hone : ∀ y : Crc.W, y ≠ y + 1#32 := by
          intro y h
          have := congrArg BitVec.toNat h
          rw [BitVec.toNat_add] at this
          have := y.isLt
          simp at *
        have hoth := Frame.read_other (Crc.next 9#32 l) (Crc.next 9#32 l + 1#32) 3#32 (hone _) [98, 101, 104, 105, 110, 100] [] (by decide) (by decide)
        rw [List.append_nil] at hoth
        clear hone ct ho2 ho3 hb1 hb2 hb3 hr
        generalize Frame.mk (Crc.next 9#32 l) 3#32 [98, 101, 104, 105, 110, 100] = g at *
        generalize Crc.next (Crc.next 9#32 l) [98, 101, 104, 105, 110, 100] = ng at *
        generalize Frame.mk 9#32 3#32 l = f at *
        generalize Crc.next 9#32 l = nx at *
        generalize c % (l.length + 16) = k at *
        have hnx32 := nx.isLt
        have hinc : (((nx.toNat : Int) + 1) % 4294967296) = ((nx + 1#32).toNat : Int) := by rw [BitVec.toNat_add]; simp
        have HINC := Lib.hid hinc
        have HSAME := Lib.hid hsame
        have HTORN := Lib.hid htorn
        have HG := Lib.hid hg
        have HOTH := Lib.hid hoth
        clear hinc hsame htorn hg hoth
        rw [show ([98, 101, 104, 105, 110, 100] : List UInt8).length = 6 from rfl] at *
        obtain ⟨v5, w5, HR5, ho5, hb5⟩ := append_fresh w3 A2 (l.length + 16) c2 f hml (r2.below hb23) (by rw [hml]; omega)
        have hb05 := bn hb03 hb5
        have r5 := r3.below hb5
        obtain ⟨b5, c5, cur, rfl, hg5, hblk, hle, hcs, hcm, htk⟩ := ho5.blk (by simp; omega)
        have hwg : w.heap.size ≤ b5 := Nat.le_trans (hb03.size) hg5
        rw [List.length_map, hml] at HR5 hle htk
        have HHK := Lib.hid hkk
        have HCS := Lib.hid hcs
        have HTK := Lib.hid htk
        have HML := Lib.hid hml
        have HGL := Lib.hid hgl
        clear hb23 r2 hb02 ho5 hcs htk hml hgl r5 hb05
        go_wp2_with (at_builtin; refine wpList_append_run rfl _ _ 22 22 rfl _ _ _ _ rfl rfl HR5.out ?_)
        clear HR5
        rw [HHK.out]
        go_loopw [15, 16] (fun v i wr => ∃ (j : Nat) (x : List UInt8) (cur : Array Value), j ≤ 4 ∧ i = .int .i64 j ∧ v = .bool (!(x == f)) ∧ Blk wr b5 5 cur ∧ Hid (cur.size = c5) ∧ Hid (cur.toList.take (x.map eb).length = x.map eb) ∧ Torn f x k j ∧ Below w3.heap.size w3 wr) (fun _ i _ => 4 - (intOf i).toNat)
        case atStart => exact ⟨0, f, cur, by omega, rfl, by simp, hblk, HCS, by show List.take _ _ = _; rw [List.length_map, HML.out]; exact HTK.out, Torn.start _ _, hb5⟩
        case round =>
          clear hblk HCS HTK hb5
          obtain ⟨j, x, cur, hj4, rfl, rfl, hblk, hcs, htk, hT, hb⟩ := hrel
          by_cases hgo : j < 4 ∧ k + j < l.length + 16
          · obtain ⟨hj, hkj⟩ := hgo
            have hxl : x.length = l.length + 16 := hT.1.trans HML.out
            have hxk : k + j < x.length := by omega
            have hcell : wr.cell? ⟨b5, k + j, none⟩ = some _ := (hblk.cell _).trans (row_get htk.out (k + j) (by simpa using hxk))
            rw [List.getElem_map] at hcell
            have hfz := hblk.frozen (k + j)
            have htb := turn_byte t j
            generalize UInt8.ofNat (t.toNat / 2 ^ (8 * j) % 256) = tb at *
            have hT' := hT.step (x[k + j] ^^^ tb)
            have hch := hT.turn hxk (by rw [HML.out]; exact hkj) tb
            have hset := row_set htk.out (k + j) (eb (x[k + j] ^^^ tb))
            rw [← List.map_set] at hset
            generalize x[k + j] = y at *
            generalize hx' : x.set (k + j) (y ^^^ tb) = x' at *
            have hbx := (bits_xor8 y.toNat tb.toNat y.toNat_lt tb.toNat_lt).1
            rw [← UInt8.toNat_xor] at hbx
            have HSET := Lib.hid hset
            have HCH := Lib.hid hch
            clear hset hxl hxk hch hx'
            unfold eb at hcell
            generalize (!(x == f)) = bb at *
            have i0 : ((k : Int) + (j : Int)) < (l.length : Int) + 16 := by omega
            have heb : Value.int .u8 ((y.toNat ^^^ tb.toNat : Nat) : Int) = eb (y ^^^ tb) := by unfold eb; rw [UInt8.toNat_xor]
            have HEB := Lib.hid heb
            clear heb
            cases bb
            all_goals
              go_wp2
              go_roundw
              case rel => 
                rw [HEB.out]
                exact ⟨j + 1, x', cur.setIfInBounds (k + j) (eb (y ^^^ tb)), by omega, by go_num, by rw [HCH.out]; first | rfl | (simp; done) | (simp; rfl), hblk.set _ _, by show Array.size _ = _; rw [Array.size_setIfInBounds]; exact hcs.out, HSET, hT', hb.setCell hg5 _⟩
              case measure => simp [intOf]; try omega
          · have hxl : x.length = l.length + 16 := hT.1.trans HML.out
            have tx : RB wr (some ⟨b5, 0, none⟩) x := (Blk.own hblk (B := 0) (Nat.zero_le _) (by simp; omega) hcs.out hcm htk.out).bytes_at
            have hb0 := bn hb03 hb
            have tg := r3.below hb
            have HXL := Lib.hid hxl
            have hread : Frame.read 9#32 x = if x = f then some (l, 3#32, nx) else none := by
              by_cases e : x = f
              · rw [if_pos e, e]; exact HSAME.out
              · rw [if_neg e]; exact HTORN.out x k j hT hj4 e
            clear hxl hblk hcs htk hb hT HTORN HSAME r3
            by_cases e : x = f
            · rw [if_pos e] at hread
              have hbb : (!(x == f)) = false := by rw [beq_iff_eq.2 e]; rfl
              rw [hbb]
              have HREAD := Lib.hid hread
              clear hread hbb e
              rcases Nat.lt_or_ge j 4 with hj | hj
              all_goals
                have hjb := hj
                go_wp2_with fail
                refine (frame_read 9#32 _ rfl _ _ c5 x _ HXL.out (by rw [HXL.out]; omega) (by rw [HXL.out]; omega) tx).mono ?_
                intro e w6 hp
                obtain ⟨A6, c6, rfl, k6, r6, hb6⟩ := hp.get_some HREAD.out
                clear hp
                have hb06 := bn hb0 hb6
                go_wp2_with fail
                refine (frame_read nx _ rfl A3 22 c3 g _ HGL.out (by rw [HGL.out]; omega) (by rw [HGL.out]; omega) (tg.below hb6)).mono ?_
                intro e w7 hp
                obtain ⟨A7, c7, rfl, k7, r7, hb7⟩ := hp.get_some HG.out
                clear hp
                have hb07 := bn hb06 hb7
                go_wp2_with fail
                refine (frame_read (nx + 1#32) _ HINC.out A3 22 c3 g _ HGL.out (by rw [HGL.out]; omega) (by rw [HGL.out]; omega) ((tg.below hb6).below hb7)).mono ?_
                intro e w8 hp
                obtain ⟨rfl, hb8⟩ := hp.get_none HOTH.out
                clear hp
                have hb08 := bn hb07 hb8
                go_wp2
                go_ret
                exact ⟨rfl, hb08⟩
            · rw [if_neg e] at hread
              have hbb : (!(x == f)) = true := by rw [beq_eq_false_iff_ne.2 e]; rfl
              rw [hbb]
              have HREAD := Lib.hid hread
              clear hread hbb e
              rcases Nat.lt_or_ge j 4 with hj | hj
              all_goals
                have hjb := hj
                go_wp2_with fail
                refine (frame_read 9#32 _ rfl _ _ c5 x _ HXL.out (by rw [HXL.out]; omega) (by rw [HXL.out]; omega) tx).mono ?_
                intro e w6 hp
                obtain ⟨rfl, hb6⟩ := hp.get_none HREAD.out
                clear hp
                have hb06 := bn hb0 hb6
                go_wp2_with fail
                refine (frame_read nx _ rfl A3 22 c3 g _ HGL.out (by rw [HGL.out]; omega) (by rw [HGL.out]; omega) (tg.below hb6)).mono ?_
                intro e w7 hp
                obtain ⟨A7, c7, rfl, k7, r7, hb7⟩ := hp.get_some HG.out
                clear hp
                have hb07 := bn hb06 hb7
                go_wp2_with fail
                refine (frame_read (nx + 1#32) _ HINC.out A3 22 c3 g _ HGL.out (by rw [HGL.out]; omega) (by rw [HGL.out]; omega) ((tg.below hb6).below hb7)).mono ?_
                intro e w8 hp
                obtain ⟨rfl, hb8⟩ := hp.get_none HOTH.out
                clear hp
                have hb08 := bn hb07 hb8
                go_wp2
                go_ret
                exact ⟨rfl, hb08⟩
end Go.Proofs.Ytlhlgjjgnlobjaa
