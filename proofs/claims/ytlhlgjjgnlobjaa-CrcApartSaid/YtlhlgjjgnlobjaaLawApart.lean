/-
  CrcApart: the walk of the law.
-/
import Derived.Test.YtlhlgjjgnlobjaaLawA
set_option linter.unusedSimpArgs false
set_option linter.unusedVariables false
namespace Go.Proofs.Ytlhlgjjgnlobjaa
open Go.RowKit

set_option maxRecDepth 100000 in
set_option maxHeartbeats 2000000 in
theorem apart_walk (A : Option Addr) (m cap : Nat) (l : List UInt8) (hm : l.length = m) (at_ : Nat) (hat : at_ < 65536) (d0 d1 d2 d3 : UInt8) (w : World) (hl : l.length ≤ maxLen) (hcap : l.length ≤ cap) (hr : RB w A l) :
    Calls Try.prog 6 #[.slice A m cap, .int .u16 (at_ : Int), .agg #[.int .u8 (d0.toNat : Int), .int .u8 (d1.toNat : Int), .int .u8 (d2.toNat : Int), .int .u8 (d3.toNat : Int)]] w fun e w' => e = .returned (.bool true) ∧ Below w.heap.size w w' := by
  subst hm
  unfold maxLen at hl
  by_cases h5 : 3000 < l.length
  · go_enter Try.func6, Try.ntmps6
    go_wp2_with (go_at_call 15; refine (law1_awake _).mono ?_; rintro e w1 ⟨rfl, hb1⟩)
    go_ret
    exact ⟨rfl, bn (bal (Below.refl _ _) _) hb1⟩
  · by_cases h0 : l.length = 0
    · have hq : ((l.length : Int) == 0) = true := by rw [h0]; rfl
      go_enter Try.func6, Try.ntmps6
      go_wp2_with (go_at_call 15; refine (law1_awake _).mono ?_; rintro e w1 ⟨rfl, hb1⟩)
      go_ret
      exact ⟨rfl, bn (bal (Below.refl _ _) _) hb1⟩
    · have hq : ((l.length : Int) == 0) = false := beq_eq_false_iff_ne.2 (by omega)
      have hlen : (l.map eb).length = l.length := by simp
      go_enter Try.func6, Try.ntmps6
      go_wp2_with fail
      refine (law1_awake _).mono ?_
      rintro e w1 ⟨rfl, hb1⟩
      have hbox : Blk (w1.alloc (.cells #[] 5)) w.heap.size 31 #[.int .u8 (d0.toNat : Int), .int .u8 (d1.toNat : Int), .int .u8 (d2.toNat : Int), .int .u8 (d3.toNat : Int)] := ((Blk.new w _ _).below hb1).alloc _
      have hb2 := bal (bn (bal (Below.refl w.heap.size w) _) hb1) (.cells #[] 5)
      obtain ⟨v', w2, hrun, hown, hgr, hb3⟩ := append_run (P := Try.prog) (w1.alloc (.cells #[] 5)) w1.heap.size 22 22 5 (.int .u8 0) 1 Try.underlying22 info_u8 rfl (.slice (some ⟨w1.heap.size, 0, none⟩) 0 0) [] (Own.lit w1 w1.heap.size 5 [] (Nat.le_refl _) (by simp)) A l.length cap (l.map eb) hlen (hr.below hb2) (eb_cells l) (by rw [hlen]; unfold maxLen; simp; omega) (by rw [hlen]; simp; omega) (by simp)
      have hw1 := hb1.size
      simp at hw1
      obtain ⟨g, c', cur, rfl, hg, hblk, hle, hcs, hcm, htk⟩ := hown.blk (by simp; omega)
      simp only [List.nil_append] at hown hle htk hrun
      rw [hlen] at hrun hle htk
      have hb4 : Below w.heap.size w w2 := hb2.trans (hb3.mono (by omega))
      have hbox2 : Blk w2 w.heap.size 31 #[.int .u8 (d0.toNat : Int), .int .u8 (d1.toNat : Int), .int .u8 (d2.toNat : Int), .int .u8 (d3.toNat : Int)] := (hb3.block w.heap.size (by omega)).trans hbox
      clear hb3 hgr hbox hb2 hown
      obtain ⟨k, hk, hkl⟩ : ∃ k : Nat, (at_ : Int) % (l.length : Int) = (k : Int) ∧ k < l.length := ⟨at_ % l.length, by simp, Nat.mod_lt _ (by omega)⟩
      have HR := Lib.hid hrun
      clear hrun
      go_wp2_with (at_builtin; refine wpList_append_run rfl _ _ 22 22 rfl _ _ _ _ rfl rfl HR.out ?_)
      rw [hk]
      clear hk
      go_loopw [9] (fun i wr => ∃ (j : Nat) (x : List UInt8) (cur : Array Value) (E : Crc.W), j ≤ 4 ∧ (k + j ≤ l.length ∨ l.length < k + j) ∧ i = .int .i64 j ∧ Blk wr g 5 cur ∧ cur.size = c' ∧ Hid (cur.toList.take (x.map eb).length = x.map eb) ∧ Crc.Burst (~~~0#32) l x k j E ∧
          Blk wr w.heap.size 31 #[.int .u8 (d0.toNat : Int), .int .u8 (d1.toNat : Int), .int .u8 (d2.toNat : Int), .int .u8 (d3.toNat : Int)] ∧ Below w.heap.size w wr) (fun i _ => 4 - (intOf i).toNat)
      case atStart => exact ⟨0, l, cur, 0#32, by omega, by omega, rfl, hblk, hcs, by rw [List.length_map]; exact htk, Crc.Burst.start _ _ _, hbox2, hb4⟩
      case round =>
        clear hblk hcs htk hbox2 hb4
        obtain ⟨j, x, cur, E, hj4, _, rfl, hblk, hcs, htk, hB, hbox, hb⟩ := hrel
        by_cases hgo : j < 4 ∧ k + j < l.length
        · obtain ⟨hj, hkj⟩ := hgo
          have hxl : x.length = l.length := hB.1
          obtain ⟨E', hB'⟩ := hB.step hj hkj (([d0, d1, d2, d3] : List UInt8)[j])
          have hd : wr.cell? ⟨w.heap.size, j, none⟩ = some (.int .u8 ((([d0, d1, d2, d3] : List UInt8)[j]).toNat : Int)) := by
            rw [hbox.cell]
            match j, hj with
            | 0, _ => rfl
            | 1, _ => rfl
            | 2, _ => rfl
            | 3, _ => rfl
          have hold := row_get htk.out (k + j) (by simp; omega)
          have hcell : wr.cell? ⟨g, k + j, none⟩ = some _ := (hblk.cell (k + j)).trans hold
          have hfz := hblk.frozen (k + j)
          have hset := row_set htk.out (k + j) (eb (([d0, d1, d2, d3] : List UInt8)[j]))
          have hmap : (x.map eb).set (k + j) (eb (([d0, d1, d2, d3] : List UInt8)[j])) = (x.set (k + j) (([d0, d1, d2, d3] : List UInt8)[j])).map eb := by rw [List.map_set]
          rw [hmap] at hset
          have HSET := Lib.hid hset
          clear hset hmap hold
          generalize (([d0, d1, d2, d3] : List UInt8)[j]) = dj at *
          generalize (List.map eb x)[k + j]'(by simp; omega) = old at *
          have HX := Lib.hid hxl
          have HCS := Lib.hid hcs
          clear hxl hcs
          go_wp2
          go_roundw
          case rel => exact ⟨j + 1, x.set (k + j) dj, cur.setIfInBounds (k + j) (eb dj), E', by omega, by omega, by go_num, hblk.set _ _, by simp [HCS.out], by have := HSET.out; exact this, hB', hbox.other (by simp; omega) _, hb.setCell (by simp; omega) _⟩
          case measure => simp [intOf]; try omega
        · have hxl : x.length = l.length := hB.1
          have t0 := hr.below hb
          have tx : RB wr (some ⟨g, 0, none⟩) x := (Blk.own hblk (B := 0) (Nat.zero_le _) (by simp; omega) hcs hcm htk.out).bytes_at
          have hfin : (Crc.next 0#32 l = Crc.next 0#32 x) ↔ l = x := by
            rw [Crc.next_eq]
            exact ⟨fun h => (hB.sees.1 h.symm).symm, fun h => (hB.sees.2 h.symm).symm⟩
          have HX := Lib.hid hxl
          have hk := bdr (Below.refl wr.heap.size wr)
          have hres : (((Crc.next 0#32 l).toNat : Int) == ((Crc.next 0#32 x).toNat : Int)) = (l == x) := by
            by_cases e : l = x
            · rw [e]; simp
            · have h1 : Crc.next 0#32 l ≠ Crc.next 0#32 x := fun h => e (hfin.1 h)
              have h2 : (l == x) = false := by simpa using e
              rw [h2]
              apply beq_eq_false_iff_ne.2
              intro h
              exact h1 (BitVec.eq_of_toNat_eq (by omega))
          have HRES := Lib.hid hres
          have h3000 : l.length ≤ 3000 := by omega
          clear hB hblk hcs htk hbox hfin hres hxl
          rcases Nat.lt_or_ge j 4 with hj | hj
          all_goals
            have hjb := hj
            go_wp2
            go_region_held (fun w2 => Below wr.heap.size wr w2 ∧ (convert 22 9 (.slice A l.length cap)).run Try.prog w2 = .ok (.string ⟨l.toArray⟩) w2 ∧ (convert 22 9 (.slice (some ⟨g, 0, none⟩) l.length c')).run Try.prog w2 = .ok (.string ⟨x.toArray⟩) w2)
              (exact ⟨hk, run_str_try _ A cap _ l rfl (t0.below hk), run_str_try _ (some ⟨g, 0, none⟩) c' _ x HX.out (tx.below hk)⟩) (first
              | (go_at_call 16; (with_reducible refine (crc_sum A l.length cap l _ rfl (by unfold maxLen; omega) (t0.below hk)).mono ?_); rintro e w' ⟨rfl, hb'⟩; replace hk := bn hk hb'; clear hb')
              | (go_at_call 16; (with_reducible refine (crc_sum (some ⟨g, 0, none⟩) l.length c' x _ HX.out (by rw [HX.out]; unfold maxLen; omega) (tx.below hk)).mono ?_); rintro e w' ⟨rfl, hb'⟩; replace hk := bn hk hb'; clear hb'))
            go_wp2
            go_ret
            exact ⟨ret_bool (by rw [HRES.out]; simp), bn hb hk⟩
end Go.Proofs.Ytlhlgjjgnlobjaa
