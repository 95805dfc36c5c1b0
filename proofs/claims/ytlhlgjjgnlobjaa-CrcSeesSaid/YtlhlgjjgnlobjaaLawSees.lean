/-
  CrcSees: the walk of the law.
-/
import Derived.Test.YtlhlgjjgnlobjaaLawA
set_option linter.unusedSimpArgs false
set_option linter.unusedVariables false
namespace Go.Proofs.Ytlhlgjjgnlobjaa
open Go.RowKit

theorem turn_bit (t : Crc.W) (i : Nat) (hi : i < 32) : (bits .and .u32 ((t.toNat : Int) / 2 ^ i) 1 == 1) = t.getLsbD i := by
  have e : (t.toNat : Int) / (2 : Int) ^ i = ((t >>> i).toNat : Int) := by
    rw [BitVec.toNat_ushiftRight, Nat.shiftRight_eq_div_pow]
    norm_cast
  rw [e, low_bit, BitVec.getLsbD_ushiftRight, Nat.add_zero]
  cases t.getLsbD i <;> rfl

theorem flip_spell (y : UInt8) (r : Nat) (hr : r < 8) : ∃ e : UInt8, e.toNat = 2 ^ r ∧ bits .xor .u8 (y.toNat : Int) ((2 : Int) ^ r % 256) = ((y ^^^ e).toNat : Int) := by
  have h2 : 2 ^ r < 256 := Nat.lt_of_le_of_lt (Nat.pow_le_pow_right (by omega) (show r ≤ 7 by omega)) (by decide)
  refine ⟨UInt8.ofNat (2 ^ r), by simp; omega, ?_⟩
  have e1 : (2 : Int) ^ r % 256 = ((2 ^ r : Nat) : Int) := by
    have : ((2 ^ r : Nat) : Int) = (2 : Int) ^ r := by simp
    rw [← this]
    generalize 2 ^ r = z at *
    omega
  rw [e1, (bits_xor8 y.toNat (2 ^ r) y.toNat_lt h2).1, UInt8.toNat_xor]
  congr 2
  simp; omega

theorem sees_fin (l x : List UInt8) (k i : Nat) (E : Crc.W) (hT : Crc.Turn (~~~0#32) (l ++ four (Crc.next 0#32 l)) x k i E) :
    ((four (Crc.next 0#32 (x.take l.length)) == x.drop l.length) == ((x.take l.length == l) && (x.drop l.length == four (Crc.next 0#32 l)))) = true := by
  have hxl : x.length = l.length + 4 := by rw [hT.1]; simp [Crc.four]
  have h1 : four (Crc.next 0#32 (x.take l.length)) = x.drop l.length ↔ x = l ++ four (Crc.next 0#32 l) := by
    rw [Crc.fits_four _ _ (by simp; omega), List.take_append_drop, ← (Crc.fits_four l (four (Crc.next 0#32 l)) rfl).1 rfl]
    exact hT.sees
  have h2 : (x.take l.length = l ∧ x.drop l.length = four (Crc.next 0#32 l)) ↔ x = l ++ four (Crc.next 0#32 l) := by
    constructor
    · rintro ⟨e1, e2⟩
      rw [← List.take_append_drop l.length x, e1, e2]
    · intro e
      rw [e]; simp
  rw [beq_iff_eq, Bool.eq_iff_iff, beq_iff_eq, Bool.and_eq_true, beq_iff_eq, beq_iff_eq, h1, h2]
theorem same_step (x l : List UInt8) (m : Nat) (hx : m < x.length) (hl : m < l.length) : (x.take (m + 1) == l.take (m + 1)) = ((x.take m == l.take m) && ((x[m].toNat : Int) == (l[m].toNat : Int))) := by
  rw [List.take_succ_eq_append_getElem hx, List.take_succ_eq_append_getElem hl, Bool.eq_iff_iff]
  simp only [Bool.and_eq_true, beq_iff_eq]
  constructor
  · intro h
    have := List.append_inj h (by simp; omega)
    refine ⟨this.1, ?_⟩
    have h2 := this.2
    simp at h2
    rw [h2]
  · rintro ⟨h1, h2⟩
    have : x[m] = l[m] := UInt8.toNat_inj.1 (by omega)
    rw [h1, this]

set_option maxRecDepth 100000 in
set_option maxHeartbeats 4000000 in
theorem sees_walk (A : Option Addr) (m cap : Nat) (l : List UInt8) (hm : l.length = m) (at_ : Nat) (hat : at_ < 65536) (t : Crc.W) (w : World) (hl : l.length ≤ maxLen) (hcap : l.length ≤ cap) (hr : RB w A l) :
    Calls Try.prog 4 #[.slice A m cap, .int .u16 (at_ : Int), .int .u32 (t.toNat : Int)] w fun e w' => e = .returned (.bool true) ∧ Below w.heap.size w w' := by
  subst hm
  unfold maxLen at hl
  by_cases h5 : 3000 < l.length
  · go_enter Try.func4, Try.ntmps4
    go_wp2_with (go_at_call 15; refine (law1_awake _).mono ?_; rintro e w1 ⟨rfl, hb1⟩)
    go_ret
    exact ⟨rfl, hb1⟩
  · by_cases h0 : t = 0#32
    · have hq : ((t.toNat : Int) == 0) = true := by rw [h0]; rfl
      go_enter Try.func4, Try.ntmps4
      go_wp2_with (go_at_call 15; refine (law1_awake _).mono ?_; rintro e w1 ⟨rfl, hb1⟩)
      go_ret
      exact ⟨rfl, hb1⟩
    · have hq : ((t.toNat : Int) == 0) = false := beq_eq_false_iff_ne.2 (fun h => h0 (BitVec.eq_of_toNat_eq (by simpa using h)))
      have hlen : (l.map eb).length = l.length := by simp
      go_enter Try.func4, Try.ntmps4
      go_wp2_with fail
      refine (law1_awake _).mono ?_
      rintro e w1 ⟨rfl, hb1⟩
      obtain ⟨v', w2, HR, hown, hb2⟩ := append_fresh w1 A l.length cap l rfl (hr.below hb1) (by omega)
      have hb4 := bn hb1 hb2
      go_wp2_with (at_builtin; refine wpList_append_run rfl _ _ 22 22 rfl _ _ _ _ rfl rfl HR.out ?_)
      refine (crc_sum A l.length cap l _ rfl (by unfold maxLen; omega) (hr.below hb4)).mono ?_
      rintro e w3 ⟨rfl, hb5⟩
      go_wp2_with fail
      refine (crc_bytes (Crc.next 0#32 l) _ rfl _).mono ?_
      rintro e w4 ⟨v4, rfl, ho4, hb6⟩
      obtain ⟨A4, cap4, rfl, _, hr4⟩ := ho4.bytes
      have hs1 := hb1.size
      have hs2 := hb2.size
      have hs5 := hb5.size
      have hs6 := hb6.size
      obtain ⟨v5, w5, HR5, hown5, hb7, _⟩ := append_bytes w4 w1.heap.size v' l ((hown.below hb5).below hb6) A4 4 cap4 (four (Crc.next 0#32 l)) rfl hr4 (by simp [Crc.four]; omega) (by omega)
      have hl5 : ((l ++ four (Crc.next 0#32 l)).map eb).length = l.length + 4 := by simp [Crc.four]
      obtain ⟨g, c', cur, rfl, hg, hblk, hle, hcs, hcm, htk⟩ := hown5.blk (by rw [hl5]; omega)
      have hb := (bn (bn hb4 hb5) hb6).trans (hb7.mono hs1)
      clear hb4 hb5 hb6 hb7 hb2 hown ho4 hown5 hr4 hs2 hs5 hs6
      have HL5 := Lib.hid hl5
      clear hl5
      rw [HL5.out] at HR5 hle htk
      go_wp2_with (at_builtin; refine wpList_append_run rfl _ _ 22 22 rfl _ _ _ _ rfl rfl HR5.out ?_)
      obtain ⟨k, hk, hkl⟩ : ∃ k : Nat, (at_ : Int) % (((l.length : Int) + 4) * 8) = (k : Int) ∧ k < (l.length + 4) * 8 := ⟨at_ % ((l.length + 4) * 8), by simp, Nat.mod_lt _ (by omega)⟩
      rw [hk]
      clear hk
      have h3000 : l.length ≤ 3000 := by omega
      have hx0 : (l ++ four (Crc.next 0#32 l)).length = l.length + 4 := by simp [Crc.four]
      generalize hX : l ++ four (Crc.next 0#32 l) = X at *
      have HX := Lib.hid hX
      have HX0 := Lib.hid hx0
      clear hX hx0
      go_loopw [10] (fun i wr => ∃ (j : Nat) (x : List UInt8) (cur : Array Value) (E : Crc.W), j ≤ 32 ∧ i = .int .i64 j ∧ Blk wr g 5 cur ∧ Hid (cur.size = c') ∧ Hid (cur.toList.take (x.map eb).length = x.map eb) ∧ Crc.Turn (~~~0#32) X x k j E ∧ Below w.heap.size w wr) (fun i _ => 32 - (intOf i).toNat)
      case atStart => exact ⟨0, X, cur, 0#32, by omega, rfl, hblk, hcs, by show List.take _ _ = _; rw [HL5.out]; exact htk, Crc.Turn.start _ _ _, hb⟩
      case round =>
        clear hblk hcs htk hb HR5
        obtain ⟨j, x, cur, E, hj32, rfl, hblk, hcs, htk, hT, hb⟩ := hrel
        by_cases hgo : j < 32 ∧ k + j < (l.length + 4) * 8
        · obtain ⟨hj, hkj⟩ := hgo
          have htb := turn_bit t j hj
          cases hbit : t.getLsbD j with
          | false =>
            rw [hbit] at htb
            clear hbit
            go_wp2
            go_roundw
            case rel => exact ⟨j + 1, x, cur, E, by omega, by go_num, hblk, hcs, htk, hT.stay, hb⟩
            case measure => simp [intOf]; try omega
          | true =>
            rw [hbit] at htb
            clear hbit
            have hxl : x.length = l.length + 4 := hT.1.trans HX0.out
            have hq8 : (k + j) / 8 < x.length := by omega
            have hcell : wr.cell? ⟨g, (k + j) / 8, none⟩ = some _ := (hblk.cell _).trans (row_get htk.out ((k + j) / 8) (by simpa using hq8))
            rw [List.getElem_map] at hcell
            have hfz := hblk.frozen ((k + j) / 8)
            have HXL := Lib.hid hxl
            clear hxl
            generalize hy : x[(k + j) / 8]'hq8 = y at *
            have HY := Lib.hid hy
            clear hy
            unfold eb at hcell
            have hr8 : (k + j) % 8 < 8 := Nat.mod_lt _ (by omega)
            obtain ⟨e, he, hfl⟩ := flip_spell y ((k + j) % 8) hr8
            have hT' := hT.flip hj (by rw [HX0.out]; omega) ((k + j) / 8) rfl hq8 e he
            rw [HY.out] at hT'
            have hset := row_set htk.out ((k + j) / 8) (eb (y ^^^ e))
            rw [← List.map_set] at hset
            have HSET := Lib.hid hset
            have HFL := Lib.hid hfl
            clear hset hfl
            go_wp2
            go_roundw
            case rel =>
              rw [HFL.out]
              exact ⟨j + 1, x.set ((k + j) / 8) (y ^^^ e), cur.setIfInBounds ((k + j) / 8) (eb (y ^^^ e)), _, by omega, by go_num, hblk.set _ _, by show Array.size _ = _; rw [Array.size_setIfInBounds]; exact hcs.out, HSET, hT', hb.setCell (by simp; omega) _⟩
            case measure => simp [intOf]; try omega
        · have hxl : x.length = l.length + 4 := hT.1.trans HX0.out
          have hfin := sees_fin l x k j E (by rw [HX.out]; exact hT)
          have HF := Lib.hid hfin
          have HXL := Lib.hid hxl
          have t0 := hr.below hb
          have tx : RB wr (some ⟨g, 0, none⟩) x := (Blk.own hblk (B := 0) (Nat.zero_le _) (by simp; omega) hcs.out hcm htk.out).bytes_at
          clear hxl hfin hT hblk hcs htk HX HX0 HL5
          rcases Nat.lt_or_ge j 32 with hj | hj
          all_goals
            have hjb := hj
            go_wp2
            go_loopw [11, 12] (fun v i wq => ∃ (n : Nat) (b : Bool), n ≤ l.length ∧ i = .int .i64 n ∧ v = .bool b ∧ Hid (b = (x.take n == l.take n)) ∧ Below wr.heap.size wr wq) (fun _ i _ => l.length - (intOf i).toNat)
            case atStart => exact ⟨0, true, by omega, rfl, rfl, by show true = _; simp, Below.refl _ _⟩
            case round =>
              obtain ⟨n, b, hn, rfl, rfl, hb2, hbq⟩ := hrel
              by_cases hlt : n < l.length
              · have q0 := t0.below hbq
                have q1 := tx.below hbq
                obtain ⟨ad0, rfl⟩ := q0.some_of (by omega)
                have x0 := q0.at_ n hlt
                have x1 := q1.at_lit n (by rw [HXL.out]; omega)
                have hst := same_step x l n (by rw [HXL.out]; omega) hlt
                rw [← hb2.out] at hst
                generalize hy0 : l[n] = y0 at *
                generalize hy1 : x[n]'(by rw [HXL.out]; omega) = y1 at *
                have HST := Lib.hid hst
                clear hst hy0 hy1
                cases b with
                | true =>
                  have i0 : (n : Int) < (l.length : Int) := by omega
                  have i1 : (n : Int) < (l.length : Int) + 4 := by omega
                  have i2 : (0 : Int) ≤ (n : Int) := by omega
                  have i3 : (n : Int) < ((l.length + 4 : Nat) : Int) := by omega
                  go_wp2
                  go_quiet (fail)
                  go_wp2
                  go_roundw
                  case rel => exact ⟨n + 1, _, by omega, by go_num, rfl, by show _ = _; rw [HST.out, Bool.true_and], below_drewN hbq _⟩
                  case measure => simp [intOf]; try omega
                | false =>
                  go_wp2
                  go_quiet (fail)
                  go_wp2
                  go_roundw
                  case rel => exact ⟨n + 1, false, by omega, by go_num, rfl, by show _ = _; rw [HST.out, Bool.false_and], below_drewN hbq _⟩
                  case measure => simp [intOf]; try omega
              · obtain rfl : n = l.length := by omega
                clear hlt
                have hbs : b = (x.take l.length == l) := by have := hb2.out; rwa [List.take_length] at this
                have hcut := cut_to (P := Try.prog) 22 5 Try.underlying22 size_u8 (some ⟨g, 0, none⟩) (l.length + 4) c' (l.length : Int) (by omega) (by omega)
                obtain ⟨A', hfrom, hdrop, _⟩ := cut_from (P := Try.prog) 22 5 Try.underlying22 size_u8 (some ⟨g, 0, none⟩) (l.length + 4) c' (l.length : Int) (by omega) (by omega)
                have HBS := Lib.hid hbs
                clear hbs hb2
                have hl1 : (x.take l.length).length = l.length := by rw [List.length_take, HXL.out]; omega
                have HL1 := Lib.hid hl1
                clear hl1
                go_wp2_with fail
                refine (crc_sum _ _ _ (x.take l.length) _ HL1.out (by rw [HL1.out]; unfold maxLen; omega) ((tx.below hbq).take _)).mono ?_
                rintro e wA ⟨rfl, hbA⟩
                go_wp2_with fail
                refine (crc_bytes (Crc.next 0#32 (x.take l.length)) _ rfl _).mono ?_
                rintro e wB ⟨vB, rfl, hoB, hbB⟩
                obtain ⟨AB, capB, rfl, _, hrB⟩ := hoB.bytes
                rw [show (four (Crc.next 0#32 (x.take l.length))).length = 4 from rfl]
                have hbk := bn (bn hbq hbA) hbB
                have hl2 : (x.drop l.length).length = 4 := by rw [List.length_drop, HXL.out]; omega
                have tA : ∀ W, RB W (some ⟨g, 0, none⟩) x → RB W A' (x.drop l.length) := fun W h => by
                  have h2 := hdrop W (x.map eb) (by rw [List.length_map, HXL.out]; omega) h
                  unfold RB
                  rw [List.map_drop]
                  simpa using h2
                have hcv1 : ∀ W, Below wB.heap.size wB W → (convert 22 9 (.slice AB 4 capB)).run Try.prog W = .ok (.string ⟨(four (Crc.next 0#32 (x.take l.length))).toArray⟩) W := fun W h => run_str_try W AB capB 4 (four (Crc.next 0#32 (x.take l.length))) rfl (hrB.below h)
                have hcv2 : ∀ W, Below wB.heap.size wB W → (convert 22 9 (.slice A' 4 (c' - l.length))).run Try.prog W = .ok (.string ⟨(x.drop l.length).toArray⟩) W := fun W h => run_str_try W A' _ 4 _ hl2 (tA W ((tx.below hbk).below h))
                have cv1 := hcv1 wB.drew (bdr (Below.refl _ _))
                have cv2 := hcv2 wB.drew (bdr (Below.refl _ _))
                have c1 : ∀ nq, (convert 22 9 (.slice AB 4 capB)).run Try.prog (wB.drewN nq) = .ok (.string ⟨(four (Crc.next 0#32 (x.take l.length))).toArray⟩) (wB.drewN nq) := fun nq => hcv1 _ (below_drewN (Below.refl _ _) _)
                have c2 : ∀ nq, (convert 22 9 (.slice A' 4 (c' - l.length))).run Try.prog (wB.drewN nq) = .ok (.string ⟨(x.drop l.length).toArray⟩) (wB.drewN nq) := fun nq => hcv2 _ (below_drewN (Below.refl _ _) _)
                go_wp2_with fail
                go_quiet (fail)
                go_wp2_with fail
                have hkC : Below wB.heap.size wB (wB.drewN nq) := below_drewN (Below.refl _ _) _
                generalize wB.drewN nq = wC at *
                have hk := bdr hkC
                have HF2 := HF.out
                rw [← HBS.out] at HF2
                have HFR := Lib.hid HF2
                clear HF2 c1 c2 cv1 cv2 hcv1
                cases b with
                | false =>
                  clear hcv2
                  go_quiet (fail)
                  go_wp2
                  go_ret
                  exact ⟨ret_bool (by have := HFR.out; simpa using this), bn (bn hb hbk) (below_drewN hkC _)⟩
                | true =>
                  have h2 := Lib.hid hcv2
                  clear hcv2
                  go_region_held (fun w2 => Below wB.heap.size wB w2 ∧ (convert 22 9 (.slice A' 4 (c' - l.length))).run Try.prog w2 = .ok (.string ⟨(x.drop l.length).toArray⟩) w2)
                    (exact ⟨hk, h2.out _ hk⟩) (first
                    | (go_at_call 16; (with_reducible refine (crc_sum A l.length cap l _ rfl (by unfold maxLen; omega) (t0.below (bn hbk hk))).mono ?_); rintro e w' ⟨rfl, hb'⟩; replace hk := bn hk hb'; clear hb')
                    | (go_at_call 19; (with_reducible refine (crc_bytes (Crc.next 0#32 l) _ rfl _).mono ?_); rintro e w' ⟨v7, rfl, ho7, hb'⟩; obtain ⟨A7, cap7, rfl, _, hr7⟩ := ho7.bytes; have hcv7 := run_str_try w' A7 cap7 _ _ rfl hr7; replace hk := bn hk hb'; clear hb'))
                  all_goals go_wp2
                  all_goals go_ret
                  all_goals exact ⟨ret_bool (by have := HFR.out; simpa using this), bn (bn hb hbk) hk⟩
end Go.Proofs.Ytlhlgjjgnlobjaa
