/-
  Pieces as the law and the reference have them: Parts, PartMay, BodyMay.
-/
import Derived.Test.YtpnfgnddlfkfaaaBody
import Derived.Deep.RegionHeldLaw
set_option linter.unusedSimpArgs false
set_option linter.unusedVariables false
namespace Go.Proofs.Ytpnfgnddlfkfaaa
open Go.RowKit

theorem info_bpart : (Try.prog.info? 50).map (fun i => (i.zero, i.size, i.bytes)) = some (some (.agg #[.int .i64 0, .int .i64 0, .int .i64 0, .int .i64 0]), 4, 32) := by kernel_rfl
theorem info_rpart : (Try.prog.info? 85).map (fun i => (i.zero, i.size, i.bytes)) = some (some (.agg #[.int .i64 0, .int .i64 0, .int .i64 0, .int .i64 0]), 4, 32) := by kernel_rfl
/-- a row of the reference's pieces -/
def RRow (w : World) (B : Nat) (v : Value) (l : List Part) : Prop := ORow w B 85 4 pc v l
/-- a piece is appended to a row: its cells lie in a new block -/
theorem grow_b (w : World) (B : Nat) (v : Value) (l : List Part) (p : Part) (ho : PRow w B v l) (hl : l.length < 1000000) (hB : B ≤ w.heap.size) :
    ∃ A' c' w2, Hid ((Builtin.append_ #[44, 44] 44 #[v, .slice (some ⟨w.heap.size, 0, none⟩) 1 1]).run Try.prog (w.alloc (.cells #[.int .i64 p.off, .int .i64 p.len, .int .i64 p.chunk, .int .i64 p.at_] 50)) = .ok (.slice A' (l.length + 1) c') w2) ∧
      PRow w2 B (.slice A' (l.length + 1) c') (l ++ [p]) ∧ Below B w w2 ∧ Kp (fun k => v.ownBlock = some k) w w2 := by
  obtain ⟨v', w2, h1, h2, h3, h4⟩ := append_struct (P := Try.prog) (f := pc) (n := 4) 44 50 _ 32 Try.underlying44 info_bpart rfl (by omega) pc_len pc_one w B v l p ho hl (by omega) (by omega) hB #[.int .i64 p.off, .int .i64 p.len, .int .i64 p.chunk, .int .i64 p.at_] rfl
  obtain ⟨A', c', rfl, _⟩ := h2.read
  have hll : (l ++ [p]).length = l.length + 1 := by simp
  rw [hll] at h1 h2
  exact ⟨A', c', w2, h1, h2, h3, h4⟩
theorem grow_r (w : World) (B : Nat) (v : Value) (l : List Part) (p : Part) (ho : RRow w B v l) (hl : l.length < 1000000) (hB : B ≤ w.heap.size) :
    ∃ A' c' w2, Hid ((Builtin.append_ #[59, 59] 59 #[v, .slice (some ⟨w.heap.size, 0, none⟩) 1 1]).run Try.prog (w.alloc (.cells #[.int .i64 p.off, .int .i64 p.len, .int .i64 p.chunk, .int .i64 p.at_] 85)) = .ok (.slice A' (l.length + 1) c') w2) ∧
      RRow w2 B (.slice A' (l.length + 1) c') (l ++ [p]) ∧ Below B w w2 ∧ Kp (fun k => v.ownBlock = some k) w w2 := by
  obtain ⟨v', w2, h1, h2, h3, h4⟩ := append_struct (P := Try.prog) (f := pc) (n := 4) 59 85 _ 32 Try.underlying59 info_rpart rfl (by omega) pc_len pc_one w B v l p ho hl (by omega) (by omega) hB #[.int .i64 p.off, .int .i64 p.len, .int .i64 p.chunk, .int .i64 p.at_] rfl
  obtain ⟨A', c', rfl, _⟩ := h2.read
  have hll : (l ++ [p]).length = l.length + 1 := by simp
  rw [hll] at h1 h2
  exact ⟨A', c', w2, h1, h2, h3, h4⟩

set_option maxRecDepth 100000 in
set_option maxHeartbeats 1000000 in
theorem law12_parts (A : Option Addr) (n c : Nat) (ps : List Part) (w : World) (hn : ps.length = n) (hl : n ≤ 1000) (hr : Rd w A (pcs ps)) :
    Calls Try.prog 29 #[.slice A n c] w fun e w' => ∃ A' c', e = .returned (.slice A' n c') ∧ PRow w' w.heap.size (.slice A' n c') ps ∧ Below w.heap.size w w' := by
  subst hn
  have HR := Lib.hid hr
  clear hr
  go_enter Try.func29, Try.ntmps29
  go_wp2
  go_loopw [3, 4] (fun v i wr => ∃ k : Nat, k ≤ ps.length ∧ i = .int .i64 (k : Int) ∧ PRow wr w.heap.size v (ps.take k) ∧ Below w.heap.size w wr) (fun _ i _ => ps.length - (intOf i).toNat)
  case atStart => exact ⟨0, Nat.zero_le _, rfl, ORow.nil _ _ _, Below.refl _ _⟩
  case round =>
    obtain ⟨k, hk, rfl, hp, hb⟩ := hrel
    by_cases hlt : k < ps.length
    · have hs1 : ps.take (k + 1) = ps.take k ++ [ps[k]] := List.take_succ_eq_append_getElem hlt
      obtain ⟨b, o6, rfl, hblt, hcell⟩ := part_at HR.out k hlt
      have i0 : (0 : Int) ≤ (k : Int) := by omega
      have i1 : (k : Int) < (ps.length : Int) := by omega
      have hkl : (ps.take k).length = k := by rw [List.length_take]; omega
      generalize ps[k] = q at *
      have HS1 := Lib.hid hs1
      clear hs1
      have hkd := bdr (Below.refl wr.heap.size wr)
      obtain ⟨A5, c5, rfl, _⟩ := ORow.read hp
      have hp0 := ORow.below hp hkd
      have hzb := hb.size
      obtain ⟨A9, c9, w2, hrun, hp2, hb2, _⟩ := grow_b wr.drew w.heap.size _ _ q hp0 (by omega) (by simpa using hzb)
      rw [← HS1.out] at hp2
      rw [hkl] at hrun hp2
      have hka := bal hkd (.cells #[.int .i64 q.off, .int .i64 q.len, .int .i64 q.chunk, .int .i64 q.at_] 50)
      have hk0 : Below w.heap.size w wr.drew := bdr hb
      have hk1 : Below w.heap.size w (wr.drew.alloc (.cells #[.int .i64 q.off, .int .i64 q.len, .int .i64 q.chunk, .int .i64 q.at_] 50)) := bal hk0 _
      have hk2 : Below w.heap.size w w2 := hk0.trans hb2
      have HCL := Lib.hid hcell
      clear hcell hkl hkd hka hp hp0 hzb
      go_wp2
      go_region_held_law (fun W => W.cell? ⟨b, o6 + k * 4, none⟩ = some (.int .i64 q.off) ∧ W.cell? ⟨b, o6 + k * 4 + 1, none⟩ = some (.int .i64 q.len) ∧ W.cell? ⟨b, o6 + k * 4 + 2, none⟩ = some (.int .i64 q.chunk) ∧ W.cell? ⟨b, o6 + k * 4 + 3, none⟩ = some (.int .i64 q.at_)) (first | exact HCL.out _ hk0 | exact HCL.out _ hk1 | exact HCL.out _ hk2) (refine step_app (by rfl) (by rfl) _ _ 44 44 (by rfl) _ _ _ _ (by rfl) (by rfl) hrun.out ?_)
      go_wp2
      go_roundw
      case rel => exact ⟨k + 1, by omega, by go_num, hp2, hk2⟩
      case measure => simp [intOf]; try omega
    · obtain rfl : k = ps.length := by omega
      rw [List.take_length] at hp
      obtain ⟨A9, c9, rfl, _⟩ := ORow.read hp
      go_wp2
      go_ret
      exact ⟨_, _, rfl, hp, hb⟩

set_option maxRecDepth 100000 in
set_option maxHeartbeats 600000 in
theorem ref_part_may (p : Part) (w : World) :
    Calls Try.prog 58 #[pv p] w fun e w' => e = .returned (.bool (fits p)) ∧ Below w.heap.size w w' := by
  obtain ⟨o, l, c, a⟩ := p
  unfold pv fits
  simp only
  go_enter Try.func58, Try.ntmps58
  go_wp2
  all_goals go_ret
  all_goals refine ⟨ret_bool ?_, bal (Below.refl _ _) _⟩
  all_goals (rw [Bool.eq_iff_iff]; simp only [decide_eq_true_eq, Bool.and_eq_true, Bool.false_eq_true, false_iff]; omega)

set_option maxRecDepth 100000 in
set_option maxHeartbeats 2000000 in
theorem ref_body_may (size : Int) (A : Option Addr) (n c : Nat) (ps : List Part) (w : World) (hn : ps.length = n) (hl : n ≤ 9223372036854775807) (hr : Rd w A (pcs ps)) :
    Calls Try.prog 27 #[bv size A n c] w fun e w' => e = .returned (.bool (bodyMay size ps)) ∧ Below w.heap.size w w' := by
  subst hn
  unfold bv
  have HR := Lib.hid hr
  clear hr
  by_cases hs : size < 0
  · have he : bodyMay size ps = false := by unfold bodyMay; rw [decide_eq_false (by omega)]; rfl
    rw [he]
    go_enter Try.func27, Try.ntmps27
    go_wp2
    go_ret
    exact ⟨rfl, bal (Below.refl _ _) _⟩
  by_cases hs2 : 1099511627776 < size
  · have he : bodyMay size ps = false := by unfold bodyMay; rw [decide_eq_false (by omega)]; rfl
    rw [he]
    have hs3 : 0 ≤ size := by omega
    go_enter Try.func27, Try.ntmps27
    go_wp2
    go_ret
    exact ⟨rfl, bal (Below.refl _ _) _⟩
  have hs3 : 0 ≤ size := by omega
  have hs4 : size ≤ 1099511627776 := by omega
  have HE : Hid (bodyMay size ps = partsOk size 0 ps) := Lib.hid (by unfold bodyMay; rw [decide_eq_true ⟨hs3, hs4⟩]; rfl)
  have hB1 := Blk.new w 61 #[.int .i64 size, .slice A ps.length c]
  have hb1 := bal (Below.refl w.heap.size w) (.cells #[.int .i64 size, .slice A ps.length c] 61)
  go_enter Try.func27, Try.ntmps27
  go_wp2
  generalize (w.alloc (.cells #[.int .i64 size, .slice A ps.length c] 61)) = W1 at *
  have HC0 : Hid (∀ W, Below W1.heap.size W1 W → W.cell? ⟨w.heap.size, 0, none⟩ = some (.int .i64 size) ∧ W.cell? ⟨w.heap.size, 1, none⟩ = some (.slice A ps.length c)) := fun W h => ⟨(hB1.below h).cell 0, (hB1.below h).cell 1⟩
  clear hB1
  have HB1 := Lib.hid hb1
  clear hb1 hs hs2
  go_loopw [3, 4] (fun a i wr => ∃ (k : Nat) (x : Int), k ≤ ps.length ∧ i = .int .i64 (k : Int) ∧ a = .int .i64 x ∧ 0 ≤ x ∧ x ≤ 1099511627776 ∧ Hid (partsOk size 0 ps = partsOk size x (ps.drop k)) ∧ Below W1.heap.size W1 wr) (fun _ i _ => ps.length - (intOf i).toNat)
  case atStart => exact ⟨0, 0, Nat.zero_le _, rfl, rfl, by omega, by omega, rfl, Below.refl _ _⟩
  case round =>
    obtain ⟨k, x, hk, rfl, rfl, hx0, hx1, hP, hb⟩ := hrel
    obtain ⟨z0, z1⟩ := HC0.out _ hb
    by_cases hlt : k < ps.length
    · obtain ⟨b, o, rfl, hblt, hcell⟩ := part_at HR.out k hlt
      obtain ⟨q0, q1, q2, q3⟩ := hcell wr (bn HB1.out hb)
      have hdr : ps.drop k = ps[k] :: ps.drop (k + 1) := List.drop_eq_getElem_cons hlt
      have hP2 := hP.out
      rw [hdr, partsOk_cons] at hP2
      have HP2 := Lib.hid hP2
      clear hP2 hdr hP hcell
      generalize ps[k] = p at *
      obtain ⟨po, pl, pch, pat⟩ := p
      simp only at q0 q1 q2 q3 HP2
      have i0 : (0 : Int) ≤ (k : Int) := by omega
      have i1 : (k : Int) < (ps.length : Int) := by omega
      have hW2 := bal hb (.cells #[.int .i64 po, .int .i64 pl, .int .i64 pch, .int .i64 pat] 85)
      have hBp := Blk.new wr 85 #[.int .i64 po, .int .i64 pl, .int .i64 pch, .int .i64 pat]
      have HF := fun W => ref_part_may ⟨po, pl, pch, pat⟩ W
      rw [pv_mk] at HF
      replace HF := Lib.hid HF
      cases hf : fits ⟨po, pl, pch, pat⟩ with
      | false =>
        have HFF := Lib.hid hf
        clear hf
        go_wp2_with fail
        (with_reducible refine (HF.out _).mono ?_)
        rintro e w5 ⟨rfl, hb5⟩
        rw [HFF.out]
        go_wp2
        go_ret
        exact ⟨by rw [HE.out, HP2.out, HFF.out]; rfl, bn HB1.out (bn hW2 hb5)⟩
      | true =>
        have hf2 := (fits_iff _).1 hf
        simp only at hf2
        obtain ⟨f1, f2, f3, f4, f5, f6⟩ := hf2
        have HFF := Lib.hid hf
        rw [HFF.out] at HP2
        clear hf
        go_wp2_with fail
        (with_reducible refine (HF.out _).mono ?_)
        rintro e w5 ⟨rfl, hb5⟩
        rw [HFF.out]
        have hBp5 := hBp.below hb5
        have hb6 := bn hW2 hb5
        have y0 : w5.cell? ⟨wr.heap.size, 0, none⟩ = some (.int .i64 po) := hBp5.cell 0
        have y1 : w5.cell? ⟨wr.heap.size, 1, none⟩ = some (.int .i64 pl) := hBp5.cell 1
        obtain ⟨y4, y5⟩ := HC0.out _ hb6
        clear z0 z1 q0 q1 q2 q3 hBp hBp5 HF
        by_cases c1 : po < x
        · have HZ : Hid (partsOk size 0 ps = false) := Lib.hid (by rw [HP2.out, decide_eq_false (by omega : ¬ x ≤ po)]; rfl)
          clear HP2
          go_wp2
          go_ret
          exact ⟨by rw [HE.out, HZ.out]; rfl, bn HB1.out hb6⟩
        · have c1' : x ≤ po := by omega
          by_cases c2 : size - pl < po
          · have HZ : Hid (partsOk size 0 ps = false) := Lib.hid (by rw [HP2.out, decide_eq_false (by omega : ¬ po ≤ size - pl)]; simp)
            clear HP2
            go_wp2
            go_ret
            exact ⟨by rw [HE.out, HZ.out]; rfl, bn HB1.out hb6⟩
          · have c2' : po ≤ size - pl := by omega
            have HZ : Hid (partsOk size 0 ps = partsOk size (po + pl) (ps.drop (k + 1))) := Lib.hid (by rw [HP2.out, decide_eq_true c1', decide_eq_true c2']; rfl)
            clear HP2
            go_wp2
            go_roundw
            case rel => exact ⟨k + 1, po + pl, by omega, by go_num, rfl, by omega, by omega, HZ, hb6⟩
            case measure => simp [intOf]; try omega
    · obtain rfl : k = ps.length := by omega
      have HZ : Hid (partsOk size 0 ps = true) := Lib.hid (by rw [hP.out, List.drop_length]; rfl)
      go_wp2
      go_ret
      exact ⟨by rw [HE.out, HZ.out]; rfl, bn HB1.out hb⟩
end Go.Proofs.Ytpnfgnddlfkfaaa
