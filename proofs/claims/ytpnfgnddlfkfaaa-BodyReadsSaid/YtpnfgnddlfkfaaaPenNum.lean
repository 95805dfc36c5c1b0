/-
  Pen.Num, Pen.Text, Pen.Float, Pen.Bytes.
-/
import Derived.Test.YtpnfgnddlfkfaaaPenMath
import Derived.Lib.AppendStr
set_option linter.unusedSimpArgs false
set_option linter.unusedVariables false
namespace Go.Proofs.Ytpnfgnddlfkfaaa
open Go.RowKit
set_option maxRecDepth 100000 in
set_option maxHeartbeats 2000000 in
theorem pen_num (g B : Nat) (l : List UInt8) (n : Int) (h0 : -9223372036854775808 ≤ n) (h1 : n ≤ 9223372036854775807) (w : World) (hp : PenAt w g B l) (hB : B ≤ w.heap.size) (hl : l.length < 140737488355000) :
    Calls Try.prog 43 #[.pointer (some ⟨g, 0, none⟩), .int .i64 n] w fun e w' => e = .returned (.tuple #[]) ∧ PenAt w' g B (l ++ num n.toNat) ∧ Kept g B w w' := by
  obtain ⟨m, hm, hm1, hmn⟩ : ∃ m : Nat, (if n < 0 then 0 else n) = (m : Int) ∧ m ≤ 9223372036854775807 ∧ n.toNat = m := ⟨n.toNat, by split <;> omega, by omega, rfl⟩
  rw [hmn]
  clear hmn
  go_enter Try.func43, Try.ntmps43
  go_wp2
  clear hm h0 h1
  go_loopw [1] (fun z wr => ∃ (q : Nat) (pre : List UInt8), q ≤ m ∧ z = .int .i64 q ∧ PenAt wr g B (l ++ pre) ∧ Hid (pre ++ num q = num m) ∧ Kept g B w wr) (fun z _ => (intOf z).toNat)
  case atStart => exact ⟨m, [], Nat.le_refl _, rfl, by rw [List.append_nil]; exact hp, rfl, Kept.refl _ _ _⟩
  case round =>
    obtain ⟨q, pre, hq, rfl, hpq, hpre, hk⟩ := hrel
    have hlen : pre.length + (num q).length ≤ 10 := by rw [← List.length_append, hpre.out]; exact num_10 m hm1
    have hBr : B ≤ wr.heap.size := Nat.le_trans hB hk.size
    clear hp
    by_cases h128 : (128 : Int) ≤ (q : Int)
    · have hor := or_128 q (by omega)
      have hlq : (l ++ pre).length < 140737488355328 := by rw [List.length_append]; omega
      have hng := num_great q (by omega)
      generalize UInt8.ofNat (q % 128 + 128) = y at *
      have HNG := Lib.hid hng
      have HOR := Lib.hid hor
      clear hng hor
      go_wp2_with fail
      refine (pen_byte g B _ y _ HOR.out wr hpq hBr hlq).mono ?_
      rintro e w' ⟨rfl, hp', hk'⟩
      rw [List.append_assoc] at hp'
      go_wp2
      go_roundw
      case measure => 
        have e1 : ((q : Int) / 128).toNat = q / 128 := by omega
        show (q : Int).toNat > ((q : Int) / 128).toNat
        rw [e1]
        omega
      case rel => 
        have hfin : (pre ++ [y]) ++ num (q / 128) = num m := by
          have h1 := hpre.out
          rw [HNG.out] at h1
          rw [← h1, List.append_assoc]
          simp
        have hle : q / 128 ≤ m := by omega
        have hnum : (Value.int .i64 ((q : Int) / 128)) = .int .i64 ((q / 128 : Nat) : Int) := by simp
        exact ⟨q / 128, pre ++ [y], hle, hnum, hp', hfin, hk.trans hk'⟩
    · have hsm := num_small q (by omega)
      have hby : (q : Int) = ((UInt8.ofNat q).toNat : Int) := by rw [UInt8.toNat_ofNat']; omega
      have hlq : (l ++ pre).length < 140737488355328 := by rw [List.length_append]; omega
      generalize UInt8.ofNat q = y at *
      have HSM := Lib.hid hsm
      have HBY := Lib.hid hby
      clear hsm hby hlen
      go_wp2_with fail
      refine (pen_byte g B _ y _ HBY.out wr hpq hBr hlq).mono ?_
      rintro e w' ⟨rfl, hp', hk'⟩
      have hfin : l ++ pre ++ [y] = l ++ num m := by
        have h1 := hpre.out
        rw [HSM.out] at h1
        rw [← h1, List.append_assoc]
      rw [hfin] at hp'
      clear hfin
      go_wp2
      go_end0
      exact ⟨rfl, hp', hk.trans hk'⟩

set_option maxRecDepth 100000 in
set_option maxHeartbeats 400000 in
theorem slices_clone (A : Option Addr) (m cap : Nat) (l : List UInt8) (w : World) (hm : l.length = m) (hl : l.length ≤ 140737488355328) (hr : RB w A l) :
    Calls Try.prog 68 #[.slice A m cap] w fun e w' => ∃ v, e = .returned v ∧ Own w' w.heap.size 5 v (l.map eb) ∧ Below w.heap.size w w' := by
  cases A with
  | none =>
    have e0 : l = [] := by
      cases l with
      | nil => rfl
      | cons x l => obtain ⟨ad, e, _⟩ := hr 0 _ rfl; cases e
    subst e0
    clear hm hr hl
    have heq := fun W : World => run_eql_slice_nil (P := Try.prog) W 23 5 none m cap Try.underlying23
    go_enter Try.func68, Try.ntmps68
    go_wp2
    go_ret
    exact ⟨_, rfl, Own.nil _ _ _, Below.refl _ _⟩
  | some ad =>
    obtain ⟨v', w2, HR, hown, hb2⟩ := append_fresh w (some ad) m cap l hm hr hl
    clear hm
    have heq := fun W : World => run_eql_slice_nil (P := Try.prog) W 23 5 (some ad) m cap Try.underlying23
    go_enter Try.func68, Try.ntmps68
    go_wp2_with (at_builtin; refine wpList_append_run rfl _ _ 23 23 rfl _ _ _ _ rfl rfl HR.out ?_)
    go_ret
    exact ⟨_, rfl, hown, hb2⟩

set_option maxRecDepth 100000 in
set_option maxHeartbeats 2000000 in
theorem pen_bytes (g B : Nat) (l : List UInt8) (w : World) (hp : PenAt w g B l) (hl : l.length ≤ 140737488355328) :
    Calls Try.prog 45 #[.pointer (some ⟨g, 0, none⟩)] w fun e w' => ∃ v, e = .returned v ∧ Own w' w.heap.size 5 v (l.map eb) ∧ Below w.heap.size w w' := by
  obtain ⟨v, hb, ho⟩ := hp
  obtain ⟨A, c, rfl, _, hr⟩ := ho.bytes
  have hc : w.cell? ⟨g, 0, none⟩ = some (.slice A l.length c) := hb.cell 0
  go_enter Try.func45, Try.ntmps45
  go_wp2_with fail
  refine (slices_clone A l.length c l w rfl hl hr).mono ?_
  rintro e w' ⟨v', rfl, ho', hb'⟩
  go_wp2
  go_ret
  exact ⟨_, rfl, ho', hb'⟩

/-- 'append(x, s...)' of a text's bytes, x the call's own: as of a slice of these bytes -/
theorem append_text (w : World) (B : Nat) (v : Value) (a : List UInt8) (hown : Own w B 5 v (a.map eb)) (s : List UInt8) (hl : a.length + s.length ≤ 140737488355328) (hB : B ≤ w.heap.size) :
    ∃ v' w2, Hid ((Builtin.append_ #[23, 9] 23 #[v, .string ⟨s.toArray⟩]).run Try.prog w = .ok v' w2) ∧ Own w2 B 5 v' ((a ++ s).map eb) ∧ Below B w w2 ∧ w.grownBy w2 v.ownBlock := by
  obtain ⟨i, hii, hz, hsize, hby⟩ := info_parts info_u8
  have hsz : (⟨s.toArray⟩ : ByteArray).size = s.length := by simp [ByteArray.size]
  obtain ⟨v', w', h2, h3, h4, _⟩ := Lib.run_append_own_string (P := Try.prog) w B 23 9 23 5 i Try.underlying23 Try.underlying9 hii hz hsize hby v a.length (a.map eb) (by unfold Own at hown; rwa [List.length_map] at hown) ⟨s.toArray⟩ (by rw [hsz]; unfold maxLen; omega) (by rw [hsz]; omega) hB
  have hcells : Lib.strCells ⟨s.toArray⟩ = s.map eb := by
    unfold Lib.strCells eb
    simp
  rw [hcells, hsz, ← List.map_append] at h3
  refine ⟨v', w', h2, ?_, (Below.refl B w).grown h4 hB (fun k hk => (hown.lt k hk).1), h4⟩
  unfold Own
  rw [List.length_map, List.length_append]
  exact h3
set_option maxRecDepth 100000 in
set_option maxHeartbeats 2000000 in
theorem pen_text (g B : Nat) (l s : List UInt8) (w : World) (hp : PenAt w g B l) (hB : B ≤ w.heap.size) (hl : l.length + s.length < 140737488355000) :
    Calls Try.prog 44 #[.pointer (some ⟨g, 0, none⟩), .string ⟨s.toArray⟩] w fun e w' => e = .returned (.tuple #[]) ∧ PenAt w' g B (l ++ num s.length ++ s) ∧ Kept g B w w' := by
  have hnum := num_10 s.length (by omega)
  go_enter Try.func44, Try.ntmps44
  go_wp2_with fail
  refine (pen_num g B l (s.length : Int) (by omega) (by omega) w hp hB (by omega)).mono ?_
  rintro e w1 ⟨rfl, hp1, hk1⟩
  rw [show ((s.length : Int)).toNat = s.length by omega] at hp1
  obtain ⟨v, hb, ho⟩ := hp1
  have hc : w1.cell? ⟨g, 0, none⟩ = some v := hb.cell 0
  obtain ⟨v2, w2, HR, ho2, hb2, hg2⟩ := append_text w1 B v _ ho s (by rw [List.length_append]; omega) (Nat.le_trans hB hk1.size)
  have hbl : Blk w2 g 98 #[v] := (hg2.block g hb.lt (hb.not_row ho (by decide))).trans hb
  have hfz := hbl.frozen 0
  have hc2 : w2.cell? ⟨g, 0, none⟩ = some v := hbl.cell 0
  have hne := hbl.not_row ho2 (by decide)
  have HNE := Lib.hid hne
  clear hne
  obtain ⟨A2, c2, rfl, _, _⟩ := ho2.bytes
  have hll : (l ++ num s.length ++ s).length = l.length + (num s.length).length + s.length := by simp [Nat.add_assoc]
  rw [hll] at HR ho2 HNE
  clear hll
  go_wp2_with (at_builtin; refine wpList_append_run rfl _ _ 23 9 rfl _ _ _ _ rfl rfl HR.out ?_)
  go_end0
  exact ⟨rfl, ⟨_, hbl.set 0 _, ho2.other HNE.out _⟩, hk1.trans ((Kept.of hb2).setCell 0 _)⟩
end Go.Proofs.Ytpnfgnddlfkfaaa
