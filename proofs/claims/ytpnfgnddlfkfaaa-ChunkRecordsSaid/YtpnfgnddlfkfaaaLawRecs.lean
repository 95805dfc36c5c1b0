/-
  What ChunkRecords calls and gives.
-/
import Derived.Test.YtpnfgnddlfkfaaaChunkRec
import Derived.Test.YtpnfgnddlfkfaaaRef1
import Derived.BigQuiet
set_option linter.unusedSimpArgs false
set_option linter.unusedVariables false
namespace Go.Proofs.Ytpnfgnddlfkfaaa
open Go.RowKit

/-- bytes that were made, apart from the row v that grows -/
structure Res (w : World) (v : Value) (A : Option Addr) (l : List UInt8) : Prop where
  rd : RB w A l
  lt : ∀ ad, A = some ad → ad.block < w.heap.size
  ne : ∀ ad, A = some ad → v.ownBlock ≠ some ad.block
theorem Res.below {w w' : World} {v : Value} {A : Option Addr} {l : List UInt8} (h : Res w v A l) (hb : Below w.heap.size w w') : Res w' v A l := ⟨h.rd.below hb, fun ad e => Nat.lt_of_lt_of_le (h.lt ad e) hb.size, h.ne⟩
theorem Res.new {w w' : World} {B : Nat} {v u : Value} {e : TypeId} {cs : List Value} {l : List UInt8} (hv : Own w B e v cs) (ho : Own w' w.heap.size 5 u (l.map eb)) : ∃ A c, u = .slice A l.length c ∧ Res w' v A l := by
  have hlt := ho.lt
  have hvl := hv.lt
  obtain ⟨A, c, rfl, hc, hr⟩ := ho.bytes
  refine ⟨A, c, rfl, hr, fun ad e => ?_, fun ad e hk => ?_⟩
  · subst e
    have h1 : (Value.slice (some ad) l.length c).ownBlock = some ad.block := rfl
    exact (hlt _ h1).2
  · subst e
    have h1 : (Value.slice (some ad) l.length c).ownBlock = some ad.block := rfl
    have h2 := (hlt _ h1).1
    have h3 := (hvl _ hk).2
    omega
theorem Own.rebase {w : World} {B B' : Nat} {e : TypeId} {v : Value} {cs : List Value} (h : Own w B e v cs) (hB : ∀ k, v.ownBlock = some k → B' ≤ k) : Own w B' e v cs := by
  obtain ⟨h1, h2⟩ := h
  refine ⟨h1, h2.imp id ?_⟩
  rintro ⟨g, cap, cur, rfl, hg, r⟩
  exact ⟨g, cap, cur, rfl, hB g rfl, r⟩
/-- the row takes such bytes in; others stay apart -/
theorem append_res {w : World} {B : Nat} {v : Value} {a : List UInt8} (hv : Own w B 5 v (a.map eb)) {A : Option Addr} {n : Nat} (c : Nat) {l : List UInt8} (h : Res w v A l) (hn : l.length = n) (hne : 0 < l.length) (hl : a.length + l.length ≤ 140737488355328) (hB : B ≤ w.heap.size) :
    ∃ v' w2, Hid ((Builtin.append_ #[23, 23] 23 #[v, .slice A n c]).run Try.prog w = .ok v' w2) ∧ Own w2 B 5 v' ((a ++ l).map eb) ∧ Below B w w2 ∧ Hid (∀ A2 l2, Res w v A2 l2 → Res w2 v' A2 l2) := by
  obtain ⟨ad, rfl⟩ := h.rd.some_of hne
  · obtain ⟨v', w2, HR, ho, hg, hloc⟩ := append_bytes_at w v a (hv.rebase fun _ _ => Nat.zero_le _) ad n c l hn h.rd hl
    have hvl := hv.lt
    have ho' : Own w2 B 5 v' ((a ++ l).map eb) := ho.rebase fun k hk => by
      rcases hloc with e | e
      · exact (hvl k (e ▸ hk)).1
      · rw [e] at hk; cases hk; exact hB
    refine ⟨v', w2, HR, ho', grown_below hg hv hB, fun A2 l2 h2 => ⟨?_, fun ad2 e => Nat.lt_of_lt_of_le (h2.lt ad2 e) hg.size, fun ad2 e hk => ?_⟩⟩
    · exact h2.rd.kp (kp_grown hg) fun ad2 e => h2.ne ad2 e
    · rcases hloc with e1 | e1
      · exact h2.ne ad2 e (e1 ▸ hk)
      · rw [e1] at hk
        have h3 := h2.lt ad2 e
        have h4 : w.heap.size = ad2.block := Option.some.inj hk
        omega
theorem num_pos' (n : Nat) : 0 < (num n).length := by
  unfold num; split <;> simp
/-- an empty row that is laid late is apart from what was made -/
theorem Res.late {w : World} {v : Value} {A : Option Addr} {l : List UInt8} (h : Res w v A l) (o : Obj) : Res (w.alloc o) (.slice (some ⟨w.heap.size, 0, none⟩) 0 0) A l :=
  ⟨h.rd.below (bal (Below.refl _ _) _), fun ad e => by have := h.lt ad e; simp; omega, fun ad e hk => by
    have h1 := h.lt ad e
    have h2 : w.heap.size = ad.block := Option.some.inj hk
    omega⟩
theorem own_late {w : World} {B : Nat} (hB : B ≤ w.heap.size) : Own (w.alloc (.cells #[] 5)) B 5 (.slice (some ⟨w.heap.size, 0, none⟩) 0 0) (([] : List UInt8).map eb) := Own.lit w B 5 [] hB (by simp)

set_option maxRecDepth 100000 in
set_option maxHeartbeats 4000000 in
theorem recs_walk (n : Int) (hn : -9223372036854775808 ≤ n ∧ n ≤ 9223372036854775807) (A0 : Option Addr) (m0 c0 : Nat) (b : List UInt8) (hm0 : b.length = m0) (A1 : Option Addr) (m1 c1 : Nat) (l : List UInt8) (hm1 : l.length = m1) (w : World) (hb0 : m0 ≤ 9223372036854775807) (hb1 : m1 ≤ 9223372036854775807) (hr0 : RB w A0 b) (hr1 : RB w A1 l) :
    Calls Try.prog 4 #[.int .i64 n, .slice A0 m0 c0, .slice A1 m1 c1] w fun e w' => e = .returned (.bool true) ∧ Below w.heap.size w w' := by
  subst hm0 hm1
  obtain ⟨hn0, hn1⟩ := hn
  by_cases c5 : (500 : Int) < (b.length : Int)
  · go_enter Try.func4, Try.ntmps4
    go_wp2_with fail
    (with_reducible refine (law10_awake _).mono ?_)
    rintro e w1 ⟨rfl, hb1⟩
    go_wp2
    go_ret
    exact ⟨rfl, hb1⟩
  by_cases c6 : (500 : Int) < (l.length : Int)
  · go_enter Try.func4, Try.ntmps4
    go_wp2_with fail
    (with_reducible refine (law10_awake _).mono ?_)
    rintro e w1 ⟨rfl, hb1⟩
    go_wp2
    go_ret
    exact ⟨rfl, hb1⟩
  have HR0 := Lib.hid hr0
  have HR1 := Lib.hid hr1
  have hbl : b.length ≤ 500 := by omega
  have hll : l.length ≤ 500 := by omega
  clear hr0 hr1
  have hl1 := num_10 n.toNat (by omega)
  have hp1 := num_pos' n.toNat
  have hl2 := num_10 b.length (by omega)
  have hp2 := num_pos' b.length
  have HREC : Hid (num n.toNat ++ (num b.length ++ b) = recB n.toNat b) := rfl
  have hrl : (recB n.toNat b).length ≤ 520 := by unfold recB; simp only [List.length_append]; omega
  have HN1 := Lib.hid fun W => ref_num n hn0 hn1 W
  have HN2 := Lib.hid fun W => ref_text b (by omega) W
  have hl3 : (num b.length ++ b).length ≤ 510 := by rw [List.length_append]; omega
  have hp3 : 0 < (num b.length ++ b).length := by rw [List.length_append]; omega
  generalize num n.toNat = N1 at *
  generalize num b.length ++ b = N2 at *
  clear hl2 hp2
  go_enter Try.func4, Try.ntmps4
  go_wp2_with fail
  (with_reducible refine (law10_awake _).mono ?_)
  rintro e w1 ⟨rfl, hb1⟩
  go_wp2_with fail
  (with_reducible refine (chunk_record n hn0 hn1 A0 b.length c0 b w1 rfl (by omega) (HR0.out.below hb1)).mono ?_)
  rintro e w2 ⟨v2, rfl, ho2, hb2⟩
  obtain ⟨A2, c2, rfl, _, r2⟩ := ho2.bytes
  have hb02 := bn hb1 hb2
  have R2 := Lib.hid r2
  have B02 := Lib.hid hb02
  clear ho2 hb2 hb1 r2
  go_upto_region 6 with (fail)
  go_cut [8] (fun s8 wx => ∃ v, s8 = v ∧ Own wx w2.heap.size 5 v ((([] ++ N1) ++ N2).map eb) ∧ Below w2.heap.size w2 wx)
  case first =>
    have hk : Below w2.heap.size w2 w2.drew := bdr (Below.refl _ _)
    have hv : Own w2.drew w2.heap.size 5 (.slice none 0 0) (([] : List UInt8).map eb) := Own.nil _ _ _
    have HCV : Hid (∀ W, Below w2.heap.size w2 W → (convert 23 9 (.slice A0 b.length c0)).run Try.prog W = .ok (.string ⟨b.toArray⟩) W) := fun W h => run_str_try W A0 c0 _ b rfl ((HR0.out.below B02.out).below h)
    clear hb02
    go_region_held_law (fun W => Below w2.heap.size w2 W ∧ (convert 23 9 (.slice A0 b.length c0)).run Try.prog W = .ok (.string ⟨b.toArray⟩) W) (first | exact ⟨hk, HCV.out _ hk⟩ | exact ⟨bal hk (.cells #[] 5), HCV.out _ (bal hk (.cells #[] 5))⟩) (first
      | (go_at_call 20; (with_reducible refine (HN1.out _).mono ?_); rintro e w' ⟨vv, rfl, hoo, hbb⟩; (first
        | (obtain ⟨B1, d1, rfl, g1⟩ := Res.new hv hoo; replace hv := hv.below hbb; replace hk := bn hk hbb)
        | (replace hv := own_late (w := w2.drew) hk.size; replace hk := bal hk (.cells #[] 5); obtain ⟨B1, d1, rfl, g1⟩ := Res.new hv hoo; replace hv := hv.below hbb; replace hk := bn hk hbb)); clear hoo hbb)
      | (go_at_call 21; (with_reducible refine (HN2.out _).mono ?_); rintro e w' ⟨vv, rfl, hoo, hbb⟩; (first
        | (obtain ⟨B2, d2, rfl, g2⟩ := Res.new hv hoo; replace hv := hv.below hbb; (try replace g1 := g1.below hbb); replace hk := bn hk hbb)
        | (replace hv := own_late hk.size; (replace g1 := g1.late (.cells #[] 5)); replace hk := bal hk (.cells #[] 5); obtain ⟨B2, d2, rfl, g2⟩ := Res.new hv hoo; replace hv := hv.below hbb; (replace g1 := g1.below hbb); replace hk := bn hk hbb)); clear hoo hbb)
      | (obtain ⟨v5, w5, HR5, ho5, hb5, hmv⟩ := append_res hv d1 g1 rfl hp1 (by first | omega | (simp; omega)) hk.size; refine step_app (by rfl) (by rfl) _ _ 23 23 (by rfl) _ _ _ _ (by rfl) (by rfl) HR5.out ?_; replace hk := hk.trans hb5; (try replace g2 := hmv.out _ _ g2); replace hv := ho5; clear g1 HR5 hb5 ho5 hmv)
      | (replace hv := own_late hk.size; (replace g1 := g1.late (.cells #[] 5)); (try replace g2 := g2.late (.cells #[] 5)); replace hk := bal hk (.cells #[] 5); obtain ⟨v5, w5, HR5, ho5, hb5, hmv⟩ := append_res hv d1 g1 rfl hp1 (by first | omega | (simp; omega)) hk.size; refine step_app (by rfl) (by rfl) _ _ 23 23 (by rfl) _ _ _ _ (by rfl) (by rfl) HR5.out ?_; replace hk := hk.trans hb5; (try replace g2 := hmv.out _ _ g2); replace hv := ho5; clear g1 HR5 hb5 ho5 hmv)
      | (obtain ⟨v5, w5, HR5, ho5, hb5, hmv⟩ := append_res hv d2 g2 rfl hp3 (by first | omega | (simp; omega)) hk.size; refine step_app (by rfl) (by rfl) _ _ 23 23 (by rfl) _ _ _ _ (by rfl) (by rfl) HR5.out ?_; replace hk := hk.trans hb5; replace hv := ho5; clear g2 HR5 hb5 ho5 hmv))
    all_goals (go_wp2_with fail; go_meet; exact ⟨_, rfl, hv, hk⟩)
  case rest =>
    clear HN1 HN2 hl1 hp1 hl3 hp3
    obtain ⟨v, rfl, hv, hk⟩ := hcut
    rw [List.nil_append, HREC.out] at hv
    obtain ⟨A3, c3, rfl, _, r3⟩ := hv.bytes
    have hb03 := bn B02.out hk
    have hpar := fun h => parseR_rec n.toNat h b (by omega)
    have t1 := run_str_try _ A2 c2 _ _ rfl (R2.out.below hk)
    have t2 := run_str_try _ A3 c3 _ _ rfl r3
    generalize recB n.toNat b = RB_ at *
    have hbeq : ((⟨RB_.toArray⟩ : ByteArray).toList == (⟨RB_.toArray⟩ : ByteArray).toList) = true := beq_iff_eq.2 rfl
    generalize (⟨RB_.toArray⟩ : ByteArray) = s1 at *
    go_wp2_with fail
    (with_reducible refine (chunk_parse A2 _ c2 RB_ _ rfl (by omega) (R2.out.below hk)).mono ?_)
    rintro e w4 ⟨A4, c4, rfl, r4, hb4⟩
    have hb04 := bn hb03 hb4
    have HP2 := Lib.hid (chunk_parse A1 _ c1 l w4 rfl (by omega) (HR1.out.below hb04))
    have t3 := fun (h : RB w4 A4 b) => run_str_try w4 A4 c4 _ b rfl h
    have t4 := run_str_try w4 A0 c0 _ b rfl (HR0.out.below hb04)
    obtain ⟨k, y, ok, hpe⟩ : ∃ k y ok, parseR l = (k, y, ok) := ⟨_, _, _, rfl⟩
    rw [hpe] at HP2
    clear hb4 hb03 t1 t2 hbeq hv hk r3
    by_cases hbig : n ≤ 4611686018427387904
    · rw [hpar (by omega)] at r4 ⊢
      simp only [if_true] at r4 ⊢
      replace t3 := t3 r4
      have hbeq : ((⟨b.toArray⟩ : ByteArray).toList == (⟨b.toArray⟩ : ByteArray).toList) = true := beq_iff_eq.2 rfl
      generalize (⟨b.toArray⟩ : ByteArray) = s2 at *
      clear r4 hpar
      by_cases hneg : 0 ≤ n
      · rw [show ((n.toNat : Nat) : Int) = n by omega]
        cases ok with
        | true =>
          obtain ⟨hle, hk62, hyl⟩ := parseR_inv hpe
          have HI := Lib.hid hle
          clear hle hpe
          simp only [if_true] at HP2
          go_wp2_with fail
          (with_reducible refine (HP2.out).mono ?_)
          rintro e w5 ⟨A5, c5', rfl, r5, hb5⟩
          have hb05 := Lib.hid (bn hb04 hb5)
          have hk : Below w5.heap.size w5 w5.drew := bdr (Below.refl _ _)
          have HK5 := Lib.hid r5
          have HC1 : Hid (∀ W, Below w5.heap.size w5 W → (convert 23 9 (.slice A1 l.length c1)).run Try.prog W = .ok (.string ⟨l.toArray⟩) W) := fun W h => run_str_try W A1 c1 _ l rfl ((HR1.out.below hb05.out).below h)
          have HRR : Hid (∀ W, Below w5.heap.size w5 W → Calls Try.prog 19 #[.int .i64 (k : Int), .slice A5 y.length c5'] W fun e w' => ∃ v, e = .returned v ∧ Own w' W.heap.size 5 v (l.map eb) ∧ Below W.heap.size W w') := fun W h => by
            have h9 := chunk_record (k : Int) (by omega) (by omega) A5 y.length c5' y W rfl (by omega) (HK5.out.below h)
            rw [show ((k : Nat) : Int).toNat = k by omega, ← HI.out] at h9
            exact h9
          clear hb04 hb5 r5
          go_wp2
          go_region_held_law (fun W => Below w5.heap.size w5 W ∧ (convert 23 9 (.slice A1 l.length c1)).run Try.prog W = .ok (.string ⟨l.toArray⟩) W) (exact ⟨hk, HC1.out _ hk⟩) (first
            | (go_at_call 19; (with_reducible refine (HRR.out _ hk).mono ?_); rintro e w6 ⟨v6, rfl, ho6, hb6⟩; obtain ⟨A6, c6', rfl, _, r6⟩ := ho6.bytes; have cv6 := run_str_try w6 A6 c6' _ l rfl r6; replace hk := bn hk hb6; clear ho6 hb6 r6))
          all_goals
            go_wp2
            go_ret
            exact ⟨ret_bool (by simp), bn hb05.out hk⟩
        | false =>
          obtain ⟨rfl, rfl⟩ := parseR_bad hpe
          clear hpe
          simp only [Bool.false_eq_true, if_false, List.length_nil] at HP2
          go_wp2_with fail
          (with_reducible refine (HP2.out).mono ?_)
          rintro e w5 ⟨A5, c5', rfl, r5, hb5⟩
          have hb05 := Lib.hid (bn hb04 hb5)
          clear hb04 hb5 r5
          go_wp2
          go_ret
          exact ⟨ret_bool (by simp), hb05.out⟩
      · have hn2 : n ≤ 0 := by omega
        rw [show ((n.toNat : Nat) : Int) = 0 by omega]
        cases ok with
        | true =>
          obtain ⟨hle, hk62, hyl⟩ := parseR_inv hpe
          have HI := Lib.hid hle
          clear hle hpe
          simp only [if_true] at HP2
          go_wp2_with fail
          (with_reducible refine (HP2.out).mono ?_)
          rintro e w5 ⟨A5, c5', rfl, r5, hb5⟩
          have hb05 := Lib.hid (bn hb04 hb5)
          have hk : Below w5.heap.size w5 w5.drew := bdr (Below.refl _ _)
          have HK5 := Lib.hid r5
          have HC1 : Hid (∀ W, Below w5.heap.size w5 W → (convert 23 9 (.slice A1 l.length c1)).run Try.prog W = .ok (.string ⟨l.toArray⟩) W) := fun W h => run_str_try W A1 c1 _ l rfl ((HR1.out.below hb05.out).below h)
          have HRR : Hid (∀ W, Below w5.heap.size w5 W → Calls Try.prog 19 #[.int .i64 (k : Int), .slice A5 y.length c5'] W fun e w' => ∃ v, e = .returned v ∧ Own w' W.heap.size 5 v (l.map eb) ∧ Below W.heap.size W w') := fun W h => by
            have h9 := chunk_record (k : Int) (by omega) (by omega) A5 y.length c5' y W rfl (by omega) (HK5.out.below h)
            rw [show ((k : Nat) : Int).toNat = k by omega, ← HI.out] at h9
            exact h9
          clear hb04 hb5 r5
          go_wp2
          go_region_held_law (fun W => Below w5.heap.size w5 W ∧ (convert 23 9 (.slice A1 l.length c1)).run Try.prog W = .ok (.string ⟨l.toArray⟩) W) (exact ⟨hk, HC1.out _ hk⟩) (first
            | (go_at_call 19; (with_reducible refine (HRR.out _ hk).mono ?_); rintro e w6 ⟨v6, rfl, ho6, hb6⟩; obtain ⟨A6, c6', rfl, _, r6⟩ := ho6.bytes; have cv6 := run_str_try w6 A6 c6' _ l rfl r6; replace hk := bn hk hb6; clear ho6 hb6 r6))
          all_goals
            go_wp2
            go_ret
            exact ⟨ret_bool (by simp), bn hb05.out hk⟩
        | false =>
          obtain ⟨rfl, rfl⟩ := parseR_bad hpe
          clear hpe
          simp only [Bool.false_eq_true, if_false, List.length_nil] at HP2
          go_wp2_with fail
          (with_reducible refine (HP2.out).mono ?_)
          rintro e w5 ⟨A5, c5', rfl, r5, hb5⟩
          have hb05 := Lib.hid (bn hb04 hb5)
          clear hb04 hb5 r5
          go_wp2
          go_ret
          exact ⟨ret_bool (by simp), hb05.out⟩
    · have hbig2 : 4611686018427387904 < n := by omega
      clear r4 t3 t4 hpar
      generalize (if (parseR RB_).2.2 = true then (0 : Int) else 2) = er at *
      generalize (parseR RB_) = pr at *
      cases ok with
      | true =>
        obtain ⟨hle, hk62, hyl⟩ := parseR_inv hpe
        have HI := Lib.hid hle
        clear hle hpe
        simp only [if_true] at HP2
        go_wp2_with fail
        (with_reducible refine (HP2.out).mono ?_)
        rintro e w5 ⟨A5, c5', rfl, r5, hb5⟩
        have hb05 := Lib.hid (bn hb04 hb5)
        have hk : Below w5.heap.size w5 w5.drew := bdr (Below.refl _ _)
        have HK5 := Lib.hid r5
        have HC1 : Hid (∀ W, Below w5.heap.size w5 W → (convert 23 9 (.slice A1 l.length c1)).run Try.prog W = .ok (.string ⟨l.toArray⟩) W) := fun W h => run_str_try W A1 c1 _ l rfl ((HR1.out.below hb05.out).below h)
        have HRR : Hid (∀ W, Below w5.heap.size w5 W → Calls Try.prog 19 #[.int .i64 (k : Int), .slice A5 y.length c5'] W fun e w' => ∃ v, e = .returned v ∧ Own w' W.heap.size 5 v (l.map eb) ∧ Below W.heap.size W w') := fun W h => by
          have h9 := chunk_record (k : Int) (by omega) (by omega) A5 y.length c5' y W rfl (by omega) (HK5.out.below h)
          rw [show ((k : Nat) : Int).toNat = k by omega, ← HI.out] at h9
          exact h9
        clear hb04 hb5 r5
        go_wp2
        go_region_held_law (fun W => Below w5.heap.size w5 W ∧ (convert 23 9 (.slice A1 l.length c1)).run Try.prog W = .ok (.string ⟨l.toArray⟩) W) (exact ⟨hk, HC1.out _ hk⟩) (first
          | (go_at_call 19; (with_reducible refine (HRR.out _ hk).mono ?_); rintro e w6 ⟨v6, rfl, ho6, hb6⟩; obtain ⟨A6, c6', rfl, _, r6⟩ := ho6.bytes; have cv6 := run_str_try w6 A6 c6' _ l rfl r6; replace hk := bn hk hb6; clear ho6 hb6 r6))
        all_goals
          go_wp2
          go_ret
          exact ⟨ret_bool (by simp), bn hb05.out hk⟩
      | false =>
        obtain ⟨rfl, rfl⟩ := parseR_bad hpe
        clear hpe
        simp only [Bool.false_eq_true, if_false, List.length_nil] at HP2
        go_wp2_with fail
        (with_reducible refine (HP2.out).mono ?_)
        rintro e w5 ⟨A5, c5', rfl, r5, hb5⟩
        have hb05 := Lib.hid (bn hb04 hb5)
        clear hb04 hb5 r5
        go_wp2
        go_ret
        exact ⟨ret_bool (by simp), hb05.out⟩
end Go.Proofs.Ytpnfgnddlfkfaaa
