/-
  treeringref4.Bytes.
-/
import Derived.Test.YtbhhjphgbdaanaaRes
import Derived.Test.YtbhhjphgbdaanaaRefMay
import Derived.Test.YtbhhjphgbdaanaaSupP
import Derived.ArgAppend
set_option linter.unusedSimpArgs false
set_option linter.unusedVariables false
namespace Go.Proofs.Ytbhhjphgbdaanaa
open Go.RowKit Go.Maps
attribute [-go_sem] Builtin.append_

/-- 'append(v, l...)' of bytes -/
theorem app_b {w : World} {B : Nat} {v : Value} {a : List UInt8} (hown : Own w B 5 v (a.map eb)) {A : Option Addr} {n : Nat} (cap : Nat) {l : List UInt8} (hn : l.length = n) (hr : RB w A l) (hl : a.length + l.length ≤ 1000000) (hB : B ≤ w.heap.size) {a' : List UInt8} (ha : a' = a ++ l) :
    ∃ A' c' w2, (Builtin.append_ #[35, 35] 35 #[v, .slice A n cap]).run Try.prog w = .ok (.slice A' a'.length c') w2 ∧ Own w2 B 5 (.slice A' a'.length c') (a'.map eb) ∧ Below B w w2 := by
  subst ha
  obtain ⟨v', w2, hrun, ho, hb, -⟩ := append_bytes w B v a hown A n cap l hn hr (by omega) hB
  obtain ⟨A', c', rfl, -, -⟩ := ho.bytes
  exact ⟨A', c', w2, hrun.out, ho, hb⟩
/-- 'append(v, l...)' where v is a row of bytes that has no room -/
theorem app_lit (w : World) (b : Addr) (n cap : Nat) (a : List UInt8) (hn : a.length = n) (hr0 : RB w (some b) a) (A : Option Addr) (m c : Nat) (l : List UInt8) (hm : l.length = m) (h0 : 0 < l.length) (hr : RB w A l) (hcap : cap < n + m) (hl : a.length + l.length ≤ 1000000) {a' : List UInt8} (ha : a' = a ++ l) :
    ∃ A' c' w2, (Builtin.append_ #[35, 35] 35 #[.slice (some b) n cap, .slice A m c]).run Try.prog w = .ok (.slice A' a'.length c') w2 ∧ Own w2 w.heap.size 5 (.slice A' a'.length c') (a'.map eb) ∧ Below w.heap.size w w2 := by
  subst ha
  obtain ⟨ad, rfl⟩ := hr.some_of h0
  obtain ⟨i, hii, hz, hsize, hby⟩ := info_parts info_u8
  obtain ⟨v', w', h2, h3, h4⟩ := run_append_arg_grows (P := Try.prog) w 35 35 5 i (.int .u8 0) 1 1 Try.underlying35 hii hz hsize hby rfl (by omega) b n cap (a.map eb) (by simpa using hn)
    (fun j u hj => by obtain ⟨ad', e, hc⟩ := hr0 j u hj; cases e; exact hc) ad m c (l.map eb) (by simpa using hm) (fun j u hj => by obtain ⟨ad', e, hc⟩ := hr j u hj; cases e; exact hc) hcap (by unfold maxLen; omega) (by omega)
  have ho : Own w' w.heap.size 5 v' ((a ++ l).map eb) := by
    unfold Own
    rw [List.map_append, List.length_append, List.length_map, List.length_map, hn, hm]
    exact h3
  obtain ⟨A', c', rfl, -, -⟩ := ho.bytes
  exact ⟨A', c', w', h2, ho, ⟨h4.os, h4.tape, h4.output, h4.size, fun k hk => h4.block k hk (by simp)⟩⟩
/-- what is written ahead of log k -/
def preK (s : Sup) (k : Nat) : List UInt8 := [84, 82] ++ num s.number.toNat ++ num s.boot.toNat ++ (if 1 ≤ k then logB s.jour else []) ++ (if 2 ≤ k then logB s.chunks else [])
theorem preK_end (s : Sup) : preK s 2 = penB s := rfl
theorem preK_len (s : Sup) (F : MayF s) (k : Nat) : (preK s k).length ≤ 220 := by
  have h := F.len
  rw [← preK_end] at h
  unfold preK at h ⊢
  simp only [List.length_append] at h ⊢
  have e1 : (if 1 ≤ k then logB s.jour else []).length ≤ (if 1 ≤ 2 then logB s.jour else []).length := by split <;> simp
  have e2 : (if 2 ≤ k then logB s.chunks else []).length ≤ (if 2 ≤ 2 then logB s.chunks else []).length := by split <;> simp
  omega
/-- a byte laid down, apart from a row that was there -/
theorem res_one {w : World} {B : Nat} {v : Value} {cs : List Value} (h : Own w B 5 v cs) (x : UInt8) (n : Int) (hn : n = (x.toNat : Int)) : Res (w.alloc (.cells #[.int .u8 n] 5)) v (some ⟨w.heap.size, 0, none⟩) [x] := by
  subst hn
  refine ⟨RB.lit w 5 (0, 0) [x] _ rfl, fun ad e => ?_, fun ad e hk => ?_⟩
  · cases e; rw [size_more']; exact Nat.lt_succ_self _
  · cases e
    have := (h.lt _ hk).2
    exact Nat.lt_irrefl _ this
theorem sb_in {x : Int} (h : 0 ≤ x ∧ x < 96) : x = ((sb x).toNat : Int) := by rw [sb_nat]; omega
theorem ref_pair {W : World} {L : Nat} {e : TypeId} {s0 : Sup} {nu bo n1 n2 : Int} {l1 l2 : List Int} {s1 s2 : Crc.W} {A A2 : Option Addr} {c c2 : Nat} (hs : s0 = ⟨nu, bo, ⟨l1, n1, s1⟩, ⟨l2, n2, s2⟩⟩) (F : MayF ⟨nu, bo, ⟨l1, n1, s1⟩, ⟨l2, n2, s2⟩⟩)
    (h1 : Rd W A (l1.map ei)) (h2 : Rd W A2 (l2.map ei)) :
    ∀ k : Nat, k < 2 → ∃ (l : SLog) (A' : Option Addr) (c' : Nat), (∀ V v pre, BSt W L e #[.slice A l1.length c, .int .i64 n1, .int .u32 (s1.toNat : Int), .slice A2 l2.length c2, .int .i64 n2, .int .u32 (s2.toNat : Int)] V v pre → V.cell? ⟨L, k * 3, none⟩ = some (.slice A' l.segs.length c') ∧ V.cell? ⟨L, k * 3 + 1, none⟩ = some (.int .i64 l.len) ∧ V.cell? ⟨L, k * 3 + 2, none⟩ = some (.int .u32 (l.last.toNat : Int)) ∧ Rd V A' (l.segs.map ei))
      ∧ preK s0 (k + 1) = preK s0 k ++ logB l ∧ (∀ x ∈ l.segs, 0 ≤ x ∧ x < 96) ∧ (0 ≤ l.len ∧ l.len ≤ 768) ∧ l.segs.length ≤ 96 := by
  intro k hk
  subst hs
  have hn := F.n
  have hj := F.jl
  have hc := F.cl
  simp only at hn hj hc
  obtain rfl | rfl : k = 0 ∨ k = 1 := by omega
  · refine ⟨⟨l1, n1, s1⟩, A, c, fun V v pre h => ⟨h.blk.cell 0, h.blk.cell 1, h.blk.cell 2, h1.below h.bel⟩, ?_, F.j, ⟨hj.1, ?_⟩, ?_⟩
    · unfold preK; simp
    · simp only; omega
    · simp only; omega
  · refine ⟨⟨l2, n2, s2⟩, A2, c2, fun V v pre h => ⟨h.blk.cell 3, h.blk.cell 4, h.blk.cell 5, h2.below h.bel⟩, ?_, F.c, ⟨hc.1, ?_⟩, ?_⟩
    · unfold preK; simp
    · simp only; omega
    · simp only; omega
set_option maxRecDepth 100000 in
set_option maxHeartbeats 4000000 in
theorem ref_bytes (s : Sup) (A : Option Addr) (c : Nat) (A2 : Option Addr) (c2 : Nat) (w : World) (h1 : Rd w A (s.jour.segs.map ei)) (h2 : Rd w A2 (s.chunks.segs.map ei)) (hm : supMay s 96 = true) :
    Calls Try.prog 21 #[supV s A c A2 c2] w fun e w' => ∃ v, e = .returned v ∧ Own w' w.heap.size 5 v ((bytesB s).map eb) ∧ Below w.heap.size w w' := by
  have F := mayF s hm
  have hpl := fun k => preK_len s F k
  have hp0 : preK s 0 = [84, 82] ++ num s.number.toNat ++ num s.boot.toNat := by unfold preK; simp
  obtain ⟨s0, hs0⟩ : ∃ s0 : Sup, s0 = s := ⟨_, rfl⟩
  have hby : bytesB s = bytesB s0 := by rw [hs0]
  have hpk : preK s = preK s0 := by rw [hs0]
  rw [hby]
  rw [hpk] at hpl hp0
  have HS0 := Lib.hid hs0
  have HF := Lib.hid F
  clear F hs0 hm hby hpk
  obtain ⟨nu, bo, ⟨l1, n1, s1⟩, ⟨l2, n2, s2⟩⟩ := s
  have F1 := HF.out.number
  have F2 := HF.out.boot
  simp only at F1 F2
  unfold supV
  simp only at h1 h2 hp0 ⊢
  have HN1 := Lib.hid fun W => ref_num nu (by omega) (by omega) W
  have HN2 := Lib.hid fun W => ref_num bo (by omega) (by omega) W
  have hl1 := num_10 nu.toNat (by omega)
  have hl2 := num_10 bo.toNat (by omega)
  have hpos1 := num_pos nu.toNat
  generalize num nu.toNat = N1 at *
  generalize num bo.toNat = N2 at *
  go_enter Try.func21, Try.ntmps21
  have b1 := bal (Below.refl w.heap.size w) (.cells #[.int .i64 nu, .int .i64 bo, .slice A l1.length c, .int .i64 n1, .int .u32 (s1.toNat : Int), .slice A2 l2.length c2, .int .i64 n2, .int .u32 (s2.toNat : Int)] 27)
  have B1 := Blk.new w 27 #[.int .i64 nu, .int .i64 bo, .slice A l1.length c, .int .i64 n1, .int .u32 (s1.toNat : Int), .slice A2 l2.length c2, .int .i64 n2, .int .u32 (s2.toNat : Int)]
  have z1 := size_more' w (.cells #[.int .i64 nu, .int .i64 bo, .slice A l1.length c, .int .i64 n1, .int .u32 (s1.toNat : Int), .slice A2 l2.length c2, .int .i64 n2, .int .u32 (s2.toNat : Int)] 27)
  go_upto_region 1 with (fail)
  generalize (w.alloc (.cells #[.int .i64 nu, .int .i64 bo, .slice A l1.length c, .int .i64 n1, .int .u32 (s1.toNat : Int), .slice A2 l2.length c2, .int .i64 n2, .int .u32 (s2.toNat : Int)] 27)) = W at *
  have Z1 := Lib.hid z1
  clear z1
  have hT := B1.lt
  have x0 : W.cell? ⟨w.heap.size, 0, none⟩ = some (.int .i64 nu) := B1.cell 0
  have kc := Joins.run_convert_bytes_const_at (P := Try.prog) W 35 5 #[.int .u8 84, .int .u8 82] 2 2 W.heap.size rfl Try.underlying35 Try.underlying5
  have L3 := RB.lit W 5 (2, 3) [84, 82] #[.int .u8 84, .int .u8 82] rfl
  have b2 := bal (Below.refl W.heap.size W) (.cells #[.int .u8 84, .int .u8 82] 5 (2, 3))
  go_wp2_with fail
  generalize (W.alloc (.cells #[.int .u8 84, .int .u8 82] 5 (2, 3))) = W2 at *
  (with_reducible refine (HN1.out _).mono ?_)
  rintro e w3 ⟨v3, rfl, ho3, hb3⟩
  obtain ⟨A3, c3, rfl, hc3, hr3⟩ := ho3.bytes
  obtain ⟨A4, c4, w4, hap4, ho4, hb4⟩ := app_lit w3 ⟨W.heap.size, 0, none⟩ 2 2 [84, 82] rfl (L3.below hb3) A3 N1.length c3 N1 rfl hpos1 hr3 (by omega) (by simp; omega) rfl
  have hk4 := bn (bn b2 hb3) hb4
  have ho4 : Own w4 W.heap.size 5 _ _ := ho4.lower (Nat.le_trans b2.size hb3.size)
  have y1 : w4.cell? ⟨w.heap.size, 1, none⟩ = some (.int .i64 bo) := (B1.below hk4).cell 1
  have hq4 : ([84, 82] ++ N1).length ≤ 12 := by simp; omega
  obtain ⟨P4, hP4⟩ : ∃ P4, [84, 82] ++ N1 = P4 := ⟨_, rfl⟩
  rw [hP4] at hap4 ho4 hq4 hp0
  go_wp2_with fail
  (with_reducible refine (HN2.out _).mono ?_)
  rintro e w5 ⟨v5, rfl, ho5, hb5⟩
  obtain ⟨A5, c5, rfl, hc5, hr5⟩ := ho5.bytes
  have hk5 := bn hk4 hb5
  obtain ⟨A6, c6, w6, hap6, ho6, hb6⟩ := app_b (ho4.below hb5) c5 rfl hr5 (by omega) hk5.size hp0
  have hk6 := hk5.trans hb6
  have HP0 := Lib.hid hp0
  clear hp0
  have Q := B1.below hk6
  have x2 : w6.cell? ⟨w.heap.size, 2, none⟩ = some (.slice A l1.length c) := Q.cell 2
  have x3 : w6.cell? ⟨w.heap.size, 3, none⟩ = some (.int .i64 n1) := Q.cell 3
  have x4 : w6.cell? ⟨w.heap.size, 4, none⟩ = some (.int .u32 (s1.toNat : Int)) := Q.cell 4
  have x5 : w6.cell? ⟨w.heap.size, 5, none⟩ = some (.slice A2 l2.length c2) := Q.cell 5
  have x6 : w6.cell? ⟨w.heap.size, 6, none⟩ = some (.int .i64 n2) := Q.cell 6
  have x7 : w6.cell? ⟨w.heap.size, 7, none⟩ = some (.int .u32 (s2.toNat : Int)) := Q.cell 7
  clear hap4 ho4 ho5 ho3 hr3 hr5 Q hb6 hb5 hb4 hb3 L3
  have b7 := bal (Below.refl w6.heap.size w6) (.cells #[.slice A l1.length c, .int .i64 n1, .int .u32 (s1.toNat : Int), .slice A2 l2.length c2, .int .i64 n2, .int .u32 (s2.toNat : Int)] 25)
  have L7 := Blk.new w6 25 #[.slice A l1.length c, .int .i64 n1, .int .u32 (s1.toNat : Int), .slice A2 l2.length c2, .int .i64 n2, .int .u32 (s2.toNat : Int)]
  have B7 : BSt W w6.heap.size 25 #[.slice A l1.length c, .int .i64 n1, .int .u32 (s1.toNat : Int), .slice A2 l2.length c2, .int .i64 n2, .int .u32 (s2.toNat : Int)] (w6.alloc (.cells #[.slice A l1.length c, .int .i64 n1, .int .u32 (s1.toNat : Int), .slice A2 l2.length c2, .int .i64 n2, .int .u32 (s2.toNat : Int)] 25)) _ (preK s0 0) := ⟨ho6.below b7, L7, bn hk6 b7⟩
  clear L7 b7 ho6 x2 x3 x4 x5 x6 x7
  have x2 : w6.cell? ⟨w.heap.size, 2, none⟩ = some (.slice A l1.length c) := (B1.below hk6).cell 2
  have x3 : w6.cell? ⟨w.heap.size, 3, none⟩ = some (.int .i64 n1) := (B1.below hk6).cell 3
  have x4 : w6.cell? ⟨w.heap.size, 4, none⟩ = some (.int .u32 (s1.toNat : Int)) := (B1.below hk6).cell 4
  have x5 : w6.cell? ⟨w.heap.size, 5, none⟩ = some (.slice A2 l2.length c2) := (B1.below hk6).cell 5
  have x6 : w6.cell? ⟨w.heap.size, 6, none⟩ = some (.int .i64 n2) := (B1.below hk6).cell 6
  have x7 : w6.cell? ⟨w.heap.size, 7, none⟩ = some (.int .u32 (s2.toNat : Int)) := (B1.below hk6).cell 7
  have HP := Lib.hid (ref_pair (W := W) (L := w6.heap.size) (e := 25) (c := c) (c2 := c2) HS0.out HF.out (h1.below b1) (h2.below b1))
  have HX0 := Lib.hid (fun (V : World) (hb : Below W.heap.size W V) => (B1.below hb).cell 0)
  clear h1 h2
  go_wp2_with fail
  clear x2 x3 x4 x5 x6 x7 y1 x0 B1
  generalize (w6.alloc (.cells #[.slice A l1.length c, .int .i64 n1, .int .u32 (s1.toNat : Int), .slice A2 l2.length c2, .int .i64 n2, .int .u32 (s2.toNat : Int)] 25)) = w7 at *
  generalize w6.heap.size = L at *
  clear kc
  go_loopw [3, 5] (fun v i wr => ∃ k : Nat, k ≤ 2 ∧ i = .int .i64 (k : Int) ∧ BSt W L 25 #[.slice A l1.length c, .int .i64 n1, .int .u32 (s1.toNat : Int), .slice A2 l2.length c2, .int .i64 n2, .int .u32 (s2.toNat : Int)] wr v (preK s0 k)) (fun _ i _ => 2 - (intOf i).toNat)
  case atStart => exact ⟨0, by omega, rfl, B7⟩
  case round =>
    clear B7
    obtain ⟨k, hk, rfl, hS⟩ := hrel
    obtain ⟨Av, cv, rfl, hcv, hrv⟩ := hS.own.bytes
    by_cases hlt : k < 2
    · obtain ⟨l, A', c', hcs, hpre, hse, hle, hln⟩ := HP.out k hlt
      have HCS := Lib.hid hcs
      have HPRE := Lib.hid hpre
      have HSE := Lib.hid hse
      have hpk := hpl k
      have hpk1 := hpl (k + 1)
      rw [hpre] at hpk1
      unfold logB at hpk1
      simp only [List.length_append, List.length_map] at hpk1
      clear hcs hpre hse
      obtain ⟨x0, x1, x2, hr⟩ := HCS.out _ _ _ hS
      have i0 : (0 : Int) ≤ (k : Int) := by omega
      have i1 : (k : Int) < 2 := by omega
      have HNL := Lib.hid fun W => ref_num (l.segs.length : Int) (by omega) (by omega) W
      rw [show ((l.segs.length : Nat) : Int).toNat = l.segs.length by omega] at HNL
      have hposl := num_pos l.segs.length
      go_wp2_with fail
      (with_reducible refine (HNL.out _).mono ?_)
      rintro e w8 ⟨v8, rfl, ho8, hb8⟩
      obtain ⟨A8, c8, rfl, g8⟩ := Res.new hS.own ho8
      obtain ⟨A9, c9, w9, hap9, hS9, -⟩ := (hS.below hb8).app (by decide) c8 g8 rfl hposl (by omega) rfl
      clear x0 x1 x2 hr ho8 hrv hb8 g8
      obtain ⟨P9, hP9⟩ : ∃ P9, preK s0 k ++ num l.segs.length = P9 := ⟨_, rfl⟩
      rw [hP9] at hap9 hS9
      have HP9 := Lib.hid hP9
      clear hP9
      go_wp2_with fail
      go_loopw [3, 6] (fun v i wr => ∃ j : Nat, j ≤ l.segs.length ∧ i = .int .i64 (j : Int) ∧ BSt W L 25 #[.slice A l1.length c, .int .i64 n1, .int .u32 (s1.toNat : Int), .slice A2 l2.length c2, .int .i64 n2, .int .u32 (s2.toNat : Int)] wr v (P9 ++ (l.segs.take j).map sb)) (fun _ i _ => l.segs.length - (intOf i).toNat)
      case atStart => exact ⟨0, Nat.zero_le _, rfl, by simpa using hS9⟩
      case round =>
        clear hS9 hap9 hS
        obtain ⟨j, hj, rfl, hS⟩ := hrel
        obtain ⟨Av2, cv2, rfl, hcv2, -⟩ := hS.own.bytes
        obtain ⟨x0, x1, x2, hr⟩ := HCS.out _ _ _ hS
        by_cases hjl : j < l.segs.length
        · obtain ⟨ad, rfl⟩ := hr.some_of (by intro e; have := congrArg List.length e; rw [List.length_map] at this; simp only [List.length_nil] at this; omega)
          have a0 := hr.at_ j (by rw [List.length_map]; exact hjl)
          rw [List.getElem_map] at a0
          unfold ei at a0
          have hxs := HSE.out _ (List.getElem_mem hjl)
          have htk := List.take_succ_eq_append_getElem hjl
          have j0 : (0 : Int) ≤ (j : Int) := by omega
          have j1 : (j : Int) < (l.segs.length : Int) := by omega
          generalize l.segs[j] = x at *
          have hwr : IntKind.u8.wrap x = x := by rw [IntKind.wrap_u8]; omega
          have hnx : P9 ++ (l.segs.take (j + 1)).map sb = (P9 ++ (l.segs.take j).map sb) ++ [sb x] := by rw [htk]; simp
          have HNX := Lib.hid hnx
          have hlp : (P9 ++ (l.segs.take j).map sb).length ≤ 400 := by have := congrArg List.length HP9.out; rw [List.length_append] at this ⊢; rw [List.length_map, List.length_take]; omega
          clear htk hnx
          obtain ⟨P, hP⟩ : ∃ P, P9 ++ (l.segs.take j).map sb = P := ⟨_, rfl⟩
          rw [hP] at HNX hlp hS hcv2 ⊢
          clear hP
          obtain ⟨A9, c9, w9, hap9, hS9, -⟩ := (hS.below (bal (Below.refl _ _) (.cells #[.int .u8 x] 5))).app (by decide) 1 (res_one hS.own (sb x) x (sb_in hxs)) rfl (by simp) (by simp; omega) HNX.out
          have hS9 : BSt W L 25 #[.slice A l1.length c, .int .i64 n1, .int .u32 (s1.toNat : Int), .slice A2 l2.length c2, .int .i64 n2, .int .u32 (s2.toNat : Int)] w9 _ _ := hS9
          obtain ⟨P', hP'⟩ : ∃ P', P9 ++ (l.segs.take (j + 1)).map sb = P' := ⟨_, rfl⟩
          rw [hP'] at hap9 hS9
          have HP' := Lib.hid hP'
          clear hP' HNX
          simp only [List.length_singleton] at hap9
          go_wp2_with fail
          go_roundw
          case rel => exact ⟨j + 1, by omega, by go_num, by rw [HP'.out]; exact hS9⟩
          case measure => simp [intOf]; try omega
        · obtain rfl : j = l.segs.length := by omega
          rw [List.take_length] at hS hcv2 ⊢
          have hlp : (P9 ++ l.segs.map sb).length ≤ 400 := by have := congrArg List.length HP9.out; rw [List.length_append] at this ⊢; rw [List.length_map]; omega
          have HNM := Lib.hid fun W => ref_num l.len (by omega) (by omega) W
          have HFO := Lib.hid fun W => ref_four l.last (l.last.toNat : Int) rfl W
          have hposN := num_pos l.len.toNat
          have hl10 := num_10 l.len.toNat (by omega)
          have hfl := four_len l.last
          have hend : preK s0 (k + 1) = ((P9 ++ l.segs.map sb) ++ num l.len.toNat) ++ four l.last := by rw [HPRE.out, ← HP9.out]; unfold logB; simp [List.append_assoc]
          have HCS2 : Hid (∀ V v pre, BSt W L 25 #[.slice A l1.length c, .int .i64 n1, .int .u32 (s1.toNat : Int), .slice A2 l2.length c2, .int .i64 n2, .int .u32 (s2.toNat : Int)] V v pre → V.cell? ⟨L, k * 3 + 1, none⟩ = some (.int .i64 l.len) ∧ V.cell? ⟨L, k * 3 + 2, none⟩ = some (.int .u32 (l.last.toNat : Int))) := Lib.hid fun V v pre h => ⟨(HCS.out V v pre h).2.1, (HCS.out V v pre h).2.2.1⟩
          generalize num l.len.toNat = NN at *
          generalize four l.last = FF at *
          obtain ⟨P12, hP12⟩ : ∃ P, P9 ++ l.segs.map sb = P := ⟨_, rfl⟩
          rw [hP12] at hS hcv2 hlp hend ⊢
          clear hP12
          obtain ⟨P13, hP13⟩ : ∃ P, P = P12 ++ NN := ⟨_, rfl⟩
          rw [← hP13] at hend
          have hl13 : P13.length ≤ 500 := by rw [hP13, List.length_append]; omega
          have HP13 := Lib.hid hP13
          have HEND := Lib.hid hend
          clear hP13 hend hr HNL hposl
          have hs := hS.below (bdr (Below.refl _ _))
          clear hS
          go_upto_region 12 with (fail)
          clear x0
          go_region_held3 (fun V => V.cell? ⟨L, k * 3 + 1, none⟩ = some (.int .i64 l.len) ∧ V.cell? ⟨L, k * 3 + 2, none⟩ = some (.int .u32 (l.last.toNat : Int)))
            (exact HCS2.out _ _ _ hs)
            ((first
              | (go_at_call 56; (with_reducible refine (HNM.out _).mono ?_); rintro e w' ⟨vv, rfl, hoo, hbb⟩; obtain ⟨B1, d1, rfl, g1⟩ := Res.new hs.own hoo; replace hs := hs.below hbb; (try replace g2 := g2.below hbb); clear hoo hbb)
              | (go_at_call 57; (with_reducible refine (HFO.out _).mono ?_); rintro e w' ⟨vv, rfl, hoo, hbb⟩; obtain ⟨B2, d2, rfl, g2⟩ := Res.new hs.own hoo; replace hs := hs.below hbb; (try replace g1 := g1.below hbb); clear hoo hbb)
              | (obtain ⟨A5, c5, w5, HR5, hs5, hmv⟩ := hs.app (by decide) d1 g1 rfl hposN (by omega) HP13.out; refine step_append_dst (by rfl) (by rfl) _ _ 35 35 (by rfl) _ _ _ _ (by rfl) (by rfl) HR5 ?_; (try replace g2 := hmv.out _ _ g2); replace hs := hs5; clear g1 HR5 hmv hs5)
              | (obtain ⟨A6, c6, w6, HR6, hs6, hmv⟩ := hs.app (by decide) d2 g2 hfl (by omega) (by omega) HEND.out; refine step_append_dst (by rfl) (by rfl) _ _ 35 35 (by rfl) _ _ _ _ (by rfl) (by rfl) HR6 ?_; replace hs := hs6; clear g2 HR6 hmv hs6)))
          all_goals
            go_wp2_with fail
            go_roundw
            case rel => exact ⟨k + 1, by omega, by go_num, hs⟩
            case measure => simp [intOf]; try omega
    · obtain rfl : k = 2 := by omega
      have hpk := hpl 2
      rw [preK_end] at hS hcv hpk ⊢
      have HFIN : Hid (∀ q : List UInt8, q = penB s0 ++ List.replicate (220 - (penB s0).length) 0 → bytesB s0 = sect 56 (four (numW s0)) (q ++ four (Crc.next 0#32 q)) (cutsOf 56 4)) := Lib.hid (fun q hq => by subst hq; rfl)
      have HNW : Hid (numW s0 = BitVec.ofNat 32 nu.toNat) := Lib.hid (by rw [HS0.out]; rfl)
      generalize penB s0 = PB at *
      go_wp2_with fail
      go_loopw [3] (fun v wr => ∃ j : Nat, j ≤ 220 - PB.length ∧ BSt W L 25 #[.slice A l1.length c, .int .i64 n1, .int .u32 (s1.toNat : Int), .slice A2 l2.length c2, .int .i64 n2, .int .u32 (s2.toNat : Int)] wr v (PB ++ List.replicate j 0)) (fun v _ => 220 - (match v with | .slice _ n _ => n | _ => 0))
      case atStart => exact ⟨0, Nat.zero_le _, by simpa using hS⟩
      case round =>
        clear hS
        obtain ⟨j, hj, hS⟩ := hrel
        have hlq : (PB ++ List.replicate j 0).length = PB.length + j := by simp
        obtain ⟨Q, hQ⟩ : ∃ Q, PB ++ List.replicate j 0 = Q := ⟨_, rfl⟩
        have hq' : PB ++ List.replicate (j + 1) 0 = Q ++ [0] := by rw [← hQ, List.replicate_succ', List.append_assoc]
        rw [hQ] at hS hlq
        have HQ := Lib.hid hQ
        have HQ' := Lib.hid hq'
        clear hQ hq'
        have HLQ := Lib.hid hlq
        clear hlq
        obtain ⟨Aw, cw, rfl, hcw, hrw⟩ := hS.own.bytes
        by_cases hlt : Q.length < 220
        · have k1 : (Q.length : Int) < 220 := by omega
          obtain ⟨A9, c9, w9, hap9, hS9, -⟩ := (hS.below (bal (Below.refl _ _) (.cells #[.int .u8 0] 5))).app (by decide) 1 (res_one hS.own 0 0 rfl) rfl (by simp) (by simp; omega) HQ'.out
          obtain ⟨P', hP'⟩ : ∃ P', PB ++ List.replicate (j + 1) 0 = P' := ⟨_, rfl⟩
          have hl' : P'.length = Q.length + 1 := by rw [← hP', HQ'.out]; simp
          rw [hP'] at hap9 hS9
          have HP' := Lib.hid hP'
          have HL' := Lib.hid hl'
          clear hP' hl'
          simp only [List.length_singleton] at hap9
          go_wp2_with fail
          go_roundw
          case rel => exact ⟨j + 1, by have := HLQ.out; omega, by rw [HP'.out]; exact hS9⟩
          case measure => have := HL'.out; simp only; omega
        · have k1 : ¬ (Q.length : Int) < 220 := by omega
          have hjq := HLQ.out
          have HQ220 : Hid (Q.length = 220) := Lib.hid (by omega)
          have HF2 := Lib.hid (HFIN.out Q (by rw [← HQ.out, show j = 220 - PB.length by omega]))
          clear HQ HQ' hjq HLQ
          have HSS := Lib.hid hS
          clear hS
          have HNX := Lib.hid (fun W (hr : RB W Aw Q) => ref_next 0#32 0 rfl Aw Q.length cw Q W rfl (by unfold maxLen; have := HQ220.out; omega) hr)
          go_wp2_with fail
          (with_reducible refine (HNX.out _ hrw).mono ?_)
          rintro e _ ⟨rfl, rfl⟩
          go_wp2_with fail
          (with_reducible refine (ref_four (Crc.next 0#32 Q) _ rfl _).mono ?_)
          rintro e w8 ⟨v8, rfl, ho8, hb8⟩
          have hS8 := HSS.out.below hb8
          obtain ⟨A8, c8, rfl, g8⟩ := Res.new HSS.out.own ho8
          have HF4 : Hid ((four (Crc.next 0#32 Q)).length = 4) := Lib.hid (four_len _)
          generalize four (Crc.next 0#32 Q) = FF at *
          obtain ⟨R, hR⟩ : ∃ R, R = Q ++ FF := ⟨_, rfl⟩
          have HR224 : Hid (R.length = 224) := Lib.hid (by rw [hR, List.length_append, HQ220.out, HF4.out])
          obtain ⟨A9, c9, w9, hap9, hS9, -⟩ := hS8.app (by decide) c8 g8 rfl (by have := HF4.out; omega) (by have := HQ220.out; have := HF4.out; omega) hR
          rw [← hR] at HF2
          have HF3 := HF2
          clear hR HF2 HFIN g8 hS8 ho8 hb8 hrw HSS
          obtain ⟨A9', c9', e9, hc9, hr9⟩ := hS9.own.bytes
          cases e9
          have hb9 := bn b1 hS9.bel
          have x0 : w9.cell? ⟨w.heap.size, 0, none⟩ = some (.int .i64 nu) := HX0.out w9 hS9.bel
          clear hS9
          have hwu : IntKind.u32.wrap nu = nu := by rw [IntKind.wrap_u32]; omega
          have HN4 := Lib.hid fun W => ref_four (numW s0) nu (by rw [HNW.out, BitVec.toNat_ofNat]; omega) W
          go_wp2_with fail
          (with_reducible refine (HN4.out _).mono ?_)
          rintro e w10 ⟨v10, rfl, ho10, hb10⟩
          obtain ⟨A10, c10, rfl, hc10, hr10⟩ := ho10.bytes
          have hr9' := hr9.below hb10
          have hb10' := bn hb9 hb10
          have HE4 : Hid ((four (numW s0)).length = 4) := Lib.hid (four_len _)
          generalize four (numW s0) = E at *
          clear ho10 x0 hr9 hb9 hap9
          go_wp2_with fail
          go_loopw [8, 9] (fun v i wr => ∃ k : Nat, k ≤ 4 ∧ i = .int .i64 (k : Int) ∧ Own wr w10.heap.size 5 v ((sect 56 E R (cutsOf 56 k)).map eb) ∧ Below w10.heap.size w10 wr) (fun _ i _ => 4 - (intOf i).toNat)
          case atStart => exact ⟨0, by omega, rfl, Own.nil _ _ _, Below.refl _ _⟩
          case round =>
            obtain ⟨k, hk4, rfl, ho, hb⟩ := hrel
            obtain ⟨Ao, co, rfl, hco, -⟩ := ho.bytes
            by_cases hlt : k < 4
            · have hsn : sect 56 E R (cutsOf 56 (k + 1)) = ((sect 56 E R (cutsOf 56 k) ++ E) ++ (R.drop (k * 56)).take 56) ++ E := by
                rw [show cutsOf 56 (k + 1) = cutsOf 56 k ++ [k * 56] from by unfold cutsOf; rw [List.range_succ, List.map_append]; rfl, sect_snoc, List.append_assoc, List.append_assoc, List.append_assoc]
              have hsl := sect_len 56 E R (cutsOf 56 k)
              have hcl : (cutsOf 56 k).length = k := by unfold cutsOf; simp
              have hee := hr10.below hb
              have hc9b : R.length ≤ c9 := hc9
              have h224 := HR224.out
              have hE := HE4.out
              obtain ⟨A11, hcut, hrd11, -⟩ := cut_mid (P := Try.prog) 35 5 Try.underlying35 size_u8 A9 R.length c9 ((k : Int) * 56) (((k : Int) + 1) * 56) (by omega) (by omega) (by omega)
              have e1 : (((k : Int) + 1) * 56).toNat - ((k : Int) * 56).toNat = 56 := by omega
              have e2 : ((k : Int) * 56).toNat = k * 56 := by omega
              rw [e1, e2] at hcut
              have hr11 : ∀ V, Below w10.heap.size w10 V → RB V A11 ((R.drop (k * 56)).take 56) := fun V hV => by
                have := hrd11 V _ (by rw [List.length_map]; exact hc9b) (hr9'.below hV)
                rw [e2, ← List.map_drop] at this
                exact RB.take this 56
              have hl11 : ((R.drop (k * 56)).take 56).length = 56 := by rw [List.length_take, List.length_drop]; omega
              obtain ⟨c11, hc11⟩ : ∃ c11, c9 - k * 56 = c11 := ⟨_, rfl⟩
              rw [hc11] at hcut
              have w1 : IntKind.i64.wrap ((k : Int) * 56) = (k : Int) * 56 := IntWalk.i64_in _ (by omega)
              have w2 : IntKind.i64.wrap ((k : Int) + 1) = (k : Int) + 1 := IntWalk.i64_in _ (by omega)
              have w3 : IntKind.i64.wrap (((k : Int) + 1) * 56) = ((k : Int) + 1) * 56 := IntWalk.i64_in _ (by omega)
              have hpl0 : (sect 56 E R (cutsOf 56 k)).length ≤ 1000 := by rw [hcl, hE] at hsl; omega
              obtain ⟨P0, hP0⟩ : ∃ P0, P0 = sect 56 E R (cutsOf 56 k) := ⟨_, rfl⟩
              rw [← hP0] at ho hco hpl0 hsn ⊢
              obtain ⟨P1, hP1⟩ : ∃ P1, P1 = P0 ++ E := ⟨_, rfl⟩
              rw [← hP1] at hsn
              obtain ⟨P2, hP2⟩ : ∃ P2, P2 = P1 ++ (R.drop (k * 56)).take 56 := ⟨_, rfl⟩
              rw [← hP2] at hsn
              obtain ⟨P3, hP3⟩ : ∃ P3, P3 = sect 56 E R (cutsOf 56 (k + 1)) := ⟨_, rfl⟩
              rw [← hP3] at hsn
              have hl1' : P1.length ≤ 1100 := by rw [hP1, List.length_append]; omega
              have hl2' : P2.length ≤ 1200 := by rw [hP2, List.length_append]; omega
              obtain ⟨A12, c12, w12, hap12, ho12, hb12⟩ := app_b (ho.below (bdr (Below.refl _ _))) c10 rfl (hee.below (bdr (Below.refl _ _))) (by omega) hb.size hP1
              have hbb12 := (bdr hb).trans hb12
              obtain ⟨A13, c13, w13, hap13, ho13, hb13⟩ := app_b ho12 c11 hl11 (hr11 _ hbb12) (by omega) hbb12.size hP2
              have hbb13 := hbb12.trans hb13
              obtain ⟨A14, c14, w14, hap14, ho14, hb14⟩ := app_b ho13 c10 rfl ((hr10.below hbb13)) (by omega) hbb13.size hsn
              have hbb14 := hbb13.trans hb14
              have HP3 := Lib.hid hP3
              clear hP0 hP1 hP2 hP3 hsn e1 e2 hsl hcl hE h224 hl11 hc11 ho12 ho13 hr11 hrd11 hee
              go_upto_region 21 with (fail)
              go_region_held3 (fun V => True) (trivial) (fail)
              go_wp2_with fail
              go_roundw
              case rel => exact ⟨k + 1, by omega, by go_num, by rw [← HP3.out]; exact ho14, hbb14⟩
              case measure => simp [intOf]; try omega
            · obtain rfl : k = 4 := by omega
              rw [← HF3.out] at ho hco ⊢
              have hbf := bn hb10' hb
              go_wp2_with fail
              go_ret
              refine ⟨_, rfl, ho.lower (hb10'.size), hbf⟩
end Go.Proofs.Ytbhhjphgbdaanaa
