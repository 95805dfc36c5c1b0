/-
  super.readLog.
-/
import Derived.Test.YtangfnenfhkokaaSupP
import Derived.Test.YtangfnenfhkokaaEyeD
import Derived.Laws.Rows
set_option linter.unusedSimpArgs false
set_option linter.unusedVariables false
namespace Go.Proofs.Ytangfnenfhkokaa
open Go.RowKit Go.Maps

abbrev St := Option (List UInt8)
/-- n bytes, one by one -/
def eBytes : Nat → St → List UInt8 × St
  | 0, st => ([], st)
  | n + 1, st => ((eBytes n st).1 ++ [(eByte (eBytes n st).2).1], (eByte (eBytes n st).2).2)
theorem eBytes_len : ∀ (n : Nat) (st : St), (eBytes n st).1.length = n
  | 0, _ => rfl
  | n + 1, st => by rw [eBytes, List.length_append, eBytes_len n st]; rfl
def wordN : List UInt8 → Nat
  | [] => 0
  | b :: l => b.toNat + 256 * wordN l
theorem wordN_snoc : ∀ (l : List UInt8) (y : UInt8), wordN (l ++ [y]) = wordN l + y.toNat * 2 ^ (8 * l.length)
  | [], y => by simp [wordN]
  | b :: l, y => by
    rw [List.cons_append, wordN, wordN, wordN_snoc l y, List.length_cons, show 8 * (l.length + 1) = 8 * l.length + 8 by omega, Nat.pow_add]
    generalize 2 ^ (8 * l.length) = q
    rw [show (2 : Nat) ^ 8 = 256 from rfl, Nat.mul_add, ← Nat.mul_assoc y.toNat q 256, Nat.mul_comm (y.toNat * q) 256]
    omega
theorem wordN_lt : ∀ l : List UInt8, wordN l < 2 ^ (8 * l.length)
  | [] => by simp [wordN]
  | b :: l => by
    have h := wordN_lt l
    have hb := b.toNat_lt
    rw [wordN, List.length_cons, show 8 * (l.length + 1) = 8 * l.length + 8 by omega, Nat.pow_add, show (2 : Nat) ^ 8 = 256 from rfl]
    omega
theorem or_word (m k : Nat) (b : UInt8) (hk : k ≤ 3) (h : m < 2 ^ (8 * k)) :
    bits .or .u32 (m : Int) (IntKind.u32.wrap ((b.toNat : Int) * 2 ^ (8 * k))) = ((m + b.toNat * 2 ^ (8 * k) : Nat) : Int) := by
  have hp : 2 ^ (8 * k) ≤ 16777216 := Nat.le_trans (Nat.pow_le_pow_right (by omega) (show 8 * k ≤ 24 by omega)) (by decide)
  have hpow : (2 : Int) ^ (8 * k) = ((2 ^ (8 * k) : Nat) : Int) := by simp
  rw [hpow, ← or_add m b.toNat (8 * k) h]
  generalize hP : 2 ^ (8 * k) = P at *
  have hx := b.toNat_lt
  generalize b.toNat = x at *
  have hm : x * P < 4294967296 := by
    have : x * P ≤ 255 * 16777216 := Nat.mul_le_mul (by omega) hp
    omega
  have e2 : IntKind.u32.wrap ((x : Int) * (P : Int)) = ((x * P : Nat) : Int) := by
    rw [← Int.natCast_mul]
    generalize x * P = y at *
    simp [IntKind.wrap, IntKind.signed, IntKind.bits]; omega
  rw [e2]
  generalize x * P = y at *
  unfold bits
  simp only [IntKind.bits]
  show IntKind.wrap .u32 ((BitVec.ofInt 32 (m : Int) ||| BitVec.ofInt 32 (y : Int)).toNat : Int) = _
  have e : (BitVec.ofInt 32 (m : Int) ||| BitVec.ofInt 32 (y : Int)).toNat = m ||| y := by
    simp only [BitVec.ofInt_natCast, BitVec.toNat_or, BitVec.toNat_ofNat]
    rw [Nat.mod_eq_of_lt (by omega), Nat.mod_eq_of_lt (by omega)]
  rw [e]
  have hlt : m ||| y < 2 ^ 32 := Nat.or_lt_two_pow (by omega) (by omega)
  generalize m ||| y = c at *
  simp [IntKind.wrap, IntKind.signed, IntKind.bits]
  omega
theorem or_word' (m k : Nat) (b : UInt8) (hk : k ≤ 3) (h : m < 2 ^ (8 * k)) :
    bits .or .u32 (m : Int) (IntKind.u32.wrap (IntKind.u32.wrap (b.toNat : Int) * 2 ^ min (IntKind.u64.wrap (IntKind.i64.wrap (8 * (k : Int)))).toNat 32)) = ((m + b.toNat * 2 ^ (8 * k) : Nat) : Int) := by
  have hx := b.toNat_lt
  have e1 : IntKind.u32.wrap (b.toNat : Int) = (b.toNat : Int) := by simp [IntKind.wrap, IntKind.signed, IntKind.bits]; omega
  have e2 : IntKind.i64.wrap (8 * (k : Int)) = 8 * (k : Int) := by rw [IntKind.wrap_i64]; omega
  have e3 : IntKind.u64.wrap (8 * (k : Int)) = 8 * (k : Int) := by simp [IntKind.wrap, IntKind.signed, IntKind.bits]; omega
  have e4 : min (8 * (k : Int)).toNat 32 = 8 * k := by omega
  rw [e1, e2, e3, e4]
  exact or_word m k b hk h
def bi (b : UInt8) : Int := (b.toNat : Int)
def cap96 (n : Nat) : Nat := if 96 < n then 0 else n
def readL (st : St) : SLog × St :=
  let a := eNum st
  let b := eBytes (cap96 a.1) a.2
  let c := eNum b.2
  let d := eBytes 4 c.2
  (⟨b.1.map bi, (c.1 : Int), BitVec.ofNat 32 (wordN d.1)⟩, d.2)
theorem info_int : (Try.prog.info? 3).map (fun i => (i.zero, i.size, i.bytes)) = some (some (.int .i64 0), 1, 8) := by kernel_rfl
/-- 'append(l, x)' of a number -/
theorem append_num (w : World) (B : Nat) (v : Value) (xs : List Int) (hown : Own w B 3 v (xs.map ei)) (x : Int) (hl : xs.length < 1000000) (hB : B ≤ w.heap.size) :
    ∃ A' c' w', (Builtin.append_ #[35, 35] 35 #[v, .slice (some ⟨w.heap.size, 0, none⟩) 1 1]).run Try.prog (w.alloc (.cells #[.int .i64 x] 3)) = .ok (.slice A' (xs.length + 1) c') w' ∧ Own w' B 3 (.slice A' (xs.length + 1) c') ((xs ++ [x]).map ei) ∧ Below B w w' := by
  have hb := bal (Below.refl w.heap.size w) (.cells #[.int .i64 x] 3)
  obtain ⟨v', w', h1, h2, h3, h4⟩ := append_run (P := Try.prog) (w.alloc (.cells #[.int .i64 x] 3)) B 35 35 3 (.int .i64 0) 8 Try.underlying35 info_int rfl v _ (hown.below hb) (some ⟨w.heap.size, 0, none⟩) 1 1 [ei x] rfl (Rd.lit w _ _ [ei x]) (by intro u hu; rw [List.mem_singleton.1 hu]; rfl) (by rw [List.length_map]; unfold maxLen; simp; omega) (by rw [List.length_map]; simp; omega) (by simp; omega)
  rw [show xs.map ei ++ [ei x] = (xs ++ [x]).map ei from by simp] at h2
  obtain ⟨A', c', rfl, -, -, -⟩ := h2.read
  rw [List.length_map, List.length_append, List.length_singleton] at *
  exact ⟨A', c', w', h1, h2, (hb.mono hB).trans h4⟩
theorem kp_from {B : Nat} {w w' : World} (hb : Below B w w') (hB : B ≤ w.heap.size) : Kp (fun k => B ≤ k) w w' := ⟨hb.os, hb.tape, hb.output, hb.size, fun k hk hF => hb.block k (by omega)⟩
theorem readLog_res {tmps : Array Value} {w : World} {T : Nat} {v0 v1 v2 : Value} (h2 : tmps[2]?.getD undef = .pointer (some ⟨T, 0, none⟩)) (h : Blk w T 38 #[v0, v1, v2]) :
    (results Try.f66 tmps).run Try.prog w = .ok (.agg #[v0, v1, v2]) w := by
  have c0 : w.cell? ⟨T, 0, none⟩ = some v0 := h.cell 0
  have c1 : w.cell? ⟨T, 1, none⟩ = some v1 := h.cell 1
  have c2 : w.cell? ⟨T, 2, none⟩ = some v2 := h.cell 2
  simp [results, Try.results66, go_sem, h2, c0, c1, c2]
def ReadLPost (D g : Nat) (st : St) (w : World) (e : Ending) (w' : World) : Prop :=
  ∃ l st' A c, readL st = (l, st') ∧ e = .returned (logV l A c) ∧ Rd w' A (l.segs.map ei) ∧ (∀ ad, A = some ad → w.heap.size ≤ ad.block ∧ ad.block < w'.heap.size) ∧ EyeD D w' g st' ∧ Kept g w.heap.size w w'
set_option maxRecDepth 100000 in
set_option maxHeartbeats 4000000 in
theorem super_readLog (D g : Nat) (st : St) (w : World) (h : EyeD D w g st) (hg : g < w.heap.size) (hD : D ≤ w.heap.size) :
    Calls Try.prog 66 #[.pointer (some ⟨g, 0, none⟩)] w (ReadLPost D g st w) := by
  have hR : readL st = readL st := rfl
  conv at hR => rhs; unfold readL
  unfold ReadLPost
  have HR := Lib.hid hR
  clear hR
  have hk0 := bal (bal (Below.refl w.heap.size w) (.cells #[.slice none 0 0, .int .i64 0, .int .u32 0] 38)) (.cells #[.slice none 0 0, .int .i64 0, .int .u32 0] 38)
  have h0 := h.kp (F := fun _ => False) (Kp.of hk0) (fun _ h => h.elim) (fun h => h)
  have z1 := size_more' w (.cells #[.slice none 0 0, .int .i64 0, .int .u32 0] 38)
  have z2 := size_more' (w.alloc (.cells #[.slice none 0 0, .int .i64 0, .int .u32 0] 38)) (.cells #[.slice none 0 0, .int .i64 0, .int .u32 0] 38)
  have T0 := (Blk.new w 38 #[.slice none 0 0, .int .i64 0, .int .u32 0]).alloc (.cells #[.slice none 0 0, .int .i64 0, .int .u32 0] 38)
  have L0 := Blk.new (w.alloc (.cells #[.slice none 0 0, .int .i64 0, .int .u32 0] 38)) 38 #[.slice none 0 0, .int .i64 0, .int .u32 0]
  rw [z1] at L0 z2
  go_enter Try.func66, Try.ntmps66
  go_wp2_with fail
  generalize ((w.alloc (.cells #[.slice none 0 0, .int .i64 0, .int .u32 0] 38)).alloc (.cells #[.slice none 0 0, .int .i64 0, .int .u32 0] 38)) = W0 at *
  have K0 : Kept g w.heap.size w W0 := Kept.of hk0
  obtain ⟨a, ha⟩ : ∃ a, eNum st = a := ⟨_, rfl⟩
  have hla : a.1 ≤ 4611686018427387904 := by rw [← ha]; exact eNumGo_le 9 0 0 _
  refine (eye_numD D g _ W0 h0 (by omega)).mono ?_
  rintro e w1 ⟨rfl, h1, hk1⟩
  rw [ha] at h1 ⊢
  have T1 := T0.keep hk1 T0.lt (by omega)
  have L1 := L0.keep hk1 L0.lt (by omega)
  have K1 := K0.trans (hk1.mono K0.size)
  have hs1 := hk1.size
  have HA := Lib.hid ha
  clear ha hk1 T0 L0 h h0 K0 hk0
  obtain ⟨n, hn⟩ : ∃ n, cap96 a.1 = n := ⟨_, rfl⟩
  have hn96 : n ≤ 96 := by rw [← hn]; unfold cap96; split <;> omega
  have HN := Lib.hid hn
  by_cases hbig : 96 < a.1
  · obtain rfl : n = 0 := by rw [← hn]; unfold cap96; rw [if_pos hbig]
    clear hn
    go_wp2_with fail
    go_loopw [11] (fun i wr => ∃ (k : Nat) (v : Value), k ≤ 0 ∧ i = .int .i64 (k : Int) ∧ EyeD D wr g (eBytes k a.2).2 ∧ Blk wr (w.heap.size + 1) 38 #[v, .int .i64 0, .int .u32 0] ∧ Own wr (w.heap.size + 2) 3 v (((eBytes k a.2).1.map bi).map ei) ∧ Blk wr w.heap.size 38 #[.slice none 0 0, .int .i64 0, .int .u32 0] ∧ Kept g w.heap.size w wr ∧ w.heap.size + 2 ≤ wr.heap.size) (fun i _ => 0 - (intOf i).toNat)
    case atStart => exact ⟨0, _, Nat.zero_le _, rfl, h1, L1, Own.nil _ _ _, T1, K1, by omega⟩
    case round =>
      obtain ⟨k, v, hk, rfl, hek, hLk, hvk, hTk, hKk, hsk⟩ := hrel
      obtain rfl : k = 0 := by omega
      obtain ⟨xs, hxs⟩ : ∃ xs, (eBytes 0 a.2).1.map bi = xs := ⟨_, rfl⟩
      have hxl : xs.length = 0 := by rw [← hxs, List.length_map, eBytes_len]
      obtain ⟨b, hb⟩ : ∃ b, (eBytes 0 a.2).2 = b := ⟨_, rfl⟩
      obtain ⟨c, hc⟩ : ∃ c, eNum b = c := ⟨_, rfl⟩
      have hread : readL st = (⟨xs, (c.1 : Int), BitVec.ofNat 32 (wordN (eBytes 4 c.2).1)⟩, (eBytes 4 c.2).2) := by
        rw [HR.out, HA.out, HN.out, hxs, hb, hc]
      rw [hxs] at hvk
      rw [hb] at hek
      obtain ⟨Av, cv, rfl, -, -, -⟩ := hvk.read
      have e1 : (xs.map ei).length = 0 := by rw [List.length_map, hxl]
      rw [e1] at hvk hLk
      have hlc : c.1 ≤ 4611686018427387904 := by rw [← hc]; exact eNumGo_le 9 0 0 _
      have hgk : g < wr.heap.size := Nat.lt_of_lt_of_le hg hKk.size
      have HREAD := Lib.hid hread
      have HXL : Hid (xs.length = 0) := Lib.hid hxl
      have HC := Lib.hid hc
      clear hread hxl hxs hb hc e1
      go_wp2_with fail
      refine (eye_numD D g _ wr hek hgk).mono ?_
      rintro e w3 ⟨rfl, h3, hk3⟩
      rw [HC.out] at h3 ⊢
      have hs3 := Nat.le_trans hsk hk3.size
      have hL3 := hLk.keep hk3 hLk.lt (by omega)
      have hT3 := hTk.keep hk3 hTk.lt (by omega)
      have hv3 := hvk.keep hk3 (Nat.le_refl _) (by omega)
      have hK3 := hKk.trans (hk3.mono hKk.size)
      have x1 : w3.cell? ⟨w.heap.size + 1, 1, none⟩ = some (.int .i64 0) := hL3.cell 1
      have f1 := hL3.frozen 1
      have HB4 : Below (w.heap.size + 1) w3 (w3.setCell ⟨w.heap.size + 1, 1, none⟩ (.int .i64 (c.1 : Int))) := (Below.refl _ _).setCell (p := ⟨w.heap.size + 1, 1, none⟩) (Nat.le_refl _) _
      have HK4 := kp_from HB4 (by omega)
      have h4 := h3.kp HK4 (fun k h => by omega) (by omega)
      have hL4 := hL3.set 1 (.int .i64 (c.1 : Int))
      have hv4 := Own.other hv3 (Ne.symm (hv3.no_blk hL3 (by decide))) (i := 1) (.int .i64 (c.1 : Int))
      have hT4 := hT3.kp HK4 (by omega)
      have hK4 := hK3.trans (Kept.of (HB4.mono (by omega)))
      have hs4 : w.heap.size + 2 ≤ (w3.setCell ⟨w.heap.size + 1, 1, none⟩ (.int .i64 (c.1 : Int))).heap.size := Nat.le_trans hs3 HB4.size
      clear HB4 HK4 h3 hL3 hv3 hT3 hK3 hs3 hk3 hek hLk hTk hvk hKk hsk hgk
      go_wp2_with fail
      generalize (w3.setCell ⟨w.heap.size + 1, 1, none⟩ (.int .i64 (c.1 : Int))) = W4 at *
      have hw0 : (.int .u32 0 : Value) = .int .u32 ((wordN (eBytes 0 c.2).1 : Nat) : Int) := rfl
      rw [hw0] at hL4
      obtain ⟨wo, rfl⟩ : ∃ wo : World, wo = wr := ⟨_, rfl⟩
      go_loopw [25] (fun i wr => ∃ k : Nat, k ≤ 4 ∧ i = .int .i64 (k : Int) ∧ EyeD D wr g (eBytes k c.2).2 ∧ Blk wr (w.heap.size + 1) 38 #[.slice Av 0 cv, .int .i64 (c.1 : Int), .int .u32 ((wordN (eBytes k c.2).1 : Nat) : Int)] ∧ Own wr (w.heap.size + 2) 3 (.slice Av 0 cv) (xs.map ei) ∧ Blk wr w.heap.size 38 #[.slice none 0 0, .int .i64 0, .int .u32 0] ∧ Kept g w.heap.size w wr ∧ w.heap.size + 2 ≤ wr.heap.size) (fun i _ => 4 - (intOf i).toNat)
      case atStart => exact ⟨0, by omega, rfl, h4, hL4, hv4, hT4, hK4, hs4⟩
      case round =>
        clear h4 hL4 hv4 hT4 hK4 hs4 hw0 x1 f1
        obtain ⟨k, hk, rfl, hek, hLk, hvk, hTk, hKk, hsk⟩ := hrel
        by_cases hlt : k < 4
        · obtain ⟨y, hy⟩ : ∃ y, eByte (eBytes k c.2).2 = y := ⟨_, rfl⟩
          have hst : eBytes (k + 1) c.2 = ((eBytes k c.2).1 ++ [y.1], y.2) := by rw [eBytes, hy]
          obtain ⟨m, hm⟩ : ∃ m, wordN (eBytes k c.2).1 = m := ⟨_, rfl⟩
          have hmlt : m < 2 ^ (8 * k) := by rw [← hm]; have := wordN_lt (eBytes k c.2).1; rwa [eBytes_len] at this
          have hm2 : wordN (eBytes (k + 1) c.2).1 = m + y.1.toNat * 2 ^ (8 * k) := by rw [hst, wordN_snoc, hm, eBytes_len]
          have hor := or_word' m k y.1 (by omega) hmlt
          rw [← hm2] at hor
          rw [hm] at hLk
          have hst2 : (eBytes (k + 1) c.2).2 = y.2 := by rw [hst]
          obtain ⟨m2, hm3⟩ : ∃ m2, wordN (eBytes (k + 1) c.2).1 = m2 := ⟨_, rfl⟩
          rw [hm3] at hor
          have hkd := bdr (Below.refl wr.heap.size wr)
          have hea := hek.kp (F := fun _ => False) (Kp.of hkd) (fun _ h => h.elim) (fun h => h)
          have hLa := hLk.below hkd
          have hTa := hTk.below hkd
          have hva := hvk.below hkd
          have hKa := hKk.trans (Kept.of (hkd.mono hKk.size))
          have hga : g < wr.drew.heap.size := Nat.lt_of_lt_of_le hg hKa.size
          have x2a : wr.drew.cell? ⟨w.heap.size + 1, 2, none⟩ = some (.int .u32 (m : Int)) := hLa.cell 2
          have hsa : w.heap.size + 2 ≤ wr.drew.heap.size := hsk
          have HY := Lib.hid hy
          have HM3 := Lib.hid hm3
          have HS2 := Lib.hid hst2
          clear hek hLk hTk hvk hKk hy hst hm2 hst2 hm hsk hkd hm3 hmlt
          go_wp2
          go_region_law (first
            | (go_simp; go_at_call 90; (with_reducible refine (eye_byteD D g _ _ hea hga).mono ?_); rintro e w' ⟨rfl, hed, hk'⟩; rw [HY.out] at hed ⊢; have hLd := hLa.keep hk' hLa.lt (by omega); have hTd := hTa.keep hk' hTa.lt (by omega); have hvd := hva.keep hk' (Nat.le_refl _) (by omega); have hKd := hKa.trans (hk'.mono hKa.size); have hsd := Nat.le_trans hsa hk'.size; have x2d : w'.cell? ⟨w.heap.size + 1, 2, none⟩ = some (.int .u32 (m : Int)) := hLd.cell 2; have f2 := hLd.frozen 2; clear hk'))
          all_goals
            have HB : Below (w.heap.size + 1) w' (w'.setCell ⟨w.heap.size + 1, 2, none⟩ (.int .u32 (m2 : Int))) := (Below.refl _ _).setCell (p := ⟨w.heap.size + 1, 2, none⟩) (Nat.le_refl _) _
            have HK := kp_from HB (by omega)
            have q1 := hed.kp HK (fun k h => by omega) (by omega)
            have q2 := hLd.set 2 (.int .u32 (m2 : Int))
            have q3 := Own.other hvd (Ne.symm (hvd.no_blk hLd (by decide))) (i := 2) (.int .u32 (m2 : Int))
            have q4 := hTd.kp HK (by omega)
            have q5 := hKd.trans (Kept.of (HB.mono (by omega)))
            have q6 : w.heap.size + 2 ≤ (w'.setCell ⟨w.heap.size + 1, 2, none⟩ (.int .u32 (m2 : Int))).heap.size := Nat.le_trans hsd HB.size
            clear HB HK hed hLd hTd hvd hKd x2d f2 hor
            go_wp2
            go_roundw
            case rel => exact ⟨k + 1, by omega, by go_num, by rw [HS2.out]; exact q1, by rw [HM3.out]; exact q2, q3, q4, q5, q6⟩
            case measure => simp [intOf]; try omega
        · obtain rfl : k = 4 := by omega
          obtain ⟨m, hm⟩ : ∃ m, wordN (eBytes 4 c.2).1 = m := ⟨_, rfl⟩
          obtain ⟨st', hst⟩ : ∃ st', (eBytes 4 c.2).2 = st' := ⟨_, rfl⟩
          have hread := HREAD.out
          have hmlt : m < 4294967296 := by rw [← hm]; have := wordN_lt (eBytes 4 c.2).1; rwa [eBytes_len] at this
          rw [hm] at hLk hread
          rw [hst] at hek hread
          have x0 : wr.cell? ⟨w.heap.size + 1, 0, none⟩ = some (.slice Av 0 cv) := hLk.cell 0
          have x1 : wr.cell? ⟨w.heap.size + 1, 1, none⟩ = some (.int .i64 (c.1 : Int)) := hLk.cell 1
          have x2 : wr.cell? ⟨w.heap.size + 1, 2, none⟩ = some (.int .u32 (m : Int)) := hLk.cell 2
          have t0 : wr.cell? ⟨w.heap.size, 0, none⟩ = some (.slice none 0 0) := hTk.cell 0
          have t1 : wr.cell? ⟨w.heap.size, 1, none⟩ = some (.int .i64 0) := hTk.cell 1
          have t2 : wr.cell? ⟨w.heap.size, 2, none⟩ = some (.int .u32 0) := hTk.cell 2
          have g0 := hTk.frozen 0
          have g1 := hTk.frozen 1
          have g2 := hTk.frozen 2
          have HB : Below w.heap.size wr (((wr.setCell ⟨w.heap.size, 0, none⟩ (.slice Av 0 cv)).setCell ⟨w.heap.size, 1, none⟩ (.int .i64 (c.1 : Int))).setCell ⟨w.heap.size, 2, none⟩ (.int .u32 (m : Int))) := (((Below.refl _ _).setCell (p := ⟨w.heap.size, 0, none⟩) (Nat.le_refl _) _).setCell (p := ⟨w.heap.size, 1, none⟩) (Nat.le_refl _) _).setCell (p := ⟨w.heap.size, 2, none⟩) (Nat.le_refl _) _
          have HK := kp_from HB (by omega)
          have q1 := hek.kp HK (fun k h => by omega) (by omega)
          have hT5 := ((hTk.set 0 (.slice Av 0 cv)).set 1 (.int .i64 (c.1 : Int))).set 2 (.int .u32 (m : Int))
          have n1 := Ne.symm (hvk.no_blk hTk (by decide))
          have q3 := Own.other (Own.other (Own.other hvk n1 (i := 0) (.slice Av 0 cv)) n1 (i := 1) (.int .i64 (c.1 : Int))) n1 (i := 2) (.int .u32 (m : Int))
          have q5 := hKk.trans (Kept.of HB)
          clear hek hLk hvk hTk hKk HB HK
          go_wp2
          refine bodyPost_ret (readLog_res (T := w.heap.size) rfl hT5) rfl ?_
          have hTn : (BitVec.ofNat 32 m).toNat = m := by rw [BitVec.toNat_ofNat]; omega
          obtain ⟨A5, c5, e5, -, hr5, hA5⟩ := q3.read
          injection e5 with e51 e52 e53
          subst e51 e53
          refine ⟨⟨xs, (c.1 : Int), BitVec.ofNat 32 m⟩, st', Av, cv, hread, ?_, hr5, fun ad e => ⟨by have := hA5 ad e; omega, ?_⟩, q1, q5⟩
          · unfold logV; simp only [hTn, HXL.out]
          · subst e
            exact (World.ownsRow.lt q3 ad.block (by simp [Value.ownBlock])).2
  · obtain rfl : n = a.1 := by rw [← hn]; unfold cap96; rw [if_neg hbig]
    clear hn
    go_wp2_with fail
    go_loopw [11] (fun i wr => ∃ (k : Nat) (v : Value), k ≤ a.1 ∧ i = .int .i64 (k : Int) ∧ EyeD D wr g (eBytes k a.2).2 ∧ Blk wr (w.heap.size + 1) 38 #[v, .int .i64 0, .int .u32 0] ∧ Own wr (w.heap.size + 2) 3 v (((eBytes k a.2).1.map bi).map ei) ∧ Blk wr w.heap.size 38 #[.slice none 0 0, .int .i64 0, .int .u32 0] ∧ Kept g w.heap.size w wr ∧ w.heap.size + 2 ≤ wr.heap.size) (fun i _ => a.1 - (intOf i).toNat)
    case atStart => exact ⟨0, _, Nat.zero_le _, rfl, h1, L1, Own.nil _ _ _, T1, K1, by omega⟩
    case round =>
      obtain ⟨k, v, hk, rfl, hek, hLk, hvk, hTk, hKk, hsk⟩ := hrel
      by_cases hlt : k < a.1
      · obtain ⟨xs, hxs⟩ : ∃ xs, (eBytes k a.2).1.map bi = xs := ⟨_, rfl⟩
        have hxl : xs.length = k := by rw [← hxs, List.length_map, eBytes_len]
        obtain ⟨y, hy⟩ : ∃ y, eByte (eBytes k a.2).2 = y := ⟨_, rfl⟩
        have hst : eBytes (k + 1) a.2 = ((eBytes k a.2).1 ++ [y.1], y.2) := by rw [eBytes, hy]
        have hxs2 : ((eBytes (k + 1) a.2).1).map bi = xs ++ [bi y.1] := by rw [hst, ← hxs]; simp
        have hst2 : (eBytes (k + 1) a.2).2 = y.2 := by rw [hst]
        rw [hxs] at hvk
        obtain ⟨Av, cv, rfl, -, -, -⟩ := hvk.read
        have e1 : (xs.map ei).length = k := by rw [List.length_map, hxl]
        rw [e1] at hvk hLk
        have hkd := bdr (Below.refl wr.heap.size wr)
        have hea := hek.kp (F := fun _ => False) (Kp.of hkd) (fun _ h => h.elim) (fun h => h)
        have hLa := hLk.below hkd
        have hTa := hTk.below hkd
        have hva := hvk.below hkd
        have hKa := hKk.trans (Kept.of (hkd.mono hKk.size))
        have hga : g < wr.drew.heap.size := Nat.lt_of_lt_of_le hg hKa.size
        have x0a : wr.drew.cell? ⟨w.heap.size + 1, 0, none⟩ = some (.slice Av k cv) := hLa.cell 0
        have hsa : w.heap.size + 2 ≤ wr.drew.heap.size := hsk
        have hwr : IntKind.i64.wrap (y.1.toNat : Int) = (y.1.toNat : Int) := by have := y.1.toNat_lt; rw [IntKind.wrap_i64]; omega
        have HY := Lib.hid hy
        have HX2 := Lib.hid hxs2
        have HS2 := Lib.hid hst2
        have HXL : Hid (xs.length = k) := Lib.hid hxl
        clear hek hLk hTk hvk hKk hy hst hxs2 hst2 hxs hxl hsk hkd e1
        go_wp2
        go_region_law (first
          | (refine step_app (by rfl) (by rfl) _ _ 35 35 (by rfl) _ _ _ _ (by rfl) (by rfl) HRN.out ?_)
          | (go_simp; go_at_call 90; (with_reducible refine (eye_byteD D g _ _ hea hga).mono ?_); rintro e w' ⟨rfl, hed, hk'⟩; rw [HY.out] at hed ⊢; have hLd := hLa.keep hk' hLa.lt (by omega); have hTd := hTa.keep hk' hTa.lt (by omega); have hvd := hva.keep hk' (Nat.le_refl _) (by omega); have hKd := hKa.trans (hk'.mono hKa.size); have hsd := Nat.le_trans hsa hk'.size; have x0d : w'.cell? ⟨w.heap.size + 1, 0, none⟩ = some (.slice Av k cv) := hLd.cell 0; clear hk'; obtain ⟨A9, c9, w9, hrun, ho9, hb9⟩ := append_num w' (w.heap.size + 2) _ xs hvd (y.1.toNat : Int) (by rw [HXL.out]; omega) hsd; rw [HXL.out] at hrun ho9; have x0e : (w'.alloc (.cells #[.int .i64 (y.1.toNat : Int)] 3)).cell? ⟨w.heap.size + 1, 0, none⟩ = some (.slice Av k cv) := (hLd.alloc _).cell 0; have hL9 : Blk w9 (w.heap.size + 1) 38 #[.slice Av k cv, .int .i64 0, .int .u32 0] := (hb9.block (w.heap.size + 1) (by omega)).trans hLd; have x0f : w9.cell? ⟨w.heap.size + 1, 0, none⟩ = some (.slice Av k cv) := hL9.cell 0; have f9 := hL9.frozen 0; have HRN := Lib.hid hrun; clear hrun))
        all_goals
          have HB : Below (w.heap.size + 1) w' (w9.setCell ⟨w.heap.size + 1, 0, none⟩ (.slice A9 (k + 1) c9)) := (show Below (w.heap.size + 1) w' w9 from hb9.mono (by omega)).setCell (p := ⟨w.heap.size + 1, 0, none⟩) (Nat.le_refl _) _
          have HK := kp_from HB (by omega)
          have q1 := hed.kp HK (fun k h => by omega) (by omega)
          have q2 := hL9.set 0 (.slice A9 (k + 1) c9)
          have q3 := Own.other ho9 (Ne.symm (ho9.no_blk hL9 (by decide))) (i := 0) (.slice A9 (k + 1) c9)
          have q4 := hTd.kp HK (by omega)
          have q5 := hKd.trans (Kept.of (HB.mono (by omega)))
          have q6 : w.heap.size + 2 ≤ (w9.setCell ⟨w.heap.size + 1, 0, none⟩ (.slice A9 (k + 1) c9)).heap.size := Nat.le_trans hsd HB.size
          clear HB HK hed hLd hTd hvd hKd x0d x0e x0f f9 hL9 ho9 hb9 HRN
          go_wp2
          go_roundw
          case rel => exact ⟨k + 1, .slice A9 (k + 1) c9, by omega, by go_num, by rw [HS2.out]; exact q1, q2, by rw [HX2.out]; exact q3, q4, q5, q6⟩
          case measure => simp [intOf]; try omega
      · obtain rfl : k = a.1 := by omega
        obtain ⟨xs, hxs⟩ : ∃ xs, (eBytes a.1 a.2).1.map bi = xs := ⟨_, rfl⟩
        have hxl : xs.length = a.1 := by rw [← hxs, List.length_map, eBytes_len]
        obtain ⟨b, hb⟩ : ∃ b, (eBytes a.1 a.2).2 = b := ⟨_, rfl⟩
        obtain ⟨c, hc⟩ : ∃ c, eNum b = c := ⟨_, rfl⟩
        have hread : readL st = (⟨xs, (c.1 : Int), BitVec.ofNat 32 (wordN (eBytes 4 c.2).1)⟩, (eBytes 4 c.2).2) := by
          rw [HR.out, HA.out, HN.out, hxs, hb, hc]
        rw [hxs] at hvk
        rw [hb] at hek
        obtain ⟨Av, cv, rfl, -, -, -⟩ := hvk.read
        have e1 : (xs.map ei).length = a.1 := by rw [List.length_map, hxl]
        rw [e1] at hvk hLk
        have hlc : c.1 ≤ 4611686018427387904 := by rw [← hc]; exact eNumGo_le 9 0 0 _
        have hgk : g < wr.heap.size := Nat.lt_of_lt_of_le hg hKk.size
        have HREAD := Lib.hid hread
        have HXL : Hid (xs.length = a.1) := Lib.hid hxl
        have HC := Lib.hid hc
        clear hread hxl hxs hb hc e1
        go_wp2_with fail
        refine (eye_numD D g _ wr hek hgk).mono ?_
        rintro e w3 ⟨rfl, h3, hk3⟩
        rw [HC.out] at h3 ⊢
        have hs3 := Nat.le_trans hsk hk3.size
        have hL3 := hLk.keep hk3 hLk.lt (by omega)
        have hT3 := hTk.keep hk3 hTk.lt (by omega)
        have hv3 := hvk.keep hk3 (Nat.le_refl _) (by omega)
        have hK3 := hKk.trans (hk3.mono hKk.size)
        have x1 : w3.cell? ⟨w.heap.size + 1, 1, none⟩ = some (.int .i64 0) := hL3.cell 1
        have f1 := hL3.frozen 1
        have HB4 : Below (w.heap.size + 1) w3 (w3.setCell ⟨w.heap.size + 1, 1, none⟩ (.int .i64 (c.1 : Int))) := (Below.refl _ _).setCell (p := ⟨w.heap.size + 1, 1, none⟩) (Nat.le_refl _) _
        have HK4 := kp_from HB4 (by omega)
        have h4 := h3.kp HK4 (fun k h => by omega) (by omega)
        have hL4 := hL3.set 1 (.int .i64 (c.1 : Int))
        have hv4 := Own.other hv3 (Ne.symm (hv3.no_blk hL3 (by decide))) (i := 1) (.int .i64 (c.1 : Int))
        have hT4 := hT3.kp HK4 (by omega)
        have hK4 := hK3.trans (Kept.of (HB4.mono (by omega)))
        have hs4 : w.heap.size + 2 ≤ (w3.setCell ⟨w.heap.size + 1, 1, none⟩ (.int .i64 (c.1 : Int))).heap.size := Nat.le_trans hs3 HB4.size
        clear HB4 HK4 h3 hL3 hv3 hT3 hK3 hs3 hk3 hek hLk hTk hvk hKk hsk hgk
        go_wp2_with fail
        generalize (w3.setCell ⟨w.heap.size + 1, 1, none⟩ (.int .i64 (c.1 : Int))) = W4 at *
        have hw0 : (.int .u32 0 : Value) = .int .u32 ((wordN (eBytes 0 c.2).1 : Nat) : Int) := rfl
        rw [hw0] at hL4
        obtain ⟨wo, rfl⟩ : ∃ wo : World, wo = wr := ⟨_, rfl⟩
        go_loopw [25] (fun i wr => ∃ k : Nat, k ≤ 4 ∧ i = .int .i64 (k : Int) ∧ EyeD D wr g (eBytes k c.2).2 ∧ Blk wr (w.heap.size + 1) 38 #[.slice Av a.1 cv, .int .i64 (c.1 : Int), .int .u32 ((wordN (eBytes k c.2).1 : Nat) : Int)] ∧ Own wr (w.heap.size + 2) 3 (.slice Av a.1 cv) (xs.map ei) ∧ Blk wr w.heap.size 38 #[.slice none 0 0, .int .i64 0, .int .u32 0] ∧ Kept g w.heap.size w wr ∧ w.heap.size + 2 ≤ wr.heap.size) (fun i _ => 4 - (intOf i).toNat)
        case atStart => exact ⟨0, by omega, rfl, h4, hL4, hv4, hT4, hK4, hs4⟩
        case round =>
          clear h4 hL4 hv4 hT4 hK4 hs4 hw0 x1 f1
          obtain ⟨k, hk, rfl, hek, hLk, hvk, hTk, hKk, hsk⟩ := hrel
          by_cases hlt : k < 4
          · obtain ⟨y, hy⟩ : ∃ y, eByte (eBytes k c.2).2 = y := ⟨_, rfl⟩
            have hst : eBytes (k + 1) c.2 = ((eBytes k c.2).1 ++ [y.1], y.2) := by rw [eBytes, hy]
            obtain ⟨m, hm⟩ : ∃ m, wordN (eBytes k c.2).1 = m := ⟨_, rfl⟩
            have hmlt : m < 2 ^ (8 * k) := by rw [← hm]; have := wordN_lt (eBytes k c.2).1; rwa [eBytes_len] at this
            have hm2 : wordN (eBytes (k + 1) c.2).1 = m + y.1.toNat * 2 ^ (8 * k) := by rw [hst, wordN_snoc, hm, eBytes_len]
            have hor := or_word' m k y.1 (by omega) hmlt
            rw [← hm2] at hor
            rw [hm] at hLk
            have hst2 : (eBytes (k + 1) c.2).2 = y.2 := by rw [hst]
            obtain ⟨m2, hm3⟩ : ∃ m2, wordN (eBytes (k + 1) c.2).1 = m2 := ⟨_, rfl⟩
            rw [hm3] at hor
            have hkd := bdr (Below.refl wr.heap.size wr)
            have hea := hek.kp (F := fun _ => False) (Kp.of hkd) (fun _ h => h.elim) (fun h => h)
            have hLa := hLk.below hkd
            have hTa := hTk.below hkd
            have hva := hvk.below hkd
            have hKa := hKk.trans (Kept.of (hkd.mono hKk.size))
            have hga : g < wr.drew.heap.size := Nat.lt_of_lt_of_le hg hKa.size
            have x2a : wr.drew.cell? ⟨w.heap.size + 1, 2, none⟩ = some (.int .u32 (m : Int)) := hLa.cell 2
            have hsa : w.heap.size + 2 ≤ wr.drew.heap.size := hsk
            have HY := Lib.hid hy
            have HM3 := Lib.hid hm3
            have HS2 := Lib.hid hst2
            clear hek hLk hTk hvk hKk hy hst hm2 hst2 hm hsk hkd hm3 hmlt
            go_wp2
            go_region_law (first
              | (go_simp; go_at_call 90; (with_reducible refine (eye_byteD D g _ _ hea hga).mono ?_); rintro e w' ⟨rfl, hed, hk'⟩; rw [HY.out] at hed ⊢; have hLd := hLa.keep hk' hLa.lt (by omega); have hTd := hTa.keep hk' hTa.lt (by omega); have hvd := hva.keep hk' (Nat.le_refl _) (by omega); have hKd := hKa.trans (hk'.mono hKa.size); have hsd := Nat.le_trans hsa hk'.size; have x2d : w'.cell? ⟨w.heap.size + 1, 2, none⟩ = some (.int .u32 (m : Int)) := hLd.cell 2; have f2 := hLd.frozen 2; clear hk'))
            all_goals
              have HB : Below (w.heap.size + 1) w' (w'.setCell ⟨w.heap.size + 1, 2, none⟩ (.int .u32 (m2 : Int))) := (Below.refl _ _).setCell (p := ⟨w.heap.size + 1, 2, none⟩) (Nat.le_refl _) _
              have HK := kp_from HB (by omega)
              have q1 := hed.kp HK (fun k h => by omega) (by omega)
              have q2 := hLd.set 2 (.int .u32 (m2 : Int))
              have q3 := Own.other hvd (Ne.symm (hvd.no_blk hLd (by decide))) (i := 2) (.int .u32 (m2 : Int))
              have q4 := hTd.kp HK (by omega)
              have q5 := hKd.trans (Kept.of (HB.mono (by omega)))
              have q6 : w.heap.size + 2 ≤ (w'.setCell ⟨w.heap.size + 1, 2, none⟩ (.int .u32 (m2 : Int))).heap.size := Nat.le_trans hsd HB.size
              clear HB HK hed hLd hTd hvd hKd x2d f2 hor
              go_wp2
              go_roundw
              case rel => exact ⟨k + 1, by omega, by go_num, by rw [HS2.out]; exact q1, by rw [HM3.out]; exact q2, q3, q4, q5, q6⟩
              case measure => simp [intOf]; try omega
          · obtain rfl : k = 4 := by omega
            obtain ⟨m, hm⟩ : ∃ m, wordN (eBytes 4 c.2).1 = m := ⟨_, rfl⟩
            obtain ⟨st', hst⟩ : ∃ st', (eBytes 4 c.2).2 = st' := ⟨_, rfl⟩
            have hread := HREAD.out
            have hmlt : m < 4294967296 := by rw [← hm]; have := wordN_lt (eBytes 4 c.2).1; rwa [eBytes_len] at this
            rw [hm] at hLk hread
            rw [hst] at hek hread
            have x0 : wr.cell? ⟨w.heap.size + 1, 0, none⟩ = some (.slice Av a.1 cv) := hLk.cell 0
            have x1 : wr.cell? ⟨w.heap.size + 1, 1, none⟩ = some (.int .i64 (c.1 : Int)) := hLk.cell 1
            have x2 : wr.cell? ⟨w.heap.size + 1, 2, none⟩ = some (.int .u32 (m : Int)) := hLk.cell 2
            have t0 : wr.cell? ⟨w.heap.size, 0, none⟩ = some (.slice none 0 0) := hTk.cell 0
            have t1 : wr.cell? ⟨w.heap.size, 1, none⟩ = some (.int .i64 0) := hTk.cell 1
            have t2 : wr.cell? ⟨w.heap.size, 2, none⟩ = some (.int .u32 0) := hTk.cell 2
            have g0 := hTk.frozen 0
            have g1 := hTk.frozen 1
            have g2 := hTk.frozen 2
            have HB : Below w.heap.size wr (((wr.setCell ⟨w.heap.size, 0, none⟩ (.slice Av a.1 cv)).setCell ⟨w.heap.size, 1, none⟩ (.int .i64 (c.1 : Int))).setCell ⟨w.heap.size, 2, none⟩ (.int .u32 (m : Int))) := (((Below.refl _ _).setCell (p := ⟨w.heap.size, 0, none⟩) (Nat.le_refl _) _).setCell (p := ⟨w.heap.size, 1, none⟩) (Nat.le_refl _) _).setCell (p := ⟨w.heap.size, 2, none⟩) (Nat.le_refl _) _
            have HK := kp_from HB (by omega)
            have q1 := hek.kp HK (fun k h => by omega) (by omega)
            have hT5 := ((hTk.set 0 (.slice Av a.1 cv)).set 1 (.int .i64 (c.1 : Int))).set 2 (.int .u32 (m : Int))
            have n1 := Ne.symm (hvk.no_blk hTk (by decide))
            have q3 := Own.other (Own.other (Own.other hvk n1 (i := 0) (.slice Av a.1 cv)) n1 (i := 1) (.int .i64 (c.1 : Int))) n1 (i := 2) (.int .u32 (m : Int))
            have q5 := hKk.trans (Kept.of HB)
            clear hek hLk hvk hTk hKk HB HK
            go_wp2
            refine bodyPost_ret (readLog_res (T := w.heap.size) rfl hT5) rfl ?_
            have hTn : (BitVec.ofNat 32 m).toNat = m := by rw [BitVec.toNat_ofNat]; omega
            obtain ⟨A5, c5, e5, -, hr5, hA5⟩ := q3.read
            injection e5 with e51 e52 e53
            subst e51 e53
            refine ⟨⟨xs, (c.1 : Int), BitVec.ofNat 32 m⟩, st', Av, cv, hread, ?_, hr5, fun ad e => ⟨by have := hA5 ad e; omega, ?_⟩, q1, q5⟩
            · unfold logV; simp only [hTn, HXL.out]
            · subst e
              exact (World.ownsRow.lt q3 ad.block (by simp [Value.ownBlock])).2
end Go.Proofs.Ytangfnenfhkokaa
