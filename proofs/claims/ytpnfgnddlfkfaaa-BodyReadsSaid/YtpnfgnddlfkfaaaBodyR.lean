/-
  Bodies: Read.
-/
import Derived.Test.YtpnfgnddlfkfaaaBodyP
import Derived.Test.YtpnfgnddlfkfaaaChunkPut
import Derived.Laws.CopyOwn
import Derived.Deep.RegionLaw
set_option linter.unusedSimpArgs false
set_option linter.unusedVariables false
namespace Go.Proofs.Ytpnfgnddlfkfaaa
open Go.RowKit Go.Maps

/-- what of a piece lies in a range -/
def cutP (p : Part) (x y : Int) : Option Part := (aheadP p y).bind fun q => behindP q x
def readGo (s : CSt) (x y : Int) : List Part → List UInt8 → Option (List UInt8)
  | [], out => some out
  | p :: ps, out => match cutP p x y with
    | none => readGo s x y ps out
    | some q => if ((s.l q.chunk).getD []).length < (q.at_ + q.len).toNat then none else readGo s x y ps (splice out (q.off - x).toNat ((((s.l q.chunk).getD []).drop q.at_.toNat).take q.len.toNat))
theorem readGo_cons (s : CSt) (x y : Int) (p : Part) (ps : List Part) (out : List UInt8) : readGo s x y (p :: ps) out = (match (aheadP p y).bind fun q => behindP q x with
    | none => readGo s x y ps out
    | some q => if ((s.l q.chunk).getD []).length < (q.at_ + q.len).toNat then none else readGo s x y ps (splice out (q.off - x).toNat ((((s.l q.chunk).getD []).drop q.at_.toNat).take q.len.toNat))) := rfl
def readR (s : CSt) (size : Int) (ps : List Part) (off n : Int) : List UInt8 × Int :=
  if 0 ≤ off ∧ 0 ≤ n ∧ n ≤ 4096 ∧ bodyMay size ps = true then
    (if off < min size (off + n) then (match readGo s off (min size (off + n)) ps (List.replicate (min size (off + n) - off).toNat 0) with | some out => (out, 0) | none => ([], 13)) else ([], 0))
  else ([], 1)
theorem ahead_near {p q : Part} {x : Int} (h : near p) (ha : aheadP p x = some q) : near q ∧ q.off + q.len ≤ x ∧ q.chunk = p.chunk ∧ q.off + q.len ≤ p.off + p.len := by
  unfold aheadP at ha
  split at ha
  · cases ha
  · cases ha
    obtain ⟨h0, h1, h2, h3, h4, h5⟩ := h
    refine ⟨⟨h0, h1, ?_, ?_, h4, h5⟩, ?_, rfl, ?_⟩ <;> simp only <;> omega
theorem behind_near {p q : Part} {x : Int} (hx : 0 ≤ x) (h : near p) (hx2 : x ≤ 2199023255552) (hb : behindP p x = some q) (hat : p.at_ ≤ 64 - p.len) : (near q ∧ q.at_ ≤ 64 - q.len) ∧ x ≤ q.off ∧ q.chunk = p.chunk ∧ q.off + q.len = p.off + p.len := by
  unfold behindP at hb
  obtain ⟨h0, h1, h2, h3, h4, h5⟩ := h
  split at hb
  · cases hb
  · split at hb
    · cases hb
      refine ⟨⟨⟨by simp only; omega, by simp only; omega, by simp only; omega, by simp only; omega, by simp only; omega, by simp only; omega⟩, by simp only; omega⟩, by simp only; omega, rfl, by simp only; omega⟩
    · cases hb
      exact ⟨⟨⟨h0, h1, h2, h3, h4, h5⟩, hat⟩, by omega, rfl, rfl⟩
theorem splice_length {α : Type} (l : List α) (i : Nat) (cs : List α) (h : i + cs.length ≤ l.length) : (splice l i cs).length = l.length := by
  unfold splice
  simp only [List.length_append, List.length_take, List.length_drop]
  omega
theorem splice_map {α β : Type} (f : α → β) (l : List α) (i : Nat) (cs : List α) : splice (l.map f) i (cs.map f) = (splice l i cs).map f := by
  unfold splice
  simp [List.map_take, List.map_drop]
theorem partsOk_fits {size x : Int} {ps : List Part} (h : partsOk size x ps = true) : ∀ p ∈ ps, fits p = true := by
  induction ps generalizing x with
  | nil => intro p hp; cases hp
  | cons q ps ih =>
    rw [partsOk_cons] at h
    simp only [Bool.and_eq_true, decide_eq_true_eq] at h
    intro p hp
    rcases List.mem_cons.1 hp with rfl | hp
    · exact h.1.1.1
    · exact ih h.2 p hp
theorem bodyMay_fits {size : Int} {ps : List Part} (h : bodyMay size ps = true) : ∀ p ∈ ps, fits p = true := by
  unfold bodyMay at h
  rw [Bool.and_eq_true] at h
  exact partsOk_fits h.2
theorem blk_set4 {w : World} {T : Nat} {e : TypeId} {a0 a1 a2 a3 v0 v1 v2 v3 : Value} (h : Blk w T e #[a0, a1, a2, a3]) : Blk ((((w.setCell ⟨T, 0, none⟩ v0).setCell ⟨T, 1, none⟩ v1).setCell ⟨T, 2, none⟩ v2).setCell ⟨T, 3, none⟩ v3) T e #[v0, v1, v2, v3] := (((h.set 0 v0).set 1 v1).set 2 v2).set 3 v3
theorem below_set4 (w : World) (B T : Nat) (h : B ≤ T) (v0 v1 v2 v3 : Value) : Below B w ((((w.setCell ⟨T, 0, none⟩ v0).setCell ⟨T, 1, none⟩ v1).setCell ⟨T, 2, none⟩ v2).setCell ⟨T, 3, none⟩ v3) := ((((Below.refl B w).setCell h v0).setCell h v1).setCell h v2).setCell h v3
theorem read_max : maxLen = 9223372036854775807 := rfl

set_option maxRecDepth 100000 in
set_option maxHeartbeats 4000000 in
theorem body_readF (gc : Nat) (P : Nat → Prop) (nc : Nat) (s : CSt) (size : Int) (A : Option Addr) (m c : Nat) (ps : List Part) (off n : Int) (w : World) (hm : ps.length = m) (hl : m ≤ 100000) (hr : Rd w A (pcs ps)) (hc : Chunks w gc P nc s) (hsl : ∀ id b, s.l id = some b → b.length ≤ 1000) (hoff : off ≤ 1099511627776) (hoff2 : -9223372036854775808 ≤ off) (hn1 : -9223372036854775808 ≤ n) (hn2 : n ≤ 9223372036854775807) :
    Calls Try.prog 25 #[bv size A m c, .pointer (some ⟨gc, 0, none⟩), .int .i64 off, .int .i64 n] w fun e w' => ∃ A' c', e = .returned (.tuple #[.slice A' (readR s size ps off n).1.length c', .int .i64 (readR s size ps off n).2]) ∧ RB w' A' (readR s size ps off n).1 ∧ (∀ ad, A' = some ad → w.heap.size ≤ ad.block) ∧ Below w.heap.size w w' := by
  subst hm
  have HR := Lib.hid hr
  have HM := fun W (h : Below w.heap.size w W) => body_may size A ps.length c ps W rfl (by omega) (hr.below h)
  unfold bv at HM ⊢
  replace HM := Lib.hid HM
  have HC := Lib.hid hc
  clear hr hc
  have hB0 := Blk.new w 46 #[.int .i64 size, .slice A ps.length c]
  have hb0 := bal (Below.refl w.heap.size w) (.cells #[.int .i64 size, .slice A ps.length c] 46)
  have hz0 : (w.alloc (.cells #[.int .i64 size, .slice A ps.length c] 46)).heap.size = w.heap.size + 1 := by simp
  by_cases hbad : off < 0 ∨ n < 0 ∨ 4096 < n
  · have HT : Hid (readR s size ps off n = ([], 1)) := Lib.hid (by unfold readR; rw [if_neg (by omega)])
    rw [HT.out]
    rcases (show off < 0 ∨ (0 ≤ off ∧ n < 0) ∨ (0 ≤ off ∧ 0 ≤ n ∧ 4096 < n) by omega) with h1 | ⟨h1, h2⟩ | ⟨h1, h2, h3⟩
    all_goals
      clear hbad
      go_enter Try.func25, Try.ntmps25
      go_wp2
      go_ret2
      exact ⟨none, 0, rfl, RB.nil _ _, (fun _ h => by cases h), hb0⟩
  have ho0 : 0 ≤ off := by omega
  have hn0 : 0 ≤ n := by omega
  have hn3 : n ≤ 4096 := by omega
  clear hbad
  cases hmay : bodyMay size ps with
  | false =>
    have HMM := Lib.hid hmay
    have HT : Hid (readR s size ps off n = ([], 1)) := Lib.hid (by unfold readR; rw [hmay, if_neg (by simp)])
    clear hmay
    rw [HT.out]
    go_enter Try.func25, Try.ntmps25
    go_wp2_with fail
    (with_reducible refine (HM.out _ hb0).mono ?_)
    rintro e w5 ⟨rfl, hb5⟩
    rw [HMM.out]
    go_wp2
    go_ret2
    exact ⟨none, 0, rfl, RB.nil _ _, (fun _ h => by cases h), bn hb0 hb5⟩
  | true =>
    have HMM := Lib.hid hmay
    obtain ⟨⟨hs0, hs1⟩, hnear⟩ := bodyMay_near hmay
    have HNEAR := Lib.hid hnear
    have HFITS := Lib.hid (bodyMay_fits hmay)
    clear hnear
    obtain ⟨y, hy⟩ : ∃ y, min size (off + n) = y := ⟨_, rfl⟩
    have HT : Hid (readR s size ps off n = if off < y then (match readGo s off y ps (List.replicate (y - off).toNat 0) with | some out => ((out, 0) : List UInt8 × Int) | none => ([], 13)) else ([], 0)) := Lib.hid (by unfold readR; rw [if_pos ⟨ho0, hn0, hn3, hmay⟩, hy])
    clear hmay
    generalize readR s size ps off n = RR at *
    have hmn : (size ≤ off + n ∧ y = size) ∨ (off + n < size ∧ y = off + n) := by omega
    clear hy
    go_enter Try.func25, Try.ntmps25
    go_wp2_with fail
    (with_reducible refine (HM.out _ hb0).mono ?_)
    rintro e w5 ⟨rfl, hb5⟩
    rw [HMM.out]
    have hB := hB0.below hb5
    have hbb := bn hb0 hb5
    have hz5 := hb5.size
    rw [hz0] at hz5
    have x0 : w5.cell? ⟨w.heap.size, 0, none⟩ = some (.int .i64 size) := hB.cell 0
    have x1 : w5.cell? ⟨w.heap.size, 1, none⟩ = some (.slice A ps.length c) := hB.cell 1
    have HBB := Lib.hid hbb
    have HBx := Lib.hid hB
    have HZ5 := Lib.hid hz5
    clear hB0 hb0 hb5 hB hbb hz0 hz5
    by_cases hlt : off < y
    · obtain ⟨N, hN⟩ : ∃ N : Nat, y - off = (N : Int) := ⟨(y - off).toNat, by omega⟩
      have hN1 : N ≤ 4096 := by omega
      have hN0 : 0 < N := by omega
      have HT2 : Hid (RR = (match readGo s off y ps (List.replicate N 0) with | some out => ((out, 0) : List UInt8 × Int) | none => ([], 13))) := Lib.hid (by rw [HT.out, if_pos hlt, hN]; rfl)
      have hmk := fun W : World => make_run (P := Try.prog) 23 5 (.int .u8 0) 1 Try.underlying23 info_u8 rfl (N : Int) (by omega) (by omega) (by omega) W
      simp only [show ((N : Nat) : Int).toNat = N by omega] at hmk
      have hy2 : y ≤ 1099511627776 := by omega
      clear HT
      go_upto_region 3 with (fail)
      go_cut [10] (fun s10 wx => s10 = .int .i64 y ∧ w5 = wx)
      case first =>
        rcases hmn with ⟨h1, rfl⟩ | ⟨h1, rfl⟩
        all_goals
          go_wp2
          go_meet
          exact ⟨rfl, rfl⟩
      case rest =>
        obtain ⟨rfl, rfl⟩ := hcut
        clear hmn
        have hG5 : Blk (w5.alloc (.cells (Array.replicate N (.int .u8 0)) 5)) w5.heap.size 5 ((List.replicate N (0 : UInt8)).map eb).toArray := by
          rw [show ((List.replicate N (0 : UInt8)).map eb).toArray = Array.replicate N (.int .u8 0) by rw [List.map_replicate]; simp [eb]]
          exact Blk.new w5 _ _
        have hb6 := bal (Below.refl w5.heap.size w5) (.cells (Array.replicate N (.int .u8 0)) 5)
        have x2 : (w5.alloc (.cells (Array.replicate N (.int .u8 0)) 5)).cell? ⟨w.heap.size, 1, none⟩ = some (.slice A ps.length c) := (HBx.out.alloc _).cell 1
        have HC5 := Lib.hid (HC.out.below HBB.out)
        go_wp2
        clear hmk
        go_loopw [53] (fun i wr => ∃ (k : Nat) (out : List UInt8), k ≤ ps.length ∧ i = .int .i64 (k : Int) ∧ out.length = N ∧ Hid (readGo s off y ps (List.replicate N 0) = readGo s off y (ps.drop k) out) ∧ Blk wr w5.heap.size 5 (out.map eb).toArray ∧ Below w5.heap.size w5 wr) (fun i _ => ps.length - (intOf i).toNat)
        case atStart => exact ⟨0, _, Nat.zero_le _, rfl, by simp, rfl, hG5, hb6⟩
        case round =>
          clear hG5 hb6 x0 x1 x2
          obtain ⟨k, out, hk, rfl, hout, hgo, hG, hb⟩ := hrel
          by_cases hlk : k < ps.length
          · obtain ⟨b, o, rfl, hblt, hcell⟩ := part_at HR.out k hlk
            have hbw := HBB.out.trans (hb.mono HBB.out.size)
            obtain ⟨q0, q1, q2, q3⟩ := hcell wr hbw
            have hn := HNEAR.out _ (List.getElem_mem hlk)
            have hf := (fits_iff _).1 (HFITS.out _ (List.getElem_mem hlk))
            have hdr : ps.drop k = ps[k] :: ps.drop (k + 1) := List.drop_eq_getElem_cons hlk
            have hgo2 := hgo.out
            rw [hdr, readGo_cons] at hgo2
            have HA := fun W => body_ahead ps[k] y (by omega) (by omega) W hn
            clear hcell hdr hgo
            generalize ps[k] = p at *
            have HGO := Lib.hid hgo2
            clear hgo2
            have i0 : (0 : Int) ≤ (k : Int) := by omega
            have i1 : (k : Int) < (ps.length : Int) := by omega
            cases ha : aheadP p y with
            | none =>
              rw [ha] at HA HGO
              simp only [Option.getD_none, Option.isSome_none, Option.bind_none] at HA HGO
              obtain ⟨po, pl, pch, pat⟩ := p
              rw [pv_mk] at HA
              simp only at q0 q1 q2 q3
              replace HA := Lib.hid HA
              clear hn hf
              go_wp2_with fail
              (with_reducible refine (HA.out _).mono ?_)
              rintro e w6 ⟨rfl, hb6⟩
              have hbq := bn (bal (Below.refl wr.heap.size wr) _) hb6
              have hG6 := (hG.below hbq).alloc (.cells #[.int .i64 0, .int .i64 0, .int .i64 0, .int .i64 0] 50)
              have hb7 := bal hbq (.cells #[.int .i64 0, .int .i64 0, .int .i64 0, .int .i64 0] 50)
              have hb8 := hb.trans (hb7.mono hb.size)
              clear hb6 hbq hb7 hG hb q0 q1 q2 q3 hbw
              rw [show pv zeroP = .agg #[.int .i64 0, .int .i64 0, .int .i64 0, .int .i64 0] from rfl]
              go_wp2
              go_roundw
              case rel => exact ⟨k + 1, out, by omega, by go_num, hout, HGO, hG6, hb8⟩
              case measure => simp [intOf]; try omega
            | some q =>
              obtain ⟨hqn, hqy, hqc, _⟩ := ahead_near hn ha
              have hqat : q.at_ ≤ 64 - q.len := by
                unfold aheadP at ha
                split at ha
                · cases ha
                · cases ha; simp only; omega
              have HQC := Lib.hid hqc
              clear hqc
              have HBH := fun W => body_behind q off ho0 (by omega) W hqn
              rw [ha] at HA HGO
              simp only [Option.getD_some, Option.isSome_some, Option.bind_some] at HA HGO
              cases hbh : behindP q off with
              | none =>
                rw [hbh] at HBH HGO
                simp only [Option.getD_none, Option.isSome_none] at HBH HGO
                obtain ⟨po, pl, pch, pat⟩ := p
                obtain ⟨qo, ql, qch, qat⟩ := q
                rw [pv_mk] at HA HBH
                simp only [pv_mk] at HA
                simp only at q0 q1 q2 q3
                replace HA := Lib.hid HA
                replace HBH := Lib.hid HBH
                clear hn hf
                go_wp2_with fail
                (with_reducible refine (HA.out _).mono ?_)
                rintro e w6 ⟨rfl, hb6⟩
                have hbq := bn (bal (Below.refl wr.heap.size wr) _) hb6
                have hG6 := (hG.below hbq).alloc (.cells #[.int .i64 qo, .int .i64 ql, .int .i64 qch, .int .i64 qat] 50)
                have hX6 := Blk.new w6 50 #[.int .i64 qo, .int .i64 ql, .int .i64 qch, .int .i64 qat]
                have hb7 := bal hbq (.cells #[.int .i64 qo, .int .i64 ql, .int .i64 qch, .int .i64 qat] 50)
                have hb8 := hb.trans (hb7.mono hb.size)
                have hz6 := hbq.size
                have hgl := hG.lt
                clear hb6 hbq hb7 hG hb q0 q1 q2 q3 hbw
                go_wp2_with fail
                (with_reducible refine (HBH.out _).mono ?_)
                rintro e w7 ⟨rfl, hb7⟩
                have hX7 := hX6.below hb7
                have hG7 := hG6.below hb7
                have hb9 := bn hb8 hb7
                have t0 : w7.cell? ⟨w6.heap.size, 0, none⟩ = some (.int .i64 qo) := hX7.cell 0
                have t1 : w7.cell? ⟨w6.heap.size, 1, none⟩ = some (.int .i64 ql) := hX7.cell 1
                have t2 : w7.cell? ⟨w6.heap.size, 2, none⟩ = some (.int .i64 qch) := hX7.cell 2
                have t3 : w7.cell? ⟨w6.heap.size, 3, none⟩ = some (.int .i64 qat) := hX7.cell 3
                have u0 := hX7.frozen 0
                have u1 := hX7.frozen 1
                have u2 := hX7.frozen 2
                have u3 := hX7.frozen 3
                have hGlt := hb8.size
                rw [show pv zeroP = .agg #[.int .i64 0, .int .i64 0, .int .i64 0, .int .i64 0] from rfl]
                have hG8 := (((hG7.other (a := ⟨w6.heap.size, 0, none⟩) (by simp only; omega) (.int .i64 0)).other (a := ⟨w6.heap.size, 1, none⟩) (by simp only; omega) (.int .i64 0)).other (a := ⟨w6.heap.size, 2, none⟩) (by simp only; omega) (.int .i64 0)).other (a := ⟨w6.heap.size, 3, none⟩) (by simp only; omega) (.int .i64 0)
                have hb10 := hb9.trans (below_set4 w7 w5.heap.size w6.heap.size (by omega) (.int .i64 0) (.int .i64 0) (.int .i64 0) (.int .i64 0))
                clear hb9 hb8 hb7 hG6 hG7 hX6 hX7
                go_wp2
                go_roundw
                case rel => exact ⟨k + 1, out, by omega, by go_num, hout, HGO, hG8, hb10⟩
                case measure => simp [intOf]; try omega
              | some r =>
                obtain ⟨⟨hrn, hrat⟩, hrx, hrc, hre⟩ := behind_near ho0 hqn (by omega) hbh hqat
                have HRC := Lib.hid hrc
                clear hrc
                rw [hbh] at HBH HGO
                simp only [Option.getD_some, Option.isSome_some] at HBH HGO
                obtain ⟨po, pl, pch, pat⟩ := p
                obtain ⟨qo, ql, qch, qat⟩ := q
                obtain ⟨ro, rl, rch, rat⟩ := r
                rw [pv_mk] at HA HBH
                simp only [pv_mk] at HA HBH
                simp only at q0 q1 q2 q3 hf hrn hrat hrx hre hqy HGO
                have hrch : 1 ≤ rch ∧ rch ≤ 4611686018427387904 := by
                  have e1 : rch = qch := HRC.out
                  have e2 : qch = pch := HQC.out
                  rw [e1, e2]
                  exact ⟨hf.2.2.1, hf.2.2.2.1⟩
                obtain ⟨rn0, rn1, rn2, rn3, rn4, rn5⟩ := hrn
                simp only at rn0 rn1 rn2 rn3 rn4 rn5
                replace HA := Lib.hid HA
                replace HBH := Lib.hid HBH
                have hre2 : ro + rl ≤ y := by omega
                clear hn hf hre hqn hqat hqy
                go_wp2_with fail
                (with_reducible refine (HA.out _).mono ?_)
                rintro e w6 ⟨rfl, hb6⟩
                have hbq := bn (bal (Below.refl wr.heap.size wr) _) hb6
                have hG6 := (hG.below hbq).alloc (.cells #[.int .i64 qo, .int .i64 ql, .int .i64 qch, .int .i64 qat] 50)
                have hX6 := Blk.new w6 50 #[.int .i64 qo, .int .i64 ql, .int .i64 qch, .int .i64 qat]
                have hb7 := bal hbq (.cells #[.int .i64 qo, .int .i64 ql, .int .i64 qch, .int .i64 qat] 50)
                have hb8 := hb.trans (hb7.mono hb.size)
                have hz6 := hbq.size
                have hgl := hG.lt
                clear hb6 hbq hb7 hG hb q0 q1 q2 q3 hbw
                go_wp2_with fail
                (with_reducible refine (HBH.out _).mono ?_)
                rintro e w7 ⟨rfl, hb7⟩
                have hX7 := hX6.below hb7
                have hG7 := hG6.below hb7
                have hb9 := bn hb8 hb7
                have t0 : w7.cell? ⟨w6.heap.size, 0, none⟩ = some (.int .i64 qo) := hX7.cell 0
                have t1 : w7.cell? ⟨w6.heap.size, 1, none⟩ = some (.int .i64 ql) := hX7.cell 1
                have t2 : w7.cell? ⟨w6.heap.size, 2, none⟩ = some (.int .i64 qch) := hX7.cell 2
                have t3 : w7.cell? ⟨w6.heap.size, 3, none⟩ = some (.int .i64 qat) := hX7.cell 3
                have u0 := hX7.frozen 0
                have u1 := hX7.frozen 1
                have u2 := hX7.frozen 2
                have u3 := hX7.frozen 3
                have hGlt := hb8.size
                have hX8 := blk_set4 (v0 := .int .i64 ro) (v1 := .int .i64 rl) (v2 := .int .i64 rch) (v3 := .int .i64 rat) hX7
                have hG8 := (((hG7.other (a := ⟨w6.heap.size, 0, none⟩) (by simp only; omega) (.int .i64 ro)).other (a := ⟨w6.heap.size, 1, none⟩) (by simp only; omega) (.int .i64 rl)).other (a := ⟨w6.heap.size, 2, none⟩) (by simp only; omega) (.int .i64 rch)).other (a := ⟨w6.heap.size, 3, none⟩) (by simp only; omega) (.int .i64 rat)
                have hb10 := hb9.trans (below_set4 w7 w5.heap.size w6.heap.size (by omega) (.int .i64 ro) (.int .i64 rl) (.int .i64 rch) (.int .i64 rat))
                have y2 : ((((w7.setCell ⟨w6.heap.size, 0, none⟩ (.int .i64 ro)).setCell ⟨w6.heap.size, 1, none⟩ (.int .i64 rl)).setCell ⟨w6.heap.size, 2, none⟩ (.int .i64 rch)).setCell ⟨w6.heap.size, 3, none⟩ (.int .i64 rat)).cell? ⟨w6.heap.size, 2, none⟩ = some (.int .i64 rch) := hX8.cell 2
                have hcg := HC5.out.below hb10
                clear hb9 hb8 hb7 hG6 hG7 hX6 hX7
                go_wp2_with fail
                (with_reducible refine (chunk_get gc P nc s rch (by omega) (by omega) _ hcg (fun b e => by have := hsl _ _ e; omega)).mono ?_)
                rintro e w9 ⟨v9, rfl, ho9, hb11⟩
                obtain ⟨A9, c9, rfl, hc9, hr9⟩ := ho9.bytes
                have hX9 := hX8.below hb11
                have hG9 := hG8.below hb11
                have hb12 := bn hb10 hb11
                have z0 : w9.cell? ⟨w6.heap.size, 0, none⟩ = some (.int .i64 ro) := hX9.cell 0
                have z1 : w9.cell? ⟨w6.heap.size, 1, none⟩ = some (.int .i64 rl) := hX9.cell 1
                have z3 : w9.cell? ⟨w6.heap.size, 3, none⟩ = some (.int .i64 rat) := hX9.cell 3
                have hdl : ((s.l rch).getD []).length ≤ 1000 := by
                  cases h : s.l rch with
                  | none => simp
                  | some b => exact hsl _ _ h
                generalize (s.l rch).isSome = okc at *
                generalize (s.l rch).getD [] = data at *
                clear y2 hcg hb10 hb11 hX8 hG8 hX9 ho9 t0 t1 t2 t3 u0 u1 u2 u3
                by_cases hd : data.length < (rat + rl).toNat
                · have hRR : RR = ([], 13) := by
                    have h9 := HGO.out
                    rw [if_pos hd] at h9
                    rw [HT2.out, h9]
                  have HRR := Lib.hid hRR
                  have hd2 : (data.length : Int) < rat + rl := by omega
                  clear hRR hd
                  go_wp2
                  go_ret2
                  rw [HRR.out]
                  exact ⟨none, 0, rfl, RB.nil _ _, (fun _ h => by cases h), HBB.out.trans (hb12.mono HBB.out.size)⟩
                · have HGO2 : Hid (readGo s off y ps (List.replicate N 0) = readGo s off y (ps.drop (k + 1)) (splice out (ro - off).toNat ((data.drop rat.toNat).take rl.toNat))) := Lib.hid (by have h9 := HGO.out; rw [if_neg hd] at h9; exact h9)
                  have hd2 : rat + rl ≤ (data.length : Int) := by omega
                  clear hd HGO
                  obtain ⟨i, hi⟩ : ∃ i : Nat, ro - off = (i : Int) := ⟨(ro - off).toNat, by omega⟩
                  obtain ⟨L, rfl⟩ : ∃ L : Nat, rl = (L : Int) := ⟨rl.toNat, by omega⟩
                  obtain ⟨T, rfl⟩ : ∃ T : Nat, rat = (T : Int) := ⟨rat.toNat, by omega⟩
                  have hiL : i + L ≤ N := by omega
                  have hTL : T + L ≤ data.length := by omega
                  have hL1 : 1 ≤ L := by omega
                  obtain ⟨ds, hds⟩ : ∃ ds, (data.drop T).take L = ds := ⟨_, rfl⟩
                  have hdsl : ds.length = L := by rw [← hds, List.length_take, List.length_drop]; omega
                  rw [hi, show ((i : Nat) : Int).toNat = i by omega, show ((T : Nat) : Int).toNat = T by omega, show ((L : Nat) : Int).toNat = L by omega, hds] at HGO2
                  have hrd := Rd.drop hr9 T c9 (by rw [List.length_map]; exact hc9)
                  rw [if_neg (by omega), ← List.map_drop] at hrd
                  have HRD := Lib.hid (RB.take hrd L)
                  rw [hds] at HRD
                  have HDS := Lib.hid hds
                  have HDL := Lib.hid hdsl
                  clear hds hdsl hr9 hrd
                  have hwi : IntKind.i64.wrap (i : Int) = (i : Int) := by simp [IntKind.wrap, IntKind.signed, IntKind.bits]; omega
                  have hwt : IntKind.i64.wrap ((T : Int) + (L : Int)) = (T : Int) + (L : Int) := by simp [IntKind.wrap, IntKind.signed, IntKind.bits]; omega
                  have hi0 : (0 : Int) ≤ (i : Int) := by omega
                  have hi1 : (i : Int) ≤ (N : Int) := by omega
                  have hiN : ¬ N = i := by omega
                  have hT0 : (0 : Int) ≤ (T : Int) := by omega
                  have hTL0 : (0 : Int) ≤ (T : Int) + (L : Int) := by omega
                  have hTLc : (T : Int) + (L : Int) ≤ (c9 : Int) := by omega
                  have hTTL : (T : Int) ≤ (T : Int) + (L : Int) := by omega
                  have hTc : ¬ c9 = T := by omega
                  go_wp2
                  have hk9 : Below w5.heap.size w5 w9.drew := bdr hb12
                  have hg9 : w9.drew.heap[w5.heap.size]? = some (.cells (out.map eb).toArray 5 (0, 0)) := hG9
                  have hcn : (ds.map eb).length = Nat.min (((T : Int) + (L : Int)).toNat - T) (N - i) := by rw [List.length_map, HDL.out]; show L = min _ _; omega
                  have hcp : ∀ j v, (ds.map eb)[j]? = some v → ∃ ad, A9.map (fun x => x.add T) = some ad ∧ w9.drew.cell? (ad.add j) = some v := fun j v hj => HRD.out j v hj
                  have hcs : ∃ ad, A9.map (fun x => x.add T) = some ad := by
                    obtain ⟨ad, e, _⟩ := hcp 0 ((ds.map eb)[0]'(by rw [List.length_map, HDL.out]; omega)) (List.getElem?_eq_getElem _)
                    exact ⟨ad, e⟩
                  obtain ⟨ad9, had9⟩ := hcs
                  have hcq : ∀ j v, (ds.map eb)[j]? = some v → w9.drew.cell? (ad9.add j) = some v := fun j v hj => by
                    obtain ⟨ad, e, h⟩ := hcp j v hj
                    rw [had9] at e
                    cases e
                    exact h
                  have hcf : i + (ds.map eb).length ≤ (out.map eb).length := by rw [List.length_map, List.length_map, HDL.out, hout]; omega
                  have hc1 : ∀ v ∈ ds.map eb, v.oneCell' = true := fun v hv => by obtain ⟨x, _, rfl⟩ := List.mem_map.1 hv; rfl
                  have HCN := Lib.hid hcn
                  have HCF := Lib.hid hcf
                  have HAD := Lib.hid had9
                  clear hcn hcf had9 hcp
                  go_region_law (refine step_copy_splice (by rfl) _ _ 23 23 (by rfl) 5 Try.underlying23 (by kernel_rfl) _ _ _ _ _ _ (by rfl) (by rfl) w5.heap.size i (out.map eb) 5 hg9 (ds.map eb) HCN.out (fun _ => ⟨rfl, ad9, HAD.out, hcq⟩) HCF.out hc1 w5.heap.size w5 hk9 (Nat.le_refl _) ?_; intro w10 hg10 hb13)
                  all_goals
                    have hnew : Hid (Blk w10 w5.heap.size 5 ((splice out i ds).map eb).toArray) := Lib.hid (by rw [← splice_map]; exact hg10.out)
                    have hnl : (splice out i ds).length = N := by rw [splice_length _ _ _ (by rw [HDL.out, hout]; exact hiL), hout]
                    have HNL := Lib.hid hnl
                    clear hnl hg10
                    go_wp2
                    go_roundw
                    case rel => exact ⟨k + 1, splice out i ds, by omega, by go_num, HNL.out, HGO2, hnew.out, hb13⟩
                    case measure => simp [intOf]; try omega
          · obtain rfl : k = ps.length := by omega
            have hfin : RR = (out, 0) := by rw [HT2.out, hgo.out, List.drop_length]; rfl
            have HFIN := Lib.hid hfin
            have hrb : RB wr (some ⟨w5.heap.size, 0, none⟩) out := by
              intro j u hj
              refine ⟨_, rfl, ?_⟩
              have e1 : (⟨w5.heap.size, 0, none⟩ : Addr).add j = ⟨w5.heap.size, j, none⟩ := by unfold Addr.add; split <;> simp_all
              rw [e1, hG.cell]
              simpa using hj
            have HRB := Lib.hid hrb
            clear hrb hfin
            go_wp2
            go_ret2
            rw [HFIN.out]
            exact ⟨some ⟨w5.heap.size, 0, none⟩, N, by rw [hout]; rfl, HRB.out, (fun ad e => by cases e; have := HZ5.out; simp only; omega), HBB.out.trans (hb.mono HBB.out.size)⟩
    · have HT2 : Hid (RR = ([], 0)) := Lib.hid (by rw [HT.out, if_neg hlt])
      have hle : y ≤ off := by omega
      rcases hmn with ⟨h1, rfl⟩ | ⟨h1, rfl⟩
      all_goals
        clear hlt
        go_wp2
        go_ret2
        rw [HT2.out]
        exact ⟨none, 0, rfl, RB.nil _ _, (fun _ h => by cases h), HBB.out⟩
theorem body_read (gc : Nat) (P : Nat → Prop) (nc : Nat) (s : CSt) (size : Int) (A : Option Addr) (m c : Nat) (ps : List Part) (off n : Int) (w : World) (hm : ps.length = m) (hl : m ≤ 100000) (hr : Rd w A (pcs ps)) (hc : Chunks w gc P nc s) (hsl : ∀ id b, s.l id = some b → b.length ≤ 1000) (hoff : off ≤ 1099511627776) (hoff2 : -9223372036854775808 ≤ off) (hn1 : -9223372036854775808 ≤ n) (hn2 : n ≤ 9223372036854775807) :
    Calls Try.prog 25 #[bv size A m c, .pointer (some ⟨gc, 0, none⟩), .int .i64 off, .int .i64 n] w fun e w' => ∃ A' c', e = .returned (.tuple #[.slice A' (readR s size ps off n).1.length c', .int .i64 (readR s size ps off n).2]) ∧ RB w' A' (readR s size ps off n).1 ∧ Below w.heap.size w w' :=
  (body_readF gc P nc s size A m c ps off n w hm hl hr hc hsl hoff hoff2 hn1 hn2).mono fun _ _ ⟨A', c', h1, h2, _, h3⟩ => ⟨A', c', h1, h2, h3⟩
end Go.Proofs.Ytpnfgnddlfkfaaa
