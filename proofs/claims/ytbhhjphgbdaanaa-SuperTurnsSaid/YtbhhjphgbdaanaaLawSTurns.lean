/-
  SuperTurns.
-/
import Derived.Test.YtbhhjphgbdaanaaSArg
import Derived.Test.YtbhhjphgbdaanaaSupQ
set_option linter.unusedSimpArgs false
set_option linter.unusedVariables false
namespace Go.Proofs.Ytbhhjphgbdaanaa
open Go.RowKit Go.Maps

set_option maxRecDepth 100000 in
set_option maxHeartbeats 8000000 in
theorem sturns_walk (s : Sup) (A : Option Addr) (c : Nat) (A2 : Option Addr) (c2 : Nat) (segs : Int) (W : World) (h : SArg W s A A2) (hsg : wide segs) :
    Calls Try.prog 3 #[supV s A c A2 c2, .int .i64 segs] W fun e w' => e = .returned (.bool true) ∧ Below W.heap.size W w' := by
  unfold supV
  have B0 := Blk.new W 27 #[.int .i64 s.number, .int .i64 s.boot, .slice A s.jour.segs.length c, .int .i64 s.jour.len, .int .u32 (s.jour.last.toNat : Int), .slice A2 s.chunks.segs.length c2, .int .i64 s.chunks.len, .int .u32 (s.chunks.last.toNat : Int)]
  have b0 := bal (Below.refl W.heap.size W) (.cells #[.int .i64 s.number, .int .i64 s.boot, .slice A s.jour.segs.length c, .int .i64 s.jour.len, .int .u32 (s.jour.last.toNat : Int), .slice A2 s.chunks.segs.length c2, .int .i64 s.chunks.len, .int .u32 (s.chunks.last.toNat : Int)] 27)
  go_enter Try.func3, Try.ntmps3
  go_wp2_with fail
  generalize (W.alloc (.cells #[.int .i64 s.number, .int .i64 s.boot, .slice A s.jour.segs.length c, .int .i64 s.jour.len, .int .u32 (s.jour.last.toNat : Int), .slice A2 s.chunks.segs.length c2, .int .i64 s.chunks.len, .int .u32 (s.chunks.last.toNat : Int)] 27)) = W0 at *
  have HC := Lib.hid (fun (V : World) (hb : Below W0.heap.size W0 V) => box_cells B0 hb)
  have HA := Lib.hid (fun (V : World) (hb : Below W0.heap.size W0 V) => (h.below b0).below hb)
  have HB0 := Lib.hid b0
  clear B0 b0 h
  (with_reducible refine (law5_awake _).mono ?_)
  rintro e w1 ⟨rfl, hb⟩
  obtain ⟨x0, x1, x2, x3, x4, x5, x6, x7⟩ := HC.out _ hb
  by_cases g1 : (300 : Int) < (s.jour.segs.length : Int)
  · go_wp2
    go_ret
    exact ⟨rfl, bn HB0.out hb⟩
  by_cases g2 : (300 : Int) < (s.chunks.segs.length : Int)
  · go_wp2
    go_ret
    exact ⟨rfl, bn HB0.out hb⟩
  go_upto_region 5 with (fail)
  go_cut [5] (fun s5 wx => s5 = .int .i64 (min segs 96) ∧ wx = w1)
  case first =>
    by_cases g3 : segs ≤ 96
    · go_wp2
      go_meet
      exact ⟨by rw [Int.min_eq_left g3], rfl⟩
    · go_wp2
      go_meet
      exact ⟨by rw [Int.min_eq_right (by omega)], rfl⟩
  case rest =>
    obtain ⟨rfl, rfl⟩ := hcut
    obtain ⟨k, hk⟩ : ∃ k, min segs 96 = k := ⟨_, rfl⟩
    have hk96 : k ≤ 96 := by omega
    obtain ⟨r, hr⟩ : ∃ r, supMay s k = r := ⟨_, rfl⟩
    have HMAY := Lib.hid (fun (V : World) (hb : Below W0.heap.size W0 V) => arg_may (HA.out V hb) segs c c2 (by omega) (by omega) (r := r) (by rw [hk, hr]))
    have HRM := Lib.hid (fun (V : World) (hb : Below W0.heap.size W0 V) => arg_rmay (HA.out V hb) k c c2 (by omega) (by omega) hk96 hr)
    rw [hk]
    have HK := Lib.hid hk
    have HR := Lib.hid hr
    clear hk hr
    have HM := Lib.hid (arg_made s A c A2 c2)
    go_upto_region 6 with (fail)
    go_cut [34] (fun s34 wx => s34 = .bool false ∧ Below W0.heap.size W0 wx)
    case first =>
      replace hb := bdr hb
      go_region_held3 (fun V => V.cell? ⟨W.heap.size, 0, none⟩ = some (.int .i64 s.number) ∧ V.cell? ⟨W.heap.size, 1, none⟩ = some (.int .i64 s.boot) ∧ V.cell? ⟨W.heap.size, 2, none⟩ = some (.slice A s.jour.segs.length c) ∧ V.cell? ⟨W.heap.size, 3, none⟩ = some (.int .i64 s.jour.len) ∧ V.cell? ⟨W.heap.size, 4, none⟩ = some (.int .u32 (s.jour.last.toNat : Int)) ∧ V.cell? ⟨W.heap.size, 5, none⟩ = some (.slice A2 s.chunks.segs.length c2) ∧ V.cell? ⟨W.heap.size, 6, none⟩ = some (.int .i64 s.chunks.len) ∧ V.cell? ⟨W.heap.size, 7, none⟩ = some (.int .u32 (s.chunks.last.toNat : Int))) (exact HC.out _ hb)
        ((first
          | (go_at_call 17; (with_reducible refine (HM.out _).mono ?_); rintro e w' ⟨rfl, hb'⟩; replace hb := bn hb hb'; clear hb')
          | (go_at_call 16; (with_reducible refine (HMAY.out _ hb).mono ?_); rintro e w' ⟨rfl, hb'⟩; replace hb := bn hb hb'; clear hb')
          | (go_at_call 18; (with_reducible refine (HRM.out _ hb).mono ?_); rintro e w' ⟨rfl, hb'⟩; replace hb := bn hb hb'; clear hb')))
      all_goals (go_wp2_with fail; go_meet)
      all_goals exact ⟨by simp, hb⟩
    case rest =>
      clear hb x0 x1 x2 x3 x4 x5 x6 x7
      obtain ⟨rfl, hb⟩ := hcut
      obtain ⟨x0, x1, x2, x3, x4, x5, x6, x7⟩ := HC.out _ hb
      go_wp2_with fail
      (with_reducible refine (HM.out _).mono ?_)
      rintro e w2 ⟨rfl, hb'⟩
      replace hb := bn hb hb'
      clear hb' x0 x1 x2 x3 x4 x5 x6 x7
      have hA := HA.out _ hb
      cases hm : supMay s 96 with
      | false =>
        have HBY := Lib.hid (super_bytes_no s A c A2 c2 w2 hA.r1 hA.r2 hA.w1 hA.w2 hA.a1 hA.a2 (by omega) (by omega) hm)
        unfold supV at HBY
        have HRM2 := Lib.hid (fun (V : World) (hb : Below W0.heap.size W0 V) => arg_rmay (HA.out V hb) 96 c c2 (by omega) (by omega) (by omega) hm)
        clear hA hm
        go_wp2_with fail
        (with_reducible refine HBY.out.mono ?_)
        rintro e w3 ⟨rfl, hb'⟩
        replace hb := bn hb hb'
        obtain ⟨x0, x1, x2, x3, x4, x5, x6, x7⟩ := HC.out _ hb
        clear hb'
        go_wp2_with fail
        (with_reducible refine (HRM2.out _ hb).mono ?_)
        rintro e w4 ⟨rfl, hb'⟩
        replace hb := bn hb hb'
        go_wp2
        go_ret
        exact ⟨rfl, bn HB0.out hb⟩
      | true =>
        have F := mayF s hm
        have HBY := Lib.hid (super_bytes s A c A2 c2 w2 hA.r1 hA.r2 hA.w1 hA.w2 hA.a1 hA.a2 (by omega) (by omega) hA.l1 hA.l2 hm F.len)
        unfold supV at HBY
        have HRM2 := Lib.hid (fun (V : World) (hb : Below W0.heap.size W0 V) => arg_rmay (HA.out V hb) 96 c c2 (by omega) (by omega) (by omega) hm)
        have HRB := Lib.hid (fun (V : World) (hb : Below W0.heap.size W0 V) => ref_bytes s A c A2 c2 V (HA.out V hb).r1 (HA.out V hb).r2 hm)
        unfold supV at HRB
        have HBL : Hid ((bytesB s).length = 256) := Lib.hid (bytesB_len s F.len)
        have hP : ∀ o : Option Sup, parseB (bytesB s) segs = o → o = if r then some s else none := fun o ho => by
          cases hr : r with
          | true => rw [← ho]; simp only [if_true]; exact (parseB_iff _ _ _).2 ⟨by rw [HK.out, HR.out, hr], rfl⟩
          | false =>
            cases o with
            | none => rfl
            | some s' =>
              obtain ⟨h1, h2⟩ := (parseB_iff _ _ _).1 ho
              obtain rfl := (bytesB_inj (supMay_mono s' (min segs 96) 96 (by omega) h1) hm).1 h2
              rw [HK.out, HR.out, hr] at h1
              cases h1
        have HP := Lib.hid hP
        clear hA hm F hP
        go_wp2_with fail
        (with_reducible refine HBY.out.mono ?_)
        rintro e w3 ⟨v3, rfl, ho3, hb'⟩
        obtain ⟨A3, c3, rfl, hc3, hr3⟩ := ho3.bytes
        rw [HBL.out] at hc3 ⊢
        replace hb := bn hb hb'
        obtain ⟨x0, x1, x2, x3, x4, x5, x6, x7⟩ := HC.out _ hb
        clear hb' ho3
        go_wp2_with fail
        (with_reducible refine (HRM2.out _ hb).mono ?_)
        rintro e w4 ⟨rfl, hb'⟩
        replace hb := bn hb hb'
        have hr4 := hr3.below hb'
        clear hb' hr3 x0 x1 x2 x3 x4 x5 x6 x7
        go_wp2_with fail
        (with_reducible refine (super_parse (bytesB s) segs A3 c3 w4 HBL.out hc3 hr4).mono ?_)
        rintro e wp ⟨q, D, e1, D2, e2, ok, rfl, hpo, -, hq1, hq2, -, -, hb'⟩
        have hpo2 := HP.out _ hpo
        replace hb := bn hb hb'
        have hrp := hr4.below hb'
        clear hb' hr4 hpo
        have X1 := Blk.new wp 32 #[.int .i64 q.number, .int .i64 q.boot, .slice D q.jour.segs.length e1, .int .i64 q.jour.len, .int .u32 (q.jour.last.toNat : Int), .slice D2 q.chunks.segs.length e2, .int .i64 q.chunks.len, .int .u32 (q.chunks.last.toNat : Int)]
        have bx := bal (Below.refl wp.heap.size wp) (.cells #[.int .i64 q.number, .int .i64 q.boot, .slice D q.jour.segs.length e1, .int .i64 q.jour.len, .int .u32 (q.jour.last.toNat : Int), .slice D2 q.chunks.segs.length e2, .int .i64 q.chunks.len, .int .u32 (q.chunks.last.toNat : Int)] 32)
        have hX := bal hb (.cells #[.int .i64 q.number, .int .i64 q.boot, .slice D q.jour.segs.length e1, .int .i64 q.jour.len, .int .u32 (q.jour.last.toNat : Int), .slice D2 q.chunks.segs.length e2, .int .i64 q.chunks.len, .int .u32 (q.chunks.last.toNat : Int)] 32)
        have hrx := hrp.below bx
        have hqx1 := hq1.below bx
        have hqx2 := hq2.below bx
        obtain ⟨x0, x1, x2, x3, x4, x5, x6, x7⟩ := HC.out _ hX
        obtain ⟨X, hXs⟩ : ∃ X, wp.heap.size = X := ⟨_, rfl⟩
        unfold supV
        clear hb hrp hq1 hq2 bx
        go_wp2_with fail
        generalize (wp.alloc (.cells #[.int .i64 q.number, .int .i64 q.boot, .slice D q.jour.segs.length e1, .int .i64 q.jour.len, .int .u32 (q.jour.last.toNat : Int), .slice D2 q.chunks.segs.length e2, .int .i64 q.chunks.len, .int .u32 (q.chunks.last.toNat : Int)] 32)) = wx at *
        rw [hXs] at X1
        (with_reducible refine (HRM.out _ hX).mono ?_)
        rintro e w6 ⟨rfl, hb'⟩
        have hb := bn hX hb'
        have X6 := X1.below hb'
        have hr6 := hrx.below hb'
        have hq1 := hqx1.below hb'
        have hq2 := hqx2.below hb'
        clear hb' hX X1 hrx hqx1 hqx2 hXs x0 x1 x2 x3 x4 x5 x6 x7
        generalize bytesB s = BS at *
        have HKX := Lib.hid (fun (V : World) (hb : Below w6.heap.size w6 V) => box_cells X6 hb)
        have HCV := Lib.hid (fun (V : World) (hb : Below w6.heap.size w6 V) => run_str_try V A3 c3 256 BS HBL.out (hr6.below hb))
        have hb6 := Below.refl w6.heap.size w6
        have HB6 := Lib.hid hb
        cases r with
        | true =>
          cases ok with
          | false => rw [if_neg (by simp), if_pos rfl] at hpo2; cases hpo2
          | true =>
            have hqs : q = s := by simpa using hpo2
            have HQ := Lib.hid (fun (V : World) (hb : Below w6.heap.size w6 V) => law5_same q s D e1 D2 e2 A c A2 c2 V (hq1.below hb) (hq2.below hb) (HA.out V (bn HB6.out hb)).r1 (HA.out V (bn HB6.out hb)).r2 (by rw [hqs]; omega) (by rw [hqs]; omega))
            unfold supV at HQ
            have HQS := Lib.hid hqs
            clear hqs hpo2
            replace hb := bdr hb
            replace hb6 := bdr hb6
            go_wp2_with fail
            go_region_held (fun V => (V.cell? ⟨W.heap.size, 0, none⟩ = some (.int .i64 s.number) ∧ V.cell? ⟨W.heap.size, 1, none⟩ = some (.int .i64 s.boot) ∧ V.cell? ⟨W.heap.size, 2, none⟩ = some (.slice A s.jour.segs.length c) ∧ V.cell? ⟨W.heap.size, 3, none⟩ = some (.int .i64 s.jour.len) ∧ V.cell? ⟨W.heap.size, 4, none⟩ = some (.int .u32 (s.jour.last.toNat : Int)) ∧ V.cell? ⟨W.heap.size, 5, none⟩ = some (.slice A2 s.chunks.segs.length c2) ∧ V.cell? ⟨W.heap.size, 6, none⟩ = some (.int .i64 s.chunks.len) ∧ V.cell? ⟨W.heap.size, 7, none⟩ = some (.int .u32 (s.chunks.last.toNat : Int))) ∧ (V.cell? ⟨X, 0, none⟩ = some (.int .i64 q.number) ∧ V.cell? ⟨X, 1, none⟩ = some (.int .i64 q.boot) ∧ V.cell? ⟨X, 2, none⟩ = some (.slice D q.jour.segs.length e1) ∧ V.cell? ⟨X, 3, none⟩ = some (.int .i64 q.jour.len) ∧ V.cell? ⟨X, 4, none⟩ = some (.int .u32 (q.jour.last.toNat : Int)) ∧ V.cell? ⟨X, 5, none⟩ = some (.slice D2 q.chunks.segs.length e2) ∧ V.cell? ⟨X, 6, none⟩ = some (.int .i64 q.chunks.len) ∧ V.cell? ⟨X, 7, none⟩ = some (.int .u32 (q.chunks.last.toNat : Int))) ∧ (convert 35 9 (.slice A3 256 c3)).run Try.prog V = .ok (.string ⟨BS.toArray⟩) V)
              (exact ⟨HC.out _ hb, HKX.out _ hb6, HCV.out _ hb6⟩)
              ((first
                | (go_at_call 21; (with_reducible refine (HRB.out _ hb).mono ?_); rintro e w' ⟨v, rfl, hor, hb'⟩; obtain ⟨Ar, cr, rfl, _, hrr⟩ := hor.bytes; rw [HBL.out]; have hcvr := run_str_try w' Ar cr 256 BS HBL.out hrr; replace hb := bn hb hb'; replace hb6 := bn hb6 hb'; clear hb')
                | (go_at_call 22; (with_reducible refine (HQ.out _ hb6).mono ?_); rintro e w8 ⟨rs, rfl, hrs, hb'⟩; have hrs' := hrs.2 HQS.out; subst hrs'; clear hrs; replace hb := bn hb hb'; replace hb6 := bn hb6 hb'; clear hb')))
            all_goals go_wp2
            all_goals go_ret
            all_goals exact ⟨rfl, bn HB0.out hb⟩
        | false =>
          cases ok with
          | true => rw [if_pos rfl, if_neg (by simp)] at hpo2; cases hpo2
          | false =>
            clear hpo2
            replace hb := bdr hb
            replace hb6 := bdr hb6
            go_wp2_with fail
            refine wp_region_held_drew (S := fun V => (V.cell? ⟨W.heap.size, 0, none⟩ = some (.int .i64 s.number) ∧ V.cell? ⟨W.heap.size, 1, none⟩ = some (.int .i64 s.boot) ∧ V.cell? ⟨W.heap.size, 2, none⟩ = some (.slice A s.jour.segs.length c) ∧ V.cell? ⟨W.heap.size, 3, none⟩ = some (.int .i64 s.jour.len) ∧ V.cell? ⟨W.heap.size, 4, none⟩ = some (.int .u32 (s.jour.last.toNat : Int)) ∧ V.cell? ⟨W.heap.size, 5, none⟩ = some (.slice A2 s.chunks.segs.length c2) ∧ V.cell? ⟨W.heap.size, 6, none⟩ = some (.int .i64 s.chunks.len) ∧ V.cell? ⟨W.heap.size, 7, none⟩ = some (.int .u32 (s.chunks.last.toNat : Int))) ∧ (V.cell? ⟨X, 0, none⟩ = some (.int .i64 q.number) ∧ V.cell? ⟨X, 1, none⟩ = some (.int .i64 q.boot) ∧ V.cell? ⟨X, 2, none⟩ = some (.slice D q.jour.segs.length e1) ∧ V.cell? ⟨X, 3, none⟩ = some (.int .i64 q.jour.len) ∧ V.cell? ⟨X, 4, none⟩ = some (.int .u32 (q.jour.last.toNat : Int)) ∧ V.cell? ⟨X, 5, none⟩ = some (.slice D2 q.chunks.segs.length e2) ∧ V.cell? ⟨X, 6, none⟩ = some (.int .i64 q.chunks.len) ∧ V.cell? ⟨X, 7, none⟩ = some (.int .u32 (q.chunks.last.toNat : Int))) ∧ (convert 35 9 (.slice A3 256 c3)).run Try.prog V = .ok (.string ⟨BS.toArray⟩) V) (by kernel_rfl) ⟨HC.out _ hb, HKX.out _ hb6, HCV.out _ hb6⟩ (fun hHeld => ?_)
            refine take_d (i := 0) (v := ?tv1) 60 rfl rfl (by kernel_rfl) (by kernel_rfl) (by kernel_rfl) (fun _ _ _ h => h) (Or.inl ⟨by rfl, ?ty1⟩) (by assumption) ?tr1
            case ty1 => (intro w hSw; (try dsimp only at hSw); go_simp; (try with_reducible rfl))
            try simp only [Act.put, List.setIfInBounds_toArray, List.set_cons_zero, List.set_cons_succ]
            refine take_d (i := 1) (v := ?tv2) 61 rfl rfl (by kernel_rfl) (by kernel_rfl) (by kernel_rfl) (fun _ _ _ h => h) (Or.inl ⟨by rfl, ?ty2⟩) (by assumption) ?tr2
            case ty2 => (intro w hSw; (try dsimp only at hSw); go_simp; (try with_reducible rfl))
            try simp only [Act.put, List.setIfInBounds_toArray, List.set_cons_zero, List.set_cons_succ]
            refine take_d (i := 2) (v := ?tv3) 62 rfl rfl (by kernel_rfl) (by kernel_rfl) (by kernel_rfl) (fun _ _ _ h => h) (Or.inl ⟨by rfl, ?ty3⟩) (by assumption) ?tr3
            case ty3 => (intro w hSw; (try dsimp only at hSw); go_simp; (try with_reducible rfl))
            try simp only [Act.put, List.setIfInBounds_toArray, List.set_cons_zero, List.set_cons_succ]
            refine take_d (i := 3) (v := ?tv4) 63 rfl rfl (by kernel_rfl) (by kernel_rfl) (by kernel_rfl) (fun _ _ _ h => h) (Or.inl ⟨by rfl, ?ty4⟩) (by assumption) ?tr4
            case ty4 => (intro w hSw; (try dsimp only at hSw); go_simp; (try with_reducible rfl))
            try simp only [Act.put, List.setIfInBounds_toArray, List.set_cons_zero, List.set_cons_succ]
            refine take_d (i := 4) (v := ?tv5) 64 rfl rfl (by kernel_rfl) (by kernel_rfl) (by kernel_rfl) (fun _ _ _ h => h) (Or.inl ⟨by rfl, ?ty5⟩) (by assumption) ?tr5
            case ty5 => (intro w hSw; (try dsimp only at hSw); go_simp; (try with_reducible rfl))
            try simp only [Act.put, List.setIfInBounds_toArray, List.set_cons_zero, List.set_cons_succ]
            refine take_d (i := 5) (v := ?tv6) 65 rfl rfl (by kernel_rfl) (by kernel_rfl) (by kernel_rfl) (fun _ _ _ h => h) (Or.inl ⟨by rfl, ?ty6⟩) (by assumption) ?tr6
            case ty6 => (intro w hSw; (try dsimp only at hSw); go_simp; (try with_reducible rfl))
            try simp only [Act.put, List.setIfInBounds_toArray, List.set_cons_zero, List.set_cons_succ]
            refine wpAnyH_ready (rs := [6]) (by kernel_rfl) (by simp) ?_
            refine AllReadyH.cons rfl (fun K hK => ?_) AllReadyH.nil
            go_simp
            go_at_call 21
            (with_reducible refine (HRB.out _ hb).mono ?_)
            rintro e w' ⟨v, rfl, hor, hb'⟩
            obtain ⟨Ar, cr, rfl, _, hrr⟩ := hor.bytes
            rw [HBL.out]
            have hcvr := run_str_try w' Ar cr 256 BS HBL.out hrr
            replace hb := bn hb hb'
            replace hb6 := bn hb6 hb'
            clear hb'
            refine hK.out _ _ ⟨HC.out _ hb, HKX.out _ hb6, HCV.out _ hb6⟩ (fun hHeld => ?_)
            clear hK K
            try simp only [Act.put, List.setIfInBounds_toArray, List.set_cons_zero, List.set_cons_succ]
            refine wpAnyH_ready (rs := [7]) (by kernel_rfl) (by simp) ?_
            refine AllReadyH.cons rfl (fun K hK => ?_) AllReadyH.nil
            go_simp
            refine hK.out _ _ ⟨HC.out _ hb, HKX.out _ hb6, HCV.out _ hb6⟩ (fun hHeld => ?_)
            clear hK K
            try simp only [Act.put, List.setIfInBounds_toArray, List.set_cons_zero, List.set_cons_succ]
            refine wpAnyH_ready (rs := [8]) (by kernel_rfl) (by simp) ?_
            refine AllReadyH.cons rfl (fun K hK => ?_) AllReadyH.nil
            go_simp
            refine hK.out _ _ ⟨HC.out _ hb, HKX.out _ hb6, HCV.out _ hb6⟩ (fun hHeld => ?_)
            clear hK K
            try simp only [Act.put, List.setIfInBounds_toArray, List.set_cons_zero, List.set_cons_succ]
            try simp only [beq_self_eq_true]
            refine take_d (i := 9) (v := ?tv7) 69 rfl rfl (by kernel_rfl) (by kernel_rfl) (by kernel_rfl) (fun _ _ _ h => h) (Or.inl ⟨by rfl, ?ty7⟩) (by assumption) ?tr7
            case ty7 => (intro w hSw; (try dsimp only at hSw); go_simp; (try with_reducible rfl))
            try simp only [Act.put, List.setIfInBounds_toArray, List.set_cons_zero, List.set_cons_succ]
            refine take_d (i := 10) (v := ?tv8) 70 rfl rfl (by kernel_rfl) (by kernel_rfl) (by kernel_rfl) (fun _ _ _ h => h) (Or.inl ⟨by rfl, ?ty8⟩) (by assumption) ?tr8
            case ty8 => (intro w hSw; (try dsimp only at hSw); go_simp; (try with_reducible rfl))
            try simp only [Act.put, List.setIfInBounds_toArray, List.set_cons_zero, List.set_cons_succ]
            refine take_d (i := 11) (v := ?tv9) 71 rfl rfl (by kernel_rfl) (by kernel_rfl) (by kernel_rfl) (fun _ _ _ h => h) (Or.inl ⟨by rfl, ?ty9⟩) (by assumption) ?tr9
            case ty9 => (intro w hSw; (try dsimp only at hSw); go_simp; (try with_reducible rfl))
            try simp only [Act.put, List.setIfInBounds_toArray, List.set_cons_zero, List.set_cons_succ]
            refine take_d (i := 12) (v := ?tv10) 72 rfl rfl (by kernel_rfl) (by kernel_rfl) (by kernel_rfl) (fun _ _ _ h => h) (Or.inl ⟨by rfl, ?ty10⟩) (by assumption) ?tr10
            case ty10 => (intro w hSw; (try dsimp only at hSw); go_simp; (try with_reducible rfl))
            try simp only [Act.put, List.setIfInBounds_toArray, List.set_cons_zero, List.set_cons_succ]
            refine take_d (i := 13) (v := ?tv11) 73 rfl rfl (by kernel_rfl) (by kernel_rfl) (by kernel_rfl) (fun _ _ _ h => h) (Or.inl ⟨by rfl, ?ty11⟩) (by assumption) ?tr11
            case ty11 => (intro w hSw; (try dsimp only at hSw); go_simp; (try with_reducible rfl))
            try simp only [Act.put, List.setIfInBounds_toArray, List.set_cons_zero, List.set_cons_succ]
            refine take_d (i := 14) (v := ?tv12) 74 rfl rfl (by kernel_rfl) (by kernel_rfl) (by kernel_rfl) (fun _ _ _ h => h) (Or.inl ⟨by rfl, ?ty12⟩) (by assumption) ?tr12
            case ty12 => (intro w hSw; (try dsimp only at hSw); go_simp; (try with_reducible rfl))
            try simp only [Act.put, List.setIfInBounds_toArray, List.set_cons_zero, List.set_cons_succ]
            refine take_d (i := 15) (v := ?tv13) 75 rfl rfl (by kernel_rfl) (by kernel_rfl) (by kernel_rfl) (fun _ _ _ h => h) (Or.inl ⟨by rfl, ?ty13⟩) (by assumption) ?tr13
            case ty13 => (intro w hSw; (try dsimp only at hSw); go_simp; (try with_reducible rfl))
            try simp only [Act.put, List.setIfInBounds_toArray, List.set_cons_zero, List.set_cons_succ]
            refine take_d (i := 16) (v := ?tv14) 76 rfl rfl (by kernel_rfl) (by kernel_rfl) (by kernel_rfl) (fun _ _ _ h => h) (Or.inl ⟨by rfl, ?ty14⟩) (by assumption) ?tr14
            case ty14 => (intro w hSw; (try dsimp only at hSw); go_simp; (try with_reducible rfl))
            try simp only [Act.put, List.setIfInBounds_toArray, List.set_cons_zero, List.set_cons_succ]
            refine take_d (i := 17) (v := ?tv15) 77 rfl rfl (by kernel_rfl) (by kernel_rfl) (by kernel_rfl) (fun _ _ _ h => h) (Or.inl ⟨by rfl, ?ty15⟩) (by assumption) ?tr15
            case ty15 => (intro w hSw; (try dsimp only at hSw); go_simp; (try with_reducible rfl))
            try simp only [Act.put, List.setIfInBounds_toArray, List.set_cons_zero, List.set_cons_succ]
            refine take_d (i := 18) (v := ?tv16) 78 rfl rfl (by kernel_rfl) (by kernel_rfl) (by kernel_rfl) (fun _ _ _ h => h) (Or.inl ⟨by rfl, ?ty16⟩) (by assumption) ?tr16
            case ty16 => (intro w hSw; (try dsimp only at hSw); go_simp; (try with_reducible rfl))
            try simp only [Act.put, List.setIfInBounds_toArray, List.set_cons_zero, List.set_cons_succ]
            refine take_d (i := 19) 79 rfl rfl (by kernel_rfl) (by kernel_rfl) (by kernel_rfl) (fun _ _ _ h => h) (Or.inr ⟨by rfl, rfl⟩) (by assumption) ?_
            try simp only [Act.put, List.setIfInBounds_toArray, List.set_cons_zero, List.set_cons_succ]
            refine take_d (i := 20) 80 rfl rfl (by kernel_rfl) (by kernel_rfl) (by kernel_rfl) (fun _ _ _ h => h) (Or.inr ⟨by rfl, rfl⟩) (by assumption) ?_
            try simp only [Act.put, List.setIfInBounds_toArray, List.set_cons_zero, List.set_cons_succ]
            refine take_d (i := 21) 81 rfl rfl (by kernel_rfl) (by kernel_rfl) (by kernel_rfl) (fun _ _ _ h => h) (Or.inr ⟨by rfl, rfl⟩) (by assumption) ?_
            try simp only [Act.put, List.setIfInBounds_toArray, List.set_cons_zero, List.set_cons_succ]
            refine take_d (i := 22) (v := ?tv20) 82 rfl rfl (by kernel_rfl) (by kernel_rfl) (by kernel_rfl) (fun _ _ _ h => h) (Or.inl ⟨by rfl, ?ty20⟩) (by assumption) ?tr20
            case ty20 => (intro w hSw; (try dsimp only at hSw); go_simp; (try with_reducible rfl))
            try simp only [Act.put, List.setIfInBounds_toArray, List.set_cons_zero, List.set_cons_succ]
            refine take_d (i := 23) (v := ?tv21) 83 rfl rfl (by kernel_rfl) (by kernel_rfl) (by kernel_rfl) (fun _ _ _ h => h) (Or.inl ⟨by rfl, ?ty21⟩) (by assumption) ?tr21
            case ty21 => (intro w hSw; (try dsimp only at hSw); go_simp; (try with_reducible rfl))
            try simp only [Act.put, List.setIfInBounds_toArray, List.set_cons_zero, List.set_cons_succ]
            refine take_d (i := 24) (v := ?tv22) 4 rfl rfl (by kernel_rfl) (by kernel_rfl) (by kernel_rfl) (fun _ _ _ h => h) (Or.inl ⟨by rfl, ?ty22⟩) (by assumption) ?tr22
            case ty22 => (intro w hSw; (try dsimp only at hSw); go_simp; (try with_reducible rfl))
            try simp only [Act.put, List.setIfInBounds_toArray, List.set_cons_zero, List.set_cons_succ]
            refine wpAnyH_done (by kernel_rfl) ?_ _
            all_goals go_wp2
            all_goals go_ret
            all_goals exact ⟨rfl, bn HB0.out hb⟩
end Go.Proofs.Ytbhhjphgbdaanaa
