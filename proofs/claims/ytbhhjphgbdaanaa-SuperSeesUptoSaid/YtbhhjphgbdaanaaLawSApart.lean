/-
  SuperApart.
-/
import Derived.Test.YtbhhjphgbdaanaaSArg
set_option linter.unusedSimpArgs false
set_option linter.unusedVariables false
namespace Go.Proofs.Ytbhhjphgbdaanaa
open Go.RowKit Go.Maps

theorem arg_bytes {w : World} {s : Sup} {A A2 : Option Addr} (h : SArg w s A A2) (c c2 : Nat) (hm : supMay s 96 = true) :
    Calls Try.prog 19 #[.agg #[.int .i64 s.number, .int .i64 s.boot, .slice A s.jour.segs.length c, .int .i64 s.jour.len, .int .u32 (s.jour.last.toNat : Int), .slice A2 s.chunks.segs.length c2, .int .i64 s.chunks.len, .int .u32 (s.chunks.last.toNat : Int)]] w fun e w' => ∃ A' c', e = .returned (.tuple #[.slice A' 256 c', .int .i64 0]) ∧ 256 ≤ c' ∧ Own w' w.heap.size 5 (.slice A' 256 c') ((bytesB s).map eb) ∧ Below w.heap.size w w' := by
  have F := mayF s hm
  refine (super_bytes s A c A2 c2 w h.r1 h.r2 h.w1 h.w2 h.a1 h.a2 (by have := F.n; omega) (by have := F.n; omega) h.l1 h.l2 hm F.len).mono ?_
  rintro e w' ⟨v, rfl, ho, hb⟩
  have ho' := ho
  obtain ⟨A', c', rfl, hc, -⟩ := ho.bytes
  rw [bytesB_len s F.len] at hc ho' ⊢
  exact ⟨A', c', rfl, hc, ho', hb⟩
set_option maxRecDepth 100000 in
set_option maxHeartbeats 8000000 in
theorem sapart_walk (s : Sup) (A : Option Addr) (c : Nat) (A2 : Option Addr) (c2 : Nat) (r : Sup) (B : Option Addr) (d : Nat) (B2 : Option Addr) (d2 : Nat) (W : World) (h : SArg W s A A2) (h' : SArg W r B B2) :
    Calls Try.prog 6 #[supV s A c A2 c2, supV r B d B2 d2] W fun e w' => e = .returned (.bool true) ∧ Below W.heap.size W w' := by
  unfold supV
  have B0 := (Blk.new W 27 #[.int .i64 s.number, .int .i64 s.boot, .slice A s.jour.segs.length c, .int .i64 s.jour.len, .int .u32 (s.jour.last.toNat : Int), .slice A2 s.chunks.segs.length c2, .int .i64 s.chunks.len, .int .u32 (s.chunks.last.toNat : Int)]).alloc (.cells #[.int .i64 r.number, .int .i64 r.boot, .slice B r.jour.segs.length d, .int .i64 r.jour.len, .int .u32 (r.jour.last.toNat : Int), .slice B2 r.chunks.segs.length d2, .int .i64 r.chunks.len, .int .u32 (r.chunks.last.toNat : Int)] 27)
  have C0 := Blk.new (W.alloc (.cells #[.int .i64 s.number, .int .i64 s.boot, .slice A s.jour.segs.length c, .int .i64 s.jour.len, .int .u32 (s.jour.last.toNat : Int), .slice A2 s.chunks.segs.length c2, .int .i64 s.chunks.len, .int .u32 (s.chunks.last.toNat : Int)] 27)) 27 #[.int .i64 r.number, .int .i64 r.boot, .slice B r.jour.segs.length d, .int .i64 r.jour.len, .int .u32 (r.jour.last.toNat : Int), .slice B2 r.chunks.segs.length d2, .int .i64 r.chunks.len, .int .u32 (r.chunks.last.toNat : Int)]
  rw [size_more'] at C0
  have b0 := bal (bal (Below.refl W.heap.size W) (.cells #[.int .i64 s.number, .int .i64 s.boot, .slice A s.jour.segs.length c, .int .i64 s.jour.len, .int .u32 (s.jour.last.toNat : Int), .slice A2 s.chunks.segs.length c2, .int .i64 s.chunks.len, .int .u32 (s.chunks.last.toNat : Int)] 27)) (.cells #[.int .i64 r.number, .int .i64 r.boot, .slice B r.jour.segs.length d, .int .i64 r.jour.len, .int .u32 (r.jour.last.toNat : Int), .slice B2 r.chunks.segs.length d2, .int .i64 r.chunks.len, .int .u32 (r.chunks.last.toNat : Int)] 27)
  go_enter Try.func6, Try.ntmps6
  go_wp2_with fail
  generalize ((W.alloc (.cells #[.int .i64 s.number, .int .i64 s.boot, .slice A s.jour.segs.length c, .int .i64 s.jour.len, .int .u32 (s.jour.last.toNat : Int), .slice A2 s.chunks.segs.length c2, .int .i64 s.chunks.len, .int .u32 (s.chunks.last.toNat : Int)] 27)).alloc (.cells #[.int .i64 r.number, .int .i64 r.boot, .slice B r.jour.segs.length d, .int .i64 r.jour.len, .int .u32 (r.jour.last.toNat : Int), .slice B2 r.chunks.segs.length d2, .int .i64 r.chunks.len, .int .u32 (r.chunks.last.toNat : Int)] 27)) = W0 at *
  have HC := Lib.hid (fun (V : World) (hb : Below W0.heap.size W0 V) => box_cells B0 hb)
  have HD := Lib.hid (fun (V : World) (hb : Below W0.heap.size W0 V) => box_cells C0 hb)
  have HA := Lib.hid (fun (V : World) (hb : Below W0.heap.size W0 V) => (h.below b0).below hb)
  have HA2 := Lib.hid (fun (V : World) (hb : Below W0.heap.size W0 V) => (h'.below b0).below hb)
  have HB0 := Lib.hid b0
  clear B0 C0 b0 h h'
  (with_reducible refine (law5_awake _).mono ?_)
  rintro e w1 ⟨rfl, hb⟩
  obtain ⟨x0, x1, x2, x3, x4, x5, x6, x7⟩ := HC.out _ hb
  obtain ⟨y0, y1, y2, y3, y4, y5, y6, y7⟩ := HD.out _ hb
  by_cases g1 : (96 : Int) < (s.jour.segs.length : Int)
  · go_wp2
    go_ret
    exact ⟨rfl, bn HB0.out hb⟩
  by_cases g2 : (96 : Int) < (s.chunks.segs.length : Int)
  · go_wp2
    go_ret
    exact ⟨rfl, bn HB0.out hb⟩
  by_cases g3 : (96 : Int) < (r.jour.segs.length : Int)
  · go_wp2
    go_ret
    exact ⟨rfl, bn HB0.out hb⟩
  by_cases g4 : (96 : Int) < (r.chunks.segs.length : Int)
  · go_wp2
    go_ret
    exact ⟨rfl, bn HB0.out hb⟩
  cases hm : supMay s 96 with
  | false =>
    have HRM := Lib.hid (arg_rmay (HA.out w1 hb) 96 c c2 (by omega) (by omega) (by omega) hm)
    go_wp2_with fail
    (with_reducible refine HRM.out.mono ?_)
    rintro e w2 ⟨rfl, hb'⟩
    replace hb := bn hb hb'
    go_wp2
    go_ret
    exact ⟨rfl, bn HB0.out hb⟩
  | true =>
    have HRM := Lib.hid (arg_rmay (HA.out w1 hb) 96 c c2 (by omega) (by omega) (by omega) hm)
    have HBY := Lib.hid (fun V (hb : Below W0.heap.size W0 V) => arg_bytes (HA.out V hb) c c2 hm)
    go_wp2_with fail
    (with_reducible refine HRM.out.mono ?_)
    rintro e w2 ⟨rfl, hb'⟩
    replace hb := bn hb hb'
    clear hb' x0 x1 x2 x3 x4 x5 x6 x7 y0 y1 y2 y3 y4 y5 y6 y7
    obtain ⟨y0, y1, y2, y3, y4, y5, y6, y7⟩ := HD.out _ hb
    cases hm2 : supMay r 96 with
    | false =>
      have HRM2 := Lib.hid (arg_rmay (HA2.out w2 hb) 96 d d2 (by omega) (by omega) (by omega) hm2)
      go_wp2_with fail
      (with_reducible refine HRM2.out.mono ?_)
      rintro e w3 ⟨rfl, hb'⟩
      replace hb := bn hb hb'
      go_wp2
      go_ret
      exact ⟨rfl, bn HB0.out hb⟩
    | true =>
      have HRM2 := Lib.hid (arg_rmay (HA2.out w2 hb) 96 d d2 (by omega) (by omega) (by omega) hm2)
      have HBY2 := Lib.hid (fun V (hb : Below W0.heap.size W0 V) => arg_bytes (HA2.out V hb) d d2 hm2)
      have HINJ := Lib.hid (bytesB_inj hm hm2)
      have HL1 : Hid ((bytesB s).length = 256) := Lib.hid (bytesB_len s (mayF s hm).len)
      have HL2 : Hid ((bytesB r).length = 256) := Lib.hid (bytesB_len r (mayF r hm2).len)
      clear hm hm2
      have HM := Lib.hid (arg_made s A c A2 c2)
      have HM2 := Lib.hid (arg_made r B d B2 d2)
      go_wp2_with fail
      (with_reducible refine HRM2.out.mono ?_)
      rintro e w3 ⟨rfl, hb'⟩
      replace hb := bn hb hb'
      clear hb' y0 y1 y2 y3 y4 y5 y6 y7
      obtain ⟨x0, x1, x2, x3, x4, x5, x6, x7⟩ := HC.out _ hb
      go_wp2_with fail
      (with_reducible refine (HM.out _).mono ?_)
      rintro e w4 ⟨rfl, hb'⟩
      replace hb := bn hb hb'
      clear hb' x0 x1 x2 x3 x4 x5 x6 x7
      go_wp2_with fail
      (with_reducible refine (HBY.out _ hb).mono ?_)
      rintro e w5 ⟨A3, c3, rfl, hc3, ho3, hb'⟩
      replace hb := bn hb hb'
      have hr3 := ho3.bytes_at
      clear hb' ho3
      obtain ⟨y0, y1, y2, y3, y4, y5, y6, y7⟩ := HD.out _ hb
      go_wp2_with fail
      (with_reducible refine (HM2.out _).mono ?_)
      rintro e w6 ⟨rfl, hb'⟩
      replace hb := bn hb hb'
      replace hr3 := hr3.below hb'
      clear hb' y0 y1 y2 y3 y4 y5 y6 y7
      go_wp2_with fail
      (with_reducible refine (HBY2.out _ hb).mono ?_)
      rintro e w7 ⟨A4, c4, rfl, hc4, ho4, hb'⟩
      replace hb := bn hb hb'
      replace hr3 := hr3.below hb'
      have hr4 := ho4.bytes_at
      clear hb' ho4
      generalize bytesB s = BS at *
      generalize bytesB r = BR at *
      have HQ : Hid (∀ rs : Bool, (rs = true ↔ s = r) → (BS == BR) = rs) := Lib.hid (fun rs hrs => by
        rw [Bool.eq_iff_iff, beq_iff_eq, HINJ.out]
        exact hrs.symm)
      have HCA := Lib.hid (fun (V : World) (hb : Below w7.heap.size w7 V) => run_str_try V A3 c3 256 BS HL1.out (hr3.below hb))
      have HCB := Lib.hid (fun (V : World) (hb : Below w7.heap.size w7 V) => run_str_try V A4 c4 256 BR HL2.out (hr4.below hb))
      have HSM := Lib.hid (fun (V : World) (hb : Below W0.heap.size W0 V) => law5_same s r A c A2 c2 B d B2 d2 V (HA.out V hb).r1 (HA.out V hb).r2 (HA2.out V hb).r1 (HA2.out V hb).r2 (by omega) (by omega))
      unfold supV at HSM
      have hb7 := Below.refl w7.heap.size w7
      replace hb := bdr hb
      replace hb7 := bdr hb7
      clear hr3 hr4
      go_wp2_with fail
      go_region_held (fun V => (V.cell? ⟨W.heap.size, 0, none⟩ = some (.int .i64 s.number) ∧ V.cell? ⟨W.heap.size, 1, none⟩ = some (.int .i64 s.boot) ∧ V.cell? ⟨W.heap.size, 2, none⟩ = some (.slice A s.jour.segs.length c) ∧ V.cell? ⟨W.heap.size, 3, none⟩ = some (.int .i64 s.jour.len) ∧ V.cell? ⟨W.heap.size, 4, none⟩ = some (.int .u32 (s.jour.last.toNat : Int)) ∧ V.cell? ⟨W.heap.size, 5, none⟩ = some (.slice A2 s.chunks.segs.length c2) ∧ V.cell? ⟨W.heap.size, 6, none⟩ = some (.int .i64 s.chunks.len) ∧ V.cell? ⟨W.heap.size, 7, none⟩ = some (.int .u32 (s.chunks.last.toNat : Int))) ∧ (V.cell? ⟨W.heap.size + 1, 0, none⟩ = some (.int .i64 r.number) ∧ V.cell? ⟨W.heap.size + 1, 1, none⟩ = some (.int .i64 r.boot) ∧ V.cell? ⟨W.heap.size + 1, 2, none⟩ = some (.slice B r.jour.segs.length d) ∧ V.cell? ⟨W.heap.size + 1, 3, none⟩ = some (.int .i64 r.jour.len) ∧ V.cell? ⟨W.heap.size + 1, 4, none⟩ = some (.int .u32 (r.jour.last.toNat : Int)) ∧ V.cell? ⟨W.heap.size + 1, 5, none⟩ = some (.slice B2 r.chunks.segs.length d2) ∧ V.cell? ⟨W.heap.size + 1, 6, none⟩ = some (.int .i64 r.chunks.len) ∧ V.cell? ⟨W.heap.size + 1, 7, none⟩ = some (.int .u32 (r.chunks.last.toNat : Int))) ∧ (convert 35 9 (.slice A3 256 c3)).run Try.prog V = .ok (.string ⟨BS.toArray⟩) V ∧ (convert 35 9 (.slice A4 256 c4)).run Try.prog V = .ok (.string ⟨BR.toArray⟩) V)
        (exact ⟨HC.out _ hb, HD.out _ hb, HCA.out _ hb7, HCB.out _ hb7⟩)
        ((first
          | (go_at_call 17; (with_reducible refine (HM.out _).mono ?_); rintro e w' ⟨rfl, hb'⟩; replace hb := bn hb hb'; replace hb7 := bn hb7 hb'; clear hb')
          | (go_at_call 22; (with_reducible refine (HSM.out _ hb).mono ?_); rintro e w' ⟨rs, rfl, hrs, hb'⟩; have HRS := Lib.hid (HQ.out _ hrs); clear hrs; replace hb := bn hb hb'; replace hb7 := bn hb7 hb'; clear hb')))
      all_goals go_wp2
      all_goals go_ret
      all_goals exact ⟨ret_bool (by simp [HRS.out]), bn HB0.out hb⟩
end Go.Proofs.Ytbhhjphgbdaanaa
