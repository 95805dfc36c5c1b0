/-
  SuperBest.
-/
import Derived.Test.YtbhhjphgbdaanaaSupSpoil
set_option linter.unusedSimpArgs false
set_option linter.unusedVariables false
namespace Go.Proofs.Ytbhhjphgbdaanaa
open Go.RowKit Go.Maps

theorem arg_write {w0 w : World} {g m : Nat} {P : Nat → Prop} {d : DSt} (hL : Live w0 w g P m d) (hn : m < 1000) (ho : d.ops < 1000) (slot : Nat) (sl : Int) (hsl : sl = (slot : Int)) (hs : slot ≤ 1) {s : Sup} {A A2 : Option Addr} (h : SArg w s A A2) (c c2 : Nat) (hm : supMay s 96 = true) {r : Int × DSt} (hr : wrK d (slot : Int) (bytesB s) 4 = r) :
    Calls Try.prog 25 #[.pointer (some ⟨g, 0, none⟩), .int .i64 sl, .agg #[.int .i64 s.number, .int .i64 s.boot, .slice A s.jour.segs.length c, .int .i64 s.jour.len, .int .u32 (s.jour.last.toNat : Int), .slice A2 s.chunks.segs.length c2, .int .i64 s.chunks.len, .int .u32 (s.chunks.last.toNat : Int)]] w (SupWPost w0 g m P r w) := by
  subst hr hsl
  exact super_write w0 g m P d slot s A c A2 c2 w hL (by omega) (by omega) hs h.r1 h.r2 h.w1 h.w2 h.a1 h.a2 hm
theorem arg_write_out (g : Nat) {w : World} {s : Sup} {A A2 : Option Addr} (h : SArg w s A A2) (c c2 : Nat) (hm : supMay s 96 = true) :
    Calls Try.prog 25 #[.pointer (some ⟨g, 0, none⟩), .int .i64 2, .agg #[.int .i64 s.number, .int .i64 s.boot, .slice A s.jour.segs.length c, .int .i64 s.jour.len, .int .u32 (s.jour.last.toNat : Int), .slice A2 s.chunks.segs.length c2, .int .i64 s.chunks.len, .int .u32 (s.chunks.last.toNat : Int)]] w fun e w' => e = .returned (.int .i64 1) ∧ Below w.heap.size w w' :=
  super_write_out (some ⟨g, 0, none⟩) 2 s A c A2 c2 w (by omega) h.r1 h.r2 h.w1 h.w2 h.a1 h.a2 hm
theorem two_writes (x y : List UInt8) (hx : x.length = 256) (hy : y.length = 256) : ∃ d1 d2 : DSt, wrK (newD 8) ((0 : Nat) : Int) x 4 = (0, d1) ∧ d1.ops < 1000 ∧ wrK d1 ((1 : Nat) : Int) y 4 = (0, d2) ∧ Holds d2 (fun k => if k = 0 then x else y) := by
  refine ⟨_, _, ?_, ?_, wr_live (List.replicate 8 zeros64) (caSlot (fun _ => none) 0 x 4) (0 + ((4 : Nat) : Int)) 1 y (by simp) (by omega) hy 4 (by omega), holds_two _ _ _ x y (by simp) hx hy⟩
  · rw [newD_live]
    exact wr_live _ _ _ 0 x (by simp) (by omega) hx 4 (by omega)
  · simp [liveD]
/-- a slot's bytes behind the turning -/
def SlotSt (orig x : List UInt8) (bad : Bool) : Prop := (bad = false ∧ x = orig) ∨ (bad = true ∧ x ≠ orig ∧ ∃ p, Near p x orig)
set_option maxRecDepth 100000 in
set_option maxHeartbeats 8000000 in
theorem sbest_walk (a : Sup) (A : Option Addr) (c : Nat) (A2 : Option Addr) (c2 : Nat) (b : Sup) (B : Option Addr) (d : Nat) (B2 : Option Addr) (d2 : Nat) (t0 t1 t2 t3 : Nat) (W : World) (h : SArg W a A A2) (h' : SArg W b B B2) (q0 : t0 ≤ 65535) (q1 : t1 ≤ 65535) (q2 : t2 ≤ 65535) (q3 : t3 ≤ 65535) :
    Calls Try.prog 7 #[supV a A c A2 c2, supV b B d B2 d2, .agg #[.int .u16 (t0 : Int), .int .u16 (t1 : Int), .int .u16 (t2 : Int), .int .u16 (t3 : Int)]] W fun e w' => e = .returned (.bool true) ∧ Below W.heap.size W w' := by
  unfold supV
  have B0 := ((Blk.new W 27 #[.int .i64 a.number, .int .i64 a.boot, .slice A a.jour.segs.length c, .int .i64 a.jour.len, .int .u32 (a.jour.last.toNat : Int), .slice A2 a.chunks.segs.length c2, .int .i64 a.chunks.len, .int .u32 (a.chunks.last.toNat : Int)]).alloc (.cells #[.int .i64 b.number, .int .i64 b.boot, .slice B b.jour.segs.length d, .int .i64 b.jour.len, .int .u32 (b.jour.last.toNat : Int), .slice B2 b.chunks.segs.length d2, .int .i64 b.chunks.len, .int .u32 (b.chunks.last.toNat : Int)] 27)).alloc (.cells #[.int .u16 (t0 : Int), .int .u16 (t1 : Int), .int .u16 (t2 : Int), .int .u16 (t3 : Int)] 55)
  have C0 := (Blk.new (W.alloc (.cells #[.int .i64 a.number, .int .i64 a.boot, .slice A a.jour.segs.length c, .int .i64 a.jour.len, .int .u32 (a.jour.last.toNat : Int), .slice A2 a.chunks.segs.length c2, .int .i64 a.chunks.len, .int .u32 (a.chunks.last.toNat : Int)] 27)) 27 #[.int .i64 b.number, .int .i64 b.boot, .slice B b.jour.segs.length d, .int .i64 b.jour.len, .int .u32 (b.jour.last.toNat : Int), .slice B2 b.chunks.segs.length d2, .int .i64 b.chunks.len, .int .u32 (b.chunks.last.toNat : Int)]).alloc (.cells #[.int .u16 (t0 : Int), .int .u16 (t1 : Int), .int .u16 (t2 : Int), .int .u16 (t3 : Int)] 55)
  have T0 := Blk.new ((W.alloc (.cells #[.int .i64 a.number, .int .i64 a.boot, .slice A a.jour.segs.length c, .int .i64 a.jour.len, .int .u32 (a.jour.last.toNat : Int), .slice A2 a.chunks.segs.length c2, .int .i64 a.chunks.len, .int .u32 (a.chunks.last.toNat : Int)] 27)).alloc (.cells #[.int .i64 b.number, .int .i64 b.boot, .slice B b.jour.segs.length d, .int .i64 b.jour.len, .int .u32 (b.jour.last.toNat : Int), .slice B2 b.chunks.segs.length d2, .int .i64 b.chunks.len, .int .u32 (b.chunks.last.toNat : Int)] 27)) 55 #[.int .u16 (t0 : Int), .int .u16 (t1 : Int), .int .u16 (t2 : Int), .int .u16 (t3 : Int)]
  rw [size_more'] at C0 T0
  rw [size_more'] at T0
  have b0 := bal (bal (bal (Below.refl W.heap.size W) (.cells #[.int .i64 a.number, .int .i64 a.boot, .slice A a.jour.segs.length c, .int .i64 a.jour.len, .int .u32 (a.jour.last.toNat : Int), .slice A2 a.chunks.segs.length c2, .int .i64 a.chunks.len, .int .u32 (a.chunks.last.toNat : Int)] 27)) (.cells #[.int .i64 b.number, .int .i64 b.boot, .slice B b.jour.segs.length d, .int .i64 b.jour.len, .int .u32 (b.jour.last.toNat : Int), .slice B2 b.chunks.segs.length d2, .int .i64 b.chunks.len, .int .u32 (b.chunks.last.toNat : Int)] 27)) (.cells #[.int .u16 (t0 : Int), .int .u16 (t1 : Int), .int .u16 (t2 : Int), .int .u16 (t3 : Int)] 55)
  go_enter Try.func7, Try.ntmps7
  go_wp2_with fail
  generalize (((W.alloc (.cells #[.int .i64 a.number, .int .i64 a.boot, .slice A a.jour.segs.length c, .int .i64 a.jour.len, .int .u32 (a.jour.last.toNat : Int), .slice A2 a.chunks.segs.length c2, .int .i64 a.chunks.len, .int .u32 (a.chunks.last.toNat : Int)] 27)).alloc (.cells #[.int .i64 b.number, .int .i64 b.boot, .slice B b.jour.segs.length d, .int .i64 b.jour.len, .int .u32 (b.jour.last.toNat : Int), .slice B2 b.chunks.segs.length d2, .int .i64 b.chunks.len, .int .u32 (b.chunks.last.toNat : Int)] 27)).alloc (.cells #[.int .u16 (t0 : Int), .int .u16 (t1 : Int), .int .u16 (t2 : Int), .int .u16 (t3 : Int)] 55)) = W0 at *
  have HC := Lib.hid (fun (V : World) (hb : Below W0.heap.size W0 V) => box_cells B0 hb)
  have HD := Lib.hid (fun (V : World) (hb : Below W0.heap.size W0 V) => box_cells C0 hb)
  have HT := Lib.hid (fun (V : World) (hb : Below W0.heap.size W0 V) => T0.below hb)
  have HA := Lib.hid (fun (V : World) (hb : Below W0.heap.size W0 V) => (h.below b0).below hb)
  have HA2 := Lib.hid (fun (V : World) (hb : Below W0.heap.size W0 V) => (h'.below b0).below hb)
  have HB0 := Lib.hid b0
  clear B0 C0 T0 b0 h h'
  (with_reducible refine (law5_awake _).mono ?_)
  rintro e w1 ⟨rfl, hb⟩
  go_wp2_with fail
  (with_reducible refine (live_new hb 8 8 rfl (by omega)).mono ?_)
  rintro e w2 ⟨g, P, rfl, hL, _, hb'⟩
  replace hb := bn hb hb'
  clear hb'
  obtain ⟨x0, x1, x2, x3, x4, x5, x6, x7⟩ := HC.out _ hb
  obtain ⟨y0, y1, y2, y3, y4, y5, y6, y7⟩ := HD.out _ hb
  by_cases g1 : (300 : Int) < (a.jour.segs.length : Int)
  · go_wp2
    go_ret
    exact ⟨rfl, bn HB0.out hb⟩
  by_cases g2 : (300 : Int) < (a.chunks.segs.length : Int)
  · go_wp2
    go_ret
    exact ⟨rfl, bn HB0.out hb⟩
  by_cases g3 : (300 : Int) < (b.jour.segs.length : Int)
  · go_wp2
    go_ret
    exact ⟨rfl, bn HB0.out hb⟩
  by_cases g4 : (300 : Int) < (b.chunks.segs.length : Int)
  · go_wp2
    go_ret
    exact ⟨rfl, bn HB0.out hb⟩
  cases hm : supMay a 96 with
  | false =>
    have HRM := Lib.hid (arg_rmay (HA.out w2 hb) 96 c c2 (by omega) (by omega) (by omega) hm)
    go_wp2_with fail
    (with_reducible refine HRM.out.mono ?_)
    rintro e w3 ⟨rfl, hb'⟩
    replace hb := bn hb hb'
    go_wp2
    go_ret
    exact ⟨rfl, bn HB0.out hb⟩
  | true =>
    have HRM := Lib.hid (arg_rmay (HA.out w2 hb) 96 c c2 (by omega) (by omega) (by omega) hm)
    go_wp2_with fail
    (with_reducible refine HRM.out.mono ?_)
    rintro e w3 ⟨rfl, hb'⟩
    replace hb := bn hb hb'
    replace hL := hL.below hb'
    clear hb' x0 x1 x2 x3 x4 x5 x6 x7 y0 y1 y2 y3 y4 y5 y6 y7 HRM
    obtain ⟨y0, y1, y2, y3, y4, y5, y6, y7⟩ := HD.out _ hb
    cases hm2 : supMay b 96 with
    | false =>
      have HRM2 := Lib.hid (arg_rmay (HA2.out w3 hb) 96 d d2 (by omega) (by omega) (by omega) hm2)
      go_wp2_with fail
      (with_reducible refine HRM2.out.mono ?_)
      rintro e w4 ⟨rfl, hb'⟩
      replace hb := bn hb hb'
      go_wp2
      go_ret
      exact ⟨rfl, bn HB0.out hb⟩
    | true =>
      have HRM2 := Lib.hid (arg_rmay (HA2.out w3 hb) 96 d d2 (by omega) (by omega) (by omega) hm2)
      have HM := Lib.hid (arg_made a A c A2 c2)
      have HM2 := Lib.hid (arg_made b B d B2 d2)
      have HMA := Lib.hid hm
      have HMB := Lib.hid hm2
      have HLA : Hid ((bytesB a).length = 256) := Lib.hid (bytesB_len a (mayF a hm).len)
      have HLB : Hid ((bytesB b).length = 256) := Lib.hid (bytesB_len b (mayF b hm2).len)
      obtain ⟨e1, e2, hw1, ho1, hw2, hH⟩ := two_writes (bytesB a) (bytesB b) HLA.out HLB.out
      have HW1 := Lib.hid hw1
      have HW2 := Lib.hid hw2
      have HH := Lib.hid hH
      clear hm hm2 hw1 hw2 hH
      go_wp2_with fail
      (with_reducible refine HRM2.out.mono ?_)
      rintro e w4 ⟨rfl, hb'⟩
      replace hb := bn hb hb'
      replace hL := hL.below hb'
      clear hb' y0 y1 y2 y3 y4 y5 y6 y7 HRM2
      obtain ⟨x0, x1, x2, x3, x4, x5, x6, x7⟩ := HC.out _ hb
      go_wp2_with fail
      (with_reducible refine (HM.out _).mono ?_)
      rintro e w5 ⟨rfl, hb'⟩
      replace hb := bn hb hb'
      replace hL := hL.below hb'
      clear hb' x0 x1 x2 x3 x4 x5 x6 x7
      go_wp2_with fail
      (with_reducible refine (arg_write hL (by omega) (by simp [newD]) 0 0 rfl (by omega) (HA.out _ hb) c c2 HMA.out HW1.out).mono ?_)
      rintro e w6 ⟨rfl, hL6, -⟩
      replace hb := hL6.bel
      clear hL
      obtain ⟨y0, y1, y2, y3, y4, y5, y6, y7⟩ := HD.out _ hb
      go_wp2_with fail
      (with_reducible refine (HM2.out _).mono ?_)
      rintro e w7 ⟨rfl, hb'⟩
      replace hb := bn hb hb'
      have hL7 := hL6.below hb'
      clear hb' y0 y1 y2 y3 y4 y5 y6 y7 hL6
      go_wp2_with fail
      (with_reducible refine (arg_write hL7 (by omega) ho1 1 1 rfl (by omega) (HA2.out _ hb) d d2 HMB.out HW2.out).mono ?_)
      rintro e w8 ⟨rfl, hL8, -⟩
      replace hb := hL8.bel
      clear hL7
      obtain ⟨x0, x1, x2, x3, x4, x5, x6, x7⟩ := HC.out _ hb
      go_wp2_with fail
      (with_reducible refine (HM.out _).mono ?_)
      rintro e w9 ⟨rfl, hb'⟩
      replace hb := bn hb hb'
      have hL9 := hL8.below hb'
      clear hb' x0 x1 x2 x3 x4 x5 x6 x7 hL8
      go_wp2_with fail
      (with_reducible refine (arg_write_out g (HA.out _ hb) c c2 HMA.out).mono ?_)
      rintro e w10 ⟨rfl, hb'⟩
      have hL10 := hL9.below hb'
      clear hb' hL9 hb
      obtain ⟨PP, n, hL, hltp⟩ : ∃ (PP : Nat → Prop) (n : Nat), Live W0 w10 g PP n e2 ∧ ∀ j, PP j → j < w10.heap.size := ⟨_, _, hL10, fun j hj => (hL10.lt j hj).2⟩
      have HZB := Lib.hid hL10.bel.size
      clear hL10
      have Z0 := Blk.new w10 56 #[.bool false, .bool false]
      have hL := hL.alloc (.cells #[.bool false, .bool false] 56)
      obtain ⟨Z, hZ⟩ : ∃ Z, w10.heap.size = Z := ⟨_, rfl⟩
      rw [hZ] at Z0 hltp
      have HLT := Lib.hid hltp
      have HZ := Lib.hid hZ
      have HZ0 : Hid (W0.heap.size ≤ Z) := Lib.hid (by rw [← hZ]; exact HZB.out)
      clear hltp
      go_wp2_with fail
      generalize (w10.alloc (.cells #[.bool false, .bool false] 56)) = w11 at *
      clear hZ
      go_loopw [10] (fun i wr => ∃ (k : Nat) (ds : DSt) (f : Nat → List UInt8) (z0 z1 : Bool), k ≤ 2 ∧ i = .int .i64 (k : Int) ∧ Live W0 wr g PP n ds ∧ Hid (Holds ds f) ∧ Blk wr Z 56 #[.bool z0, .bool z1] ∧ Hid (SlotSt (bytesB a) (f 0) z0 ∧ SlotSt (bytesB b) (f 1) z1 ∧ (k ≤ 0 → f 0 = bytesB a ∧ z0 = false) ∧ (k ≤ 1 → f 1 = bytesB b ∧ z1 = false))) (fun i _ => 2 - (intOf i).toNat)
      case atStart => exact ⟨0, e2, _, false, false, by omega, rfl, hL, HH, Z0, Lib.hid ⟨.inl ⟨rfl, rfl⟩, .inl ⟨rfl, rfl⟩, fun _ => ⟨rfl, rfl⟩, fun _ => ⟨rfl, rfl⟩⟩⟩
      case round =>
        clear hL Z0
        obtain ⟨k, ds, f, z0, z1, hk, rfl, hL, hHo, hZb, hS⟩ := hrel
        by_cases hlt : k < 2
        · obtain ⟨tt, vv, htt, hvv, htc⟩ : ∃ tt vv : Nat, tt ≤ 65535 ∧ vv ≤ 65535 ∧ ∀ V, Below W0.heap.size W0 V → V.cell? ⟨W.heap.size + 1 + 1, 2 * k, none⟩ = some (.int .u16 (tt : Int)) ∧ V.cell? ⟨W.heap.size + 1 + 1, 2 * k + 1, none⟩ = some (.int .u16 (vv : Int)) := by
            obtain rfl | rfl : k = 0 ∨ k = 1 := by omega
            · exact ⟨t0, t1, q0, q1, fun V hV => ⟨(HT.out V hV).cell 0, (HT.out V hV).cell 1⟩⟩
            · exact ⟨t2, t3, q2, q3, fun V hV => ⟨(HT.out V hV).cell 2, (HT.out V hV).cell 3⟩⟩
          obtain ⟨c0, c1⟩ := htc wr hL.bel
          have w1' : IntKind.i64.wrap (2 * (k : Int)) = 2 * (k : Int) := IntWalk.i64_in _ (by omega)
          have w2' : IntKind.i64.wrap (2 * (k : Int) + 1) = 2 * (k : Int) + 1 := IntWalk.i64_in _ (by omega)
          have n1' : (2 * (k : Int)).toNat = 2 * k := by omega
          have n2' : (2 * (k : Int) + 1).toNat = 2 * k + 1 := by omega
          have i0 : (0 : Int) ≤ 2 * (k : Int) := by omega
          have i1 : 2 * (k : Int) < 4 := by omega
          have i2 : (0 : Int) ≤ 2 * (k : Int) + 1 := by omega
          have i3 : 2 * (k : Int) + 1 < 4 := by omega
          have i4 : (0 : Int) ≤ (k : Int) := by omega
          have i5 : (k : Int) < 2 := by omega
          have htm : Int.tmod (tt : Int) 255 = ((tt % 255 : Nat) : Int) := by rw [Int.tmod_eq_emod_of_nonneg (by omega)]; simp
          have hp254 : tt % 255 < 255 := Nat.mod_lt _ (by omega)
          generalize tt % 255 = pp at *
          clear htc
          by_cases hv : vv = 0
          · have hv0 : ((vv : Int) == 0) = true := by rw [hv]; rfl
            clear hv
            go_wp2_with fail
            go_roundw
            case rel => exact ⟨k + 1, ds, f, z0, z1, by omega, by go_num, hL, hHo, hZb, Lib.hid ⟨hS.out.1, hS.out.2.1, fun h => by omega, fun h => hS.out.2.2.2 (by omega)⟩⟩
            case measure => simp [intOf]; try omega
          · have hv0 : ((vv : Int) == 0) = false := beq_eq_false_iff_ne.2 (by omega)
            have HV := Lib.hid hv
            have HFL : Hid ((f k).length = 256) := Lib.hid (hHo.out.len k hlt)
            have HHK : Hid (Holds ds (fun q => if q = k then f k else f q)) := Lib.hid (by
              have e : (fun q => if q = k then f k else f q) = f := by
                funext q
                split
                · rename_i e; rw [e]
                · rfl
              rw [e]
              exact hHo.out)
            obtain ⟨F, hF⟩ : ∃ F, f k = F := ⟨_, rfl⟩
            rw [hF] at HFL HHK
            have HF := Lib.hid hF
            have HBZ := Lib.hid hZb.lt
            clear hv hF
            go_wp2_with fail
            go_loopw [13] (fun i wr => ∃ (j : Nat) (d' : DSt) (x : List UInt8), j ≤ 2 ∧ i = .int .i64 (j : Int) ∧ Live W0 wr g PP n d' ∧ Hid (Holds d' (fun q => if q = k then x else f q)) ∧ Blk wr Z 56 #[.bool z0, .bool z1] ∧ Hid (Torn F x pp j) ∧ Hid (x = F → ∀ m, m < j → UInt8.ofNat (vv / 2 ^ (8 * m) % 256) = 0)) (fun i _ => 2 - (intOf i).toNat)
            case atStart => exact ⟨0, ds, F, by omega, rfl, hL, HHK, hZb, Lib.hid (Torn.start _ _), Lib.hid (fun _ m hm => by omega)⟩
            case round =>
              clear hL hZb HHK hHo
              obtain ⟨j, d', x, hj2, rfl, hL, hHo, hZb, hT, hch⟩ := hrel
              by_cases hj : j < 2
              · have hp : pp + j < 256 := by omega
                have hxl : x.length = 256 := hT.out.1.trans HFL.out
                have hrd := hHo.out.read hlt hp
                have hHn := fun v => hHo.out.spoil hlt hp v
                simp only [if_true] at hrd
                have hpa := piece_at (b := x) (pp + j) (by omega) hxl
                have hpl := piece_len hxl (i := (pp + j) / 64) (by omega)
                have hxk : pp + j < x.length := by omega
                have htb : (vv : Int) / (2 : Int) ^ (8 * j) % 256 = ((UInt8.ofNat (vv / 2 ^ (8 * j) % 256)).toNat : Int) := by rw [UInt8.toNat_ofNat']; simp
                have hch2 : ∀ m, m < j + 1 → m < j ∨ m = j := fun m hm => by omega
                have hT2 := hT.out.step (x[pp + j] ^^^ UInt8.ofNat (vv / 2 ^ (8 * j) % 256))
                have hTT := hT.out.turn hxk (by rw [HFL.out]; exact hp) (UInt8.ofNat (vv / 2 ^ (8 * j) % 256))
                have hch3 : x.set (pp + j) (x[pp + j] ^^^ UInt8.ofNat (vv / 2 ^ (8 * j) % 256)) = F → ∀ m, m < j + 1 → UInt8.ofNat (vv / 2 ^ (8 * m) % 256) = 0 := fun e m hm => by
                  rw [beq_iff_eq.2 e] at hTT
                  have h2 := hTT.symm
                  simp only [Bool.not_true, Bool.or_eq_false_iff, Bool.not_eq_false'] at h2
                  rcases hch2 m hm with h3 | h3
                  · exact hch.out (by simpa using h2.1) m h3
                  · rw [h3]
                    have h4 := h2.2
                    rw [beq_iff_eq] at h4
                    have h5 : (UInt8.ofNat (vv / 2 ^ (8 * j) % 256)).toNat = 0 := by omega
                    exact UInt8.toNat_inj.1 h5
                generalize UInt8.ofNat (vv / 2 ^ (8 * j) % 256) = tb at *
                generalize x[pp + j] = y at *
                have a3 : Int.tdiv ((pp : Int) + (j : Int)) 64 = (((pp + j) / 64 : Nat) : Int) := by rw [Int.tdiv_eq_ediv_of_nonneg (by omega)]; omega
                have a5 : Int.tmod ((pp : Int) + (j : Int)) 64 = (((pp + j) % 64 : Nat) : Int) := by rw [Int.tmod_eq_emod_of_nonneg (by omega)]; omega
                have hqd4 : (pp + j) / 64 < 4 := by omega
                have hrm64 : (pp + j) % 64 < 64 := by omega
                generalize (pp + j) / 64 = qd at *
                generalize (pp + j) % 64 = rm at *
                have a1 : IntKind.i64.wrap ((k : Int) * 4) = (k : Int) * 4 := IntWalk.i64_in _ (by omega)
                have a2 : IntKind.i64.wrap ((pp : Int) + (j : Int)) = (pp : Int) + (j : Int) := IntWalk.i64_in _ (by omega)
                have a4 : IntKind.i64.wrap ((k : Int) * 4 + (qd : Int)) = (k : Int) * 4 + (qd : Int) := IntWalk.i64_in _ (by omega)
                have a6 : IntKind.i64.wrap (qd : Int) = (qd : Int) := IntWalk.i64_in _ (by omega)
                have a7 : IntKind.i64.wrap (rm : Int) = (rm : Int) := IntWalk.i64_in _ (by omega)
                have j0 : (0 : Int) ≤ (j : Int) := by omega
                have j1 : (j : Int) < 2 := by omega
                have r0 : (0 : Int) ≤ (rm : Int) := by omega
                have r1 : (rm : Int) < 64 := by omega
                have HPA := Lib.hid hpa
                have HPL := Lib.hid hpl
                have HXL := Lib.hid hxl
                have HHN := Lib.hid hHn
                have HT2 := Lib.hid hT2
                have HCH3 := Lib.hid hch3
                have hbx := (bits_xor8 y.toNat tb.toNat y.toNat_lt tb.toNat_lt).1
                rw [← UInt8.toNat_xor] at hbx
                have HEB : Hid (((y.toNat ^^^ tb.toNat : Nat) : Int) = ((y ^^^ tb).toNat : Int)) := Lib.hid (by rw [UInt8.toNat_xor])
                clear hpa hpl hxk hHn hTT hch2 hT2 hch3 hch hT hHo
                go_wp2_with fail
                (with_reducible refine (live_read hL _ hrd).mono ?_)
                rintro e wA ⟨v, rfl, hoA, hbA⟩
                obtain ⟨Ar, cr, rfl, hcr, hra⟩ := hoA.bytes
                rw [HPL.out] at hcr ⊢
                obtain ⟨ad, rfl⟩ := hra.some_of (by rw [HPL.out]; omega)
                have zc : wA.cell? (ad.add rm) = some (.int .u8 (y.toNat : Int)) := by
                  have h1 := hra.at_ rm (by rw [HPL.out]; exact hrm64)
                  have h2 := HPA.out
                  rw [List.getElem?_eq_getElem (by rw [HPL.out]; exact hrm64)] at h2
                  rw [Option.some.inj h2] at h1
                  exact h1
                have hLA := hL.below hbA
                have hL2 := hLA.alloc (.cells #[.int .u8 ((y.toNat ^^^ tb.toNat : Nat) : Int)] 5)
                have hZA := (hZb.below hbA).alloc (.cells #[.int .u8 ((y.toNat ^^^ tb.toNat : Nat) : Int)] 5)
                have hlit := lit1 wA (y ^^^ tb) ((y.toNat ^^^ tb.toNat : Nat) : Int) HEB.out
                have hap : ∀ ad', (some (⟨wA.heap.size, 0, none⟩ : Addr)) = some ad' → ¬ PP ad'.block := fun ad' e hP => by
                  cases e
                  have h1 := HLT.out _ hP
                  have h2 := (hZb.below hbA).lt
                  simp only at h1
                  omega
                have HSP := Lib.hid (live_spoil hL2 ((k : Int) * 4 + (qd : Int)) (rm : Int) (some ⟨wA.heap.size, 0, none⟩) 1 1 [y ^^^ tb] (by omega) (by omega) rfl hlit (by simp) hap rfl)
                clear hra hoA hcr hL hLA hL2 hlit hap hZb hbA
                go_wp2_with fail
                (with_reducible refine HSP.out.mono ?_)
                rintro e wS ⟨rfl, hLS, hkS⟩
                have hZS := hZA.kp hkS (fun hP => by have := HLT.out _ hP; omega)
                have hHS := HHN.out (y ^^^ tb)
                have he : putF (fun q => if q = k then x else f q) k (pp + j) (y ^^^ tb) = fun q => if q = k then x.set (pp + j) (y ^^^ tb) else f q := by
                  funext q
                  unfold putF
                  by_cases e : q = k
                  · subst e
                    simp only [if_true]
                  · simp only [if_neg e]
                rw [he] at hHS
                have HHS := Lib.hid hHS
                clear hHS he
                go_wp2_with fail
                go_roundw
                case rel => exact ⟨j + 1, _, x.set (pp + j) (y ^^^ tb), by omega, by go_num, hLS, HHS, hZS, HT2, HCH3⟩
                case measure => simp [intOf]; try omega
              · obtain rfl : j = 2 := by omega
                have hxF : x ≠ F := fun e => by
                  have h0 := congrArg UInt8.toNat (hch.out e 0 (by omega))
                  have h1 := congrArg UInt8.toNat (hch.out e 1 (by omega))
                  rw [UInt8.toNat_ofNat'] at h0 h1
                  have e0 : (0 : UInt8).toNat = 0 := rfl
                  rw [e0] at h0 h1
                  simp only [Nat.mul_zero, Nat.pow_zero, Nat.div_one, Nat.mul_one, Nat.reducePow] at h0 h1
                  exact HV.out (by omega)
                have hst : SlotSt F x true := .inr ⟨rfl, hxF, pp, hT.out.1, hT.out.wide (by omega)⟩
                have HST := Lib.hid hst
                obtain ⟨zk, hzk⟩ : ∃ zk, wr.cell? ⟨Z, k, none⟩ = some (.bool zk) := by
                  obtain rfl | rfl : k = 0 ∨ k = 1 := by omega
                  · exact ⟨z0, hZb.cell 0⟩
                  · exact ⟨z1, hZb.cell 1⟩
                have hzf := hZb.frozen k
                have HZN := Lib.hid (hZb.set k (.bool true))
                have HLN := Lib.hid (hL.kp (Kp.setCell (Kp.refl (fun j => j = Z) wr) k (.bool true) rfl) (fun j hP e => by have := HLT.out _ hP; omega) (fun j e => by have := HZ0.out; omega))
                clear hxF hst hch hT hZb hL
                go_wp2_with fail
                go_roundw
                case rel =>
                  obtain rfl | rfl : k = 0 ∨ k = 1 := by omega
                  · have hF0 : F = bytesB a := HF.out.symm.trans (hS.out.2.2.1 (by omega)).1
                    refine ⟨1, d', _, true, z1, by omega, by go_num, HLN.out, hHo, HZN.out, Lib.hid ⟨?_, ?_, fun h => by omega, fun h => ?_⟩⟩
                    · simp only [if_true]; rw [← hF0]; exact HST.out
                    · rw [if_neg (by omega)]; exact hS.out.2.1
                    · rw [if_neg (by omega)]; exact hS.out.2.2.2 (by omega)
                  · have hF0 : F = bytesB b := HF.out.symm.trans (hS.out.2.2.2 (by omega)).1
                    refine ⟨2, d', _, z0, true, by omega, by go_num, HLN.out, hHo, HZN.out, Lib.hid ⟨?_, ?_, fun h => by omega, fun h => by omega⟩⟩
                    · rw [if_neg (by omega)]; exact hS.out.1
                    · simp only [if_true]; rw [← hF0]; exact HST.out
                case measure => simp [intOf]; try omega
        · obtain rfl : k = 2 := by omega
          have hp0 : parseB (f 0) 96 = if z0 then none else some a := by
            rcases hS.out.1 with ⟨rfl, e⟩ | ⟨rfl, e, p, hN⟩
            · rw [e]; exact parseB_own HMA.out
            · exact near_none HMA.out hN e 96
          have hp1 : parseB (f 1) 96 = if z1 then none else some b := by
            rcases hS.out.2.1 with ⟨rfl, e⟩ | ⟨rfl, e, p, hN⟩
            · rw [e]; exact parseB_own HMB.out
            · exact near_none HMB.out hN e 96
          have hbest := hHo.out.best 96
          rw [hp0, hp1] at hbest
          have hLb := hL.bel
          have HSB := Lib.hid (super_best W0 g n PP ds 96 wr hL)
          have HBS := Lib.hid hbest
          clear hp0 hp1 hbest hS hHo hL
          cases z0 with
          | true =>
            cases z1 with
            | true =>
              have HBE : Hid (Calls Try.prog 24 #[.pointer (some ⟨g, 0, none⟩), .int .i64 96] wr (BestPost (zeroS, 13) wr)) := Lib.hid (by have h1 := HSB.out; rw [HBS.out] at h1; exact h1)
              clear HSB
              go_wp2_with fail
              (with_reducible refine HBE.out.mono ?_)
              rintro e wp ⟨D, e1', D2, e2', rfl, hq1, hq2, hb'⟩
              have hb := bn hLb hb'
              have hX := bal hb (.cells #[.int .i64 0, .int .i64 0, .slice D 0 e1', .int .i64 0, .int .u32 0, .slice D2 0 e2', .int .i64 0, .int .u32 0] 32)
              have hZx := (hZb.below hb').below (bal (Below.refl wp.heap.size wp) (.cells #[.int .i64 0, .int .i64 0, .slice D 0 e1', .int .i64 0, .int .u32 0, .slice D2 0 e2', .int .i64 0, .int .u32 0] 32))
              unfold supV zeroS
              go_upto_region 26 with (fail)
              have zz0 := hZx.cell 0
              have zz1 := hZx.cell 1
              generalize (wp.alloc _) = wx at *
              replace zz0 : wx.cell? ⟨Z, 0, none⟩ = some (.bool true) := zz0
              replace zz1 : wx.cell? ⟨Z, 1, none⟩ = some (.bool true) := zz1
              go_wp2
              go_ret
              exact ⟨rfl, bn HB0.out hX⟩
            | false =>
              have HBE : Hid (Calls Try.prog 24 #[.pointer (some ⟨g, 0, none⟩), .int .i64 96] wr (BestPost (b, 0) wr)) := Lib.hid (by have h1 := HSB.out; rw [HBS.out] at h1; exact h1)
              clear HSB
              go_wp2_with fail
              (with_reducible refine HBE.out.mono ?_)
              rintro e wp ⟨D, e1', D2, e2', rfl, hq1, hq2, hb'⟩
              have hb := bn hLb hb'
              have X1 := Blk.new wp 32 #[.int .i64 b.number, .int .i64 b.boot, .slice D b.jour.segs.length e1', .int .i64 b.jour.len, .int .u32 (b.jour.last.toNat : Int), .slice D2 b.chunks.segs.length e2', .int .i64 b.chunks.len, .int .u32 (b.chunks.last.toNat : Int)]
              have bx := bal (Below.refl wp.heap.size wp) (.cells #[.int .i64 b.number, .int .i64 b.boot, .slice D b.jour.segs.length e1', .int .i64 b.jour.len, .int .u32 (b.jour.last.toNat : Int), .slice D2 b.chunks.segs.length e2', .int .i64 b.chunks.len, .int .u32 (b.chunks.last.toNat : Int)] 32)
              have hX := bal hb (.cells #[.int .i64 b.number, .int .i64 b.boot, .slice D b.jour.segs.length e1', .int .i64 b.jour.len, .int .u32 (b.jour.last.toNat : Int), .slice D2 b.chunks.segs.length e2', .int .i64 b.chunks.len, .int .u32 (b.chunks.last.toNat : Int)] 32)
              have hZx := (hZb.below hb').below bx
              have hAx := HA2.out _ hX
              have HS := Lib.hid (law5_same b b D e1' D2 e2' B d B2 d2 _ (hq1.below bx) (hq2.below bx) hAx.r1 hAx.r2 (by omega) (by omega))
              unfold supV at HS
              unfold supV
              obtain ⟨x0, x1, x2, x3, x4, x5, x6, x7⟩ := HC.out _ hX
              obtain ⟨y0, y1, y2, y3, y4, y5, y6, y7⟩ := HD.out _ hX
              obtain ⟨z0, z1, z2, z3, z4, z5, z6, z7⟩ := box_cells X1 (Below.refl _ _)
              have zz0 := hZx.cell 0
              have zz1 := hZx.cell 1
              clear hq1 hq2 hb' hAx bx X1 hb
              go_upto_region 26 with (fail)
              generalize (wp.alloc (.cells #[.int .i64 b.number, .int .i64 b.boot, .slice D b.jour.segs.length e1', .int .i64 b.jour.len, .int .u32 (b.jour.last.toNat : Int), .slice D2 b.chunks.segs.length e2', .int .i64 b.chunks.len, .int .u32 (b.chunks.last.toNat : Int)] 32)) = wx at *
              replace zz0 : wx.cell? ⟨Z, 0, none⟩ = _ := zz0
              replace zz1 : wx.cell? ⟨Z, 1, none⟩ = _ := zz1
              simp only [List.getElem?_toArray, List.getElem?_cons_zero, List.getElem?_cons_succ] at zz0 zz1
              go_wp2_with fail
              (with_reducible refine HS.out.mono ?_)
              rintro e w8 ⟨rs, rfl, hrs, hb8⟩
              have hrs' := hrs.2 rfl
              subst hrs'
              clear hrs
              have hb9 := bn hX hb8
              go_wp2
              go_ret
              exact ⟨rfl, bn HB0.out hb9⟩
          | false =>
            cases z1 with
            | true =>
              have HBE : Hid (Calls Try.prog 24 #[.pointer (some ⟨g, 0, none⟩), .int .i64 96] wr (BestPost (a, 0) wr)) := Lib.hid (by have h1 := HSB.out; rw [HBS.out] at h1; exact h1)
              clear HSB
              go_wp2_with fail
              (with_reducible refine HBE.out.mono ?_)
              rintro e wp ⟨D, e1', D2, e2', rfl, hq1, hq2, hb'⟩
              have hb := bn hLb hb'
              have X1 := Blk.new wp 32 #[.int .i64 a.number, .int .i64 a.boot, .slice D a.jour.segs.length e1', .int .i64 a.jour.len, .int .u32 (a.jour.last.toNat : Int), .slice D2 a.chunks.segs.length e2', .int .i64 a.chunks.len, .int .u32 (a.chunks.last.toNat : Int)]
              have bx := bal (Below.refl wp.heap.size wp) (.cells #[.int .i64 a.number, .int .i64 a.boot, .slice D a.jour.segs.length e1', .int .i64 a.jour.len, .int .u32 (a.jour.last.toNat : Int), .slice D2 a.chunks.segs.length e2', .int .i64 a.chunks.len, .int .u32 (a.chunks.last.toNat : Int)] 32)
              have hX := bal hb (.cells #[.int .i64 a.number, .int .i64 a.boot, .slice D a.jour.segs.length e1', .int .i64 a.jour.len, .int .u32 (a.jour.last.toNat : Int), .slice D2 a.chunks.segs.length e2', .int .i64 a.chunks.len, .int .u32 (a.chunks.last.toNat : Int)] 32)
              have hZx := (hZb.below hb').below bx
              have hAx := HA.out _ hX
              have HS := Lib.hid (law5_same a a D e1' D2 e2' A c A2 c2 _ (hq1.below bx) (hq2.below bx) hAx.r1 hAx.r2 (by omega) (by omega))
              unfold supV at HS
              unfold supV
              obtain ⟨x0, x1, x2, x3, x4, x5, x6, x7⟩ := HC.out _ hX
              obtain ⟨y0, y1, y2, y3, y4, y5, y6, y7⟩ := HD.out _ hX
              obtain ⟨z0, z1, z2, z3, z4, z5, z6, z7⟩ := box_cells X1 (Below.refl _ _)
              have zz0 := hZx.cell 0
              have zz1 := hZx.cell 1
              clear hq1 hq2 hb' hAx bx X1 hb
              go_upto_region 26 with (fail)
              generalize (wp.alloc (.cells #[.int .i64 a.number, .int .i64 a.boot, .slice D a.jour.segs.length e1', .int .i64 a.jour.len, .int .u32 (a.jour.last.toNat : Int), .slice D2 a.chunks.segs.length e2', .int .i64 a.chunks.len, .int .u32 (a.chunks.last.toNat : Int)] 32)) = wx at *
              replace zz0 : wx.cell? ⟨Z, 0, none⟩ = _ := zz0
              replace zz1 : wx.cell? ⟨Z, 1, none⟩ = _ := zz1
              simp only [List.getElem?_toArray, List.getElem?_cons_zero, List.getElem?_cons_succ] at zz0 zz1
              go_wp2_with fail
              (with_reducible refine HS.out.mono ?_)
              rintro e w8 ⟨rs, rfl, hrs, hb8⟩
              have hrs' := hrs.2 rfl
              subst hrs'
              clear hrs
              have hb9 := bn hX hb8
              go_wp2
              go_ret
              exact ⟨rfl, bn HB0.out hb9⟩
            | false =>
              by_cases hnb : a.number < b.number
              · have HBE : Hid (Calls Try.prog 24 #[.pointer (some ⟨g, 0, none⟩), .int .i64 96] wr (BestPost (b, 0) wr)) := Lib.hid (by have h1 := HSB.out; rw [HBS.out] at h1; simp only [bestOf, Bool.false_eq_true, if_false, if_pos hnb] at h1; exact h1)
                clear HSB
                go_wp2_with fail
                (with_reducible refine HBE.out.mono ?_)
                rintro e wp ⟨D, e1', D2, e2', rfl, hq1, hq2, hb'⟩
                have hb := bn hLb hb'
                have X1 := Blk.new wp 32 #[.int .i64 b.number, .int .i64 b.boot, .slice D b.jour.segs.length e1', .int .i64 b.jour.len, .int .u32 (b.jour.last.toNat : Int), .slice D2 b.chunks.segs.length e2', .int .i64 b.chunks.len, .int .u32 (b.chunks.last.toNat : Int)]
                have bx := bal (Below.refl wp.heap.size wp) (.cells #[.int .i64 b.number, .int .i64 b.boot, .slice D b.jour.segs.length e1', .int .i64 b.jour.len, .int .u32 (b.jour.last.toNat : Int), .slice D2 b.chunks.segs.length e2', .int .i64 b.chunks.len, .int .u32 (b.chunks.last.toNat : Int)] 32)
                have hX := bal hb (.cells #[.int .i64 b.number, .int .i64 b.boot, .slice D b.jour.segs.length e1', .int .i64 b.jour.len, .int .u32 (b.jour.last.toNat : Int), .slice D2 b.chunks.segs.length e2', .int .i64 b.chunks.len, .int .u32 (b.chunks.last.toNat : Int)] 32)
                have hZx := (hZb.below hb').below bx
                have hAx := HA2.out _ hX
                have HS := Lib.hid (law5_same b b D e1' D2 e2' B d B2 d2 _ (hq1.below bx) (hq2.below bx) hAx.r1 hAx.r2 (by omega) (by omega))
                unfold supV at HS
                unfold supV
                obtain ⟨x0, x1, x2, x3, x4, x5, x6, x7⟩ := HC.out _ hX
                obtain ⟨y0, y1, y2, y3, y4, y5, y6, y7⟩ := HD.out _ hX
                obtain ⟨z0, z1, z2, z3, z4, z5, z6, z7⟩ := box_cells X1 (Below.refl _ _)
                have zz0 := hZx.cell 0
                have zz1 := hZx.cell 1
                clear hq1 hq2 hb' hAx bx X1 hb
                go_upto_region 26 with (fail)
                generalize (wp.alloc (.cells #[.int .i64 b.number, .int .i64 b.boot, .slice D b.jour.segs.length e1', .int .i64 b.jour.len, .int .u32 (b.jour.last.toNat : Int), .slice D2 b.chunks.segs.length e2', .int .i64 b.chunks.len, .int .u32 (b.chunks.last.toNat : Int)] 32)) = wx at *
                replace zz0 : wx.cell? ⟨Z, 0, none⟩ = _ := zz0
                replace zz1 : wx.cell? ⟨Z, 1, none⟩ = _ := zz1
                simp only [List.getElem?_toArray, List.getElem?_cons_zero, List.getElem?_cons_succ] at zz0 zz1
                go_wp2_with fail
                (with_reducible refine HS.out.mono ?_)
                rintro e w8 ⟨rs, rfl, hrs, hb8⟩
                have hrs' := hrs.2 rfl
                subst hrs'
                clear hrs
                have hb9 := bn hX hb8
                go_wp2
                go_ret
                exact ⟨rfl, bn HB0.out hb9⟩
              · have HBE : Hid (Calls Try.prog 24 #[.pointer (some ⟨g, 0, none⟩), .int .i64 96] wr (BestPost (a, 0) wr)) := Lib.hid (by have h1 := HSB.out; rw [HBS.out] at h1; simp only [bestOf, Bool.false_eq_true, if_false, if_neg hnb] at h1; exact h1)
                clear HSB
                go_wp2_with fail
                (with_reducible refine HBE.out.mono ?_)
                rintro e wp ⟨D, e1', D2, e2', rfl, hq1, hq2, hb'⟩
                have hb := bn hLb hb'
                have X1 := Blk.new wp 32 #[.int .i64 a.number, .int .i64 a.boot, .slice D a.jour.segs.length e1', .int .i64 a.jour.len, .int .u32 (a.jour.last.toNat : Int), .slice D2 a.chunks.segs.length e2', .int .i64 a.chunks.len, .int .u32 (a.chunks.last.toNat : Int)]
                have bx := bal (Below.refl wp.heap.size wp) (.cells #[.int .i64 a.number, .int .i64 a.boot, .slice D a.jour.segs.length e1', .int .i64 a.jour.len, .int .u32 (a.jour.last.toNat : Int), .slice D2 a.chunks.segs.length e2', .int .i64 a.chunks.len, .int .u32 (a.chunks.last.toNat : Int)] 32)
                have hX := bal hb (.cells #[.int .i64 a.number, .int .i64 a.boot, .slice D a.jour.segs.length e1', .int .i64 a.jour.len, .int .u32 (a.jour.last.toNat : Int), .slice D2 a.chunks.segs.length e2', .int .i64 a.chunks.len, .int .u32 (a.chunks.last.toNat : Int)] 32)
                have hZx := (hZb.below hb').below bx
                have hAx := HA.out _ hX
                have HS := Lib.hid (law5_same a a D e1' D2 e2' A c A2 c2 _ (hq1.below bx) (hq2.below bx) hAx.r1 hAx.r2 (by omega) (by omega))
                unfold supV at HS
                unfold supV
                obtain ⟨x0, x1, x2, x3, x4, x5, x6, x7⟩ := HC.out _ hX
                obtain ⟨y0, y1, y2, y3, y4, y5, y6, y7⟩ := HD.out _ hX
                obtain ⟨z0, z1, z2, z3, z4, z5, z6, z7⟩ := box_cells X1 (Below.refl _ _)
                have zz0 := hZx.cell 0
                have zz1 := hZx.cell 1
                clear hq1 hq2 hb' hAx bx X1 hb
                go_upto_region 26 with (fail)
                generalize (wp.alloc (.cells #[.int .i64 a.number, .int .i64 a.boot, .slice D a.jour.segs.length e1', .int .i64 a.jour.len, .int .u32 (a.jour.last.toNat : Int), .slice D2 a.chunks.segs.length e2', .int .i64 a.chunks.len, .int .u32 (a.chunks.last.toNat : Int)] 32)) = wx at *
                replace zz0 : wx.cell? ⟨Z, 0, none⟩ = _ := zz0
                replace zz1 : wx.cell? ⟨Z, 1, none⟩ = _ := zz1
                simp only [List.getElem?_toArray, List.getElem?_cons_zero, List.getElem?_cons_succ] at zz0 zz1
                go_wp2_with fail
                (with_reducible refine HS.out.mono ?_)
                rintro e w8 ⟨rs, rfl, hrs, hb8⟩
                have hrs' := hrs.2 rfl
                subst hrs'
                clear hrs
                have hb9 := bn hX hb8
                go_wp2
                go_ret
                exact ⟨rfl, bn HB0.out hb9⟩
end Go.Proofs.Ytbhhjphgbdaanaa
