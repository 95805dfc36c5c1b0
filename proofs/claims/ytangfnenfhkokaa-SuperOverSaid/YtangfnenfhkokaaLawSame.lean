/-
  law5.Same.
-/
import Derived.Test.YtangfnenfhkokaaLaw5
set_option linter.unusedSimpArgs false
set_option linter.unusedVariables false
namespace Go.Proofs.Ytangfnenfhkokaa
open Go.RowKit Go.Maps

def SameSPost (w : World) (a b : Sup) (e : Ending) (w' : World) : Prop := ∃ r, e = .returned (.bool r) ∧ (r = true ↔ a = b) ∧ Below w.heap.size w w'
theorem SameSPost.no {w w' : World} {a b : Sup} {e : Ending} (he : e = .returned (.bool false)) (h : a ≠ b) (hb : Below w.heap.size w w') : SameSPost w a b e w' := ⟨false, he, ⟨(fun h => by cases h), fun e => (h e).elim⟩, hb⟩
theorem SameSPost.yes {w w' : World} {a b : Sup} {e : Ending} (he : e = .returned (.bool true)) (h : a = b) (hb : Below w.heap.size w w') : SameSPost w a b e w' := ⟨true, he, ⟨(fun _ => h), fun _ => rfl⟩, hb⟩
theorem two_blk3 (W0 : World) (e e' : TypeId) (c1 c2 : Array Value) : Blk ((W0.alloc (.cells c1 e)).alloc (.cells c2 e')).drew W0.heap.size e c1 ∧ Blk ((W0.alloc (.cells c1 e)).alloc (.cells c2 e')).drew (W0.heap.size + 1) e' c2 ∧ Below W0.heap.size W0 ((W0.alloc (.cells c1 e)).alloc (.cells c2 e')).drew := by
  refine ⟨(Blk.new W0 e c1).alloc _, ?_, bdr (bal (bal (Below.refl _ _) _) _)⟩
  have := Blk.new (W0.alloc (.cells c1 e)) e' c2
  rw [size_more'] at this
  exact this
theorem sl_ne1 {l m : SLog} (h : ¬ l.len = m.len) : l ≠ m := fun e => h (congrArg SLog.len e)
theorem sl_ne2 {l m : SLog} (h : ¬ l.last = m.last) : l ≠ m := fun e => h (congrArg SLog.last e)
theorem sl_ne3 {l m : SLog} (h : ¬ l.segs.length = m.segs.length) : l ≠ m := fun e => h (congrArg (fun x : SLog => x.segs.length) e)
theorem sl_eq {l m : SLog} (h1 : l.len = m.len) (h2 : l.last = m.last) (h3 : l.segs = m.segs) : l = m := by
  obtain ⟨a, b, c⟩ := l
  obtain ⟨a', b', c'⟩ := m
  simp only at h1 h2 h3
  rw [h1, h2, h3]
theorem last_ne {a b : Crc.W} (h : ¬ (a.toNat : Int) = (b.toNat : Int)) : ¬ a = b := fun e => h (by rw [e])
theorem last_eq {a b : Crc.W} (h : (a.toNat : Int) = (b.toNat : Int)) : a = b := BitVec.eq_of_toNat_eq (Int.ofNat.inj h)
theorem same_keep {V : World} {b b' : Nat} {e e' : TypeId} {u0 u1 u2 u3 u4 u5 u6 u7 v0 v1 v2 v3 v4 v5 v6 v7 : Value} (h : Blk V b e #[u0, u1, u2, u3, u4, u5, u6, u7]) (h' : Blk V b' e' #[v0, v1, v2, v3, v4, v5, v6, v7]) :
    V.cell? ⟨b, 0, none⟩ = some u0 ∧ V.cell? ⟨b, 1, none⟩ = some u1 ∧ V.cell? ⟨b, 2, none⟩ = some u2 ∧ V.cell? ⟨b, 3, none⟩ = some u3 ∧ V.cell? ⟨b, 4, none⟩ = some u4 ∧ V.cell? ⟨b, 5, none⟩ = some u5 ∧ V.cell? ⟨b, 6, none⟩ = some u6 ∧ V.cell? ⟨b, 7, none⟩ = some u7 ∧ V.cell? ⟨b', 0, none⟩ = some v0 ∧ V.cell? ⟨b', 1, none⟩ = some v1 ∧ V.cell? ⟨b', 2, none⟩ = some v2 ∧ V.cell? ⟨b', 3, none⟩ = some v3 ∧ V.cell? ⟨b', 4, none⟩ = some v4 ∧ V.cell? ⟨b', 5, none⟩ = some v5 ∧ V.cell? ⟨b', 6, none⟩ = some v6 ∧ V.cell? ⟨b', 7, none⟩ = some v7 :=
  ⟨h.cell 0, h.cell 1, h.cell 2, h.cell 3, h.cell 4, h.cell 5, h.cell 6, h.cell 7, h'.cell 0, h'.cell 1, h'.cell 2, h'.cell 3, h'.cell 4, h'.cell 5, h'.cell 6, h'.cell 7⟩
def SameInv (a b : Sup) (k : Nat) : Prop := (1 ≤ k → a.jour = b.jour) ∧ (2 ≤ k → a.chunks = b.chunks)
theorem same_pair {wc : World} {X Y : Nat} {e e' : TypeId} {nu bo n1 n2 mu co p1 p2 : Int} {l1 l2 k1 k2 : List Int} {s1 s2 t1 t2 : Crc.W} {A1 A2 B1 B2 : Option Addr} {c1 c2 d1 d2 : Nat} {sa sb : Sup}
    (hX : Blk wc X e #[.slice A1 l1.length c1, .int .i64 n1, .int .u32 (s1.toNat : Int), .slice A2 l2.length c2, .int .i64 n2, .int .u32 (s2.toNat : Int)])
    (hY : Blk wc Y e' #[.slice B1 k1.length d1, .int .i64 p1, .int .u32 (t1.toNat : Int), .slice B2 k2.length d2, .int .i64 p2, .int .u32 (t2.toNat : Int)])
    (h1 : Rd wc A1 (l1.map ei)) (h2 : Rd wc A2 (l2.map ei)) (h3 : Rd wc B1 (k1.map ei)) (h4 : Rd wc B2 (k2.map ei))
    (hsa : sa = ⟨nu, bo, ⟨l1, n1, s1⟩, ⟨l2, n2, s2⟩⟩) (hsb : sb = ⟨mu, co, ⟨k1, p1, t1⟩, ⟨k2, p2, t2⟩⟩) (hl1 : l1.length ≤ 100000000000) (hl2 : l2.length ≤ 100000000000) :
    ∀ k : Nat, k < 2 → ∃ (l m : SLog) (A : Option Addr) (c : Nat) (B : Option Addr) (d : Nat),
      (∀ W, Below wc.heap.size wc W → W.cell? ⟨X, k * 3, none⟩ = some (.slice A l.segs.length c) ∧ W.cell? ⟨X, k * 3 + 1, none⟩ = some (.int .i64 l.len) ∧ W.cell? ⟨X, k * 3 + 2, none⟩ = some (.int .u32 (l.last.toNat : Int))
        ∧ W.cell? ⟨Y, k * 3, none⟩ = some (.slice B m.segs.length d) ∧ W.cell? ⟨Y, k * 3 + 1, none⟩ = some (.int .i64 m.len) ∧ W.cell? ⟨Y, k * 3 + 2, none⟩ = some (.int .u32 (m.last.toNat : Int)) ∧ Rd W A (l.segs.map ei) ∧ Rd W B (m.segs.map ei))
      ∧ (sa = sb → l = m) ∧ (SameInv sa sb k → l = m → SameInv sa sb (k + 1)) ∧ l.segs.length ≤ 100000000000 := by
  intro k hk
  obtain rfl | rfl : k = 0 ∨ k = 1 := by omega
  · refine ⟨⟨l1, n1, s1⟩, ⟨k1, p1, t1⟩, A1, c1, B1, d1, fun W hb => ?_, fun e => ?_, fun _ e => ?_, hl1⟩
    · have x := hX.below hb
      have y := hY.below hb
      exact ⟨x.cell 0, x.cell 1, x.cell 2, y.cell 0, y.cell 1, y.cell 2, h1.below hb, h3.below hb⟩
    · rw [hsa, hsb] at e; exact congrArg Sup.jour e
    · rw [hsa, hsb]; exact ⟨fun _ => e, fun h => by omega⟩
  · refine ⟨⟨l2, n2, s2⟩, ⟨k2, p2, t2⟩, A2, c2, B2, d2, fun W hb => ?_, fun e => ?_, fun h e => ?_, hl2⟩
    · have x := hX.below hb
      have y := hY.below hb
      exact ⟨x.cell 3, x.cell 4, x.cell 5, y.cell 3, y.cell 4, y.cell 5, h2.below hb, h4.below hb⟩
    · rw [hsa, hsb] at e; exact congrArg Sup.chunks e
    · refine ⟨fun _ => h.1 (by omega), fun _ => ?_⟩; rw [hsa, hsb]; exact e
set_option maxRecDepth 100000 in
set_option maxHeartbeats 4000000 in
theorem law5_same (a b : Sup) (A1 : Option Addr) (c1 : Nat) (A2 : Option Addr) (c2 : Nat) (B1 : Option Addr) (d1 : Nat) (B2 : Option Addr) (d2 : Nat) (w : World) (hra1 : Rd w A1 (a.jour.segs.map ei)) (hra2 : Rd w A2 (a.chunks.segs.map ei)) (hrb1 : Rd w B1 (b.jour.segs.map ei)) (hrb2 : Rd w B2 (b.chunks.segs.map ei))
    (hl1 : a.jour.segs.length ≤ 100000000000) (hl2 : a.chunks.segs.length ≤ 100000000000) :
    Calls Try.prog 37 #[supV a A1 c1 A2 c2, supV b B1 d1 B2 d2] w (SameSPost w a b) := by
  obtain ⟨nu, bo, ⟨l1, n1, s1⟩, ⟨l2, n2, s2⟩⟩ := a
  obtain ⟨mu, co, ⟨k1, p1, t1⟩, ⟨k2, p2, t2⟩⟩ := b
  obtain ⟨sa, hsa⟩ : ∃ s : Sup, s = ⟨nu, bo, ⟨l1, n1, s1⟩, ⟨l2, n2, s2⟩⟩ := ⟨_, rfl⟩
  obtain ⟨sb, hsb⟩ : ∃ s : Sup, s = ⟨mu, co, ⟨k1, p1, t1⟩, ⟨k2, p2, t2⟩⟩ := ⟨_, rfl⟩
  unfold supV
  simp only at hra1 hra2 hrb1 hrb2 hl1 hl2 ⊢
  rw [← hsa, ← hsb]
  have HSA := Lib.hid hsa
  have HSB := Lib.hid hsb
  clear hsa hsb
  have hBa := (Blk.new w 68 #[.int .i64 nu, .int .i64 bo, .slice A1 l1.length c1, .int .i64 n1, .int .u32 (s1.toNat : Int), .slice A2 l2.length c2, .int .i64 n2, .int .u32 (s2.toNat : Int)]).alloc (.cells #[.int .i64 mu, .int .i64 co, .slice B1 k1.length d1, .int .i64 p1, .int .u32 (t1.toNat : Int), .slice B2 k2.length d2, .int .i64 p2, .int .u32 (t2.toNat : Int)] 64)
  have hBb := Blk.new (w.alloc (.cells #[.int .i64 nu, .int .i64 bo, .slice A1 l1.length c1, .int .i64 n1, .int .u32 (s1.toNat : Int), .slice A2 l2.length c2, .int .i64 n2, .int .u32 (s2.toNat : Int)] 68)) 64 #[.int .i64 mu, .int .i64 co, .slice B1 k1.length d1, .int .i64 p1, .int .u32 (t1.toNat : Int), .slice B2 k2.length d2, .int .i64 p2, .int .u32 (t2.toNat : Int)]
  rw [size_more'] at hBb
  have hb0 := bal (bal (Below.refl w.heap.size w) (.cells #[.int .i64 nu, .int .i64 bo, .slice A1 l1.length c1, .int .i64 n1, .int .u32 (s1.toNat : Int), .slice A2 l2.length c2, .int .i64 n2, .int .u32 (s2.toNat : Int)] 68)) (.cells #[.int .i64 mu, .int .i64 co, .slice B1 k1.length d1, .int .i64 p1, .int .u32 (t1.toNat : Int), .slice B2 k2.length d2, .int .i64 p2, .int .u32 (t2.toNat : Int)] 64)
  go_enter Try.func37, Try.ntmps37
  go_upto_region 1 with (fail)
  generalize ((w.alloc (.cells #[.int .i64 nu, .int .i64 bo, .slice A1 l1.length c1, .int .i64 n1, .int .u32 (s1.toNat : Int), .slice A2 l2.length c2, .int .i64 n2, .int .u32 (s2.toNat : Int)] 68)).alloc (.cells #[.int .i64 mu, .int .i64 co, .slice B1 k1.length d1, .int .i64 p1, .int .u32 (t1.toNat : Int), .slice B2 k2.length d2, .int .i64 p2, .int .u32 (t2.toNat : Int)] 64)) = W0 at *
  go_cut [5, 6] (fun s5 s6 wx => ∃ X Y, s5 = .slice (some ⟨X, 0, none⟩) 2 2 ∧ s6 = .slice (some ⟨Y, 0, none⟩) 2 2 ∧ Blk wx X 38 #[.slice A1 l1.length c1, .int .i64 n1, .int .u32 (s1.toNat : Int), .slice A2 l2.length c2, .int .i64 n2, .int .u32 (s2.toNat : Int)] ∧ Blk wx Y 62 #[.slice B1 k1.length d1, .int .i64 p1, .int .u32 (t1.toNat : Int), .slice B2 k2.length d2, .int .i64 p2, .int .u32 (t2.toNat : Int)] ∧ Below W0.heap.size W0 wx)
  case first =>
    have x0 : W0.cell? ⟨w.heap.size, 0, none⟩ = some (.int .i64 nu) := hBa.cell 0
    have x1 : W0.cell? ⟨w.heap.size, 1, none⟩ = some (.int .i64 bo) := hBa.cell 1
    have x2 : W0.cell? ⟨w.heap.size, 2, none⟩ = some (.slice A1 l1.length c1) := hBa.cell 2
    have x3 : W0.cell? ⟨w.heap.size, 3, none⟩ = some (.int .i64 n1) := hBa.cell 3
    have x4 : W0.cell? ⟨w.heap.size, 4, none⟩ = some (.int .u32 (s1.toNat : Int)) := hBa.cell 4
    have x5 : W0.cell? ⟨w.heap.size, 5, none⟩ = some (.slice A2 l2.length c2) := hBa.cell 5
    have x6 : W0.cell? ⟨w.heap.size, 6, none⟩ = some (.int .i64 n2) := hBa.cell 6
    have x7 : W0.cell? ⟨w.heap.size, 7, none⟩ = some (.int .u32 (s2.toNat : Int)) := hBa.cell 7
    have y0 : W0.cell? ⟨w.heap.size + 1, 0, none⟩ = some (.int .i64 mu) := hBb.cell 0
    have y1 : W0.cell? ⟨w.heap.size + 1, 1, none⟩ = some (.int .i64 co) := hBb.cell 1
    have y2 : W0.cell? ⟨w.heap.size + 1, 2, none⟩ = some (.slice B1 k1.length d1) := hBb.cell 2
    have y3 : W0.cell? ⟨w.heap.size + 1, 3, none⟩ = some (.int .i64 p1) := hBb.cell 3
    have y4 : W0.cell? ⟨w.heap.size + 1, 4, none⟩ = some (.int .u32 (t1.toNat : Int)) := hBb.cell 4
    have y5 : W0.cell? ⟨w.heap.size + 1, 5, none⟩ = some (.slice B2 k2.length d2) := hBb.cell 5
    have y6 : W0.cell? ⟨w.heap.size + 1, 6, none⟩ = some (.int .i64 p2) := hBb.cell 6
    have y7 : W0.cell? ⟨w.heap.size + 1, 7, none⟩ = some (.int .u32 (t2.toNat : Int)) := hBb.cell 7
    clear hra1 hra2 hrb1 hrb2 hb0
    go_region_held3 (fun V => V.cell? ⟨w.heap.size, 0, none⟩ = some (.int .i64 nu) ∧ V.cell? ⟨w.heap.size, 1, none⟩ = some (.int .i64 bo) ∧ V.cell? ⟨w.heap.size, 2, none⟩ = some (.slice A1 l1.length c1) ∧ V.cell? ⟨w.heap.size, 3, none⟩ = some (.int .i64 n1) ∧ V.cell? ⟨w.heap.size, 4, none⟩ = some (.int .u32 (s1.toNat : Int)) ∧ V.cell? ⟨w.heap.size, 5, none⟩ = some (.slice A2 l2.length c2) ∧ V.cell? ⟨w.heap.size, 6, none⟩ = some (.int .i64 n2) ∧ V.cell? ⟨w.heap.size, 7, none⟩ = some (.int .u32 (s2.toNat : Int)) ∧ V.cell? ⟨w.heap.size + 1, 0, none⟩ = some (.int .i64 mu) ∧ V.cell? ⟨w.heap.size + 1, 1, none⟩ = some (.int .i64 co) ∧ V.cell? ⟨w.heap.size + 1, 2, none⟩ = some (.slice B1 k1.length d1) ∧ V.cell? ⟨w.heap.size + 1, 3, none⟩ = some (.int .i64 p1) ∧ V.cell? ⟨w.heap.size + 1, 4, none⟩ = some (.int .u32 (t1.toNat : Int)) ∧ V.cell? ⟨w.heap.size + 1, 5, none⟩ = some (.slice B2 k2.length d2) ∧ V.cell? ⟨w.heap.size + 1, 6, none⟩ = some (.int .i64 p2) ∧ V.cell? ⟨w.heap.size + 1, 7, none⟩ = some (.int .u32 (t2.toNat : Int)))
      (first | exact same_keep (Blk.drew' hBa) (Blk.drew' hBb) | exact same_keep (Blk.drew' (hBa.alloc _)) (Blk.drew' (hBb.alloc _)) | exact same_keep (Blk.drew' ((hBa.alloc _).alloc _)) (Blk.drew' ((hBb.alloc _).alloc _))) (fail)
    all_goals (go_wp2_with fail; go_meet)
    · exact ⟨_, _, rfl, rfl, (two_blk3 W0 _ _ _ _).1, (two_blk3 W0 _ _ _ _).2.1, (two_blk3 W0 _ _ _ _).2.2⟩
    · exact ⟨_, _, rfl, rfl, (two_blk3 W0 _ _ _ _).2.1, (two_blk3 W0 _ _ _ _).1, (two_blk3 W0 _ _ _ _).2.2⟩
  case rest =>
    obtain ⟨X, Y, rfl, rfl, hX, hY, hbc⟩ := hcut
    have hb0c := hb0.trans (hbc.mono hb0.size)
    have hBc := hBa.below hbc
    have hBd := hBb.below hbc
    have HP := Lib.hid (same_pair hX hY (hra1.below hb0c) (hra2.below hb0c) (hrb1.below hb0c) (hrb2.below hb0c) HSA.out HSB.out hl1 hl2)
    have HEND := Lib.hid (fun (W : World) (hb : Below wc.heap.size wc W) => same_keep (hBc.below hb) (hBd.below hb))
    have HB0 := Lib.hid hb0c
    clear hra1 hra2 hrb1 hrb2 hX hY hBa hBb hb0 hbc hBc hBd hl1 hl2 hb0c
    go_wp2_with fail
    go_loopw [7] (fun i wr => ∃ k : Nat, k ≤ 2 ∧ i = .int .i64 (k : Int) ∧ Hid (SameInv sa sb k) ∧ Below wc.heap.size wc wr) (fun i _ => 2 - (intOf i).toNat)
    case atStart => exact ⟨0, by omega, rfl, Lib.hid ⟨fun h => by omega, fun h => by omega⟩, Below.refl _ _⟩
    case round =>
      obtain ⟨k, hk, rfl, hinv, hbr⟩ := hrel
      by_cases hlt : k < 2
      · obtain ⟨l, m, A, c, B, d, hcs, hne, hiv, hln⟩ := HP.out k hlt
        obtain ⟨x0, x1, x2, y0, y1, y2, hr1, hr2⟩ := hcs wr hbr
        have HCS := Lib.hid hcs
        have HNE := Lib.hid hne
        have HIV := Lib.hid hiv
        have HB1 := Lib.hid (HB0.out.trans (hbr.mono HB0.out.size))
        clear hcs hne hiv
        have i0 : (0 : Int) ≤ (k : Int) := by omega
        have i1 : (k : Int) < 2 := by omega
        by_cases q1 : l.len = m.len
        · by_cases q2 : (l.last.toNat : Int) = (m.last.toNat : Int)
          · by_cases q3 : l.segs.length = m.segs.length
            · have q1' : (l.len != m.len) = false := by rw [bne_eq_false_iff_eq]; exact q1
              have q2' : ((l.last.toNat : Int) != (m.last.toNat : Int)) = false := by rw [bne_eq_false_iff_eq]; exact q2
              have q3' : ((l.segs.length : Int) != (m.segs.length : Int)) = false := by rw [bne_eq_false_iff_eq]; omega
              have HLM : Hid (l.segs = m.segs → l = m) := Lib.hid (fun e => sl_eq q1 (last_eq q2) e)
              go_wp2_with fail
              go_quiet (fail)
              go_wp2_with fail
              have HBR := Lib.hid (below_drewN hbr nq)
              have HBO := Lib.hid (below_drewN HB1.out nq)
              generalize wr.drewN nq = wo at *
              clear x0 x1 x2 y0 y1 y2 hr1 hr2 hbr q1' q2' q3'
              go_loopw [8] (fun i wr => ∃ j : Nat, j ≤ l.segs.length ∧ i = .int .i64 (j : Int) ∧ Hid (l.segs.take j = m.segs.take j) ∧ Below wo.heap.size wo wr) (fun i _ => l.segs.length - (intOf i).toNat)
              case atStart => exact ⟨0, Nat.zero_le _, rfl, Lib.hid rfl, Below.refl _ _⟩
              case round =>
                obtain ⟨j, hj, rfl, htk, hbi⟩ := hrel
                have HBI := Lib.hid (bn HBR.out hbi)
                have HB2 := Lib.hid (bn HBO.out hbi)
                obtain ⟨x0, x1, x2, y0, y1, y2, hr1, hr2⟩ := HCS.out wr HBI.out
                by_cases hjl : j < l.segs.length
                · have hjm : j < m.segs.length := by omega
                  obtain ⟨ad, rfl⟩ := hr1.some_of (by intro e; have := congrArg List.length e; rw [List.length_map] at this; simp only [List.length_nil] at this; omega)
                  obtain ⟨bd, rfl⟩ := hr2.some_of (by intro e; have := congrArg List.length e; rw [List.length_map] at this; simp only [List.length_nil] at this; omega)
                  have a0 := hr1.at_ j (by rw [List.length_map]; exact hjl)
                  have b0 := hr2.at_ j (by rw [List.length_map]; exact hjm)
                  rw [List.getElem_map] at a0 b0
                  unfold ei at a0 b0
                  have HT1 := Lib.hid (List.take_succ_eq_append_getElem hjl)
                  have HT2 := Lib.hid (List.take_succ_eq_append_getElem hjm)
                  have HD : Hid (l.segs[j] ≠ m.segs[j] → l ≠ m) := Lib.hid (fun h e => h (by subst e; rfl))
                  have j0 : (0 : Int) ≤ (j : Int) := by omega
                  have j1 : (j : Int) < (l.segs.length : Int) := by omega
                  have j2 : (j : Int) < (m.segs.length : Int) := by omega
                  generalize l.segs[j] = p at *
                  generalize m.segs[j] = q at *
                  clear hr1 hr2
                  by_cases e : p = q
                  · have e' : (p != q) = false := by rw [bne_eq_false_iff_eq]; exact e
                    have HE := Lib.hid e
                    clear e
                    go_wp2_with fail
                    go_quiet (fail)
                    have HBI' := Lib.hid (below_drewN hbi nq)
                    generalize wr.drewN nq = wo2 at *
                    go_wp2_with fail
                    go_roundw
                    case rel => exact ⟨j + 1, by omega, by go_num, Lib.hid (by rw [HT1.out, HT2.out, htk.out, HE.out]), HBI'.out⟩
                    case measure => simp [intOf]; try omega
                  · have e' : (p != q) = true := by rw [bne_iff_ne]; exact e
                    go_wp2_with fail
                    go_quiet (fail)
                    go_wp2
                    go_ret
                    exact SameSPost.no rfl (fun e2 => HD.out e (HNE.out e2)) (below_drewN HB2.out nq)
                · obtain rfl : j = l.segs.length := by omega
                  have hseg : l.segs = m.segs := by
                    have := htk.out
                    rw [List.take_length, q3, List.take_length] at this
                    exact this
                  have HSEG := Lib.hid (HIV.out hinv.out (HLM.out hseg))
                  clear hseg
                  go_wp2_with fail
                  go_roundw
                  case rel => exact ⟨k + 1, by omega, by go_num, HSEG, HBI.out⟩
                  case measure => simp [intOf]; try omega
            · have q3' : ((l.segs.length : Int) != (m.segs.length : Int)) = true := by rw [bne_iff_ne]; omega
              go_wp2_with fail
              go_quiet (fail)
              all_goals go_wp2
              all_goals go_ret
              all_goals exact SameSPost.no rfl (fun e => sl_ne3 q3 (HNE.out e)) (below_drewN HB1.out nq)
          · have q2' : ((l.last.toNat : Int) != (m.last.toNat : Int)) = true := by rw [bne_iff_ne]; exact q2
            go_wp2_with fail
            go_quiet (fail)
            all_goals go_wp2
            all_goals go_ret
            all_goals exact SameSPost.no rfl (fun e => sl_ne2 (last_ne q2) (HNE.out e)) (below_drewN HB1.out nq)
        · have q1' : (l.len != m.len) = true := by rw [bne_iff_ne]; exact q1
          go_wp2_with fail
          go_quiet (fail)
          all_goals go_wp2
          all_goals go_ret
          all_goals exact SameSPost.no rfl (fun e => sl_ne1 q1 (HNE.out e)) (below_drewN HB1.out nq)
      · obtain rfl : k = 2 := by omega
        obtain ⟨x0, x1, x2, x3, x4, x5, x6, x7, y0, y1, y2, y3, y4, y5, y6, y7⟩ := HEND.out wr hbr
        have HB1 := Lib.hid (HB0.out.trans (hbr.mono HB0.out.size))
        by_cases q1 : nu = mu
        · by_cases q2 : bo = co
          · go_wp2
            go_ret
            refine SameSPost.yes (ret_bool (by simp [q2])) ?_ HB1.out
            have h1 := hinv.out.1 (by omega)
            have h2 := hinv.out.2 (by omega)
            rw [HSA.out, HSB.out] at h1 h2 ⊢
            simp only at h1 h2
            rw [q1, q2, h1, h2]
          · go_wp2
            go_ret
            refine SameSPost.no (ret_bool (by simp [q2])) (fun e => ?_) HB1.out
            rw [HSA.out, HSB.out] at e
            exact q2 (congrArg Sup.boot e)
        · go_wp2
          go_ret
          refine SameSPost.no rfl (fun e => ?_) HB1.out
          rw [HSA.out, HSB.out] at e
          exact q1 (congrArg Sup.number e)
end Go.Proofs.Ytangfnenfhkokaa
