/-
  event.Read.
-/
import Derived.Test.YtlgkcpgbmobacaaEvBytes
set_option linter.unusedSimpArgs false
set_option linter.unusedVariables false
namespace Go.Proofs.Ytlgkcpgbmobacaa
open Go.RowKit

/-- bytes that are read lie in no block of other cells -/
theorem RB.free {w w' : World} {S : Nat} {e : TypeId} {cs : Array Value} {A : Option Addr} {l : List UInt8} (h : RB w A l) (hb : Blk w S e cs) (hno : ∀ u ∈ cs, ∀ n, u ≠ .int .u8 n) (hk : Kp (fun k => k = S) w w') : RB w' A l := by
  by_cases hl : 0 < l.length
  · refine h.kp hk fun ad e1 => ?_
    subst e1
    obtain ⟨b', off, rfl, hc⟩ := h.lit_of hl
    rintro rfl
    have h0 := hc 0 hl
    rw [hb.cell] at h0
    exact hno _ (Array.mem_of_getElem? h0) _ rfl
  · have : l = [] := List.eq_nil_of_length_eq_zero (by omega)
    subst this
    exact RB.nil _ _
theorem EyeAt.free {w w' : World} {g S : Nat} {st : Option (List UInt8)} {e : TypeId} {cs : Array Value} (h : EyeAt w g st) (hb : Blk w S e cs) (hno : ∀ u ∈ cs, ∀ n, u ≠ .int .u8 n) (hk : Kp (fun k => k = S) w w') (hne : g ≠ S) : EyeAt w' g st := by
  cases st with
  | none => exact Blk.kp h hk hne
  | some l =>
    obtain ⟨A, c, h1, h2, h3⟩ := h
    exact ⟨A, c, h1.kp hk hne, h2, h3.free hb hno hk⟩
theorem EyeAt.lt' {w : World} {g : Nat} {st : Option (List UInt8)} (h : EyeAt w g st) : g < w.heap.size := by
  cases st with
  | none => exact Blk.lt h
  | some l => obtain ⟨_, _, h, _⟩ := h; exact h.lt
theorem kp_set (w : World) (S i : Nat) (u : Value) : Kp (fun k => k = S) w (w.setCell ⟨S, i, none⟩ u) := (Kp.refl _ w).setCell i u rfl

theorem item_no_u8 (op : Int) (path to_ : List UInt8) (off size : Int) (v5 v6 : Value) (h5 : ∀ n, v5 ≠ .int .u8 n) (h6 : ∀ n, v6 ≠ .int .u8 n) : ∀ u ∈ (#[.int .i64 op, .string ⟨path.toArray⟩, .string ⟨to_.toArray⟩, .int .i64 off, .int .i64 size, v5, v6] : Array Value), ∀ n, u ≠ .int .u8 n := by
  intro u hu n
  simp at hu
  rcases hu with rfl | rfl | rfl | rfl | rfl | rfl | rfl
  · simp
  · simp
  · simp
  · simp
  · simp
  · exact h5 n
  · exact h6 n

def zeroItem : Item := ⟨0, [], [], 0, 0, 0, []⟩
def ReadPost (w : World) (g : Nat) (st : Option (List UInt8)) (e : Ending) (w' : World) : Prop :=
  ∃ (it : Item) (ok : Bool) (A5 : Option Addr) (c5 : Nat) (A6 : Option Addr) (c6 : Nat), e = .returned (.tuple #[iv it A5 c5 A6 c6, .bool ok]) ∧ ok = ((dItem st).2.isSome && may (dItem st).1) ∧ it = (if ok then (dItem st).1 else zeroItem) ∧
    Rd w' A6 (pcs it.parts) ∧ (∀ ad, A6 = some ad → ad.block < w'.heap.size ∧ w.heap.size ≤ ad.block) ∧ EyeAt w' g (dItem st).2 ∧ Kept g w.heap.size w w'

theorem blk_set7 {w : World} {T : Nat} {e : TypeId} {a0 a1 a2 a3 a4 a5 a6 v0 v1 v2 v3 v4 v5 v6 : Value} (h : Blk w T e #[a0, a1, a2, a3, a4, a5, a6]) :
    Blk (((((((w.setCell ⟨T, 0, none⟩ v0).setCell ⟨T, 1, none⟩ v1).setCell ⟨T, 2, none⟩ v2).setCell ⟨T, 3, none⟩ v3).setCell ⟨T, 4, none⟩ v4).setCell ⟨T, 5, none⟩ v5).setCell ⟨T, 6, none⟩ v6) T e #[v0, v1, v2, v3, v4, v5, v6] := by
  have h0 : Blk (w.setCell ⟨T, 0, none⟩ v0) T e #[v0, a1, a2, a3, a4, a5, a6] := h.set 0 v0
  generalize w.setCell ⟨T, 0, none⟩ v0 = w at *
  have h1 : Blk (w.setCell ⟨T, 1, none⟩ v1) T e #[v0, v1, a2, a3, a4, a5, a6] := h0.set 1 v1
  generalize w.setCell ⟨T, 1, none⟩ v1 = w at *
  have h2 : Blk (w.setCell ⟨T, 2, none⟩ v2) T e #[v0, v1, v2, a3, a4, a5, a6] := h1.set 2 v2
  generalize w.setCell ⟨T, 2, none⟩ v2 = w at *
  have h3 : Blk (w.setCell ⟨T, 3, none⟩ v3) T e #[v0, v1, v2, v3, a4, a5, a6] := h2.set 3 v3
  generalize w.setCell ⟨T, 3, none⟩ v3 = w at *
  have h4 : Blk (w.setCell ⟨T, 4, none⟩ v4) T e #[v0, v1, v2, v3, v4, a5, a6] := h3.set 4 v4
  generalize w.setCell ⟨T, 4, none⟩ v4 = w at *
  have h5 : Blk (w.setCell ⟨T, 5, none⟩ v5) T e #[v0, v1, v2, v3, v4, v5, a6] := h4.set 5 v5
  generalize w.setCell ⟨T, 5, none⟩ v5 = w at *
  exact h5.set 6 v6
theorem kp_set7 (w : World) (T : Nat) (v0 v1 v2 v3 v4 v5 v6 : Value) :
    Kp (fun k => k = T) w (((((((w.setCell ⟨T, 0, none⟩ v0).setCell ⟨T, 1, none⟩ v1).setCell ⟨T, 2, none⟩ v2).setCell ⟨T, 3, none⟩ v3).setCell ⟨T, 4, none⟩ v4).setCell ⟨T, 5, none⟩ v5).setCell ⟨T, 6, none⟩ v6) := by
  refine Kp.setCell (F := fun k => k = T) ?_ 6 v6 rfl
  refine Kp.setCell (F := fun k => k = T) ?_ 5 v5 rfl
  refine Kp.setCell (F := fun k => k = T) ?_ 4 v4 rfl
  refine Kp.setCell (F := fun k => k = T) ?_ 3 v3 rfl
  refine Kp.setCell (F := fun k => k = T) ?_ 2 v2 rfl
  refine Kp.setCell (F := fun k => k = T) ?_ 1 v1 rfl
  exact kp_set w T 0 v0
theorem below_set7 (B : Nat) (w : World) (T : Nat) (hB : B ≤ T) (v0 v1 v2 v3 v4 v5 v6 : Value) :
    Below B w (((((((w.setCell ⟨T, 0, none⟩ v0).setCell ⟨T, 1, none⟩ v1).setCell ⟨T, 2, none⟩ v2).setCell ⟨T, 3, none⟩ v3).setCell ⟨T, 4, none⟩ v4).setCell ⟨T, 5, none⟩ v5).setCell ⟨T, 6, none⟩ v6) :=
  ((((((((Below.refl B w).setCell hB v0).setCell hB v1).setCell hB v2).setCell hB v3).setCell hB v4).setCell hB v5).setCell hB v6)
theorem read_res {tmps : Array Value} {w : World} {T : Nat} {b : Bool} {v0 v1 v2 v3 v4 v5 v6 : Value} (h2 : tmps[2]?.getD undef = .pointer (some ⟨T, 0, none⟩)) (h3 : tmps[3]?.getD undef = .bool b) (h : Blk w T 68 #[v0, v1, v2, v3, v4, v5, v6]) :
    (results Try.f44 tmps).run Try.prog w = .ok (.tuple #[.agg #[v0, v1, v2, v3, v4, v5, v6], .bool b]) w := by
  have c0 : w.cell? ⟨T, 0, none⟩ = some v0 := h.cell 0
  have c1 : w.cell? ⟨T, 1, none⟩ = some v1 := h.cell 1
  have c2 : w.cell? ⟨T, 2, none⟩ = some v2 := h.cell 2
  have c3 : w.cell? ⟨T, 3, none⟩ = some v3 := h.cell 3
  have c4 : w.cell? ⟨T, 4, none⟩ = some v4 := h.cell 4
  have c5 : w.cell? ⟨T, 5, none⟩ = some v5 := h.cell 5
  have c6 : w.cell? ⟨T, 6, none⟩ = some v6 := h.cell 6
  simp [results, Try.results44, go_sem, h2, h3, c0, c1, c2, c3, c4, c5, c6]

set_option maxRecDepth 100000 in
set_option maxHeartbeats 4000000 in
theorem event_read5 (g : Nat) (st : Option (List UInt8)) (w : World) (he : EyeAt w g st) (h5 : (eByte st).1 = 5) :
    Calls Try.prog 44 #[.pointer (some ⟨g, 0, none⟩)] w fun e w' => ReadPost w g st e w' := by
  have hglt := he.lt'
  have H5 := Lib.hid h5
  clear h5
  have hT0 := (Blk.new w 68 #[.int .i64 0, .string ⟨([] : List UInt8).toArray⟩, .string ⟨([] : List UInt8).toArray⟩, .int .i64 0, .int .i64 0, .slice none 0 0, .slice none 0 0]).alloc (.cells #[.int .i64 0, .string ⟨([] : List UInt8).toArray⟩, .string ⟨([] : List UInt8).toArray⟩, .int .i64 0, .int .i64 0, .slice none 0 0, .slice none 0 0] 68)
  have hB0 := Blk.new (w.alloc (.cells #[.int .i64 0, .string ⟨([] : List UInt8).toArray⟩, .string ⟨([] : List UInt8).toArray⟩, .int .i64 0, .int .i64 0, .slice none 0 0, .slice none 0 0] 68)) 68 #[.int .i64 0, .string ⟨([] : List UInt8).toArray⟩, .string ⟨([] : List UInt8).toArray⟩, .int .i64 0, .int .i64 0, .slice none 0 0, .slice none 0 0]
  rw [size_more] at hB0
  have he0 := he.keep (bal (bal (Below.refl w.heap.size w) (.cells #[.int .i64 0, .string ⟨([] : List UInt8).toArray⟩, .string ⟨([] : List UInt8).toArray⟩, .int .i64 0, .int .i64 0, .slice none 0 0, .slice none 0 0] 68)) (.cells #[.int .i64 0, .string ⟨([] : List UInt8).toArray⟩, .string ⟨([] : List UInt8).toArray⟩, .int .i64 0, .int .i64 0, .slice none 0 0, .slice none 0 0] 68))
  have hK0 := Kept.of (g := g) (bal (bal (Below.refl w.heap.size w) (.cells #[.int .i64 0, .string ⟨([] : List UInt8).toArray⟩, .string ⟨([] : List UInt8).toArray⟩, .int .i64 0, .int .i64 0, .slice none 0 0, .slice none 0 0] 68)) (.cells #[.int .i64 0, .string ⟨([] : List UInt8).toArray⟩, .string ⟨([] : List UInt8).toArray⟩, .int .i64 0, .int .i64 0, .slice none 0 0, .slice none 0 0] 68))
  go_enter Try.func44, Try.ntmps44
  go_wp2_with fail
  refine (eye_byte g _ _ he0 he0.lt').mono ?_
  rintro e w1 ⟨rfl, he1, hk1⟩
  rw [H5.out]
  rw [show (((5 : UInt8).toNat : Nat) : Int) = 5 from rfl]
  have hB1 := hB0.keep hk1 hB0.lt (by omega)
  have hT1 := hT0.keep hk1 hT0.lt (by omega)
  have hK1 := hK0.trans (hk1.mono hK0.size)
  clear hk1
  clear hB0 hT0 he0 hK0
  have o1 : w1.cell? ⟨w.heap.size + 1, 0, none⟩ = some (.int .i64 0) := hB1.cell 0
  have f1 := hB1.frozen 0
  have heS1 := he1.free hB1 (item_no_u8 _ _ _ _ _ _ _ (by simp) (by simp)) (kp_set w1 (w.heap.size + 1) 0 (.int .i64 5)) (by omega)
  have hBS1 : Blk (w1.setCell ⟨w.heap.size + 1, 0, none⟩ (.int .i64 5)) (w.heap.size + 1) 68 #[.int .i64 5, .string ⟨([] : List UInt8).toArray⟩, .string ⟨([] : List UInt8).toArray⟩, .int .i64 0, .int .i64 0, .slice none 0 0, .slice none 0 0] := hB1.set 0 (.int .i64 5)
  have hTS1 := hT1.other (a := ⟨w.heap.size + 1, 0, none⟩) (by simp) (.int .i64 5)
  have hKS1 := hK1.trans (Kept.of ((Below.refl w.heap.size w1).setCell (p := ⟨w.heap.size + 1, 0, none⟩) (by simp) (.int .i64 5)))
  go_wp2_with fail
  generalize (w1.setCell ⟨w.heap.size + 1, 0, none⟩ (.int .i64 5)) = V1 at *
  clear o1 f1 hB1 hT1 he1 hK1
  refine (eye_text g _ _ heS1 heS1.lt').mono ?_
  rintro e w2 ⟨rfl, he2, hk2⟩
  generalize hP : eText (eByte st).2 = P at *
  have hB2 := hBS1.keep hk2 hBS1.lt (by omega)
  have hT2 := hTS1.keep hk2 hTS1.lt (by omega)
  have hK2 := hKS1.trans (hk2.mono hKS1.size)
  clear hk2
  clear hBS1 hTS1 heS1 hKS1
  have o2 : w2.cell? ⟨w.heap.size + 1, 1, none⟩ = some (.string ⟨([] : List UInt8).toArray⟩) := hB2.cell 1
  have f2 := hB2.frozen 1
  have heS2 := he2.free hB2 (item_no_u8 _ _ _ _ _ _ _ (by simp) (by simp)) (kp_set w2 (w.heap.size + 1) 1 (.string ⟨P.1.toArray⟩)) (by omega)
  have hBS2 : Blk (w2.setCell ⟨w.heap.size + 1, 1, none⟩ (.string ⟨P.1.toArray⟩)) (w.heap.size + 1) 68 #[.int .i64 5, .string ⟨P.1.toArray⟩, .string ⟨([] : List UInt8).toArray⟩, .int .i64 0, .int .i64 0, .slice none 0 0, .slice none 0 0] := hB2.set 1 (.string ⟨P.1.toArray⟩)
  have hTS2 := hT2.other (a := ⟨w.heap.size + 1, 1, none⟩) (by simp) (.string ⟨P.1.toArray⟩)
  have hKS2 := hK2.trans (Kept.of ((Below.refl w.heap.size w2).setCell (p := ⟨w.heap.size + 1, 1, none⟩) (by simp) (.string ⟨P.1.toArray⟩)))
  have c0 : (w2.setCell ⟨w.heap.size + 1, 1, none⟩ (.string ⟨P.1.toArray⟩)).cell? ⟨w.heap.size + 1, 0, none⟩ = some (.int .i64 5) := hBS2.cell 0
  go_wp2_with fail
  generalize (w2.setCell ⟨w.heap.size + 1, 1, none⟩ (.string ⟨P.1.toArray⟩)) = V2 at *
  clear o2 f2 hB2 hT2 he2 hK2
  refine (event_has 5 _).mono ?_
  rintro e _ ⟨rfl, rfl⟩
  clear c0
  go_wp2_with fail
  refine (eye_text g _ _ heS2 heS2.lt').mono ?_
  rintro e w3 ⟨rfl, he3, hk3⟩
  generalize hT : eText P.2 = T at *
  have HPP := Lib.hid hP
  have HTT := Lib.hid hT
  clear hP hT
  have hB3 := hBS2.keep hk3 hBS2.lt (by omega)
  have hT3 := hTS2.keep hk3 hTS2.lt (by omega)
  have hK3 := hKS2.trans (hk3.mono hKS2.size)
  clear hk3
  clear hBS2 hTS2 heS2 hKS2
  have o3 : w3.cell? ⟨w.heap.size + 1, 2, none⟩ = some (.string ⟨([] : List UInt8).toArray⟩) := hB3.cell 2
  have f3 := hB3.frozen 2
  have heS3 := he3.free hB3 (item_no_u8 _ _ _ _ _ _ _ (by simp) (by simp)) (kp_set w3 (w.heap.size + 1) 2 (.string ⟨T.1.toArray⟩)) (by omega)
  have hBS3 : Blk (w3.setCell ⟨w.heap.size + 1, 2, none⟩ (.string ⟨T.1.toArray⟩)) (w.heap.size + 1) 68 #[.int .i64 5, .string ⟨P.1.toArray⟩, .string ⟨T.1.toArray⟩, .int .i64 0, .int .i64 0, .slice none 0 0, .slice none 0 0] := hB3.set 2 (.string ⟨T.1.toArray⟩)
  have hTS3 := hT3.other (a := ⟨w.heap.size + 1, 2, none⟩) (by simp) (.string ⟨T.1.toArray⟩)
  have hKS3 := hK3.trans (Kept.of ((Below.refl w.heap.size w3).setCell (p := ⟨w.heap.size + 1, 2, none⟩) (by simp) (.string ⟨T.1.toArray⟩)))
  have c0 : (w3.setCell ⟨w.heap.size + 1, 2, none⟩ (.string ⟨T.1.toArray⟩)).cell? ⟨w.heap.size + 1, 0, none⟩ = some (.int .i64 5) := hBS3.cell 0
  go_wp2_with fail
  generalize (w3.setCell ⟨w.heap.size + 1, 2, none⟩ (.string ⟨T.1.toArray⟩)) = V3 at *
  clear o3 f3 hB3 hT3 he3 hK3
  have hD : dItem st = (⟨5, P.1, T.1, 0, 0, 0, []⟩, T.2) := by
    unfold dItem
    simp [H5.out, HPP.out, HTT.out]
  clear c0
  refine (eye_bad g _ _ heS3).mono ?_
  rintro e _ ⟨rfl, rfl⟩
  have t0 : V3.cell? ⟨w.heap.size, 0, none⟩ = some (.int .i64 0) := hTS3.cell 0
  have u0 := hTS3.frozen 0
  have t1 : V3.cell? ⟨w.heap.size, 1, none⟩ = some (.string ⟨([] : List UInt8).toArray⟩) := hTS3.cell 1
  have u1 := hTS3.frozen 1
  have t2 : V3.cell? ⟨w.heap.size, 2, none⟩ = some (.string ⟨([] : List UInt8).toArray⟩) := hTS3.cell 2
  have u2 := hTS3.frozen 2
  have t3 : V3.cell? ⟨w.heap.size, 3, none⟩ = some (.int .i64 0) := hTS3.cell 3
  have u3 := hTS3.frozen 3
  have t4 : V3.cell? ⟨w.heap.size, 4, none⟩ = some (.int .i64 0) := hTS3.cell 4
  have u4 := hTS3.frozen 4
  have t5 : V3.cell? ⟨w.heap.size, 5, none⟩ = some (.slice none 0 0) := hTS3.cell 5
  have u5 := hTS3.frozen 5
  have t6 : V3.cell? ⟨w.heap.size, 6, none⟩ = some (.slice none 0 0) := hTS3.cell 6
  have u6 := hTS3.frozen 6
  have d0 : V3.cell? ⟨w.heap.size + 1, 0, none⟩ = some (.int .i64 5) := hBS3.cell 0
  have d1 : V3.cell? ⟨w.heap.size + 1, 1, none⟩ = some (.string ⟨P.1.toArray⟩) := hBS3.cell 1
  have d2 : V3.cell? ⟨w.heap.size + 1, 2, none⟩ = some (.string ⟨T.1.toArray⟩) := hBS3.cell 2
  have d3 : V3.cell? ⟨w.heap.size + 1, 3, none⟩ = some (.int .i64 0) := hBS3.cell 3
  have d4 : V3.cell? ⟨w.heap.size + 1, 4, none⟩ = some (.int .i64 0) := hBS3.cell 4
  have d5 : V3.cell? ⟨w.heap.size + 1, 5, none⟩ = some (.slice none 0 0) := hBS3.cell 5
  have d6 : V3.cell? ⟨w.heap.size + 1, 6, none⟩ = some (.slice none 0 0) := hBS3.cell 6
  have hRD : Rd V3 (none : Option Addr) (pcs ([] : List Part)) := Rd.nil _ _
  have hAD : ∀ ad, (none : Option Addr) = some ad → ad.block < V3.heap.size ∧ w.heap.size ≤ ad.block := (fun ad e => by cases e)
  have hML : ([] : List Part).length ≤ 4611686018427387904 := by simp
  cases hst : T.2 with
  | none => 
    rw [hst] at hD heS3
    have HD := Lib.hid hD
    clear hD hst hRD hAD hML
    go_wp2
    refine bodyPost_ret (read_res (T := w.heap.size) (b := false) rfl rfl (v0 := .int .i64 0) (v1 := .string ⟨([] : List UInt8).toArray⟩) (v2 := .string ⟨([] : List UInt8).toArray⟩) (v3 := .int .i64 0) (v4 := .int .i64 0) (v5 := .slice none 0 0) (v6 := .slice none 0 0) (blk_set7 hTS3)) rfl ?_
    refine ⟨zeroItem, false, none, 0, none, 0, rfl, by rw [HD.out]; rfl, rfl, Rd.nil _ _, (fun ad e => by cases e), ?_, ?_⟩
    · rw [HD.out]
      exact EyeAt.free heS3 hTS3 (item_no_u8 _ _ _ _ _ _ _ (by simp) (by simp)) (kp_set7 _ _ _ _ _ _ _ _ _) (by omega)
    · exact hKS3.trans (Kept.of (below_set7 _ _ _ (Nat.le_refl _) _ _ _ _ _ _ _))
  | some l' =>
    rw [hst] at hD heS3
    have HD := Lib.hid hD
    clear hD hst
    have hMay := event_may ⟨5, P.1, T.1, 0, 0, 0, []⟩ none 0 (none : Option Addr) 0 V3 hRD hML
    simp only [iv_eq, List.length_nil] at hMay
    cases hm : may ⟨5, P.1, T.1, 0, 0, 0, []⟩ with
    | false =>
      rw [hm] at hMay
      have HM := Lib.hid hm
      clear hm hRD hAD hML
      go_wp2_with fail
      (with_reducible refine hMay.mono ?_)
      rintro e w20 ⟨rfl, hb20⟩
      have hT20 := hTS3.below hb20
      have he20 := heS3.keep hb20
      have hK20 := hKS3.trans (Kept.of (hb20.mono hKS3.size))
      clear hMay
      have p0 : w20.cell? ⟨w.heap.size, 0, none⟩ = some (.int .i64 0) := hT20.cell 0
      have q0 := hT20.frozen 0
      have p1 : w20.cell? ⟨w.heap.size, 1, none⟩ = some (.string ⟨([] : List UInt8).toArray⟩) := hT20.cell 1
      have q1 := hT20.frozen 1
      have p2 : w20.cell? ⟨w.heap.size, 2, none⟩ = some (.string ⟨([] : List UInt8).toArray⟩) := hT20.cell 2
      have q2 := hT20.frozen 2
      have p3 : w20.cell? ⟨w.heap.size, 3, none⟩ = some (.int .i64 0) := hT20.cell 3
      have q3 := hT20.frozen 3
      have p4 : w20.cell? ⟨w.heap.size, 4, none⟩ = some (.int .i64 0) := hT20.cell 4
      have q4 := hT20.frozen 4
      have p5 : w20.cell? ⟨w.heap.size, 5, none⟩ = some (.slice none 0 0) := hT20.cell 5
      have q5 := hT20.frozen 5
      have p6 : w20.cell? ⟨w.heap.size, 6, none⟩ = some (.slice none 0 0) := hT20.cell 6
      have q6 := hT20.frozen 6
      go_wp2
      refine bodyPost_ret (read_res (T := w.heap.size) (b := false) rfl rfl (v0 := .int .i64 0) (v1 := .string ⟨([] : List UInt8).toArray⟩) (v2 := .string ⟨([] : List UInt8).toArray⟩) (v3 := .int .i64 0) (v4 := .int .i64 0) (v5 := .slice none 0 0) (v6 := .slice none 0 0) (blk_set7 hT20)) rfl ?_
      refine ⟨zeroItem, false, none, 0, none, 0, rfl, by rw [HD.out]; simp only [Option.isSome_some, Bool.true_and]; exact HM.out.symm, rfl, Rd.nil _ _, (fun ad e => by cases e), ?_, ?_⟩
      · rw [HD.out]
        exact EyeAt.free he20 hT20 (item_no_u8 _ _ _ _ _ _ _ (by simp) (by simp)) (kp_set7 _ _ _ _ _ _ _ _ _) (by omega)
      · exact hK20.trans (Kept.of (below_set7 _ _ _ (Nat.le_refl _) _ _ _ _ _ _ _))
    | true =>
      rw [hm] at hMay
      have HM := Lib.hid hm
      clear hm hML
      go_wp2_with fail
      (with_reducible refine hMay.mono ?_)
      rintro e w20 ⟨rfl, hb20⟩
      have hT20 := hTS3.below hb20
      have hB20 := hBS3.below hb20
      have he20 := heS3.keep hb20
      have hK20 := hKS3.trans (Kept.of (hb20.mono hKS3.size))
      have hR20 := hRD.below hb20
      have hA20 : ∀ ad, (none : Option Addr) = some ad → ad.block < w20.heap.size ∧ w.heap.size + 2 ≤ ad.block := (fun ad e => by cases e)
      clear hMay hRD hAD
      have p0 : w20.cell? ⟨w.heap.size, 0, none⟩ = some (.int .i64 0) := hT20.cell 0
      have q0 := hT20.frozen 0
      have p1 : w20.cell? ⟨w.heap.size, 1, none⟩ = some (.string ⟨([] : List UInt8).toArray⟩) := hT20.cell 1
      have q1 := hT20.frozen 1
      have p2 : w20.cell? ⟨w.heap.size, 2, none⟩ = some (.string ⟨([] : List UInt8).toArray⟩) := hT20.cell 2
      have q2 := hT20.frozen 2
      have p3 : w20.cell? ⟨w.heap.size, 3, none⟩ = some (.int .i64 0) := hT20.cell 3
      have q3 := hT20.frozen 3
      have p4 : w20.cell? ⟨w.heap.size, 4, none⟩ = some (.int .i64 0) := hT20.cell 4
      have q4 := hT20.frozen 4
      have p5 : w20.cell? ⟨w.heap.size, 5, none⟩ = some (.slice none 0 0) := hT20.cell 5
      have q5 := hT20.frozen 5
      have p6 : w20.cell? ⟨w.heap.size, 6, none⟩ = some (.slice none 0 0) := hT20.cell 6
      have q6 := hT20.frozen 6
      have r0 : w20.cell? ⟨w.heap.size + 1, 0, none⟩ = some (.int .i64 5) := hB20.cell 0
      have r1 : w20.cell? ⟨w.heap.size + 1, 1, none⟩ = some (.string ⟨P.1.toArray⟩) := hB20.cell 1
      have r2 : w20.cell? ⟨w.heap.size + 1, 2, none⟩ = some (.string ⟨T.1.toArray⟩) := hB20.cell 2
      have r3 : w20.cell? ⟨w.heap.size + 1, 3, none⟩ = some (.int .i64 0) := hB20.cell 3
      have r4 : w20.cell? ⟨w.heap.size + 1, 4, none⟩ = some (.int .i64 0) := hB20.cell 4
      have r5 : w20.cell? ⟨w.heap.size + 1, 5, none⟩ = some (.slice none 0 0) := hB20.cell 5
      have r6 : w20.cell? ⟨w.heap.size + 1, 6, none⟩ = some (.slice none 0 0) := hB20.cell 6
      go_wp2
      refine bodyPost_ret (read_res (T := w.heap.size) (b := true) rfl rfl (v0 := .int .i64 5) (v1 := .string ⟨P.1.toArray⟩) (v2 := .string ⟨T.1.toArray⟩) (v3 := .int .i64 0) (v4 := .int .i64 0) (v5 := .slice none 0 0) (v6 := .slice none 0 0) (blk_set7 hT20)) rfl ?_
      have hkf : ∀ {W' : World}, Kp (fun k => k = w.heap.size) w20 W' → Rd W' (none : Option Addr) (pcs ([] : List Part)) := fun hk => hR20.kp hk fun ad e h => by
        have := (hA20 ad e).2
        omega
      refine ⟨⟨5, P.1, T.1, 0, 0, 0, []⟩, true, none, 0, (none : Option Addr), 0, rfl, by rw [HD.out]; simp only [Option.isSome_some, Bool.true_and]; exact HM.out.symm, by rw [HD.out]; rfl, hkf (kp_set7 _ _ _ _ _ _ _ _ _), (fun ad e => ⟨by simpa [World.setCell] using (hA20 ad e).1, by have := (hA20 ad e).2; omega⟩), ?_, ?_⟩
      · rw [HD.out]
        exact EyeAt.free he20 hT20 (item_no_u8 _ _ _ _ _ _ _ (by simp) (by simp)) (kp_set7 _ _ _ _ _ _ _ _ _) (by omega)
      · exact hK20.trans (Kept.of (below_set7 _ _ _ (Nat.le_refl _) _ _ _ _ _ _ _))
set_option maxRecDepth 100000 in
set_option maxHeartbeats 4000000 in
theorem event_read4 (g : Nat) (st : Option (List UInt8)) (w : World) (he : EyeAt w g st) (h5 : (eByte st).1 = 4) :
    Calls Try.prog 44 #[.pointer (some ⟨g, 0, none⟩)] w fun e w' => ReadPost w g st e w' := by
  have hglt := he.lt'
  have H5 := Lib.hid h5
  clear h5
  have hT0 := (Blk.new w 68 #[.int .i64 0, .string ⟨([] : List UInt8).toArray⟩, .string ⟨([] : List UInt8).toArray⟩, .int .i64 0, .int .i64 0, .slice none 0 0, .slice none 0 0]).alloc (.cells #[.int .i64 0, .string ⟨([] : List UInt8).toArray⟩, .string ⟨([] : List UInt8).toArray⟩, .int .i64 0, .int .i64 0, .slice none 0 0, .slice none 0 0] 68)
  have hB0 := Blk.new (w.alloc (.cells #[.int .i64 0, .string ⟨([] : List UInt8).toArray⟩, .string ⟨([] : List UInt8).toArray⟩, .int .i64 0, .int .i64 0, .slice none 0 0, .slice none 0 0] 68)) 68 #[.int .i64 0, .string ⟨([] : List UInt8).toArray⟩, .string ⟨([] : List UInt8).toArray⟩, .int .i64 0, .int .i64 0, .slice none 0 0, .slice none 0 0]
  rw [size_more] at hB0
  have he0 := he.keep (bal (bal (Below.refl w.heap.size w) (.cells #[.int .i64 0, .string ⟨([] : List UInt8).toArray⟩, .string ⟨([] : List UInt8).toArray⟩, .int .i64 0, .int .i64 0, .slice none 0 0, .slice none 0 0] 68)) (.cells #[.int .i64 0, .string ⟨([] : List UInt8).toArray⟩, .string ⟨([] : List UInt8).toArray⟩, .int .i64 0, .int .i64 0, .slice none 0 0, .slice none 0 0] 68))
  have hK0 := Kept.of (g := g) (bal (bal (Below.refl w.heap.size w) (.cells #[.int .i64 0, .string ⟨([] : List UInt8).toArray⟩, .string ⟨([] : List UInt8).toArray⟩, .int .i64 0, .int .i64 0, .slice none 0 0, .slice none 0 0] 68)) (.cells #[.int .i64 0, .string ⟨([] : List UInt8).toArray⟩, .string ⟨([] : List UInt8).toArray⟩, .int .i64 0, .int .i64 0, .slice none 0 0, .slice none 0 0] 68))
  go_enter Try.func44, Try.ntmps44
  go_wp2_with fail
  refine (eye_byte g _ _ he0 he0.lt').mono ?_
  rintro e w1 ⟨rfl, he1, hk1⟩
  rw [H5.out]
  rw [show (((4 : UInt8).toNat : Nat) : Int) = 4 from rfl]
  have hB1 := hB0.keep hk1 hB0.lt (by omega)
  have hT1 := hT0.keep hk1 hT0.lt (by omega)
  have hK1 := hK0.trans (hk1.mono hK0.size)
  clear hk1
  clear hB0 hT0 he0 hK0
  have o1 : w1.cell? ⟨w.heap.size + 1, 0, none⟩ = some (.int .i64 0) := hB1.cell 0
  have f1 := hB1.frozen 0
  have heS1 := he1.free hB1 (item_no_u8 _ _ _ _ _ _ _ (by simp) (by simp)) (kp_set w1 (w.heap.size + 1) 0 (.int .i64 4)) (by omega)
  have hBS1 : Blk (w1.setCell ⟨w.heap.size + 1, 0, none⟩ (.int .i64 4)) (w.heap.size + 1) 68 #[.int .i64 4, .string ⟨([] : List UInt8).toArray⟩, .string ⟨([] : List UInt8).toArray⟩, .int .i64 0, .int .i64 0, .slice none 0 0, .slice none 0 0] := hB1.set 0 (.int .i64 4)
  have hTS1 := hT1.other (a := ⟨w.heap.size + 1, 0, none⟩) (by simp) (.int .i64 4)
  have hKS1 := hK1.trans (Kept.of ((Below.refl w.heap.size w1).setCell (p := ⟨w.heap.size + 1, 0, none⟩) (by simp) (.int .i64 4)))
  go_wp2_with fail
  generalize (w1.setCell ⟨w.heap.size + 1, 0, none⟩ (.int .i64 4)) = V1 at *
  clear o1 f1 hB1 hT1 he1 hK1
  refine (eye_text g _ _ heS1 heS1.lt').mono ?_
  rintro e w2 ⟨rfl, he2, hk2⟩
  generalize hP : eText (eByte st).2 = P at *
  have hB2 := hBS1.keep hk2 hBS1.lt (by omega)
  have hT2 := hTS1.keep hk2 hTS1.lt (by omega)
  have hK2 := hKS1.trans (hk2.mono hKS1.size)
  clear hk2
  clear hBS1 hTS1 heS1 hKS1
  have o2 : w2.cell? ⟨w.heap.size + 1, 1, none⟩ = some (.string ⟨([] : List UInt8).toArray⟩) := hB2.cell 1
  have f2 := hB2.frozen 1
  have heS2 := he2.free hB2 (item_no_u8 _ _ _ _ _ _ _ (by simp) (by simp)) (kp_set w2 (w.heap.size + 1) 1 (.string ⟨P.1.toArray⟩)) (by omega)
  have hBS2 : Blk (w2.setCell ⟨w.heap.size + 1, 1, none⟩ (.string ⟨P.1.toArray⟩)) (w.heap.size + 1) 68 #[.int .i64 4, .string ⟨P.1.toArray⟩, .string ⟨([] : List UInt8).toArray⟩, .int .i64 0, .int .i64 0, .slice none 0 0, .slice none 0 0] := hB2.set 1 (.string ⟨P.1.toArray⟩)
  have hTS2 := hT2.other (a := ⟨w.heap.size + 1, 1, none⟩) (by simp) (.string ⟨P.1.toArray⟩)
  have hKS2 := hK2.trans (Kept.of ((Below.refl w.heap.size w2).setCell (p := ⟨w.heap.size + 1, 1, none⟩) (by simp) (.string ⟨P.1.toArray⟩)))
  have c0 : (w2.setCell ⟨w.heap.size + 1, 1, none⟩ (.string ⟨P.1.toArray⟩)).cell? ⟨w.heap.size + 1, 0, none⟩ = some (.int .i64 4) := hBS2.cell 0
  go_wp2_with fail
  generalize (w2.setCell ⟨w.heap.size + 1, 1, none⟩ (.string ⟨P.1.toArray⟩)) = V2 at *
  clear o2 f2 hB2 hT2 he2 hK2
  refine (event_has 4 _).mono ?_
  rintro e _ ⟨rfl, rfl⟩
  clear c0
  go_wp2_with fail
  refine (eye_num g _ _ heS2 heS2.lt').mono ?_
  rintro e w3 ⟨rfl, he3, hk3⟩
  have hle : (eNum P.2).1 ≤ 4611686018427387904 := eNumGo_le 9 0 0 _
  generalize hT : eNum P.2 = T at *
  have HPP := Lib.hid hP
  have HTT := Lib.hid hT
  clear hP hT
  have hB3 := hBS2.keep hk3 hBS2.lt (by omega)
  have hT3 := hTS2.keep hk3 hTS2.lt (by omega)
  have hK3 := hKS2.trans (hk3.mono hKS2.size)
  clear hk3
  clear hBS2 hTS2 heS2 hKS2
  have o3 : w3.cell? ⟨w.heap.size + 1, 4, none⟩ = some (.int .i64 0) := hB3.cell 4
  have f3 := hB3.frozen 4
  have heS3 := he3.free hB3 (item_no_u8 _ _ _ _ _ _ _ (by simp) (by simp)) (kp_set w3 (w.heap.size + 1) 4 (.int .i64 (T.1 : Int))) (by omega)
  have hBS3 : Blk (w3.setCell ⟨w.heap.size + 1, 4, none⟩ (.int .i64 (T.1 : Int))) (w.heap.size + 1) 68 #[.int .i64 4, .string ⟨P.1.toArray⟩, .string ⟨([] : List UInt8).toArray⟩, .int .i64 0, .int .i64 (T.1 : Int), .slice none 0 0, .slice none 0 0] := hB3.set 4 (.int .i64 (T.1 : Int))
  have hTS3 := hT3.other (a := ⟨w.heap.size + 1, 4, none⟩) (by simp) (.int .i64 (T.1 : Int))
  have hKS3 := hK3.trans (Kept.of ((Below.refl w.heap.size w3).setCell (p := ⟨w.heap.size + 1, 4, none⟩) (by simp) (.int .i64 (T.1 : Int))))
  have c0 : (w3.setCell ⟨w.heap.size + 1, 4, none⟩ (.int .i64 (T.1 : Int))).cell? ⟨w.heap.size + 1, 0, none⟩ = some (.int .i64 4) := hBS3.cell 0
  go_wp2_with fail
  generalize (w3.setCell ⟨w.heap.size + 1, 4, none⟩ (.int .i64 (T.1 : Int))) = V3 at *
  clear o3 f3 hB3 hT3 he3 hK3
  have hD : dItem st = (⟨4, P.1, [], 0, (T.1 : Int), 0, []⟩, T.2) := by
    unfold dItem
    simp [H5.out, HPP.out, HTT.out]
  clear c0
  refine (eye_bad g _ _ heS3).mono ?_
  rintro e _ ⟨rfl, rfl⟩
  have t0 : V3.cell? ⟨w.heap.size, 0, none⟩ = some (.int .i64 0) := hTS3.cell 0
  have u0 := hTS3.frozen 0
  have t1 : V3.cell? ⟨w.heap.size, 1, none⟩ = some (.string ⟨([] : List UInt8).toArray⟩) := hTS3.cell 1
  have u1 := hTS3.frozen 1
  have t2 : V3.cell? ⟨w.heap.size, 2, none⟩ = some (.string ⟨([] : List UInt8).toArray⟩) := hTS3.cell 2
  have u2 := hTS3.frozen 2
  have t3 : V3.cell? ⟨w.heap.size, 3, none⟩ = some (.int .i64 0) := hTS3.cell 3
  have u3 := hTS3.frozen 3
  have t4 : V3.cell? ⟨w.heap.size, 4, none⟩ = some (.int .i64 0) := hTS3.cell 4
  have u4 := hTS3.frozen 4
  have t5 : V3.cell? ⟨w.heap.size, 5, none⟩ = some (.slice none 0 0) := hTS3.cell 5
  have u5 := hTS3.frozen 5
  have t6 : V3.cell? ⟨w.heap.size, 6, none⟩ = some (.slice none 0 0) := hTS3.cell 6
  have u6 := hTS3.frozen 6
  have d0 : V3.cell? ⟨w.heap.size + 1, 0, none⟩ = some (.int .i64 4) := hBS3.cell 0
  have d1 : V3.cell? ⟨w.heap.size + 1, 1, none⟩ = some (.string ⟨P.1.toArray⟩) := hBS3.cell 1
  have d2 : V3.cell? ⟨w.heap.size + 1, 2, none⟩ = some (.string ⟨([] : List UInt8).toArray⟩) := hBS3.cell 2
  have d3 : V3.cell? ⟨w.heap.size + 1, 3, none⟩ = some (.int .i64 0) := hBS3.cell 3
  have d4 : V3.cell? ⟨w.heap.size + 1, 4, none⟩ = some (.int .i64 (T.1 : Int)) := hBS3.cell 4
  have d5 : V3.cell? ⟨w.heap.size + 1, 5, none⟩ = some (.slice none 0 0) := hBS3.cell 5
  have d6 : V3.cell? ⟨w.heap.size + 1, 6, none⟩ = some (.slice none 0 0) := hBS3.cell 6
  have hRD : Rd V3 (none : Option Addr) (pcs ([] : List Part)) := Rd.nil _ _
  have hAD : ∀ ad, (none : Option Addr) = some ad → ad.block < V3.heap.size ∧ w.heap.size ≤ ad.block := (fun ad e => by cases e)
  have hML : ([] : List Part).length ≤ 4611686018427387904 := by simp
  cases hst : T.2 with
  | none => 
    rw [hst] at hD heS3
    have HD := Lib.hid hD
    clear hD hst hRD hAD hML
    go_wp2
    refine bodyPost_ret (read_res (T := w.heap.size) (b := false) rfl rfl (v0 := .int .i64 0) (v1 := .string ⟨([] : List UInt8).toArray⟩) (v2 := .string ⟨([] : List UInt8).toArray⟩) (v3 := .int .i64 0) (v4 := .int .i64 0) (v5 := .slice none 0 0) (v6 := .slice none 0 0) (blk_set7 hTS3)) rfl ?_
    refine ⟨zeroItem, false, none, 0, none, 0, rfl, by rw [HD.out]; rfl, rfl, Rd.nil _ _, (fun ad e => by cases e), ?_, ?_⟩
    · rw [HD.out]
      exact EyeAt.free heS3 hTS3 (item_no_u8 _ _ _ _ _ _ _ (by simp) (by simp)) (kp_set7 _ _ _ _ _ _ _ _ _) (by omega)
    · exact hKS3.trans (Kept.of (below_set7 _ _ _ (Nat.le_refl _) _ _ _ _ _ _ _))
  | some l' =>
    rw [hst] at hD heS3
    have HD := Lib.hid hD
    clear hD hst
    have hMay := event_may ⟨4, P.1, [], 0, (T.1 : Int), 0, []⟩ none 0 (none : Option Addr) 0 V3 hRD hML
    simp only [iv_eq, List.length_nil] at hMay
    cases hm : may ⟨4, P.1, [], 0, (T.1 : Int), 0, []⟩ with
    | false =>
      rw [hm] at hMay
      have HM := Lib.hid hm
      clear hm hRD hAD hML
      go_wp2_with fail
      (with_reducible refine hMay.mono ?_)
      rintro e w20 ⟨rfl, hb20⟩
      have hT20 := hTS3.below hb20
      have he20 := heS3.keep hb20
      have hK20 := hKS3.trans (Kept.of (hb20.mono hKS3.size))
      clear hMay
      have p0 : w20.cell? ⟨w.heap.size, 0, none⟩ = some (.int .i64 0) := hT20.cell 0
      have q0 := hT20.frozen 0
      have p1 : w20.cell? ⟨w.heap.size, 1, none⟩ = some (.string ⟨([] : List UInt8).toArray⟩) := hT20.cell 1
      have q1 := hT20.frozen 1
      have p2 : w20.cell? ⟨w.heap.size, 2, none⟩ = some (.string ⟨([] : List UInt8).toArray⟩) := hT20.cell 2
      have q2 := hT20.frozen 2
      have p3 : w20.cell? ⟨w.heap.size, 3, none⟩ = some (.int .i64 0) := hT20.cell 3
      have q3 := hT20.frozen 3
      have p4 : w20.cell? ⟨w.heap.size, 4, none⟩ = some (.int .i64 0) := hT20.cell 4
      have q4 := hT20.frozen 4
      have p5 : w20.cell? ⟨w.heap.size, 5, none⟩ = some (.slice none 0 0) := hT20.cell 5
      have q5 := hT20.frozen 5
      have p6 : w20.cell? ⟨w.heap.size, 6, none⟩ = some (.slice none 0 0) := hT20.cell 6
      have q6 := hT20.frozen 6
      go_wp2
      refine bodyPost_ret (read_res (T := w.heap.size) (b := false) rfl rfl (v0 := .int .i64 0) (v1 := .string ⟨([] : List UInt8).toArray⟩) (v2 := .string ⟨([] : List UInt8).toArray⟩) (v3 := .int .i64 0) (v4 := .int .i64 0) (v5 := .slice none 0 0) (v6 := .slice none 0 0) (blk_set7 hT20)) rfl ?_
      refine ⟨zeroItem, false, none, 0, none, 0, rfl, by rw [HD.out]; simp only [Option.isSome_some, Bool.true_and]; exact HM.out.symm, rfl, Rd.nil _ _, (fun ad e => by cases e), ?_, ?_⟩
      · rw [HD.out]
        exact EyeAt.free he20 hT20 (item_no_u8 _ _ _ _ _ _ _ (by simp) (by simp)) (kp_set7 _ _ _ _ _ _ _ _ _) (by omega)
      · exact hK20.trans (Kept.of (below_set7 _ _ _ (Nat.le_refl _) _ _ _ _ _ _ _))
    | true =>
      rw [hm] at hMay
      have HM := Lib.hid hm
      clear hm hML
      go_wp2_with fail
      (with_reducible refine hMay.mono ?_)
      rintro e w20 ⟨rfl, hb20⟩
      have hT20 := hTS3.below hb20
      have hB20 := hBS3.below hb20
      have he20 := heS3.keep hb20
      have hK20 := hKS3.trans (Kept.of (hb20.mono hKS3.size))
      have hR20 := hRD.below hb20
      have hA20 : ∀ ad, (none : Option Addr) = some ad → ad.block < w20.heap.size ∧ w.heap.size + 2 ≤ ad.block := (fun ad e => by cases e)
      clear hMay hRD hAD
      have p0 : w20.cell? ⟨w.heap.size, 0, none⟩ = some (.int .i64 0) := hT20.cell 0
      have q0 := hT20.frozen 0
      have p1 : w20.cell? ⟨w.heap.size, 1, none⟩ = some (.string ⟨([] : List UInt8).toArray⟩) := hT20.cell 1
      have q1 := hT20.frozen 1
      have p2 : w20.cell? ⟨w.heap.size, 2, none⟩ = some (.string ⟨([] : List UInt8).toArray⟩) := hT20.cell 2
      have q2 := hT20.frozen 2
      have p3 : w20.cell? ⟨w.heap.size, 3, none⟩ = some (.int .i64 0) := hT20.cell 3
      have q3 := hT20.frozen 3
      have p4 : w20.cell? ⟨w.heap.size, 4, none⟩ = some (.int .i64 0) := hT20.cell 4
      have q4 := hT20.frozen 4
      have p5 : w20.cell? ⟨w.heap.size, 5, none⟩ = some (.slice none 0 0) := hT20.cell 5
      have q5 := hT20.frozen 5
      have p6 : w20.cell? ⟨w.heap.size, 6, none⟩ = some (.slice none 0 0) := hT20.cell 6
      have q6 := hT20.frozen 6
      have r0 : w20.cell? ⟨w.heap.size + 1, 0, none⟩ = some (.int .i64 4) := hB20.cell 0
      have r1 : w20.cell? ⟨w.heap.size + 1, 1, none⟩ = some (.string ⟨P.1.toArray⟩) := hB20.cell 1
      have r2 : w20.cell? ⟨w.heap.size + 1, 2, none⟩ = some (.string ⟨([] : List UInt8).toArray⟩) := hB20.cell 2
      have r3 : w20.cell? ⟨w.heap.size + 1, 3, none⟩ = some (.int .i64 0) := hB20.cell 3
      have r4 : w20.cell? ⟨w.heap.size + 1, 4, none⟩ = some (.int .i64 (T.1 : Int)) := hB20.cell 4
      have r5 : w20.cell? ⟨w.heap.size + 1, 5, none⟩ = some (.slice none 0 0) := hB20.cell 5
      have r6 : w20.cell? ⟨w.heap.size + 1, 6, none⟩ = some (.slice none 0 0) := hB20.cell 6
      go_wp2
      refine bodyPost_ret (read_res (T := w.heap.size) (b := true) rfl rfl (v0 := .int .i64 4) (v1 := .string ⟨P.1.toArray⟩) (v2 := .string ⟨([] : List UInt8).toArray⟩) (v3 := .int .i64 0) (v4 := .int .i64 (T.1 : Int)) (v5 := .slice none 0 0) (v6 := .slice none 0 0) (blk_set7 hT20)) rfl ?_
      have hkf : ∀ {W' : World}, Kp (fun k => k = w.heap.size) w20 W' → Rd W' (none : Option Addr) (pcs ([] : List Part)) := fun hk => hR20.kp hk fun ad e h => by
        have := (hA20 ad e).2
        omega
      refine ⟨⟨4, P.1, [], 0, (T.1 : Int), 0, []⟩, true, none, 0, (none : Option Addr), 0, rfl, by rw [HD.out]; simp only [Option.isSome_some, Bool.true_and]; exact HM.out.symm, by rw [HD.out]; rfl, hkf (kp_set7 _ _ _ _ _ _ _ _ _), (fun ad e => ⟨by simpa [World.setCell] using (hA20 ad e).1, by have := (hA20 ad e).2; omega⟩), ?_, ?_⟩
      · rw [HD.out]
        exact EyeAt.free he20 hT20 (item_no_u8 _ _ _ _ _ _ _ (by simp) (by simp)) (kp_set7 _ _ _ _ _ _ _ _ _) (by omega)
      · exact hK20.trans (Kept.of (below_set7 _ _ _ (Nat.le_refl _) _ _ _ _ _ _ _))
set_option maxRecDepth 100000 in
set_option maxHeartbeats 4000000 in
theorem event_read0 (g : Nat) (st : Option (List UInt8)) (w : World) (he : EyeAt w g st) (x : Nat) (hx : (eByte st).1.toNat = x) (t5 : ((x : Int) == 5) = false) (t3 : ((x : Int) == 3) = false) (t4 : ((x : Int) == 4) = false) :
    Calls Try.prog 44 #[.pointer (some ⟨g, 0, none⟩)] w fun e w' => ReadPost w g st e w' := by
  have hglt := he.lt'
  have hx8 : x < 256 := by rw [← hx]; exact (eByte st).1.toNat_lt
  have HX := Lib.hid hx
  clear hx
  have hT0 := (Blk.new w 68 #[.int .i64 0, .string ⟨([] : List UInt8).toArray⟩, .string ⟨([] : List UInt8).toArray⟩, .int .i64 0, .int .i64 0, .slice none 0 0, .slice none 0 0]).alloc (.cells #[.int .i64 0, .string ⟨([] : List UInt8).toArray⟩, .string ⟨([] : List UInt8).toArray⟩, .int .i64 0, .int .i64 0, .slice none 0 0, .slice none 0 0] 68)
  have hB0 := Blk.new (w.alloc (.cells #[.int .i64 0, .string ⟨([] : List UInt8).toArray⟩, .string ⟨([] : List UInt8).toArray⟩, .int .i64 0, .int .i64 0, .slice none 0 0, .slice none 0 0] 68)) 68 #[.int .i64 0, .string ⟨([] : List UInt8).toArray⟩, .string ⟨([] : List UInt8).toArray⟩, .int .i64 0, .int .i64 0, .slice none 0 0, .slice none 0 0]
  rw [size_more] at hB0
  have he0 := he.keep (bal (bal (Below.refl w.heap.size w) (.cells #[.int .i64 0, .string ⟨([] : List UInt8).toArray⟩, .string ⟨([] : List UInt8).toArray⟩, .int .i64 0, .int .i64 0, .slice none 0 0, .slice none 0 0] 68)) (.cells #[.int .i64 0, .string ⟨([] : List UInt8).toArray⟩, .string ⟨([] : List UInt8).toArray⟩, .int .i64 0, .int .i64 0, .slice none 0 0, .slice none 0 0] 68))
  have hK0 := Kept.of (g := g) (bal (bal (Below.refl w.heap.size w) (.cells #[.int .i64 0, .string ⟨([] : List UInt8).toArray⟩, .string ⟨([] : List UInt8).toArray⟩, .int .i64 0, .int .i64 0, .slice none 0 0, .slice none 0 0] 68)) (.cells #[.int .i64 0, .string ⟨([] : List UInt8).toArray⟩, .string ⟨([] : List UInt8).toArray⟩, .int .i64 0, .int .i64 0, .slice none 0 0, .slice none 0 0] 68))
  go_enter Try.func44, Try.ntmps44
  go_wp2_with fail
  refine (eye_byte g _ _ he0 he0.lt').mono ?_
  rintro e w1 ⟨rfl, he1, hk1⟩
  rw [HX.out]
  have hB1 := hB0.keep hk1 hB0.lt (by omega)
  have hT1 := hT0.keep hk1 hT0.lt (by omega)
  have hK1 := hK0.trans (hk1.mono hK0.size)
  clear hk1
  clear hB0 hT0 he0 hK0
  have o1 : w1.cell? ⟨w.heap.size + 1, 0, none⟩ = some (.int .i64 0) := hB1.cell 0
  have f1 := hB1.frozen 0
  have heS1 := he1.free hB1 (item_no_u8 _ _ _ _ _ _ _ (by simp) (by simp)) (kp_set w1 (w.heap.size + 1) 0 (.int .i64 (x : Int))) (by omega)
  have hBS1 : Blk (w1.setCell ⟨w.heap.size + 1, 0, none⟩ (.int .i64 (x : Int))) (w.heap.size + 1) 68 #[.int .i64 (x : Int), .string ⟨([] : List UInt8).toArray⟩, .string ⟨([] : List UInt8).toArray⟩, .int .i64 0, .int .i64 0, .slice none 0 0, .slice none 0 0] := hB1.set 0 (.int .i64 (x : Int))
  have hTS1 := hT1.other (a := ⟨w.heap.size + 1, 0, none⟩) (by simp) (.int .i64 (x : Int))
  have hKS1 := hK1.trans (Kept.of ((Below.refl w.heap.size w1).setCell (p := ⟨w.heap.size + 1, 0, none⟩) (by simp) (.int .i64 (x : Int))))
  go_wp2_with fail
  generalize (w1.setCell ⟨w.heap.size + 1, 0, none⟩ (.int .i64 (x : Int))) = V1 at *
  clear o1 f1 hB1 hT1 he1 hK1
  refine (eye_text g _ _ heS1 heS1.lt').mono ?_
  rintro e w2 ⟨rfl, he2, hk2⟩
  generalize hP : eText (eByte st).2 = P at *
  have hB2 := hBS1.keep hk2 hBS1.lt (by omega)
  have hT2 := hTS1.keep hk2 hTS1.lt (by omega)
  have hK2 := hKS1.trans (hk2.mono hKS1.size)
  clear hk2
  clear hBS1 hTS1 heS1 hKS1
  have o2 : w2.cell? ⟨w.heap.size + 1, 1, none⟩ = some (.string ⟨([] : List UInt8).toArray⟩) := hB2.cell 1
  have f2 := hB2.frozen 1
  have heS2 := he2.free hB2 (item_no_u8 _ _ _ _ _ _ _ (by simp) (by simp)) (kp_set w2 (w.heap.size + 1) 1 (.string ⟨P.1.toArray⟩)) (by omega)
  have hBS2 : Blk (w2.setCell ⟨w.heap.size + 1, 1, none⟩ (.string ⟨P.1.toArray⟩)) (w.heap.size + 1) 68 #[.int .i64 (x : Int), .string ⟨P.1.toArray⟩, .string ⟨([] : List UInt8).toArray⟩, .int .i64 0, .int .i64 0, .slice none 0 0, .slice none 0 0] := hB2.set 1 (.string ⟨P.1.toArray⟩)
  have hTS2 := hT2.other (a := ⟨w.heap.size + 1, 1, none⟩) (by simp) (.string ⟨P.1.toArray⟩)
  have hKS2 := hK2.trans (Kept.of ((Below.refl w.heap.size w2).setCell (p := ⟨w.heap.size + 1, 1, none⟩) (by simp) (.string ⟨P.1.toArray⟩)))
  have c0 : (w2.setCell ⟨w.heap.size + 1, 1, none⟩ (.string ⟨P.1.toArray⟩)).cell? ⟨w.heap.size + 1, 0, none⟩ = some (.int .i64 (x : Int)) := hBS2.cell 0
  go_wp2_with fail
  generalize (w2.setCell ⟨w.heap.size + 1, 1, none⟩ (.string ⟨P.1.toArray⟩)) = V2 at *
  clear o2 f2 hB2 hT2 he2 hK2
  refine (event_has (x : Int) _).mono ?_
  rintro e _ ⟨rfl, rfl⟩
  have HPP := Lib.hid hP
  clear c0 hP
  have hD : dItem st = (⟨(x : Int), P.1, [], 0, 0, 0, []⟩, P.2) := by
    have k5 : ¬ (x : Int) = 5 := by simpa using t5
    have k4 : ¬ (x : Int) = 4 := by simpa using t4
    have k3 : ¬ (x : Int) = 3 := by simpa using t3
    unfold dItem
    simp only [HX.out, HPP.out, if_neg k5, if_neg k4, if_neg k3]
    rfl
  have c0 : V2.cell? ⟨w.heap.size + 1, 0, none⟩ = some (.int .i64 (x : Int)) := hBS2.cell 0
  go_wp2_with fail
  clear c0
  refine (eye_bad g _ _ heS2).mono ?_
  rintro e _ ⟨rfl, rfl⟩
  have t0 : V2.cell? ⟨w.heap.size, 0, none⟩ = some (.int .i64 0) := hTS2.cell 0
  have u0 := hTS2.frozen 0
  have t1 : V2.cell? ⟨w.heap.size, 1, none⟩ = some (.string ⟨([] : List UInt8).toArray⟩) := hTS2.cell 1
  have u1 := hTS2.frozen 1
  have t2 : V2.cell? ⟨w.heap.size, 2, none⟩ = some (.string ⟨([] : List UInt8).toArray⟩) := hTS2.cell 2
  have u2 := hTS2.frozen 2
  have t3 : V2.cell? ⟨w.heap.size, 3, none⟩ = some (.int .i64 0) := hTS2.cell 3
  have u3 := hTS2.frozen 3
  have t4 : V2.cell? ⟨w.heap.size, 4, none⟩ = some (.int .i64 0) := hTS2.cell 4
  have u4 := hTS2.frozen 4
  have t5 : V2.cell? ⟨w.heap.size, 5, none⟩ = some (.slice none 0 0) := hTS2.cell 5
  have u5 := hTS2.frozen 5
  have t6 : V2.cell? ⟨w.heap.size, 6, none⟩ = some (.slice none 0 0) := hTS2.cell 6
  have u6 := hTS2.frozen 6
  have d0 : V2.cell? ⟨w.heap.size + 1, 0, none⟩ = some (.int .i64 (x : Int)) := hBS2.cell 0
  have d1 : V2.cell? ⟨w.heap.size + 1, 1, none⟩ = some (.string ⟨P.1.toArray⟩) := hBS2.cell 1
  have d2 : V2.cell? ⟨w.heap.size + 1, 2, none⟩ = some (.string ⟨([] : List UInt8).toArray⟩) := hBS2.cell 2
  have d3 : V2.cell? ⟨w.heap.size + 1, 3, none⟩ = some (.int .i64 0) := hBS2.cell 3
  have d4 : V2.cell? ⟨w.heap.size + 1, 4, none⟩ = some (.int .i64 0) := hBS2.cell 4
  have d5 : V2.cell? ⟨w.heap.size + 1, 5, none⟩ = some (.slice none 0 0) := hBS2.cell 5
  have d6 : V2.cell? ⟨w.heap.size + 1, 6, none⟩ = some (.slice none 0 0) := hBS2.cell 6
  have hRD : Rd V2 (none : Option Addr) (pcs ([] : List Part)) := Rd.nil _ _
  have hAD : ∀ ad, (none : Option Addr) = some ad → ad.block < V2.heap.size ∧ w.heap.size ≤ ad.block := (fun ad e => by cases e)
  have hML : ([] : List Part).length ≤ 4611686018427387904 := by simp
  cases hst : P.2 with
  | none => 
    rw [hst] at hD heS2
    have HD := Lib.hid hD
    clear hD hst hRD hAD hML
    go_wp2
    refine bodyPost_ret (read_res (T := w.heap.size) (b := false) rfl rfl (v0 := .int .i64 0) (v1 := .string ⟨([] : List UInt8).toArray⟩) (v2 := .string ⟨([] : List UInt8).toArray⟩) (v3 := .int .i64 0) (v4 := .int .i64 0) (v5 := .slice none 0 0) (v6 := .slice none 0 0) (blk_set7 hTS2)) rfl ?_
    refine ⟨zeroItem, false, none, 0, none, 0, rfl, by rw [HD.out]; rfl, rfl, Rd.nil _ _, (fun ad e => by cases e), ?_, ?_⟩
    · rw [HD.out]
      exact EyeAt.free heS2 hTS2 (item_no_u8 _ _ _ _ _ _ _ (by simp) (by simp)) (kp_set7 _ _ _ _ _ _ _ _ _) (by omega)
    · exact hKS2.trans (Kept.of (below_set7 _ _ _ (Nat.le_refl _) _ _ _ _ _ _ _))
  | some l' =>
    rw [hst] at hD heS2
    have HD := Lib.hid hD
    clear hD hst
    have hMay := event_may ⟨(x : Int), P.1, [], 0, 0, 0, []⟩ none 0 (none : Option Addr) 0 V2 hRD hML
    simp only [iv_eq, List.length_nil] at hMay
    cases hm : may ⟨(x : Int), P.1, [], 0, 0, 0, []⟩ with
    | false =>
      rw [hm] at hMay
      have HM := Lib.hid hm
      clear hm hRD hAD hML
      go_wp2_with fail
      (with_reducible refine hMay.mono ?_)
      rintro e w20 ⟨rfl, hb20⟩
      have hT20 := hTS2.below hb20
      have he20 := heS2.keep hb20
      have hK20 := hKS2.trans (Kept.of (hb20.mono hKS2.size))
      clear hMay
      have p0 : w20.cell? ⟨w.heap.size, 0, none⟩ = some (.int .i64 0) := hT20.cell 0
      have q0 := hT20.frozen 0
      have p1 : w20.cell? ⟨w.heap.size, 1, none⟩ = some (.string ⟨([] : List UInt8).toArray⟩) := hT20.cell 1
      have q1 := hT20.frozen 1
      have p2 : w20.cell? ⟨w.heap.size, 2, none⟩ = some (.string ⟨([] : List UInt8).toArray⟩) := hT20.cell 2
      have q2 := hT20.frozen 2
      have p3 : w20.cell? ⟨w.heap.size, 3, none⟩ = some (.int .i64 0) := hT20.cell 3
      have q3 := hT20.frozen 3
      have p4 : w20.cell? ⟨w.heap.size, 4, none⟩ = some (.int .i64 0) := hT20.cell 4
      have q4 := hT20.frozen 4
      have p5 : w20.cell? ⟨w.heap.size, 5, none⟩ = some (.slice none 0 0) := hT20.cell 5
      have q5 := hT20.frozen 5
      have p6 : w20.cell? ⟨w.heap.size, 6, none⟩ = some (.slice none 0 0) := hT20.cell 6
      have q6 := hT20.frozen 6
      go_wp2
      refine bodyPost_ret (read_res (T := w.heap.size) (b := false) rfl rfl (v0 := .int .i64 0) (v1 := .string ⟨([] : List UInt8).toArray⟩) (v2 := .string ⟨([] : List UInt8).toArray⟩) (v3 := .int .i64 0) (v4 := .int .i64 0) (v5 := .slice none 0 0) (v6 := .slice none 0 0) (blk_set7 hT20)) rfl ?_
      refine ⟨zeroItem, false, none, 0, none, 0, rfl, by rw [HD.out]; simp only [Option.isSome_some, Bool.true_and]; exact HM.out.symm, rfl, Rd.nil _ _, (fun ad e => by cases e), ?_, ?_⟩
      · rw [HD.out]
        exact EyeAt.free he20 hT20 (item_no_u8 _ _ _ _ _ _ _ (by simp) (by simp)) (kp_set7 _ _ _ _ _ _ _ _ _) (by omega)
      · exact hK20.trans (Kept.of (below_set7 _ _ _ (Nat.le_refl _) _ _ _ _ _ _ _))
    | true =>
      rw [hm] at hMay
      have HM := Lib.hid hm
      clear hm hML
      go_wp2_with fail
      (with_reducible refine hMay.mono ?_)
      rintro e w20 ⟨rfl, hb20⟩
      have hT20 := hTS2.below hb20
      have hB20 := hBS2.below hb20
      have he20 := heS2.keep hb20
      have hK20 := hKS2.trans (Kept.of (hb20.mono hKS2.size))
      have hR20 := hRD.below hb20
      have hA20 : ∀ ad, (none : Option Addr) = some ad → ad.block < w20.heap.size ∧ w.heap.size + 2 ≤ ad.block := (fun ad e => by cases e)
      clear hMay hRD hAD
      have p0 : w20.cell? ⟨w.heap.size, 0, none⟩ = some (.int .i64 0) := hT20.cell 0
      have q0 := hT20.frozen 0
      have p1 : w20.cell? ⟨w.heap.size, 1, none⟩ = some (.string ⟨([] : List UInt8).toArray⟩) := hT20.cell 1
      have q1 := hT20.frozen 1
      have p2 : w20.cell? ⟨w.heap.size, 2, none⟩ = some (.string ⟨([] : List UInt8).toArray⟩) := hT20.cell 2
      have q2 := hT20.frozen 2
      have p3 : w20.cell? ⟨w.heap.size, 3, none⟩ = some (.int .i64 0) := hT20.cell 3
      have q3 := hT20.frozen 3
      have p4 : w20.cell? ⟨w.heap.size, 4, none⟩ = some (.int .i64 0) := hT20.cell 4
      have q4 := hT20.frozen 4
      have p5 : w20.cell? ⟨w.heap.size, 5, none⟩ = some (.slice none 0 0) := hT20.cell 5
      have q5 := hT20.frozen 5
      have p6 : w20.cell? ⟨w.heap.size, 6, none⟩ = some (.slice none 0 0) := hT20.cell 6
      have q6 := hT20.frozen 6
      have r0 : w20.cell? ⟨w.heap.size + 1, 0, none⟩ = some (.int .i64 (x : Int)) := hB20.cell 0
      have r1 : w20.cell? ⟨w.heap.size + 1, 1, none⟩ = some (.string ⟨P.1.toArray⟩) := hB20.cell 1
      have r2 : w20.cell? ⟨w.heap.size + 1, 2, none⟩ = some (.string ⟨([] : List UInt8).toArray⟩) := hB20.cell 2
      have r3 : w20.cell? ⟨w.heap.size + 1, 3, none⟩ = some (.int .i64 0) := hB20.cell 3
      have r4 : w20.cell? ⟨w.heap.size + 1, 4, none⟩ = some (.int .i64 0) := hB20.cell 4
      have r5 : w20.cell? ⟨w.heap.size + 1, 5, none⟩ = some (.slice none 0 0) := hB20.cell 5
      have r6 : w20.cell? ⟨w.heap.size + 1, 6, none⟩ = some (.slice none 0 0) := hB20.cell 6
      go_wp2
      refine bodyPost_ret (read_res (T := w.heap.size) (b := true) rfl rfl (v0 := .int .i64 (x : Int)) (v1 := .string ⟨P.1.toArray⟩) (v2 := .string ⟨([] : List UInt8).toArray⟩) (v3 := .int .i64 0) (v4 := .int .i64 0) (v5 := .slice none 0 0) (v6 := .slice none 0 0) (blk_set7 hT20)) rfl ?_
      have hkf : ∀ {W' : World}, Kp (fun k => k = w.heap.size) w20 W' → Rd W' (none : Option Addr) (pcs ([] : List Part)) := fun hk => hR20.kp hk fun ad e h => by
        have := (hA20 ad e).2
        omega
      refine ⟨⟨(x : Int), P.1, [], 0, 0, 0, []⟩, true, none, 0, (none : Option Addr), 0, rfl, by rw [HD.out]; simp only [Option.isSome_some, Bool.true_and]; exact HM.out.symm, by rw [HD.out]; rfl, hkf (kp_set7 _ _ _ _ _ _ _ _ _), (fun ad e => ⟨by simpa [World.setCell] using (hA20 ad e).1, by have := (hA20 ad e).2; omega⟩), ?_, ?_⟩
      · rw [HD.out]
        exact EyeAt.free he20 hT20 (item_no_u8 _ _ _ _ _ _ _ (by simp) (by simp)) (kp_set7 _ _ _ _ _ _ _ _ _) (by omega)
      · exact hK20.trans (Kept.of (below_set7 _ _ _ (Nat.le_refl _) _ _ _ _ _ _ _))
end Go.Proofs.Ytlgkcpgbmobacaa
