/-
  super.Parse.
-/
import Derived.Test.YtangfnenfhkokaaSupMath
set_option linter.unusedSimpArgs false
set_option linter.unusedVariables false
namespace Go.Proofs.Ytangfnenfhkokaa
open Go.RowKit Go.Maps Go.Shelf
attribute [local go_sem] Oper.semAt_some
attribute [-go_sem] Builtin.append_

def zeroS : Sup := ⟨0, 0, ⟨[], 0, 0#32⟩, ⟨[], 0, 0#32⟩⟩
def ParsePost (b : List UInt8) (segs : Int) (w : World) (e : Ending) (w' : World) : Prop :=
  ∃ s A c A2 c2 ok, e = .returned (.tuple #[supV s A c A2 c2, .bool ok]) ∧ parseB b segs = (if ok then some s else none) ∧ (ok = false → s = zeroS) ∧ Rd w' A (s.jour.segs.map ei) ∧ Rd w' A2 (s.chunks.segs.map ei) ∧ (∀ ad, A = some ad → w.heap.size ≤ ad.block ∧ ad.block < w'.heap.size) ∧ (∀ ad, A2 = some ad → w.heap.size ≤ ad.block ∧ ad.block < w'.heap.size) ∧ Below w.heap.size w w'
theorem parse_no {b : List UInt8} {segs : Int} {w w' : World} (h : parseB b segs = none) (hb : Below w.heap.size w w') : ParsePost b segs w (.returned (.tuple #[.agg #[.int .i64 0, .int .i64 0, .slice none 0 0, .int .i64 0, .int .u32 0, .slice none 0 0, .int .i64 0, .int .u32 0], .bool false])) w' :=
  ⟨zeroS, none, 0, none, 0, false, rfl, h, fun _ => rfl, Rd.nil _ _, Rd.nil _ _, (fun ad e => by cases e), (fun ad e => by cases e), hb⟩
theorem parse_res {tmps : Array Value} {w : World} {T : Nat} {b : Bool} {v0 v1 v2 v3 v4 v5 v6 v7 : Value} (h2 : tmps[4]?.getD undef = .pointer (some ⟨T, 0, none⟩)) (h3 : tmps[5]?.getD undef = .bool b) (h : Blk w T 68 #[v0, v1, v2, v3, v4, v5, v6, v7]) :
    (results Try.f39 tmps).run Try.prog w = .ok (.tuple #[.agg #[v0, v1, v2, v3, v4, v5, v6, v7], .bool b]) w := by
  have c0 : w.cell? ⟨T, 0, none⟩ = some v0 := h.cell 0
  have c1 : w.cell? ⟨T, 1, none⟩ = some v1 := h.cell 1
  have c2 : w.cell? ⟨T, 2, none⟩ = some v2 := h.cell 2
  have c3 : w.cell? ⟨T, 3, none⟩ = some v3 := h.cell 3
  have c4 : w.cell? ⟨T, 4, none⟩ = some v4 := h.cell 4
  have c5 : w.cell? ⟨T, 5, none⟩ = some v5 := h.cell 5
  have c6 : w.cell? ⟨T, 6, none⟩ = some v6 := h.cell 6
  have c7 : w.cell? ⟨T, 7, none⟩ = some v7 := h.cell 7
  simp [results, Try.results39, go_sem, h2, h3, c0, c1, c2, c3, c4, c5, c6, c7]
/-- a slot's block written anew -/
theorem blk_set8 {w : World} {T : Nat} {e : TypeId} {a0 a1 a2 a3 a4 a5 a6 a7 v0 v1 v2 v3 v4 v5 v6 v7 : Value} (h : Blk w T e #[a0, a1, a2, a3, a4, a5, a6, a7]) :
    Blk ((((((((w.setCell ⟨T, 0, none⟩ v0).setCell ⟨T, 1, none⟩ v1).setCell ⟨T, 2, none⟩ v2).setCell ⟨T, 3, none⟩ v3).setCell ⟨T, 4, none⟩ v4).setCell ⟨T, 5, none⟩ v5).setCell ⟨T, 6, none⟩ v6).setCell ⟨T, 7, none⟩ v7) T e #[v0, v1, v2, v3, v4, v5, v6, v7] := by
  have h0 : Blk (w.setCell ⟨T, 0, none⟩ v0) T e #[v0, a1, a2, a3, a4, a5, a6, a7] := h.set 0 v0
  generalize w.setCell ⟨T, 0, none⟩ v0 = w at *
  have h1 : Blk (w.setCell ⟨T, 1, none⟩ v1) T e #[v0, v1, a2, a3, a4, a5, a6, a7] := h0.set 1 v1
  generalize w.setCell ⟨T, 1, none⟩ v1 = w at *
  have h2 : Blk (w.setCell ⟨T, 2, none⟩ v2) T e #[v0, v1, v2, a3, a4, a5, a6, a7] := h1.set 2 v2
  generalize w.setCell ⟨T, 2, none⟩ v2 = w at *
  have h3 : Blk (w.setCell ⟨T, 3, none⟩ v3) T e #[v0, v1, v2, v3, a4, a5, a6, a7] := h2.set 3 v3
  generalize w.setCell ⟨T, 3, none⟩ v3 = w at *
  have h4 : Blk (w.setCell ⟨T, 4, none⟩ v4) T e #[v0, v1, v2, v3, v4, a5, a6, a7] := h3.set 4 v4
  generalize w.setCell ⟨T, 4, none⟩ v4 = w at *
  have h5 : Blk (w.setCell ⟨T, 5, none⟩ v5) T e #[v0, v1, v2, v3, v4, v5, a6, a7] := h4.set 5 v5
  generalize w.setCell ⟨T, 5, none⟩ v5 = w at *
  have h6 : Blk (w.setCell ⟨T, 6, none⟩ v6) T e #[v0, v1, v2, v3, v4, v5, v6, a7] := h5.set 6 v6
  generalize w.setCell ⟨T, 6, none⟩ v6 = w at *
  exact h6.set 7 v7
theorem below_set8 {B : Nat} {w a : World} {T : Nat} (h : Below B a w) (hB : B ≤ T) (v0 v1 v2 v3 v4 v5 v6 v7 : Value) :
    Below B a ((((((((w.setCell ⟨T, 0, none⟩ v0).setCell ⟨T, 1, none⟩ v1).setCell ⟨T, 2, none⟩ v2).setCell ⟨T, 3, none⟩ v3).setCell ⟨T, 4, none⟩ v4).setCell ⟨T, 5, none⟩ v5).setCell ⟨T, 6, none⟩ v6).setCell ⟨T, 7, none⟩ v7) := by
  have h : Below B a (w.setCell ⟨T, 0, none⟩ v0) := h.setCell (p := ⟨T, 0, none⟩) hB v0
  generalize w.setCell ⟨T, 0, none⟩ v0 = w at *
  have h : Below B a (w.setCell ⟨T, 1, none⟩ v1) := h.setCell (p := ⟨T, 1, none⟩) hB v1
  generalize w.setCell ⟨T, 1, none⟩ v1 = w at *
  have h : Below B a (w.setCell ⟨T, 2, none⟩ v2) := h.setCell (p := ⟨T, 2, none⟩) hB v2
  generalize w.setCell ⟨T, 2, none⟩ v2 = w at *
  have h : Below B a (w.setCell ⟨T, 3, none⟩ v3) := h.setCell (p := ⟨T, 3, none⟩) hB v3
  generalize w.setCell ⟨T, 3, none⟩ v3 = w at *
  have h : Below B a (w.setCell ⟨T, 4, none⟩ v4) := h.setCell (p := ⟨T, 4, none⟩) hB v4
  generalize w.setCell ⟨T, 4, none⟩ v4 = w at *
  have h : Below B a (w.setCell ⟨T, 5, none⟩ v5) := h.setCell (p := ⟨T, 5, none⟩) hB v5
  generalize w.setCell ⟨T, 5, none⟩ v5 = w at *
  have h : Below B a (w.setCell ⟨T, 6, none⟩ v6) := h.setCell (p := ⟨T, 6, none⟩) hB v6
  generalize w.setCell ⟨T, 6, none⟩ v6 = w at *
  have h : Below B a (w.setCell ⟨T, 7, none⟩ v7) := h.setCell (p := ⟨T, 7, none⟩) hB v7
  exact h
theorem kp_set8 {F : Nat → Prop} {w a : World} {T : Nat} (h : Kp F a w) (hT : F T) (v0 v1 v2 v3 v4 v5 v6 v7 : Value) :
    Kp F a ((((((((w.setCell ⟨T, 0, none⟩ v0).setCell ⟨T, 1, none⟩ v1).setCell ⟨T, 2, none⟩ v2).setCell ⟨T, 3, none⟩ v3).setCell ⟨T, 4, none⟩ v4).setCell ⟨T, 5, none⟩ v5).setCell ⟨T, 6, none⟩ v6).setCell ⟨T, 7, none⟩ v7) := by
  have h : Kp F a (w.setCell ⟨T, 0, none⟩ v0) := Kp.setCell h 0 v0 hT
  generalize w.setCell ⟨T, 0, none⟩ v0 = w at *
  have h : Kp F a (w.setCell ⟨T, 1, none⟩ v1) := Kp.setCell h 1 v1 hT
  generalize w.setCell ⟨T, 1, none⟩ v1 = w at *
  have h : Kp F a (w.setCell ⟨T, 2, none⟩ v2) := Kp.setCell h 2 v2 hT
  generalize w.setCell ⟨T, 2, none⟩ v2 = w at *
  have h : Kp F a (w.setCell ⟨T, 3, none⟩ v3) := Kp.setCell h 3 v3 hT
  generalize w.setCell ⟨T, 3, none⟩ v3 = w at *
  have h : Kp F a (w.setCell ⟨T, 4, none⟩ v4) := Kp.setCell h 4 v4 hT
  generalize w.setCell ⟨T, 4, none⟩ v4 = w at *
  have h : Kp F a (w.setCell ⟨T, 5, none⟩ v5) := Kp.setCell h 5 v5 hT
  generalize w.setCell ⟨T, 5, none⟩ v5 = w at *
  have h : Kp F a (w.setCell ⟨T, 6, none⟩ v6) := Kp.setCell h 6 v6 hT
  generalize w.setCell ⟨T, 6, none⟩ v6 = w at *
  have h : Kp F a (w.setCell ⟨T, 7, none⟩ v7) := Kp.setCell h 7 v7 hT
  exact h
set_option maxRecDepth 100000 in
set_option maxHeartbeats 4000000 in
theorem super_parse_short (b : List UInt8) (segs : Int) (A : Option Addr) (m cap : Nat) (w : World) (hm : b.length = m) (hl : m ≤ 140737488355328) (hne : m ≠ 256) :
    Calls Try.prog 39 #[.slice A m cap, .int .i64 segs] w (ParsePost b segs w) := by
  have hno : parseB b segs = none := by unfold parseB; rw [if_neg (by omega)]
  have HNO := Lib.hid hno
  have b1 := bal (Below.refl w.heap.size w) (.cells #[.int .i64 0, .int .i64 0, .slice none 0 0, .int .i64 0, .int .u32 0, .slice none 0 0, .int .i64 0, .int .u32 0] 68)
  have T0 := Blk.new w 68 #[.int .i64 0, .int .i64 0, .slice none 0 0, .int .i64 0, .int .u32 0, .slice none 0 0, .int .i64 0, .int .u32 0]
  have t1 : ((m : Int) != 256) = true := by rw [bne_iff_ne]; omega
  clear hno hm
  go_enter Try.func39, Try.ntmps39
  go_wp2
  refine bodyPost_ret (parse_res (T := w.heap.size) rfl rfl T0) rfl ?_
  exact parse_no HNO.out b1
theorem inB_len4 (b : List UInt8) (h : b.length = 256) : (inB b (cutsOf 64 4)).length = 224 := by
  unfold inB cutsOf
  simp [List.range_succ, h]
theorem parseS_eq (b : List UInt8) (a c : Nat × St) (l1 l2 : SLog) (st1 st2 : St) (h1 : eNum (some ((inB b (cutsOf 64 4)).drop 2)) = a) (h2 : eNum a.2 = c) (h3 : readL c.2 = (l1, st1)) (h4 : readL st1 = (l2, st2)) : parseS b = (⟨(a.1 : Int), (c.1 : Int), l1, l2⟩, st2) := by
  unfold parseS
  simp only [h1, h2, h3, h4]
theorem kp_kept {g B B0 : Nat} {w w' : World} (h : Kept g B w w') (hg : B0 ≤ g) (hB : w.heap.size ≤ B := by exact Nat.le_refl _) : Kp (fun j => B0 ≤ j) w w' := ⟨h.os, h.tape, h.output, h.size, fun k hk hF => h.block k (by omega) (by omega)⟩
theorem EyeD.lt {D : Nat} {w : World} {g : Nat} {st : Option (List UInt8)} (h : EyeD D w g st) : g < w.heap.size := by
  cases st with
  | none => exact Blk.lt h
  | some l => obtain ⟨A, c, h1, _⟩ := h; exact h1.lt
theorem bi_wide {xs : List UInt8} : ∀ x ∈ xs.map bi, wide x := fun x hx => by
  obtain ⟨y, _, rfl⟩ := List.mem_map.1 hx
  have := y.toNat_lt
  unfold wide bi
  omega
theorem readL_wide {st st' : St} {l : SLog} (h : readL st = (l, st')) : (∀ x ∈ l.segs, wide x) ∧ l.segs.length ≤ 96 ∧ wide l.len := by
  unfold readL at h
  injection h with h1 h2
  subst h1
  refine ⟨bi_wide, ?_, ?_⟩
  · simp only [List.length_map, eBytes_len]
    unfold cap96
    split <;> omega
  · have : (eNum (eBytes (cap96 (eNum st).1) (eNum st).2).2).1 ≤ 4611686018427387904 := eNumGo_le 9 0 0 _
    unfold wide
    simp only
    omega
theorem kp_set3 (w : World) (T i j k : Nat) (u v x : Value) : Kp (fun k => k = T) w (((w.setCell ⟨T, i, none⟩ u).setCell ⟨T, j, none⟩ v).setCell ⟨T, k, none⟩ x) := by
  have h1 : Kp (fun k => k = T) w (w.setCell ⟨T, i, none⟩ u) := Kp.setCell (Kp.refl _ _) i u rfl
  have h2 : Kp (fun k => k = T) w ((w.setCell ⟨T, i, none⟩ u).setCell ⟨T, j, none⟩ v) := Kp.setCell h1 j v rfl
  exact Kp.setCell h2 k x rfl
theorem kp_one {g : Nat} {w w' : World} (h : Kept g w.heap.size w w') : Kp (fun j => j = g) w w' := ⟨h.os, h.tape, h.output, h.size, fun k hk hF => h.block k hk hF⟩
theorem blk_set3a {w : World} {T : Nat} {e : TypeId} {a0 a1 a2 a3 a4 a5 a6 a7 v0 v1 v2 : Value} (h : Blk w T e #[a0, a1, a2, a3, a4, a5, a6, a7]) :
    Blk (((w.setCell ⟨T, 2, none⟩ v0).setCell ⟨T, 3, none⟩ v1).setCell ⟨T, 4, none⟩ v2) T e #[a0, a1, v0, v1, v2, a5, a6, a7] := by
  have h0 : Blk (w.setCell ⟨T, 2, none⟩ v0) T e #[a0, a1, v0, a3, a4, a5, a6, a7] := h.set 2 v0
  generalize w.setCell ⟨T, 2, none⟩ v0 = w at *
  have h1 : Blk (w.setCell ⟨T, 3, none⟩ v1) T e #[a0, a1, v0, v1, a4, a5, a6, a7] := h0.set 3 v1
  generalize w.setCell ⟨T, 3, none⟩ v1 = w at *
  exact h1.set 4 v2
theorem blk_set3b {w : World} {T : Nat} {e : TypeId} {a0 a1 a2 a3 a4 a5 a6 a7 v0 v1 v2 : Value} (h : Blk w T e #[a0, a1, a2, a3, a4, a5, a6, a7]) :
    Blk (((w.setCell ⟨T, 5, none⟩ v0).setCell ⟨T, 6, none⟩ v1).setCell ⟨T, 7, none⟩ v2) T e #[a0, a1, a2, a3, a4, v0, v1, v2] := by
  have h0 : Blk (w.setCell ⟨T, 5, none⟩ v0) T e #[a0, a1, a2, a3, a4, v0, a6, a7] := h.set 5 v0
  generalize w.setCell ⟨T, 5, none⟩ v0 = w at *
  have h1 : Blk (w.setCell ⟨T, 6, none⟩ v1) T e #[a0, a1, a2, a3, a4, v0, v1, a7] := h0.set 6 v1
  generalize w.setCell ⟨T, 6, none⟩ v1 = w at *
  exact h1.set 7 v2
theorem kp_obj (w : World) (l : Nat) (o : Obj) : Kp (fun j => j = l) w (w.putObj l o) := by
  have hg := grownBy_putObj' w l o
  exact ⟨hg.os, hg.tape, hg.output, hg.size, fun i hi hF => hg.block i hi fun e => hF (by cases e; rfl)⟩
theorem keeps_app {B B' : Nat} {W W' : World} {v : Value} {e : TypeId} {cs : List Value} (hb : Below B W W') (hg : W.grownBy W' v.ownBlock) (ho : Own W B' e v cs) : KeepsFrom B W W' :=
  ⟨hg.size, fun k o _ hk hc => (hg.block k (Array.getElem?_eq_some_iff.1 hk).1 fun e' => by
    obtain ⟨_, _, cur, hcur⟩ := ho.typed k e'.symm
    unfold Blk at hcur
    rw [hk] at hcur
    cases hcur
    cases hc).trans hk⟩
theorem inB_len (b : List UInt8) (os : List Nat) : (inB b os).length ≤ os.length * 56 := by
  induction os with
  | nil => simp [inB]
  | cons o os ih =>
    have : inB b (o :: os) = (((b.drop o).take 64).drop 4).take 56 ++ inB b os := by unfold inB; simp
    rw [this, List.length_append, List.length_take, List.length_cons, Nat.succ_mul]
    omega
set_option maxRecDepth 100000 in
set_option maxHeartbeats 4000000 in
theorem super_parse (b : List UInt8) (segs : Int) (A : Option Addr) (cap : Nat) (w : World) (hm : b.length = 256) (hcap : 256 ≤ cap) (hr : RB w A b) :
    Calls Try.prog 39 #[.slice A 256 cap, .int .i64 segs] w (ParsePost b segs w) := by
  obtain ⟨ad, rfl⟩ := hr.some_of (by omega)
  have b1 := bal (Below.refl w.heap.size w) (.cells #[.int .i64 0, .int .i64 0, .slice none 0 0, .int .i64 0, .int .u32 0, .slice none 0 0, .int .i64 0, .int .u32 0] 68)
  have z1 := size_more' w (.cells #[.int .i64 0, .int .i64 0, .slice none 0 0, .int .i64 0, .int .u32 0, .slice none 0 0, .int .i64 0, .int .u32 0] 68)
  have T1 := Blk.new w 68 #[.int .i64 0, .int .i64 0, .slice none 0 0, .int .i64 0, .int .u32 0, .slice none 0 0, .int .i64 0, .int .u32 0]
  have b2 := bal b1 (.cells #[.slice none 0 0] 42)
  have z2 := size_more' (w.alloc (.cells #[.int .i64 0, .int .i64 0, .slice none 0 0, .int .i64 0, .int .u32 0, .slice none 0 0, .int .i64 0, .int .u32 0] 68)) (.cells #[.slice none 0 0] 42)
  have O2 := Blk.new (w.alloc (.cells #[.int .i64 0, .int .i64 0, .slice none 0 0, .int .i64 0, .int .u32 0, .slice none 0 0, .int .i64 0, .int .u32 0] 68)) 42 #[.slice none 0 0]
  have T2 := T1.alloc (.cells #[.slice none 0 0] 42)
  rw [z1] at z2 O2
  refine (callsIn_wide (n := 3)).1 ?_
  refine callsIn_of_wp_marks Try.func39 rfl trivial ?_ rfl
  simp only [Try.ntmps39, List.size_toArray, List.length_cons, List.length_nil, Nat.reduceAdd, Nat.reduceSub, Array.replicate_succ, Array.replicate_zero, List.push_toArray, List.append_toArray, List.nil_append, List.cons_append]
  gi_wp2_with fail
  generalize ((w.alloc (.cells #[.int .i64 0, .int .i64 0, .slice none 0 0, .int .i64 0, .int .u32 0, .slice none 0 0, .int .i64 0, .int .u32 0] 68)).alloc (.cells #[.slice none 0 0] 42)) = w6 at *
  refine ⟨trivial, ?_⟩
  refine (callsIn_wide.2 (slices_chunk (some ad) 256 cap 64 (by omega) w6)).mono ?_
  rintro e w8 ⟨rfl, rfl⟩
  have r6 := hr.below b2
  have S8 := (Blk.new w6 42 #[.slice (some ad) 256 cap]).alloc (.cells #[.int .i64 (64 : Int)] 3)
  have N8 := Blk.new (w6.alloc (.cells #[.slice (some ad) 256 cap] 42)) 3 #[.int .i64 (64 : Int)]
  have k8 := bal (bal (Below.refl w6.heap.size w6) (.cells #[.slice (some ad) 256 cap] 42)) (.cells #[.int .i64 (64 : Int)] 3)
  have z7 := size_more' w6 (.cells #[.slice (some ad) 256 cap] 42)
  have z8 := size_more' (w6.alloc (.cells #[.slice (some ad) 256 cap] 42)) (.cells #[.int .i64 (64 : Int)] 3)
  rw [z7] at N8 z8
  have T8 := T2.below k8
  have O8 := O2.below k8
  have r8 := r6.below k8
  have b8 := bn b2 k8
  have hal : ad.block < w.heap.size := Rd.lt hr rfl (by intro e; have := congrArg List.length e; rw [List.length_map, hm] at this; cases this)
  clear hr r6 T1 T2 O2 b1 z1
  gi_wp2_with fail
  generalize ((w6.alloc (.cells #[.slice (some ad) 256 cap] 42)).alloc (.cells #[.int .i64 (64 : Int)] 3)) = W0 at *
  have hst := chunk_stops Fence.wide (3 - 1) trivial rfl (by omega) (w.heap.size + 1 + 1) (w.heap.size + 1 + 1 + 1) ad 64 4 256 cap rfl (fun j => j = w.heap.size + 1 ∨ W0.heap.size ≤ j) (by omega) (by omega) hcap (by omega) W0 (by rw [← z2]; exact S8.cell 0) (by rw [← z2]; exact N8.cell 0) (by omega) (by omega)
  refine wpIn_rangeFunc_ownG rfl (by omega) (gf := 83) (lb := #[.pointer (some ⟨w.heap.size + 1 + 1, 0, none⟩), .pointer (some ⟨w.heap.size + 1 + 1 + 1, 0, none⟩)]) rfl trivial (enters_of Try.func83 (by kernel_rfl) rfl) hst
    (fun h k => h.trans k fun _ _ h => h) (kp_put fun j h => .inr h) (Below.refl _ _) (fun _ => rfl)
    (fun pre W => ∃ v, Blk W (w.heap.size + 1) 42 #[v] ∧ Own W W0.heap.size 5 v ((inB b (pre.map (·.1))).map eb) ∧ Kp (fun j => j = w.heap.size + 1 ∨ W0.heap.size ≤ j) W0 W)
    (fun _ _ _ => False) (box_from (f := fun pre : List (Cut 64 256) => (inB b (pre.map (·.1))).map eb) (by omega)) (fun _ _ _ _ _ hs _ _ => hs)
    ⟨_, O8, Own.nil _ _ _, Kp.refl _ _⟩
    (fun x => { tmps := #[.slice (some ad) 256 cap, .int .i64 segs, undef, undef, .pointer (some ⟨w.heap.size, 0, none⟩), .bool false, .pointer (some ⟨w.heap.size + 1, 0, none⟩), .slice (some (ad.add x.1)) 64 64, undef, undef, undef, undef, .slice (some ad) 256 cap, .int .i64 256, .bool false, undef, .slice (some ad) 256 cap, .func (.func 83) #[] #[.pointer (some ⟨w.heap.size + 1 + 1, 0, none⟩), .pointer (some ⟨w.heap.size + 1 + 1 + 1, 0, none⟩)], .slice (some (ad.add x.1)) 64 64, undef, undef, undef, undef, undef, undef, undef, undef, undef, undef, undef, undef, undef, undef, undef, undef, undef, undef, undef, undef, undef, undef, undef, undef, undef, undef, undef, undef, undef, undef, undef, undef, undef, undef, undef, undef, undef, undef, undef, undef, undef, undef, undef], defers := [] }) ?assign ?body ?done ?stop
  case assign =>
    intro l x W K hK
    unfold cutE
    gi_wp2
    exact hK
  case body =>
    rintro l pre x W ⟨v, hb, ho, hk⟩ hlt
    obtain ⟨o, hox⟩ := x
    have hsn := inB_snoc b (pre.map (·.1)) o
    have hsl : (inB b (pre.map (·.1))).length ≤ 56 * 4 := by
      have := inB_len b (pre.map (·.1))
      rw [List.length_map] at this
      omega
    have hpt : ((((b.drop o).take 64).drop 4).take 56).length = 56 := by simp only [List.length_take, List.length_drop]; omega
    have rP : RB W (some (ad.add o)) ((b.drop o).take 64) := RB.cut (RB.kp r8 hk fun ad e => by cases e; omega) o 64
    obtain ⟨A4, hc4, hr4, -⟩ := cut_mid (P := Try.prog) 42 5 Try.underlying42 size_u8 (some (ad.add o)) 64 64 4 60 (by omega) (by omega) (by omega)
    simp only [show ((60 : Int)).toNat - ((4 : Int)).toNat = 56 from rfl, show 64 - ((4 : Int)).toNat = 60 from rfl] at hc4
    have rT := (hr4 W _ (by rw [List.length_map, List.length_take]; omega) rP)
    rw [← List.map_drop] at rT
    have rT2 : RB W A4 ((((b.drop o).take 64).drop 4).take 56) := RB.take rT 56
    obtain ⟨Av, cv, rfl, hcv, rv⟩ := ho.bytes
    have y5 : W.drew.cell? ⟨w.heap.size + 1, 0, none⟩ = some (.slice Av (inB b (pre.map (·.1))).length cv) := (hb.drew').cell 0
    obtain ⟨v9, w9, hrun, ho9, hb9, hg9⟩ := append_bytes W.drew W0.heap.size _ _ (ho.below (bdr (Below.refl _ _))) A4 56 60 _ hpt (rT2.below (bdr (Below.refl _ _))) (by rw [hpt]; omega) hk.size
    obtain ⟨A9, c9, rfl, hc9, rv9⟩ := ho9.bytes
    have hn9 : (inB b (pre.map (·.1)) ++ (((b.drop o).take 64).drop 4).take 56).length = (inB b (pre.map (·.1))).length + 56 := by rw [List.length_append, hpt]
    rw [hn9] at hrun ho9
    rw [← hsn] at ho9
    simp only [List.map_append, List.map_cons, List.map_nil] at ho9 ⊢
    have hB9 : Blk w9 (w.heap.size + 1) 42 #[.slice Av (inB b (pre.map (·.1))).length cv] := (hb9.block _ (by omega)).trans hb
    have y9 : w9.cell? ⟨w.heap.size + 1, 0, none⟩ = some (.slice Av (inB b (pre.map (·.1))).length cv) := hB9.cell 0
    have f9 := hB9.frozen 0
    have hrun := hrun.out
    obtain ⟨sl, hsl2⟩ : ∃ sl, (inB b (pre.map (·.1))).length = sl := ⟨_, rfl⟩
    rw [hsl2] at y5 y9 hrun ho9 hB9 hcv
    gi_wp2
    have hmx : Try.prog.follows .mixedOrders = true := by kernel_rfl
    gi_region_with_o (fail)
    all_goals
      have O10 := hB9.set 0 (.slice A9 (sl + 56) c9)
      have ho10 : Own (w9.setCell ⟨w.heap.size + 1, 0, none⟩ (.slice A9 (sl + 56) c9)) W0.heap.size 5 (.slice A9 (sl + 56) c9) _ := Own.other ho9 (Ne.symm (ho9.no_blk hB9 (by decide))) (i := 0) (.slice A9 (sl + 56) c9)
      have hk9 : Kp (fun j => j = w.heap.size + 1 ∨ W0.heap.size ≤ j) W w9 := (Kp.refl _ W).drew'.trans ((kp_from hb9 hk.size).mono fun j _ h => .inr h) fun _ _ h => h
      have hk10 : Kp (fun j => j = w.heap.size + 1 ∨ W0.heap.size ≤ j) W (w9.setCell ⟨w.heap.size + 1, 0, none⟩ (.slice A9 (sl + 56) c9)) := Kp.setCell hk9 0 _ (.inl rfl)
      have hf9 : KeepsFrom W0.heap.size W w9 := ((KeepsOthers.drew W).from _).trans (keeps_app hb9 hg9 (ho.below (bdr (Below.refl _ _))))
      have hf10 : KeepsFrom W0.heap.size W (w9.setCell ⟨w.heap.size + 1, 0, none⟩ (.slice A9 (sl + 56) c9)) := hf9.trans (KeepsFrom.of_grownBy (grownBy_setCell' _ _ _) fun j e => by cases e; omega)
      clear hrun
      gi_wp2
      exact ⟨hf10, hk10, ⟨_, O10, by rw [List.map_append, List.map_cons, List.map_nil]; exact ho10, hk.trans hk10 fun _ _ h => h⟩⟩
  case done =>
    rintro D ys W hD hys ⟨v, hb, ho, hk⟩ hK
    have hIl := inB_len4 b hm
    rw [hys] at ho
    obtain ⟨I, hI⟩ : ∃ I, inB b (cutsOf 64 4) = I := ⟨_, rfl⟩
    rw [hI] at ho hIl
    obtain ⟨Av, cv, rfl, hcv, rv⟩ := ho.bytes
    rw [hIl] at hb hcv
    have hc : W.cell? ⟨w.heap.size + 1, 0, none⟩ = some (.slice Av 224 cv) := hb.cell 0
    obtain ⟨A', hcf, hcr, -⟩ := cut_from (P := Try.prog) 42 5 Try.underlying42 size_u8 Av 224 cv 2 (by omega) (by omega)
    simp only [show 224 - ((2 : Int)).toNat = 222 from rfl, show ((2 : Int)).toNat = 2 from rfl] at hcf
    have rI : RB W A' (I.drop 2) := by
      have := hcr W _ (by rw [List.length_map, hIl]; exact hcv) rv
      rw [← List.map_drop] at this
      exact this
    have rb := r8.kp hk (fun ad' e => by cases e; omega)
    have TW := T8.kp hk (by omega)
    have hWb : Below w.heap.size w W := b8.trans (hk.below (by omega) fun j hj => by omega)
    have hbs := hk.size
    have hDlt : D < W.heap.size := (Array.getElem?_eq_some_iff.1 hK).1
    clear hcr ho hb rv hys
    gi_wp2_with fail
    refine ⟨trivial, ?_⟩
    refine (callsIn_wide.2 (eye_new A' 222 (cv - 2) (I.drop 2) W (by rw [List.length_drop, hIl]) (by rw [List.length_drop, hIl]; omega) rI)).mono ?_
    rintro e w3 ⟨g, rfl, hg, h3, hb3⟩
    have h3 := h3.eyeD
    have hg3 := h3.lt
    obtain ⟨a, ha⟩ : ∃ a, eNum (some (I.drop 2)) = a := ⟨_, rfl⟩
    obtain ⟨c, hcn⟩ : ∃ c, eNum a.2 = c := ⟨_, rfl⟩
    have K3 := kp_from hb3 (Nat.le_refl _)
    gi_wp2_with fail
    refine ⟨trivial, ?_⟩
    refine (callsIn_wide.2 (eye_numD w3.heap.size g _ w3 h3 hg3)).mono ?_
    rintro e w4 ⟨rfl, h4, hk4⟩
    rw [ha] at h4 ⊢
    have K4 := K3.trans (kp_kept hk4 hg) fun _ _ h => h
    have hs4 := hk4.size
    gi_wp2_with fail
    refine ⟨trivial, ?_⟩
    refine (callsIn_wide.2 (eye_numD w3.heap.size g _ w4 h4 (by omega))).mono ?_
    rintro e w5 ⟨rfl, h5, hk5⟩
    rw [hcn] at h5 ⊢
    have K5 := K4.trans (kp_kept hk5 hg) fun _ _ h => h
    have hs5 := hk5.size
    have hla : a.1 ≤ 4611686018427387904 := by rw [← ha]; exact eNumGo_le 9 0 0 _
    have hlc : c.1 ≤ 4611686018427387904 := by rw [← hcn]; exact eNumGo_le 9 0 0 _
    have hk6 := bal (Below.refl w5.heap.size w5) (.cells #[.int .i64 (a.1 : Int), .int .i64 (c.1 : Int), .slice none 0 0, .int .i64 0, .int .u32 0, .slice none 0 0, .int .i64 0, .int .u32 0] 68)
    have h6 := h5.kp (F := fun _ => False) (Kp.of hk6) (fun _ h => h.elim) (fun h => h)
    have Q6 := Blk.new w5 68 #[.int .i64 (a.1 : Int), .int .i64 (c.1 : Int), .slice none 0 0, .int .i64 0, .int .u32 0, .slice none 0 0, .int .i64 0, .int .u32 0]
    have z6 := size_more' w5 (.cells #[.int .i64 (a.1 : Int), .int .i64 (c.1 : Int), .slice none 0 0, .int .i64 0, .int .u32 0, .slice none 0 0, .int .i64 0, .int .u32 0] 68)
    have hs5' : W.heap.size ≤ w5.heap.size := K5.size
    have K6 := K5.trans (kp_of (F := fun j => W.heap.size ≤ j) hk6) fun _ _ h => h
    clear h3 h4 h5 hk4 hk5 hk6 K3 K4 K5
    gi_wp2_with fail
    generalize (w5.alloc (.cells #[.int .i64 (a.1 : Int), .int .i64 (c.1 : Int), .slice none 0 0, .int .i64 0, .int .u32 0, .slice none 0 0, .int .i64 0, .int .u32 0] 68)) = w6' at *
    refine ⟨trivial, ?_⟩
    refine (callsIn_wide.2 (super_readLog w3.heap.size g _ w6' h6 (by omega) (by omega))).mono ?_
    rintro e w7 ⟨l1, st1, A1, c1, hl1, rfl, hr1, hA1, h7, hk7⟩
    unfold logV
    obtain ⟨wl1, wn1, wl1'⟩ := readL_wide hl1
    obtain ⟨q, hq⟩ : ∃ q, w5.heap.size = q := ⟨_, rfl⟩
    rw [hq] at Q6 z6 hs5 hs5' ⊢
    have Q7 := Q6.keep hk7 (by omega) (by omega)
    have K7 := K6.trans (kp_kept hk7 hg) fun _ _ h => h
    have hs7 := hk7.size
    have y2 : w7.cell? ⟨q, 2, none⟩ = some (.slice none 0 0) := Q7.cell 2
    have y3 : w7.cell? ⟨q, 3, none⟩ = some (.int .i64 0) := Q7.cell 3
    have y4 : w7.cell? ⟨q, 4, none⟩ = some (.int .u32 0) := Q7.cell 4
    have f2 := Q7.frozen 2
    have f3 := Q7.frozen 3
    have f4 := Q7.frozen 4
    have HK7 : Kp (fun k => k = q) w7 (((w7.setCell ⟨q, 2, none⟩ (.slice A1 l1.segs.length c1)).setCell ⟨q, 3, none⟩ (.int .i64 l1.len)).setCell ⟨q, 4, none⟩ (.int .u32 (l1.last.toNat : Int))) := kp_set3 _ _ _ _ _ _ _ _
    have Q8 := blk_set3a (v0 := (.slice A1 l1.segs.length c1)) (v1 := (.int .i64 l1.len)) (v2 := (.int .u32 (l1.last.toNat : Int))) Q7
    have h8 := h7.kp HK7 (fun k h => by omega) (by omega)
    have hr8 := hr1.kp HK7 (fun ad' e h => by have := hA1 ad' e; omega)
    have K8 := K7.trans (HK7.mono fun j _ h => (by omega : W.heap.size ≤ j)) fun _ _ h => h
    have hs8 := HK7.size
    clear HK7 Q7 K7 h7 hr1 hk7 K6 Q6 h6
    gi_wp2_with fail
    generalize (((w7.setCell ⟨q, 2, none⟩ (.slice A1 l1.segs.length c1)).setCell ⟨q, 3, none⟩ (.int .i64 l1.len)).setCell ⟨q, 4, none⟩ (.int .u32 (l1.last.toNat : Int))) = X7 at *
    refine ⟨trivial, ?_⟩
    refine (callsIn_wide.2 (super_readLog w3.heap.size g _ X7 h8 (by omega) (by omega))).mono ?_
    rintro e w9 ⟨l2, st2, A2, c2, hl2, rfl, hr2, hA2, h9, hk9⟩
    unfold logV
    obtain ⟨wl2, wn2, wl2'⟩ := readL_wide hl2
    have Q9 := Q8.keep hk9 (by omega) (by omega)
    have hr9 := hr8.kp (kp_one hk9) (fun ad' e h => by have := hA1 ad' e; omega)
    have K9 := K8.trans (kp_kept hk9 hg) fun _ _ h => h
    have hs9 := hk9.size
    have y5 : w9.cell? ⟨q, 5, none⟩ = some (.slice none 0 0) := Q9.cell 5
    have y6 : w9.cell? ⟨q, 6, none⟩ = some (.int .i64 0) := Q9.cell 6
    have y7 : w9.cell? ⟨q, 7, none⟩ = some (.int .u32 0) := Q9.cell 7
    have y0 : w9.cell? ⟨q, 0, none⟩ = some (.int .i64 (a.1 : Int)) := Q9.cell 0
    have y1 : w9.cell? ⟨q, 1, none⟩ = some (.int .i64 (c.1 : Int)) := Q9.cell 1
    have y2 : w9.cell? ⟨q, 2, none⟩ = some (.slice A1 l1.segs.length c1) := Q9.cell 2
    have y3 : w9.cell? ⟨q, 3, none⟩ = some (.int .i64 l1.len) := Q9.cell 3
    have y4 : w9.cell? ⟨q, 4, none⟩ = some (.int .u32 (l1.last.toNat : Int)) := Q9.cell 4
    have f5 := Q9.frozen 5
    have f6 := Q9.frozen 6
    have f7 := Q9.frozen 7
    have HK9 : Kp (fun k => k = q) w9 (((w9.setCell ⟨q, 5, none⟩ (.slice A2 l2.segs.length c2)).setCell ⟨q, 6, none⟩ (.int .i64 l2.len)).setCell ⟨q, 7, none⟩ (.int .u32 (l2.last.toNat : Int))) := kp_set3 _ _ _ _ _ _ _ _
    have Q10 := blk_set3b (v0 := (.slice A2 l2.segs.length c2)) (v1 := (.int .i64 l2.len)) (v2 := (.int .u32 (l2.last.toNat : Int))) Q9
    have h10 := h9.kp HK9 (fun k h => by omega) (by omega)
    have hr10 := hr9.kp HK9 (fun ad' e h => by have := hA1 ad' e; omega)
    have hr20 := hr2.kp HK9 (fun ad' e h => by have := hA2 ad' e; omega)
    have K10 := K9.trans (HK9.mono fun j _ h => (by omega : W.heap.size ≤ j)) fun _ _ h => h
    have hs10 := HK9.size
    clear HK9 Q9 K9 h9 hr2 hk9 K8 Q8 h8 hr9 hr8
    gi_wp2_with fail
    generalize (((w9.setCell ⟨q, 5, none⟩ (.slice A2 l2.segs.length c2)).setCell ⟨q, 6, none⟩ (.int .i64 l2.len)).setCell ⟨q, 7, none⟩ (.int .u32 (l2.last.toNat : Int))) = X9 at *
    obtain ⟨S, hS⟩ : ∃ S : Sup, S = ⟨(a.1 : Int), (c.1 : Int), l1, l2⟩ := ⟨_, rfl⟩
    have hps : parseS b = (S, st2) := by rw [hS]; exact parseS_eq b a c l1 l2 st1 st2 (by rw [hI]; exact ha) hcn hl1 hl2
    have hsv : supV S A1 c1 A2 c2 = .agg #[.int .i64 (a.1 : Int), .int .i64 (c.1 : Int), .slice A1 l1.segs.length c1, .int .i64 l1.len, .int .u32 (l1.last.toNat : Int), .slice A2 l2.segs.length c2, .int .i64 l2.len, .int .u32 (l2.last.toNat : Int)] := by rw [hS]; rfl
    have hj : S.jour = l1 := by rw [hS]
    have hch : S.chunks = l2 := by rw [hS]
    have hAb1 : ∀ ad, A1 = some ad → ad.block < X9.heap.size := fun ad' e => by have := hA1 ad' e; omega
    have hAb2 : ∀ ad, A2 = some ad → ad.block < X9.heap.size := fun ad' e => by have := hA2 ad' e; omega
    have hKD : X9.heap[D]? = some (.deferred (some [])) := (K10.block D hDlt (by omega)).trans hK
    have hbad := fun W2 (h : Below X9.heap.size X9 W2) => eye_bad g st2 W2 (h10.at_.keep h)
    cases hmay : supMay S 96 with
    | false =>
      have hno : parseB b segs = none := by unfold parseB; rw [hps, if_neg (by rw [hmay]; rintro ⟨_, _, h, _⟩; cases h)]
      have hB := super_bytes_no S A1 c1 A2 c2 X9 (by rw [hj]; exact hr10) (by rw [hch]; exact hr20) (by rw [hj]; exact wl1) (by rw [hch]; exact wl2) hAb1 hAb2 (by rw [hj]; omega) (by rw [hch]; omega) hmay
      rw [hsv] at hB
      refine ⟨trivial, ?_⟩
      (with_reducible refine (callsIn_wide.2 hB).mono ?_)
      rintro e w11 ⟨rfl, hb11⟩
      have KN := K10.trans (kp_of (F := fun j => W.heap.size ≤ j) hb11) fun _ _ h => h
      have hKn : w11.heap[D]? = some (.deferred (some [])) := (KN.block D hDlt (by omega)).trans hK
      have TT := TW.kp KN (by omega)
      have HBn := hWb.trans (KN.below (B := w.heap.size) (by omega) fun j hj => (by omega : w.heap.size ≤ j))
      have hDn : D < w11.heap.size := Nat.lt_of_lt_of_le hDlt KN.size
      have t0 : w11.cell? ⟨w.heap.size, 0, none⟩ = some (.int .i64 0) := TT.cell 0
      have u0 := TT.frozen 0
      have t1 : w11.cell? ⟨w.heap.size, 1, none⟩ = some (.int .i64 0) := TT.cell 1
      have u1 := TT.frozen 1
      have t2 : w11.cell? ⟨w.heap.size, 2, none⟩ = some (.slice none 0 0) := TT.cell 2
      have u2 := TT.frozen 2
      have t3 : w11.cell? ⟨w.heap.size, 3, none⟩ = some (.int .i64 0) := TT.cell 3
      have u3 := TT.frozen 3
      have t4 : w11.cell? ⟨w.heap.size, 4, none⟩ = some (.int .u32 0) := TT.cell 4
      have u4 := TT.frozen 4
      have t5 : w11.cell? ⟨w.heap.size, 5, none⟩ = some (.slice none 0 0) := TT.cell 5
      have u5 := TT.frozen 5
      have t6 : w11.cell? ⟨w.heap.size, 6, none⟩ = some (.int .i64 0) := TT.cell 6
      have u6 := TT.frozen 6
      have t7 : w11.cell? ⟨w.heap.size, 7, none⟩ = some (.int .u32 0) := TT.cell 7
      have u7 := TT.frozen 7
      have hbd := hbad w11 hb11
      have HBD := Lib.hid hbd
      clear hbd hbad
      cases hst2 : st2 with
      | none =>
        rw [hst2] at HBD
        gi_wp2_with fail
        refine ⟨trivial, ?_⟩
        (with_reducible refine (callsIn_wide.2 HBD.out).mono ?_)
        rintro e _ ⟨rfl, rfl⟩
        gi_wp2_with (refine ⟨trivial, ?_⟩)
        have HS := kp_set8 (Kp.refl (fun j => j = w.heap.size) w11) rfl (.int .i64 0) (.int .i64 0) (.slice none 0 0) (.int .i64 0) (.int .u32 0) (.slice none 0 0) (.int .i64 0) (.int .u32 0)
        have hKx := (HS.block D hDn (by omega)).trans hKn
        have TX := blk_set8 (v0 := (.int .i64 0)) (v1 := (.int .i64 0)) (v2 := (.slice none 0 0)) (v3 := (.int .i64 0)) (v4 := (.int .u32 0)) (v5 := (.slice none 0 0)) (v6 := (.int .i64 0)) (v7 := (.int .u32 0)) TT
        have HBx := below_set8 HBn (Nat.le_refl _) (.int .i64 0) (.int .i64 0) (.slice none 0 0) (.int .i64 0) (.int .u32 0) (.slice none 0 0) (.int .i64 0) (.int .u32 0)
        refine ⟨by simp, .inl ⟨_, _, rfl, run_takeDeferred hKx, ?_⟩⟩
        refine ⟨_, parse_res (T := w.heap.size) rfl rfl ((World.putObj_heap_other (by omega)).trans TX), ?_⟩
        exact parse_no hno (HBx.trans (belowK_b (w := w) (Nat.le_refl _) _ D _ _ (by omega) hKx rfl rfl))
      | some rest =>
        rw [hst2] at HBD
        gi_wp2_with fail
        refine ⟨trivial, ?_⟩
        (with_reducible refine (callsIn_wide.2 HBD.out).mono ?_)
        rintro e _ ⟨rfl, rfl⟩
        gi_wp2_with (refine ⟨trivial, ?_⟩)
        have HS := kp_set8 (Kp.refl (fun j => j = w.heap.size) w11) rfl (.int .i64 0) (.int .i64 0) (.slice none 0 0) (.int .i64 0) (.int .u32 0) (.slice none 0 0) (.int .i64 0) (.int .u32 0)
        have hKx := (HS.block D hDn (by omega)).trans hKn
        have TX := blk_set8 (v0 := (.int .i64 0)) (v1 := (.int .i64 0)) (v2 := (.slice none 0 0)) (v3 := (.int .i64 0)) (v4 := (.int .u32 0)) (v5 := (.slice none 0 0)) (v6 := (.int .i64 0)) (v7 := (.int .u32 0)) TT
        have HBx := below_set8 HBn (Nat.le_refl _) (.int .i64 0) (.int .i64 0) (.slice none 0 0) (.int .i64 0) (.int .u32 0) (.slice none 0 0) (.int .i64 0) (.int .u32 0)
        refine ⟨by simp, .inl ⟨_, _, rfl, run_takeDeferred hKx, ?_⟩⟩
        refine ⟨_, parse_res (T := w.heap.size) rfl rfl ((World.putObj_heap_other (by omega)).trans TX), ?_⟩
        exact parse_no hno (HBx.trans (belowK_b (w := w) (Nat.le_refl _) _ D _ _ (by omega) hKx rfl rfl))
    | true =>
      have F := mayF S hmay
      have hB := super_bytes S A1 c1 A2 c2 X9 (by rw [hj]; exact hr10) (by rw [hch]; exact hr20) (by rw [hj]; exact wl1) (by rw [hch]; exact wl2) hAb1 hAb2 (by rw [hj]; omega) (by rw [hch]; omega) (by rw [hj]; exact wl1') (by rw [hch]; exact wl2') hmay F.len
      rw [hsv] at hB
      refine ⟨trivial, ?_⟩
      (with_reducible refine (callsIn_wide.2 hB).mono ?_)
      rintro e w11 ⟨v11, rfl, ho11, hb11⟩
      have KN := K10.trans (kp_of (F := fun j => W.heap.size ≤ j) hb11) fun _ _ h => h
      have hKn : w11.heap[D]? = some (.deferred (some [])) := (KN.block D hDlt (by omega)).trans hK
      have TT := TW.kp KN (by omega)
      have HBn := hWb.trans (KN.below (B := w.heap.size) (by omega) fun j hj => (by omega : w.heap.size ≤ j))
      have hDn : D < w11.heap.size := Nat.lt_of_lt_of_le hDlt KN.size
      have t0 : w11.cell? ⟨w.heap.size, 0, none⟩ = some (.int .i64 0) := TT.cell 0
      have u0 := TT.frozen 0
      have t1 : w11.cell? ⟨w.heap.size, 1, none⟩ = some (.int .i64 0) := TT.cell 1
      have u1 := TT.frozen 1
      have t2 : w11.cell? ⟨w.heap.size, 2, none⟩ = some (.slice none 0 0) := TT.cell 2
      have u2 := TT.frozen 2
      have t3 : w11.cell? ⟨w.heap.size, 3, none⟩ = some (.int .i64 0) := TT.cell 3
      have u3 := TT.frozen 3
      have t4 : w11.cell? ⟨w.heap.size, 4, none⟩ = some (.int .u32 0) := TT.cell 4
      have u4 := TT.frozen 4
      have t5 : w11.cell? ⟨w.heap.size, 5, none⟩ = some (.slice none 0 0) := TT.cell 5
      have u5 := TT.frozen 5
      have t6 : w11.cell? ⟨w.heap.size, 6, none⟩ = some (.int .i64 0) := TT.cell 6
      have u6 := TT.frozen 6
      have t7 : w11.cell? ⟨w.heap.size, 7, none⟩ = some (.int .u32 0) := TT.cell 7
      have u7 := TT.frozen 7
      have hbd := hbad w11 hb11
      have HBD := Lib.hid hbd
      clear hbd hbad
      have hbl := bytesB_len S F.len
      have hpb : ∀ sg, parseB b sg = if b.length = 256 ∧ (parseS b).2 ≠ none ∧ supMay (parseS b).1 96 = true ∧ bytesB (parseS b).1 = b ∧ supMay (parseS b).1 (min sg 96) = true then some (parseS b).1 else none := fun sg => rfl
      simp only [hps] at hpb
      have hpb := hpb segs
      generalize bytesB S = BS at *
      obtain ⟨A11, c11, rfl, hc11, r11⟩ := ho11.bytes
      rw [hbl] at hc11 ⊢
      cases hst2 : st2 with
      | none =>
        have hno : parseB b segs = none := by rw [hpb, if_neg (by rintro ⟨_, h, _⟩; exact h hst2)]
        rw [hst2] at HBD
        gi_wp2_with fail
        refine ⟨trivial, ?_⟩
        (with_reducible refine (callsIn_wide.2 HBD.out).mono ?_)
        rintro e _ ⟨rfl, rfl⟩
        gi_wp2_with (refine ⟨trivial, ?_⟩)
        have HS := kp_set8 (Kp.refl (fun j => j = w.heap.size) w11) rfl (.int .i64 0) (.int .i64 0) (.slice none 0 0) (.int .i64 0) (.int .u32 0) (.slice none 0 0) (.int .i64 0) (.int .u32 0)
        have hKx := (HS.block D hDn (by omega)).trans hKn
        have TX := blk_set8 (v0 := (.int .i64 0)) (v1 := (.int .i64 0)) (v2 := (.slice none 0 0)) (v3 := (.int .i64 0)) (v4 := (.int .u32 0)) (v5 := (.slice none 0 0)) (v6 := (.int .i64 0)) (v7 := (.int .u32 0)) TT
        have HBx := below_set8 HBn (Nat.le_refl _) (.int .i64 0) (.int .i64 0) (.slice none 0 0) (.int .i64 0) (.int .u32 0) (.slice none 0 0) (.int .i64 0) (.int .u32 0)
        refine ⟨by simp, .inl ⟨_, _, rfl, run_takeDeferred hKx, ?_⟩⟩
        refine ⟨_, parse_res (T := w.heap.size) rfl rfl ((World.putObj_heap_other (by omega)).trans TX), ?_⟩
        exact parse_no hno (HBx.trans (belowK_b (w := w) (Nat.le_refl _) _ D _ _ (by omega) hKx rfl rfl))
      | some rest =>
        rw [hst2] at HBD
        gi_wp2_with fail
        refine ⟨trivial, ?_⟩
        (with_reducible refine (callsIn_wide.2 HBD.out).mono ?_)
        rintro e _ ⟨rfl, rfl⟩
        gi_wp2_with fail
        refine ⟨trivial, ?_⟩
        refine (callsIn_wide.2 (bytes_equal A11 256 c11 BS (some ad) 256 cap b w11 hbl r11 hm (rb.kp KN fun ad' e => by cases e; omega))).mono ?_
        rintro e _ ⟨rfl, rfl⟩
        cases heq : (BS == b) with
        | false =>
          have hno : parseB b segs = none := by rw [hpb, if_neg (by rintro ⟨_, _, _, h, _⟩; rw [h] at heq; simp at heq)]
          gi_wp2_with (refine ⟨trivial, ?_⟩)
          have HS := kp_set8 (Kp.refl (fun j => j = w.heap.size) w11) rfl (.int .i64 0) (.int .i64 0) (.slice none 0 0) (.int .i64 0) (.int .u32 0) (.slice none 0 0) (.int .i64 0) (.int .u32 0)
          have hKx := (HS.block D hDn (by omega)).trans hKn
          have TX := blk_set8 (v0 := (.int .i64 0)) (v1 := (.int .i64 0)) (v2 := (.slice none 0 0)) (v3 := (.int .i64 0)) (v4 := (.int .u32 0)) (v5 := (.slice none 0 0)) (v6 := (.int .i64 0)) (v7 := (.int .u32 0)) TT
          have HBx := below_set8 HBn (Nat.le_refl _) (.int .i64 0) (.int .i64 0) (.slice none 0 0) (.int .i64 0) (.int .u32 0) (.slice none 0 0) (.int .i64 0) (.int .u32 0)
          refine ⟨by simp, .inl ⟨_, _, rfl, run_takeDeferred hKx, ?_⟩⟩
          refine ⟨_, parse_res (T := w.heap.size) rfl rfl ((World.putObj_heap_other (by omega)).trans TX), ?_⟩
          exact parse_no hno (HBx.trans (belowK_b (w := w) (Nat.le_refl _) _ D _ _ (by omega) hKx rfl rfl))
        | true =>
          have hQ := Q10.below hb11
          have x0 : w11.cell? ⟨q, 0, none⟩ = some (.int .i64 (a.1 : Int)) := hQ.cell 0
          have x1 : w11.cell? ⟨q, 1, none⟩ = some (.int .i64 (c.1 : Int)) := hQ.cell 1
          have x2 : w11.cell? ⟨q, 2, none⟩ = some (.slice A1 l1.segs.length c1) := hQ.cell 2
          have x3 : w11.cell? ⟨q, 3, none⟩ = some (.int .i64 l1.len) := hQ.cell 3
          have x4 : w11.cell? ⟨q, 4, none⟩ = some (.int .u32 (l1.last.toNat : Int)) := hQ.cell 4
          have x5 : w11.cell? ⟨q, 5, none⟩ = some (.slice A2 l2.segs.length c2) := hQ.cell 5
          have x6 : w11.cell? ⟨q, 6, none⟩ = some (.int .i64 l2.len) := hQ.cell 6
          have x7 : w11.cell? ⟨q, 7, none⟩ = some (.int .u32 (l2.last.toNat : Int)) := hQ.cell 7
          have r21 := hr10.below hb11
          have r22 := hr20.below hb11
          have hM := super_may S segs A1 c1 A2 c2 w11 (by rw [hj]; exact r21) (by rw [hch]; exact r22) (by rw [hj]; exact wl1) (by rw [hch]; exact wl2) (fun ad' e => by have := hAb1 ad' e; have := hb11.size; omega) (fun ad' e => by have := hAb2 ad' e; have := hb11.size; omega) (by rw [hj]; omega) (by rw [hch]; omega)
          rw [hsv] at hM
          gi_wp2_with fail
          refine ⟨trivial, ?_⟩
          (with_reducible refine (callsIn_wide.2 hM).mono ?_)
          rintro e w12 ⟨rfl, hb12⟩
          have KN2 := KN.trans (kp_of (F := fun j => W.heap.size ≤ j) hb12) fun _ _ h => h
          clear t0 t1 t2 t3 t4 t5 t6 t7 u0 u1 u2 u3 u4 u5 u6 u7 x0 x1 x2 x3 x4 x5 x6 x7 TT hKn HBn hDn
          have hKn : w12.heap[D]? = some (.deferred (some [])) := (KN2.block D hDlt (by omega)).trans hK
          have TT := TW.kp KN2 (by omega)
          have HBn := hWb.trans (KN2.below (B := w.heap.size) (by omega) fun j hj => (by omega : w.heap.size ≤ j))
          have hDn : D < w12.heap.size := Nat.lt_of_lt_of_le hDlt KN2.size
          have t0 : w12.cell? ⟨w.heap.size, 0, none⟩ = some (.int .i64 0) := TT.cell 0
          have u0 := TT.frozen 0
          have t1 : w12.cell? ⟨w.heap.size, 1, none⟩ = some (.int .i64 0) := TT.cell 1
          have u1 := TT.frozen 1
          have t2 : w12.cell? ⟨w.heap.size, 2, none⟩ = some (.slice none 0 0) := TT.cell 2
          have u2 := TT.frozen 2
          have t3 : w12.cell? ⟨w.heap.size, 3, none⟩ = some (.int .i64 0) := TT.cell 3
          have u3 := TT.frozen 3
          have t4 : w12.cell? ⟨w.heap.size, 4, none⟩ = some (.int .u32 0) := TT.cell 4
          have u4 := TT.frozen 4
          have t5 : w12.cell? ⟨w.heap.size, 5, none⟩ = some (.slice none 0 0) := TT.cell 5
          have u5 := TT.frozen 5
          have t6 : w12.cell? ⟨w.heap.size, 6, none⟩ = some (.int .i64 0) := TT.cell 6
          have u6 := TT.frozen 6
          have t7 : w12.cell? ⟨w.heap.size, 7, none⟩ = some (.int .u32 0) := TT.cell 7
          have u7 := TT.frozen 7
          have hQ2 := hQ.below hb12
          have x0 : w12.cell? ⟨q, 0, none⟩ = some (.int .i64 (a.1 : Int)) := hQ2.cell 0
          have x1 : w12.cell? ⟨q, 1, none⟩ = some (.int .i64 (c.1 : Int)) := hQ2.cell 1
          have x2 : w12.cell? ⟨q, 2, none⟩ = some (.slice A1 l1.segs.length c1) := hQ2.cell 2
          have x3 : w12.cell? ⟨q, 3, none⟩ = some (.int .i64 l1.len) := hQ2.cell 3
          have x4 : w12.cell? ⟨q, 4, none⟩ = some (.int .u32 (l1.last.toNat : Int)) := hQ2.cell 4
          have x5 : w12.cell? ⟨q, 5, none⟩ = some (.slice A2 l2.segs.length c2) := hQ2.cell 5
          have x6 : w12.cell? ⟨q, 6, none⟩ = some (.int .i64 l2.len) := hQ2.cell 6
          have x7 : w12.cell? ⟨q, 7, none⟩ = some (.int .u32 (l2.last.toNat : Int)) := hQ2.cell 7
          have r12 := r21.below hb12
          have r13 := r22.below hb12
          cases hm2 : supMay S (min segs 96) with
          | false =>
            have hno : parseB b segs = none := by rw [hpb, if_neg (by rintro ⟨_, _, _, _, h⟩; rw [hm2] at h; cases h)]
            gi_wp2
            have HS := kp_set8 (Kp.refl (fun j => j = w.heap.size) w12) rfl (.int .i64 0) (.int .i64 0) (.slice none 0 0) (.int .i64 0) (.int .u32 0) (.slice none 0 0) (.int .i64 0) (.int .u32 0)
            have hKx := (HS.block D hDn (by omega)).trans hKn
            have TX := blk_set8 (v0 := (.int .i64 0)) (v1 := (.int .i64 0)) (v2 := (.slice none 0 0)) (v3 := (.int .i64 0)) (v4 := (.int .u32 0)) (v5 := (.slice none 0 0)) (v6 := (.int .i64 0)) (v7 := (.int .u32 0)) TT
            have HBx := below_set8 HBn (Nat.le_refl _) (.int .i64 0) (.int .i64 0) (.slice none 0 0) (.int .i64 0) (.int .u32 0) (.slice none 0 0) (.int .i64 0) (.int .u32 0)
            refine ⟨by simp, .inl ⟨_, _, rfl, run_takeDeferred hKx, ?_⟩⟩
            refine ⟨_, parse_res (T := w.heap.size) rfl rfl ((World.putObj_heap_other (by omega)).trans TX), ?_⟩
            exact parse_no hno (HBx.trans (belowK_b (w := w) (Nat.le_refl _) _ D _ _ (by omega) hKx rfl rfl))
          | true =>
            have hyes : parseB b segs = some S := by
              rw [hpb, if_pos ⟨hm, by rw [hst2]; simp, hmay, by simpa using heq, hm2⟩]
            gi_wp2
            have HS := kp_set8 (Kp.refl (fun j => j = w.heap.size) w12) rfl (.int .i64 (a.1 : Int)) (.int .i64 (c.1 : Int)) (.slice A1 l1.segs.length c1) (.int .i64 l1.len) (.int .u32 (l1.last.toNat : Int)) (.slice A2 l2.segs.length c2) (.int .i64 l2.len) (.int .u32 (l2.last.toNat : Int))
            have hKx := (HS.block D hDn (by omega)).trans hKn
            have TX := blk_set8 (v0 := (.int .i64 (a.1 : Int))) (v1 := (.int .i64 (c.1 : Int))) (v2 := (.slice A1 l1.segs.length c1)) (v3 := (.int .i64 l1.len)) (v4 := (.int .u32 (l1.last.toNat : Int))) (v5 := (.slice A2 l2.segs.length c2)) (v6 := (.int .i64 l2.len)) (v7 := (.int .u32 (l2.last.toNat : Int))) TT
            have HBx := below_set8 HBn (Nat.le_refl _) (.int .i64 (a.1 : Int)) (.int .i64 (c.1 : Int)) (.slice A1 l1.segs.length c1) (.int .i64 l1.len) (.int .u32 (l1.last.toNat : Int)) (.slice A2 l2.segs.length c2) (.int .i64 l2.len) (.int .u32 (l2.last.toNat : Int))
            refine ⟨by simp, .inl ⟨_, _, rfl, run_takeDeferred hKx, ?_⟩⟩
            refine ⟨_, parse_res (T := w.heap.size) rfl rfl ((World.putObj_heap_other (by omega)).trans TX), ?_⟩
            refine ⟨S, A1, c1, A2, c2, true, by rw [hsv], hyes, (fun e => by cases e), ?_, ?_, ?_, ?_, HBx.trans (belowK_b (w := w) (Nat.le_refl _) _ D _ _ (by omega) hKx rfl rfl)⟩
            · rw [hj]; exact Rd.kp (Rd.kp r12 HS (fun ad' e h => by have := hA1 ad' e; omega)) (kp_obj _ D _) (fun ad' e h => by have := hA1 ad' e; omega)
            · rw [hch]; exact Rd.kp (Rd.kp r13 HS (fun ad' e h => by have := hA2 ad' e; omega)) (kp_obj _ D _) (fun ad' e h => by have := hA2 ad' e; omega)
            · intro ad' e
              have h1 := hA1 ad' e
              have h2 := HS.size
              have h3 := (kp_obj (((((((((w12.setCell ⟨w.heap.size, 0, none⟩ (.int .i64 (a.1 : Int))).setCell ⟨w.heap.size, 1, none⟩ (.int .i64 (c.1 : Int))).setCell ⟨w.heap.size, 2, none⟩ (.slice A1 l1.segs.length c1)).setCell ⟨w.heap.size, 3, none⟩ (.int .i64 l1.len)).setCell ⟨w.heap.size, 4, none⟩ (.int .u32 (l1.last.toNat : Int))).setCell ⟨w.heap.size, 5, none⟩ (.slice A2 l2.segs.length c2)).setCell ⟨w.heap.size, 6, none⟩ (.int .i64 l2.len)).setCell ⟨w.heap.size, 7, none⟩ (.int .u32 (l2.last.toNat : Int)))) D (.deferred none)).size
              have h4 := hb11.size
              have h5 := hb12.size
              omega
            · intro ad' e
              have h1 := hA2 ad' e
              have h2 := HS.size
              have h3 := (kp_obj (((((((((w12.setCell ⟨w.heap.size, 0, none⟩ (.int .i64 (a.1 : Int))).setCell ⟨w.heap.size, 1, none⟩ (.int .i64 (c.1 : Int))).setCell ⟨w.heap.size, 2, none⟩ (.slice A1 l1.segs.length c1)).setCell ⟨w.heap.size, 3, none⟩ (.int .i64 l1.len)).setCell ⟨w.heap.size, 4, none⟩ (.int .u32 (l1.last.toNat : Int))).setCell ⟨w.heap.size, 5, none⟩ (.slice A2 l2.segs.length c2)).setCell ⟨w.heap.size, 6, none⟩ (.int .i64 l2.len)).setCell ⟨w.heap.size, 7, none⟩ (.int .u32 (l2.last.toNat : Int)))) D (.deferred none)).size
              have h4 := hb11.size
              have h5 := hb12.size
              omega
  case stop =>
    rintro D c pre W _ _ h _
    exact h.elim
end Go.Proofs.Ytangfnenfhkokaa
