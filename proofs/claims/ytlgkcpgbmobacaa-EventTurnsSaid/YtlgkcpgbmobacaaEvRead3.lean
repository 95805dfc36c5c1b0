/-
  event.Read of a Write.
-/
import Derived.Test.YtlgkcpgbmobacaaEvRead
import Derived.Test.YtlgkcpgbmobacaaEyeD
import Derived.Deep.RegionLaw
set_option linter.unusedSimpArgs false
set_option linter.unusedVariables false
namespace Go.Proofs.Ytlgkcpgbmobacaa
open Go.RowKit

theorem info_part : (Try.prog.info? 95).map (fun i => (i.zero, i.size, i.bytes)) = some (some (.agg #[.int .i64 0, .int .i64 0, .int .i64 0, .int .i64 0]), 4, 32) := by kernel_rfl
/-- a row of pieces of the call's own -/
def PRow (w : World) (B : Nat) (v : Value) (l : List Part) : Prop := w.ownsRow B 95 4 v l.length (pcs l)
theorem PRow.nil (w : World) (B : Nat) : PRow w B (.slice none 0 0) [] := World.ownsRow_nil w B _ 4
theorem PRow.read {w : World} {B : Nat} {v : Value} {l : List Part} (h : PRow w B v l) : ∃ A cap, v = .slice A l.length cap ∧ Rd w A (pcs l) ∧ ∀ ad, A = some ad → B ≤ ad.block ∧ ad.block < w.heap.size := by
  obtain ⟨h1, h2⟩ := h
  rcases h2 with ⟨rfl, h0⟩ | ⟨g, cap, cur, rfl, hg, hh, hle, hm, hs, hc⟩
  · have : l = [] := List.length_eq_zero_iff.1 h0
    subst this
    exact ⟨none, 0, rfl, Rd.nil _ _, fun ad e => by cases e⟩
  · refine ⟨some ⟨g, 0, none⟩, cap, rfl, ?_, fun ad e => by cases e; exact ⟨hg, (Array.getElem?_eq_some_iff.1 hh).1⟩⟩
    intro i u hi
    refine ⟨_, rfl, ?_⟩
    have e1 : (⟨g, 0, none⟩ : Addr).add i = ⟨g, i, none⟩ := by unfold Addr.add; split <;> simp_all
    rw [e1, cell_of_row w g i cur _ (0, 0) hh]
    rw [← hc, List.getElem?_take] at hi
    split at hi
    · simpa using hi
    · cases hi
theorem PRow.kp {F : Nat → Prop} {w w' : World} {B : Nat} {v : Value} {l : List Part} (h : PRow w B v l) (hk : Kp F w w') (hF : ∀ k, F k → k < B) : PRow w' B v l := by
  obtain ⟨h1, h2⟩ := h
  refine ⟨h1, h2.imp id ?_⟩
  rintro ⟨g, cap, cur, rfl, hg, hh, r⟩
  exact ⟨g, cap, cur, rfl, hg, (hk.block g (Array.getElem?_eq_some_iff.1 hh).1 fun f => Nat.lt_irrefl _ (Nat.lt_of_lt_of_le (hF _ f) hg)).trans hh, r⟩
theorem pcs_snoc (l : List Part) (p : Part) : pcs (l ++ [p]) = pcs l ++ pc p := by unfold pcs; simp
theorem append_part (w : World) (B : Nat) (v : Value) (l : List Part) (p : Part) (h : PRow w B v l) (hl : l.length < 1000000000000) (hB : B ≤ w.heap.size) :
    ∃ v' w2, (Builtin.append_ #[66, 66] 66 #[v, .slice (some ⟨w.heap.size, 0, none⟩) 1 1]).run Try.prog (w.alloc (.cells #[.int .i64 p.off, .int .i64 p.len, .int .i64 p.chunk, .int .i64 p.at_] 95)) = .ok v' w2 ∧ PRow w2 B v' (l ++ [p]) ∧ Below B w w2 := by
  obtain ⟨i, hii, hz, hsize, hby⟩ := info_parts info_part
  have hb := bal (Below.refl w.heap.size w) (.cells #[.int .i64 p.off, .int .i64 p.len, .int .i64 p.chunk, .int .i64 p.at_] 95)
  have h' : PRow (w.alloc (.cells #[.int .i64 p.off, .int .i64 p.len, .int .i64 p.chunk, .int .i64 p.at_] 95)) B v l := h.kp (F := fun _ => False) (Kp.of hb) (fun _ h => h.elim)
  have hnew : ∀ j u, (pc p)[j]? = some u → (w.alloc (.cells #[.int .i64 p.off, .int .i64 p.len, .int .i64 p.chunk, .int .i64 p.at_] 95)).cell? ((⟨w.heap.size, 0, none⟩ : Addr).add j) = some u := by
    intro j u hj
    obtain ⟨ad, e, hc⟩ := Rd.lit w 95 (0, 0) (pc p) j u hj
    cases e
    exact hc
  obtain ⟨v', w', h2, h3, h4, _⟩ := run_append_own (P := Try.prog) (w.alloc (.cells #[.int .i64 p.off, .int .i64 p.len, .int .i64 p.chunk, .int .i64 p.at_] 95)) B 66 66 95 i _ 4 32 Try.underlying66 hii hz hsize hby rfl (by omega) v l.length (pcs l) h' ⟨w.heap.size, 0, none⟩ 1 1 (pc p) rfl hnew (by intro u hu; simp [pc] at hu; rcases hu with rfl | rfl | rfl | rfl <;> rfl) (by unfold maxLen; omega) (by omega) (by simp; omega)
  refine ⟨v', w', h2, ?_, ((Below.refl B w).alloc hB _).grown h4 (by simp; omega) fun k hk => (h'.lt k hk).1⟩
  unfold PRow
  rw [List.length_append, pcs_snoc]
  exact h3
theorem step_append_run {P : Program} {w : World} {ops : Array Oper} {o : Oper} {a : Act} {K : Act → World → Prop} {Q : Exit → Act → World → Prop} {E : Prop} (hgd : o.guard = none) (s x : Operand) (t u : TypeId)
    (ho : o.op = .call { callee := .builtin .append, args := #[s, x], argTypes := #[t, u] }) (v vx v' : Value) (w' : World) (hs : a.eval s = v) (hx : a.eval x = vx)
    (hrun : (Builtin.append_ #[t, u] o.type #[v, vx]).run P w = .ok v' w') (h : K (a.put o.dst v') w') :
    if Region.wanted o (yielded ops a.tmps) = true then Oper.wp P o a w K Q else E := by
  have hw : Region.wanted o (yielded ops a.tmps) = true := by simp [Region.wanted, hgd]
  rw [if_pos hw]
  unfold Oper.wp execOp
  simp only [ho, resolve, invoke, builtin, Sem.run_bind, Sem.run_pure, Result.andThen_ok, List.map_toArray, List.map_cons, List.map_nil, hs, hx, hrun]
  exact h
theorem PRow.kept {w w' : World} {g B : Nat} {v : Value} {l : List Part} (h : PRow w B v l) (hk : Kept g w.heap.size w w') (hg : g < B) : PRow w' B v l := by
  obtain ⟨h1, h2⟩ := h
  refine ⟨h1, h2.imp id ?_⟩
  rintro ⟨r, cap, cur, rfl, hr, hh, rest⟩
  exact ⟨r, cap, cur, rfl, hr, (hk.block r (Array.getElem?_eq_some_iff.1 hh).1 (by omega)).trans hh, rest⟩
theorem kp_below {B : Nat} {w w' : World} (h : Below B w w') : Kp (fun k => B ≤ k) w w' := ⟨h.os, h.tape, h.output, h.size, fun k _ hF => h.block k (by omega)⟩
theorem dParts_bad {k : Nat} {st : Option (List UInt8)} {p : Part} (h : dPart st = (p, none)) : dParts (k + 1) st = ([p], none) := by
  unfold dParts
  rw [h]
theorem dParts_ok {k : Nat} {st : Option (List UInt8)} {p : Part} {l : List UInt8} (h : dPart st = (p, some l)) : dParts (k + 1) st = (p :: (dParts k (some l)).1, (dParts k (some l)).2) := by
  conv => lhs; unfold dParts
  rw [h]
theorem eNum_less {l r : List UInt8} {n : Nat} (h : eNum (some l) = (n, some r)) : r.length < l.length := by
  obtain ⟨h1, _⟩ := eNum_inv h
  rw [h1, List.length_append]
  have : 0 < (num n).length := List.length_pos_iff.2 (by
    by_cases hn : n < 128
    · rw [num_small n hn]; simp
    · rw [num_great n (by omega)]; simp)
  omega
theorem eText_le {st : Option (List UInt8)} {s : List UInt8} {r : List UInt8} (h : eText st = (s, some r)) : ∃ l, st = some l ∧ r.length ≤ l.length := by
  cases st with
  | none => cases h
  | some l =>
    obtain ⟨h1, _⟩ := eText_inv h
    exact ⟨l, rfl, by rw [h1, List.length_append]; omega⟩

set_option maxRecDepth 100000 in
set_option maxHeartbeats 4000000 in
theorem event_read3 (g : Nat) (st : Option (List UInt8)) (w : World) (he : EyeAt w g st) (h5 : (eByte st).1 = 3) (HLEN : Hid (∀ l1, (eNum (eNum (eText (eByte st).2).2).2).2 = some l1 → l1.length ≤ 1000000000)) (HNONE : Hid ((eNum (eNum (eText (eByte st).2).2).2).2 = none → (eNum (eNum (eText (eByte st).2).2).2).1 = 0 ∧ ([] : List Part) = [])) :
    Calls Try.prog 44 #[.pointer (some ⟨g, 0, none⟩)] w fun e w' => ReadPost w g st e w' := by
  have hglt := he.lt'
  have H5 := Lib.hid h5
  clear h5
  have hT0 := (Blk.new w 68 #[.int .i64 0, .string ⟨([] : List UInt8).toArray⟩, .string ⟨([] : List UInt8).toArray⟩, .int .i64 0, .int .i64 0, .slice none 0 0, .slice none 0 0]).alloc (.cells #[.int .i64 0, .string ⟨([] : List UInt8).toArray⟩, .string ⟨([] : List UInt8).toArray⟩, .int .i64 0, .int .i64 0, .slice none 0 0, .slice none 0 0] 68)
  have hB0 := Blk.new (w.alloc (.cells #[.int .i64 0, .string ⟨([] : List UInt8).toArray⟩, .string ⟨([] : List UInt8).toArray⟩, .int .i64 0, .int .i64 0, .slice none 0 0, .slice none 0 0] 68)) 68 #[.int .i64 0, .string ⟨([] : List UInt8).toArray⟩, .string ⟨([] : List UInt8).toArray⟩, .int .i64 0, .int .i64 0, .slice none 0 0, .slice none 0 0]
  rw [size_more] at hB0
  have he0 := he.eyeD.kp (F := fun _ => False) (Kp.of (bal (bal (Below.refl w.heap.size w) (.cells #[.int .i64 0, .string ⟨([] : List UInt8).toArray⟩, .string ⟨([] : List UInt8).toArray⟩, .int .i64 0, .int .i64 0, .slice none 0 0, .slice none 0 0] 68)) (.cells #[.int .i64 0, .string ⟨([] : List UInt8).toArray⟩, .string ⟨([] : List UInt8).toArray⟩, .int .i64 0, .int .i64 0, .slice none 0 0, .slice none 0 0] 68))) (fun _ h => h.elim) (fun h => h)
  have hK0 := Kept.of (g := g) (bal (bal (Below.refl w.heap.size w) (.cells #[.int .i64 0, .string ⟨([] : List UInt8).toArray⟩, .string ⟨([] : List UInt8).toArray⟩, .int .i64 0, .int .i64 0, .slice none 0 0, .slice none 0 0] 68)) (.cells #[.int .i64 0, .string ⟨([] : List UInt8).toArray⟩, .string ⟨([] : List UInt8).toArray⟩, .int .i64 0, .int .i64 0, .slice none 0 0, .slice none 0 0] 68))
  go_enter Try.func44, Try.ntmps44
  go_wp2_with fail
  refine (eye_byteD w.heap.size g _ _ he0 (Nat.lt_of_lt_of_le hglt hK0.size)).mono ?_
  rintro e w1 ⟨rfl, he1, hk1⟩
  rw [H5.out]
  rw [show (((3 : UInt8).toNat : Nat) : Int) = 3 from rfl]
  have hB1 := hB0.keep hk1 hB0.lt (by omega)
  have hT1 := hT0.keep hk1 hT0.lt (by omega)
  have hK1 := hK0.trans (hk1.mono hK0.size)
  clear hk1
  clear hB0 hT0 he0 hK0
  have o1 : w1.cell? ⟨w.heap.size + 1, 0, none⟩ = some (.int .i64 0) := hB1.cell 0
  have f1 := hB1.frozen 0
  have heS1 := he1.kp (kp_set w1 (w.heap.size + 1) 0 (.int .i64 3)) (fun k h => by omega) (by omega)
  have hBS1 : Blk (w1.setCell ⟨w.heap.size + 1, 0, none⟩ (.int .i64 3)) (w.heap.size + 1) 68 #[.int .i64 3, .string ⟨([] : List UInt8).toArray⟩, .string ⟨([] : List UInt8).toArray⟩, .int .i64 0, .int .i64 0, .slice none 0 0, .slice none 0 0] := hB1.set 0 (.int .i64 3)
  have hTS1 := hT1.other (a := ⟨w.heap.size + 1, 0, none⟩) (by simp) (.int .i64 3)
  have hKS1 := hK1.trans (Kept.of ((Below.refl w.heap.size w1).setCell (p := ⟨w.heap.size + 1, 0, none⟩) (by simp) (.int .i64 3)))
  go_wp2_with fail
  generalize (w1.setCell ⟨w.heap.size + 1, 0, none⟩ (.int .i64 3)) = V1 at *
  clear o1 f1 hB1 hT1 he1 hK1
  refine (eye_textD w.heap.size g _ _ heS1 (Nat.lt_of_lt_of_le hglt hKS1.size)).mono ?_
  rintro e w2 ⟨rfl, he2, hk2⟩
  generalize hP : eText (eByte st).2 = P at *
  have hB2 := hBS1.keep hk2 hBS1.lt (by omega)
  have hT2 := hTS1.keep hk2 hTS1.lt (by omega)
  have hK2 := hKS1.trans (hk2.mono hKS1.size)
  clear hk2
  clear hBS1 hTS1 heS1 hKS1
  have o2 : w2.cell? ⟨w.heap.size + 1, 1, none⟩ = some (.string ⟨([] : List UInt8).toArray⟩) := hB2.cell 1
  have f2 := hB2.frozen 1
  have heS2 := he2.kp (kp_set w2 (w.heap.size + 1) 1 (.string ⟨P.1.toArray⟩)) (fun k h => by omega) (by omega)
  have hBS2 : Blk (w2.setCell ⟨w.heap.size + 1, 1, none⟩ (.string ⟨P.1.toArray⟩)) (w.heap.size + 1) 68 #[.int .i64 3, .string ⟨P.1.toArray⟩, .string ⟨([] : List UInt8).toArray⟩, .int .i64 0, .int .i64 0, .slice none 0 0, .slice none 0 0] := hB2.set 1 (.string ⟨P.1.toArray⟩)
  have hTS2 := hT2.other (a := ⟨w.heap.size + 1, 1, none⟩) (by simp) (.string ⟨P.1.toArray⟩)
  have hKS2 := hK2.trans (Kept.of ((Below.refl w.heap.size w2).setCell (p := ⟨w.heap.size + 1, 1, none⟩) (by simp) (.string ⟨P.1.toArray⟩)))
  have c0 : (w2.setCell ⟨w.heap.size + 1, 1, none⟩ (.string ⟨P.1.toArray⟩)).cell? ⟨w.heap.size + 1, 0, none⟩ = some (.int .i64 3) := hBS2.cell 0
  go_wp2_with fail
  generalize (w2.setCell ⟨w.heap.size + 1, 1, none⟩ (.string ⟨P.1.toArray⟩)) = V2 at *
  clear o2 f2 hB2 hT2 he2 hK2
  refine (event_has 3 _).mono ?_
  rintro e _ ⟨rfl, rfl⟩
  clear c0
  go_wp2_with fail
  refine (eye_numD w.heap.size g _ _ heS2 (Nat.lt_of_lt_of_le hglt hKS2.size)).mono ?_
  rintro e w3 ⟨rfl, he3, hk3⟩
  have hleF : (eNum P.2).1 ≤ 4611686018427387904 := eNumGo_le 9 0 0 _
  generalize hF : eNum P.2 = F at *
  have HPP := Lib.hid hP
  have HFF := Lib.hid hF
  clear hP hF
  have hB3 := hBS2.keep hk3 hBS2.lt (by omega)
  have hT3 := hTS2.keep hk3 hTS2.lt (by omega)
  have hK3 := hKS2.trans (hk3.mono hKS2.size)
  clear hk3
  clear hBS2 hTS2 heS2 hKS2
  have o3 : w3.cell? ⟨w.heap.size + 1, 3, none⟩ = some (.int .i64 0) := hB3.cell 3
  have f3 := hB3.frozen 3
  have heS3 := he3.kp (kp_set w3 (w.heap.size + 1) 3 (.int .i64 (F.1 : Int))) (fun k h => by omega) (by omega)
  have hBS3 : Blk (w3.setCell ⟨w.heap.size + 1, 3, none⟩ (.int .i64 (F.1 : Int))) (w.heap.size + 1) 68 #[.int .i64 3, .string ⟨P.1.toArray⟩, .string ⟨([] : List UInt8).toArray⟩, .int .i64 (F.1 : Int), .int .i64 0, .slice none 0 0, .slice none 0 0] := hB3.set 3 (.int .i64 (F.1 : Int))
  have hTS3 := hT3.other (a := ⟨w.heap.size + 1, 3, none⟩) (by simp) (.int .i64 (F.1 : Int))
  have hKS3 := hK3.trans (Kept.of ((Below.refl w.heap.size w3).setCell (p := ⟨w.heap.size + 1, 3, none⟩) (by simp) (.int .i64 (F.1 : Int))))
  go_wp2_with fail
  generalize (w3.setCell ⟨w.heap.size + 1, 3, none⟩ (.int .i64 (F.1 : Int))) = V3 at *
  clear o3 f3 hB3 hT3 he3 hK3
  refine (eye_numD w.heap.size g _ _ heS3 (Nat.lt_of_lt_of_le hglt hKS3.size)).mono ?_
  rintro e w4 ⟨rfl, he4, hk4⟩
  have hleC : (eNum F.2).1 ≤ 4611686018427387904 := eNumGo_le 9 0 0 _
  generalize hC : eNum F.2 = C at *
  have HCC := Lib.hid hC
  clear hC
  have hB4 := hBS3.keep hk4 hBS3.lt (by omega)
  have hT4 := hTS3.keep hk4 hTS3.lt (by omega)
  have hK4 := hKS3.trans (hk4.mono hKS3.size)
  clear hk4
  clear hBS3 hTS3 heS3 hKS3
  have hD : dItem st = (⟨3, P.1, [], (F.1 : Int), 0, 0, (dParts C.1 C.2).1⟩, (dParts C.1 C.2).2) := by
    unfold dItem
    simp [H5.out, HPP.out, HFF.out, HCC.out]
  obtain ⟨c1, hc1⟩ : ∃ n, C.1 = n := ⟨_, rfl⟩
  have hlen0 : Hid (∀ l1, C.2 = some l1 → l1.length ≤ 1000000000) := HLEN
  rw [hc1] at hD hleC ⊢
  have HD0 := Lib.hid hD
  clear hD
  go_wp2
  go_loopw [42] (fun i wr => ∃ (k : Nat) (acc : List Part) (st' : Option (List UInt8)) (v6 : Value), k ≤ c1 ∧ i = .int .i64 ((c1 - k : Nat) : Int) ∧ Hid (dParts c1 C.2 = (acc ++ (dParts k st').1, (dParts k st').2)) ∧ Hid (∀ l', st' = some l' → acc.length + l'.length ≤ 1000000000) ∧ Hid (st' = none → k = 0 ∧ acc = []) ∧
    EyeD w.heap.size wr g st' ∧ Blk wr (w.heap.size + 1) 68 #[.int .i64 3, .string ⟨P.1.toArray⟩, .string ⟨([] : List UInt8).toArray⟩, .int .i64 (F.1 : Int), .int .i64 0, .slice none 0 0, v6] ∧ Blk wr w.heap.size 68 #[.int .i64 0, .string ⟨([] : List UInt8).toArray⟩, .string ⟨([] : List UInt8).toArray⟩, .int .i64 0, .int .i64 0, .slice none 0 0, .slice none 0 0] ∧ PRow wr (w.heap.size + 2) v6 acc ∧ Kept g w.heap.size w wr) (fun i _ => c1 - (intOf i).toNat)
  case atStart => exact ⟨c1, [], C.2, .slice none 0 0, Nat.le_refl _, by simp, rfl, (fun l1 h => by simpa using hlen0.out l1 h), (fun h => ⟨by rw [← hc1]; exact (HNONE.out h).1, rfl⟩), he4, hB4, hT4, PRow.nil _ _, hK4⟩
  case round =>
    obtain ⟨k, acc, st', v6, hk, rfl, hdp, hln, hno, heD, hBx, hTx, hpr, hKx⟩ := hrel
    clear he4 hB4 hT4 hK4 hlen0 HLEN HNONE
    cases k with
    | zero => 
      have hdp' := hdp.out
      simp only [dParts, List.append_nil] at hdp'
      have hD := HD0.out
      rw [hdp'] at hD
      obtain ⟨A6, c6, rfl, hrd, had⟩ := hpr.read
      have hlt0 : ¬ ((c1 - 0 : Nat) : Int) < (c1 : Int) := by omega
      clear hdp hdp' HD0 hno hpr
      go_wp2_with fail
      cases st' with
      | none =>
        have HD := Lib.hid hD
        clear hD hln
        refine (eye_bad g _ _ heD.at_).mono ?_
        rintro e _ ⟨rfl, rfl⟩
        have t0 : wr.cell? ⟨w.heap.size, 0, none⟩ = some (.int .i64 0) := hTx.cell 0
        have u0 := hTx.frozen 0
        have t1 : wr.cell? ⟨w.heap.size, 1, none⟩ = some (.string ⟨([] : List UInt8).toArray⟩) := hTx.cell 1
        have u1 := hTx.frozen 1
        have t2 : wr.cell? ⟨w.heap.size, 2, none⟩ = some (.string ⟨([] : List UInt8).toArray⟩) := hTx.cell 2
        have u2 := hTx.frozen 2
        have t3 : wr.cell? ⟨w.heap.size, 3, none⟩ = some (.int .i64 0) := hTx.cell 3
        have u3 := hTx.frozen 3
        have t4 : wr.cell? ⟨w.heap.size, 4, none⟩ = some (.int .i64 0) := hTx.cell 4
        have u4 := hTx.frozen 4
        have t5 : wr.cell? ⟨w.heap.size, 5, none⟩ = some (.slice none 0 0) := hTx.cell 5
        have u5 := hTx.frozen 5
        have t6 : wr.cell? ⟨w.heap.size, 6, none⟩ = some (.slice none 0 0) := hTx.cell 6
        have u6 := hTx.frozen 6
        go_wp2
        refine bodyPost_ret (read_res (T := w.heap.size) (b := false) rfl rfl (v0 := .int .i64 0) (v1 := .string ⟨([] : List UInt8).toArray⟩) (v2 := .string ⟨([] : List UInt8).toArray⟩) (v3 := .int .i64 0) (v4 := .int .i64 0) (v5 := .slice none 0 0) (v6 := .slice none 0 0) (blk_set7 hTx)) rfl ?_
        refine ⟨zeroItem, false, none, 0, none, 0, rfl, by rw [HD.out]; rfl, rfl, Rd.nil _ _, (fun ad e => by cases e), ?_, ?_⟩
        · rw [HD.out]
          exact EyeAt.free heD.at_ hTx (item_no_u8 _ _ _ _ _ _ _ (by simp) (by simp)) (kp_set7 _ _ _ _ _ _ _ _ _) (by omega)
        · exact hKx.trans (Kept.of (below_set7 _ _ _ (Nat.le_refl _) _ _ _ _ _ _ _))
      | some l' =>
        have HD := Lib.hid hD
        have hML : acc.length ≤ 4611686018427387904 := by have := hln.out l' rfl; omega
        clear hD hln
        refine (eye_bad g _ _ heD.at_).mono ?_
        rintro e _ ⟨rfl, rfl⟩
        have hMay := event_may ⟨3, P.1, [], (F.1 : Int), 0, 0, acc⟩ none 0 A6 c6 wr hrd hML
        simp only [iv_eq] at hMay
        have d0 : wr.cell? ⟨w.heap.size + 1, 0, none⟩ = some (.int .i64 3) := hBx.cell 0
        have d1 : wr.cell? ⟨w.heap.size + 1, 1, none⟩ = some (.string ⟨P.1.toArray⟩) := hBx.cell 1
        have d2 : wr.cell? ⟨w.heap.size + 1, 2, none⟩ = some (.string ⟨([] : List UInt8).toArray⟩) := hBx.cell 2
        have d3 : wr.cell? ⟨w.heap.size + 1, 3, none⟩ = some (.int .i64 (F.1 : Int)) := hBx.cell 3
        have d4 : wr.cell? ⟨w.heap.size + 1, 4, none⟩ = some (.int .i64 0) := hBx.cell 4
        have d5 : wr.cell? ⟨w.heap.size + 1, 5, none⟩ = some (.slice none 0 0) := hBx.cell 5
        have d6 : wr.cell? ⟨w.heap.size + 1, 6, none⟩ = some (.slice A6 acc.length c6) := hBx.cell 6
        cases hm : may ⟨3, P.1, [], (F.1 : Int), 0, 0, acc⟩ with
        | false =>
          rw [hm] at hMay
          have HM := Lib.hid hm
          clear hm hrd had hML
          go_wp2_with fail
          (with_reducible refine hMay.mono ?_)
          rintro e w20 ⟨rfl, hb20⟩
          have hT20 := hTx.below hb20
          have he20 := heD.at_.keep hb20
          have hK20 := hKx.trans (Kept.of (hb20.mono hKx.size))
          clear hMay
          have p0 : w20.cell? ⟨w.heap.size, 0, none⟩ = some (.int .i64 0) := hT20.cell 0
          have q0 := hT20.frozen 0
          have p1 : w20.cell? ⟨w.heap.size, 1, none⟩ = some (.string ⟨([] : List UInt8).toArray⟩) := hT20.cell 1
          have q1 := hT20.frozen 1
          have p2 : w20.cell? ⟨w.heap.size, 2, none⟩ = some (.string ⟨([] : List UInt8).toArray⟩) := hT20.cell 2
          have q2 := hT20.frozen 2
          have p3 : w20.cell? ⟨w.heap.size, 3, none⟩ = some (.int .i64 0) := hT20.cell 3
          have q3 := hT20.frozen 3
          have p4 : w20.cell? ⟨w.heap.size, 4, none⟩ = some (.int .i64 0) := hT20.cell 4
          have q4 := hT20.frozen 4
          have p5 : w20.cell? ⟨w.heap.size, 5, none⟩ = some (.slice none 0 0) := hT20.cell 5
          have q5 := hT20.frozen 5
          have p6 : w20.cell? ⟨w.heap.size, 6, none⟩ = some (.slice none 0 0) := hT20.cell 6
          have q6 := hT20.frozen 6
          go_wp2
          refine bodyPost_ret (read_res (T := w.heap.size) (b := false) rfl rfl (v0 := .int .i64 0) (v1 := .string ⟨([] : List UInt8).toArray⟩) (v2 := .string ⟨([] : List UInt8).toArray⟩) (v3 := .int .i64 0) (v4 := .int .i64 0) (v5 := .slice none 0 0) (v6 := .slice none 0 0) (blk_set7 hT20)) rfl ?_
          refine ⟨zeroItem, false, none, 0, none, 0, rfl, by rw [HD.out]; simp only [Option.isSome_some, Bool.true_and]; exact HM.out.symm, rfl, Rd.nil _ _, (fun ad e => by cases e), ?_, ?_⟩
          · rw [HD.out]
            exact EyeAt.free he20 hT20 (item_no_u8 _ _ _ _ _ _ _ (by simp) (by simp)) (kp_set7 _ _ _ _ _ _ _ _ _) (by omega)
          · exact hK20.trans (Kept.of (below_set7 _ _ _ (Nat.le_refl _) _ _ _ _ _ _ _))
        | true =>
          rw [hm] at hMay
          have HM := Lib.hid hm
          clear hm hML
          go_wp2_with fail
          (with_reducible refine hMay.mono ?_)
          rintro e w20 ⟨rfl, hb20⟩
          have hT20 := hTx.below hb20
          have hB20 := hBx.below hb20
          have he20 := heD.at_.keep hb20
          have hK20 := hKx.trans (Kept.of (hb20.mono hKx.size))
          have hR20 := hrd.below hb20
          have hA20 : ∀ ad, A6 = some ad → ad.block < w20.heap.size ∧ w.heap.size + 2 ≤ ad.block := fun ad e => ⟨Nat.lt_of_lt_of_le (had ad e).2 hb20.size, (had ad e).1⟩
          clear hMay hrd had
          have p0 : w20.cell? ⟨w.heap.size, 0, none⟩ = some (.int .i64 0) := hT20.cell 0
          have q0 := hT20.frozen 0
          have p1 : w20.cell? ⟨w.heap.size, 1, none⟩ = some (.string ⟨([] : List UInt8).toArray⟩) := hT20.cell 1
          have q1 := hT20.frozen 1
          have p2 : w20.cell? ⟨w.heap.size, 2, none⟩ = some (.string ⟨([] : List UInt8).toArray⟩) := hT20.cell 2
          have q2 := hT20.frozen 2
          have p3 : w20.cell? ⟨w.heap.size, 3, none⟩ = some (.int .i64 0) := hT20.cell 3
          have q3 := hT20.frozen 3
          have p4 : w20.cell? ⟨w.heap.size, 4, none⟩ = some (.int .i64 0) := hT20.cell 4
          have q4 := hT20.frozen 4
          have p5 : w20.cell? ⟨w.heap.size, 5, none⟩ = some (.slice none 0 0) := hT20.cell 5
          have q5 := hT20.frozen 5
          have p6 : w20.cell? ⟨w.heap.size, 6, none⟩ = some (.slice none 0 0) := hT20.cell 6
          have q6 := hT20.frozen 6
          have r0 : w20.cell? ⟨w.heap.size + 1, 0, none⟩ = some (.int .i64 3) := hB20.cell 0
          have r1 : w20.cell? ⟨w.heap.size + 1, 1, none⟩ = some (.string ⟨P.1.toArray⟩) := hB20.cell 1
          have r2 : w20.cell? ⟨w.heap.size + 1, 2, none⟩ = some (.string ⟨([] : List UInt8).toArray⟩) := hB20.cell 2
          have r3 : w20.cell? ⟨w.heap.size + 1, 3, none⟩ = some (.int .i64 (F.1 : Int)) := hB20.cell 3
          have r4 : w20.cell? ⟨w.heap.size + 1, 4, none⟩ = some (.int .i64 0) := hB20.cell 4
          have r5 : w20.cell? ⟨w.heap.size + 1, 5, none⟩ = some (.slice none 0 0) := hB20.cell 5
          have r6 : w20.cell? ⟨w.heap.size + 1, 6, none⟩ = some (.slice A6 acc.length c6) := hB20.cell 6
          go_wp2
          refine bodyPost_ret (read_res (T := w.heap.size) (b := true) rfl rfl (v0 := .int .i64 3) (v1 := .string ⟨P.1.toArray⟩) (v2 := .string ⟨([] : List UInt8).toArray⟩) (v3 := .int .i64 (F.1 : Int)) (v4 := .int .i64 0) (v5 := .slice none 0 0) (v6 := .slice A6 acc.length c6) (blk_set7 hT20)) rfl ?_
          have hkf : ∀ {W' : World}, Kp (fun k => k = w.heap.size) w20 W' → Rd W' A6 (pcs acc) := fun hk => hR20.kp hk fun ad e h => by
            have := (hA20 ad e).2
            omega
          refine ⟨⟨3, P.1, [], (F.1 : Int), 0, 0, acc⟩, true, none, 0, A6, c6, rfl, by rw [HD.out]; simp only [Option.isSome_some, Bool.true_and]; exact HM.out.symm, by rw [HD.out]; rfl, hkf (kp_set7 _ _ _ _ _ _ _ _ _), (fun ad e => ⟨by simpa [World.setCell] using (hA20 ad e).1, by have := (hA20 ad e).2; omega⟩), ?_, ?_⟩
          · rw [HD.out]
            exact EyeAt.free he20 hT20 (item_no_u8 _ _ _ _ _ _ _ (by simp) (by simp)) (kp_set7 _ _ _ _ _ _ _ _ _) (by omega)
          · exact hK20.trans (Kept.of (below_set7 _ _ _ (Nat.le_refl _) _ _ _ _ _ _ _))
    | succ k =>
      obtain ⟨l', rfl⟩ : ∃ l', st' = some l' := by
        cases st' with
        | none => exact absurd (hno.out rfl).1 (by omega)
        | some l' => exact ⟨l', rfl⟩
      obtain ⟨a, ha⟩ : ∃ a, eNum (some l') = a := ⟨_, rfl⟩
      obtain ⟨b, hb⟩ : ∃ b, eNum a.2 = b := ⟨_, rfl⟩
      obtain ⟨c, hc⟩ : ∃ c, eNum b.2 = c := ⟨_, rfl⟩
      have hP' : dPart (some l') = (⟨0, (a.1 : Int), (b.1 : Int), (c.1 : Int)⟩, c.2) := by
        unfold dPart
        rw [ha, hb, hc]
      have hla : a.1 ≤ 4611686018427387904 := by rw [← ha]; exact eNumGo_le 9 0 0 _
      have hlb : b.1 ≤ 4611686018427387904 := by rw [← hb]; exact eNumGo_le 9 0 0 _
      have hlc : c.1 ≤ 4611686018427387904 := by rw [← hc]; exact eNumGo_le 9 0 0 _
      have hall := hln.out l' rfl
      obtain ⟨A6, c6, rfl, hrd, had⟩ := hpr.read
      have hpr0 := hpr
      have HA := Lib.hid ha
      have HB := Lib.hid hb
      have HC := Lib.hid hc
      have HP' := Lib.hid hP'
      clear ha hb hc hP'
      have hkd := bdr (Below.refl wr.heap.size wr)
      have hea : EyeD w.heap.size wr.drew g (some l') := heD.kp (F := fun _ => False) (Kp.of hkd) (fun _ h => h.elim) (fun h => h)
      have hBa := hBx.below hkd
      have hTa := hTx.below hkd
      have hpa : PRow wr.drew (w.heap.size + 2) _ acc := hpr0.kp (F := fun _ => False) (Kp.of hkd) (fun _ h => h.elim)
      have hKa := hKx.trans (Kept.of (hkd.mono hKx.size))
      have hga : g < wr.drew.heap.size := Nat.lt_of_lt_of_le hglt hKa.size
      have x6a : wr.drew.cell? ⟨w.heap.size + 1, 6, none⟩ = some (.slice A6 acc.length c6) := hBa.cell 6
      have hlt : ((c1 - (k + 1) : Nat) : Int) < (c1 : Int) := by omega
      have hacc : acc.length < 1000000000000 := by omega
      clear heD hBx hTx hpr hpr0 hrd had
      go_wp2
      go_region_law (first
        | (refine step_append_run (by rfl) _ _ 66 66 (by rfl) _ _ _ _ (by rfl) (by rfl) HRN.out ?_)
        | (go_simp; go_at_call 19; (with_reducible refine (eye_numD w.heap.size g _ _ hec hgc).mono ?_); rintro e w' ⟨rfl, hed, hk'⟩; rw [HC.out] at hed ⊢; have hBd := hBc.keep hk' hBc.lt (by omega); have hTd := hTc.keep hk' hTc.lt (by omega); have hpd := hpc.kept hk' (by omega); have hKd := hKc.trans (hk'.mono hKc.size); have hgd := Nat.lt_of_lt_of_le hgc hk'.size; have x6d : w'.cell? ⟨w.heap.size + 1, 6, none⟩ = some (.slice A6 acc.length c6) := hBd.cell 6; clear hk'; obtain ⟨v', w2, hrun, hprn, hbn⟩ := append_part w' (w.heap.size + 2) _ acc ⟨0, (a.1 : Int), (b.1 : Int), (c.1 : Int)⟩ hpd hacc (by have := hBd.lt; omega); have x6e : (w'.alloc (.cells #[.int .i64 0, .int .i64 (a.1 : Int), .int .i64 (b.1 : Int), .int .i64 (c.1 : Int)] 95)).cell? ⟨w.heap.size + 1, 6, none⟩ = some (.slice A6 acc.length c6) := (hBd.alloc _).cell 6; have hBn : Blk w2 (w.heap.size + 1) 68 #[.int .i64 3, .string ⟨P.1.toArray⟩, .string ⟨([] : List UInt8).toArray⟩, .int .i64 (F.1 : Int), .int .i64 0, .slice none 0 0, (.slice A6 acc.length c6)] := (hbn.block (w.heap.size + 1) (by omega)).trans hBd; have x6f : w2.cell? ⟨w.heap.size + 1, 6, none⟩ = some (.slice A6 acc.length c6) := hBn.cell 6; have f6 := hBn.frozen 6; obtain ⟨A9, c9, rfl, _, _⟩ := hprn.read; rw [show (acc ++ [(⟨0, (a.1 : Int), (b.1 : Int), (c.1 : Int)⟩ : Part)]).length = acc.length + 1 by simp] at hrun hprn; have HRN := Lib.hid hrun; clear hrun)
        | (go_simp; go_at_call 19; (with_reducible refine (eye_numD w.heap.size g _ _ heb hgb).mono ?_); rintro e w' ⟨rfl, hec, hk'⟩; rw [HB.out] at hec ⊢; have hBc := hBb.keep hk' hBb.lt (by omega); have hTc := hTb.keep hk' hTb.lt (by omega); have hpc := hpb.kept hk' (by omega); have hKc := hKb.trans (hk'.mono hKb.size); have hgc := Nat.lt_of_lt_of_le hgb hk'.size; have x6c : w'.cell? ⟨w.heap.size + 1, 6, none⟩ = some (.slice A6 acc.length c6) := hBc.cell 6; clear hk')
        | (go_simp; go_at_call 19; (with_reducible refine (eye_numD w.heap.size g _ _ hea hga).mono ?_); rintro e w' ⟨rfl, heb, hk'⟩; rw [HA.out] at heb ⊢; have hBb := hBa.keep hk' hBa.lt (by omega); have hTb := hTa.keep hk' hTa.lt (by omega); have hpb := hpa.kept hk' (by omega); have hKb := hKa.trans (hk'.mono hKa.size); have hgb := Nat.lt_of_lt_of_le hga hk'.size; have x6b : w'.cell? ⟨w.heap.size + 1, 6, none⟩ = some (.slice A6 acc.length c6) := hBb.cell 6; clear hk'))
      all_goals
        have hEn := hed.kp (kp_below hbn) (fun k h => by omega) (by omega)
        have hTn : Blk w2 w.heap.size 68 #[.int .i64 0, .string ⟨([] : List UInt8).toArray⟩, .string ⟨([] : List UInt8).toArray⟩, .int .i64 0, .int .i64 0, .slice none 0 0, .slice none 0 0] := (hbn.block w.heap.size (by omega)).trans hTd
        have hKn := hKd.trans (Kept.of (hbn.mono (by omega)))
        have hkp := kp_set w2 (w.heap.size + 1) 6 (.slice A9 (acc.length + 1) c9)
        have hE3 := hEn.kp hkp (fun k h => by omega) (by omega)
        have hT3 := hTn.other (a := ⟨w.heap.size + 1, 6, none⟩) (by simp) (.slice A9 (acc.length + 1) c9)
        have hB3 : Blk (w2.setCell ⟨w.heap.size + 1, 6, none⟩ (.slice A9 (acc.length + 1) c9)) (w.heap.size + 1) 68 #[.int .i64 3, .string ⟨P.1.toArray⟩, .string ⟨([] : List UInt8).toArray⟩, .int .i64 (F.1 : Int), .int .i64 0, .slice none 0 0, .slice A9 (acc.length + 1) c9] := hBn.set 6 _
        have hP3 := hprn.kp hkp (fun k h => by omega)
        have hK3 := hKn.trans (Kept.of ((Below.refl w.heap.size w2).setCell (p := ⟨w.heap.size + 1, 6, none⟩) (by simp) (.slice A9 (acc.length + 1) c9)))
        clear hkp hEn hTn hKn hbn hprn hBn x6e x6f f6 HRN
        go_wp2_with fail
        generalize (w2.setCell ⟨w.heap.size + 1, 6, none⟩ (.slice A9 (acc.length + 1) c9)) = W3 at *
        refine (eye_bad g _ _ hE3.at_).mono ?_
        rintro e _ ⟨rfl, rfl⟩
        cases hc2 : c.2 with
        | none =>
          have hdp' := hdp.out
          have hP'' := HP'.out
          rw [hc2] at hP'' hE3
          rw [dParts_bad hP''] at hdp'
          have hD := HD0.out
          rw [hdp'] at hD
          have HD := Lib.hid hD
          clear hdp hdp' HD0 hno hD hP'' hc2 HP' hln hB3
          go_wp2_with fail
          refine (eye_bad g _ _ hE3.at_).mono ?_
          rintro e _ ⟨rfl, rfl⟩
          have t0 : W3.cell? ⟨w.heap.size, 0, none⟩ = some (.int .i64 0) := hT3.cell 0
          have u0 := hT3.frozen 0
          have t1 : W3.cell? ⟨w.heap.size, 1, none⟩ = some (.string ⟨([] : List UInt8).toArray⟩) := hT3.cell 1
          have u1 := hT3.frozen 1
          have t2 : W3.cell? ⟨w.heap.size, 2, none⟩ = some (.string ⟨([] : List UInt8).toArray⟩) := hT3.cell 2
          have u2 := hT3.frozen 2
          have t3 : W3.cell? ⟨w.heap.size, 3, none⟩ = some (.int .i64 0) := hT3.cell 3
          have u3 := hT3.frozen 3
          have t4 : W3.cell? ⟨w.heap.size, 4, none⟩ = some (.int .i64 0) := hT3.cell 4
          have u4 := hT3.frozen 4
          have t5 : W3.cell? ⟨w.heap.size, 5, none⟩ = some (.slice none 0 0) := hT3.cell 5
          have u5 := hT3.frozen 5
          have t6 : W3.cell? ⟨w.heap.size, 6, none⟩ = some (.slice none 0 0) := hT3.cell 6
          have u6 := hT3.frozen 6
          go_wp2
          refine bodyPost_ret (read_res (T := w.heap.size) (b := false) rfl rfl (v0 := .int .i64 0) (v1 := .string ⟨([] : List UInt8).toArray⟩) (v2 := .string ⟨([] : List UInt8).toArray⟩) (v3 := .int .i64 0) (v4 := .int .i64 0) (v5 := .slice none 0 0) (v6 := .slice none 0 0) (blk_set7 hT3)) rfl ?_
          refine ⟨zeroItem, false, none, 0, none, 0, rfl, by rw [HD.out]; rfl, rfl, Rd.nil _ _, (fun ad e => by cases e), ?_, ?_⟩
          · rw [HD.out]
            exact EyeAt.free hE3.at_ hT3 (item_no_u8 _ _ _ _ _ _ _ (by simp) (by simp)) (kp_set7 _ _ _ _ _ _ _ _ _) (by omega)
          · exact hK3.trans (Kept.of (below_set7 _ _ _ (Nat.le_refl _) _ _ _ _ _ _ _))
        | some l2 =>
          have hdp' := hdp.out
          have hP'' := HP'.out
          rw [hc2] at hP'' hE3
          rw [dParts_ok hP''] at hdp'
          simp only at hdp'
          rw [← List.singleton_append, ← List.append_assoc] at hdp'
          have hless : acc.length + 1 + l2.length ≤ 1000000000 := by
            have e1 := HA.out
            have e2 := HB.out
            have e3 := HC.out
            obtain ⟨a1, a2⟩ := a
            obtain ⟨b1, b2⟩ := b
            obtain ⟨d1, d2⟩ := c
            simp only at hc2 e2 e3
            subst hc2
            cases b2 with
            | none => rw [eNum_none] at e3; cases e3
            | some m2 =>
              cases a2 with
              | none => rw [eNum_none] at e2; cases e2
              | some m1 =>
                have h1 := eNum_less e1
                have h2 := eNum_less e2
                have h3 := eNum_less e3
                omega
          have HDP' := Lib.hid hdp'
          have hnum : ((c1 - (k + 1) : Nat) : Int) + 1 = ((c1 - k : Nat) : Int) := by omega
          have HNUM := Lib.hid hnum
          clear hdp hdp' hno hP'' hc2 HP' hln HD0 hnum
          go_wp2
          go_roundw
          case rel => exact ⟨k, acc ++ [(⟨0, (a.1 : Int), (b.1 : Int), (c.1 : Int)⟩ : Part)], some l2, _, by omega, by rw [HNUM.out], HDP', (fun l' e => by cases e; simp; omega), (fun e => by cases e), hE3, hB3, hT3, hP3, hK3⟩
          case measure =>
            show c1 - (((c1 - (k + 1) : Nat) : Int) + 1).toNat < c1 - ((c1 - (k + 1) : Nat) : Int).toNat
            rw [HNUM.out]
            omega
end Go.Proofs.Ytlgkcpgbmobacaa
