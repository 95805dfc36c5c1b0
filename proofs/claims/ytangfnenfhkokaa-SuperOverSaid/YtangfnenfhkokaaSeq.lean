/-
  slices.Chunk: the contract of its iterator.
-/
import Derived.RangeFuncNested
import Derived.RangeFuncBound
import Derived.RangeFuncCalls
import Derived.RangeFuncLeaves
import Derived.Shelf.Abstract
import Derived.Shelf.RegionOpen
import Derived.WalkKit
import Derived.OwnWalkIn
import Derived.TacticsInMore
import Derived.LoopNIn
import Derived.LoopIn
import Derived.Test.YtangfnenfhkokaaSupA
set_option linter.unusedSimpArgs false
set_option linter.unusedVariables false
namespace Go.Proofs.Ytangfnenfhkokaa
open Go.RowKit Go.Maps Go.Shelf
attribute [local go_sem] Oper.semAt_some

theorem Kp.drew' {F : Nat → Prop} {a w : World} (h : Kp F a w) : Kp F a w.drew := ⟨h.os, h.tape, h.output, h.size, fun k hk hF => h.block k hk hF⟩
theorem grownBy_drew' (w : World) : w.grownBy w.drew none := ⟨rfl, rfl, rfl, Nat.le_refl _, fun _ _ _ => rfl⟩
/-- a chunk of k bytes of a row of m: where it begins -/
theorem Kp.cell' {F : Nat → Prop} {w w' : World} {g i : Nat} {v : Value} (hk : Kp F w w') (h : w.cell? ⟨g, i, none⟩ = some v) (hF : ¬ F g) : w'.cell? ⟨g, i, none⟩ = some v := by
  have hlt : g < w.heap.size := by have := block_lt_of_cell h; simpa using this
  rw [← h]
  unfold World.cell?
  rw [hk.block g hlt hF]
abbrev Cut (k m : Nat) := { o : Nat // o + k ≤ m }
def cutE (ad : Addr) (k m : Nat) (o : Cut k m) : Array Value := #[.slice (some (ad.add o.1)) k k]
def cutsOf (k n : Nat) : List Nat := (List.range n).map (· * k)
theorem cutsOf_succ (k n : Nat) : cutsOf k (n + 1) = cutsOf k n ++ [n * k] := by unfold cutsOf; rw [List.range_succ, List.map_append]; rfl
/-- 's[l:h:h]' -/
theorem cut_three (ad : Addr) (n c M k : Nat) (hk : 0 < k) (h : M + k ≤ c) (W : World) :
    (Instr.slice 42 (.slice (some ad) n c) (some (.int .i64 (M : Int))) (some (.int .i64 ((M : Int) + (k : Int)))) (some (.int .i64 ((M : Int) + (k : Int))))).run Try.prog W = .ok (.slice (some (ad.add M)) k k) W := by
  have hel : Try.prog.elem 42 = 5 := by simp [Program.elem, Try.underlying42]
  have hu : Try.prog.underlying 42 = some (.slice (Try.prog.elem 42)) := by rw [hel]; exact Try.underlying42
  rw [run_slice_lhm W 42 (some ad) n c hu .i64 .i64 .i64 (M : Int) ((M : Int) + (k : Int)) ((M : Int) + (k : Int)) (by omega) (by omega) (by omega) (by omega), hel]
  have e1 : ((M : Int) + (k : Int)).toNat = M + k := by omega
  have e2 : ((M : Int)).toNat = M := by omega
  have hsz := size_u8
  cases hi : Try.prog.info? 5 with
  | none => simp [hi] at hsz
  | some i =>
    have : i.size = 1 := by simpa [hi] using hsz
    simp [sizeOf, typeInfo, hi, this, sliced, Result.andThen, e1, e2]
    omega
set_option maxRecDepth 100000 in
set_option maxHeartbeats 4000000 in
theorem chunk1_in (F : Fence) (n : Nat) (h6 : F.fn 83) (hro : F.round = none) (hn : 1 ≤ n) (l bs bn : Nat) (ad : Addr) (k q T c : Nat) (hT : q * k = T) (G : Nat → Prop) (hk0 : 0 < k) (hq : 0 < q) (hc : T ≤ c) (hm : T < 100000000000) (J Jx : List (Cut k T) → World → Prop)
    (hJd : ∀ s W, J s W → J s W.drew)
    (hY : ∀ pre x W, J pre W → pre.length < q → YieldAt F (n - 1) Try.prog l (cutE ad k T x) W fun e W' =>
      (e = .returned (.bool true) ∧ J (pre ++ [x]) W' ∧ Kp G W W') ∨ (e = .returned (.bool false) ∧ Jx (pre ++ [x]) W'))
    (W : World) (hbs : W.cell? ⟨bs, 0, none⟩ = some (Value.slice (some ad) T c)) (hbn : W.cell? ⟨bn, 0, none⟩ = some (.int .i64 (k : Int))) (gs : ¬ G bs) (gn : ¬ G bn) (h0 : J [] W) :
    CallsIn F n Try.prog 83 #[.func (.yield l) #[] #[], .pointer (some ⟨bs, 0, none⟩), .pointer (some ⟨bn, 0, none⟩)] W fun e W' => (∃ v, e = .returned v) ∧
      ((∃ ys : List (Cut k T), ys.map (·.1) = cutsOf k q ∧ J ys W') ∨ (∃ pre, True ∧ Jx pre W')) := by
  have HT := Lib.hid hT
  clear hT
  refine callsIn_of_wp Try.func83 rfl h6 ?_ hro
  simp only [Try.ntmps83, List.size_toArray, List.length_cons, List.length_nil, Nat.reduceAdd, Nat.reduceSub, Array.replicate_succ, Array.replicate_zero, List.push_toArray, List.append_toArray, List.nil_append, List.cons_append]
  gi_wp2
  gi_loopw [4] (fun v wr => ∃ (i : Nat) (pre : List (Cut k T)), i ≤ q ∧ v = .int .i64 ((i * k : Nat) : Int) ∧ pre.map (·.1) = cutsOf k i ∧ J pre wr ∧ Kp G W wr) (fun v _ => T - (intOf v).toNat)
  case atStart => exact ⟨0, [], by omega, by simp, rfl, h0, Kp.refl _ _⟩
  case round =>
    obtain ⟨i, pre, hi, rfl, hp, hJ, hkr⟩ := hrel
    have xs := (hkr.cell' hbs gs)
    have xn := (hkr.cell' hbn gn)
    obtain ⟨M, hM⟩ : ∃ M, i * k = M := ⟨_, rfl⟩
    by_cases hlt : i < q
    · have hMT : M + k ≤ T := by
        have := Nat.mul_le_mul_right k (show i + 1 ≤ q from hlt)
        rw [Nat.succ_mul] at this
        rw [HT.out] at this
        omega
      have hlen : pre.length = i := by have := congrArg List.length hp; simpa [cutsOf] using this
      have hY2 := hY pre ⟨M, hMT⟩ wr.drew (hJd _ _ hJ) (by omega)
      obtain ⟨fn, tmps, assign, body, hy, hR⟩ := hY2
      unfold cutE at hy
      dsimp only at hy
      have HR := Lib.hid hR
      have HM := Lib.hid hM
      have HP := Lib.hid hp
      have HI := Lib.hid hlt
      rw [hM]
      obtain ⟨A', hcf, -, -⟩ := cut_from (P := Try.prog) 42 5 Try.underlying42 size_u8 (some ad) T c (M : Int) (by omega) (by omega)
      simp only [show ((M : Nat) : Int).toNat = M by omega] at hcf
      have hct := cut_three ad T c M k hk0 (by omega)
      clear hM hp hlt hlen hR
      have hmn : min (k : Int) ((T - M : Nat) : Int) = (k : Int) := by omega
      have hmn2 : ¬ ((T - M : Nat) : Int) < (k : Int) := by omega
      gi_wp2
      gi_region
      all_goals gi_wp2
      all_goals refine HR.out.mono ?_
      all_goals rintro e W3 (⟨rfl, hJ3, hk3⟩ | ⟨rfl, hJx3⟩)
      all_goals (try (
        have k3 := hkr.trans ((Kp.refl G wr).drew'.trans hk3 fun _ _ h => h) fun _ _ h => h
        have xs3 := k3.cell' hbs gs
        have xn3 := k3.cell' hbn gn))
      all_goals gi_wp2
      all_goals first
        | (go_roundw
           case rel => exact ⟨i + 1, pre ++ [⟨M, hMT⟩], HI.out, by rw [Nat.succ_mul, HM.out]; simp, by rw [List.map_append, HP.out, cutsOf_succ, HM.out]; rfl, hJ3, k3⟩
           case measure => simp [intOf]; try omega)
        | (refine bodyPost_ret (results_none rfl _ _ _) rfl ?_
           exact ⟨⟨_, rfl⟩, .inr ⟨_, trivial, hJx3⟩⟩)
        | trace_state
    · obtain rfl : i = q := by omega
      obtain rfl : T = M := HT.out.symm.trans hM
      rw [hM]
      have HP := Lib.hid hp
      clear hM hp
      gi_wp2
      go_end0
      exact ⟨⟨_, rfl⟩, .inl ⟨pre, HP.out, hJ⟩⟩
theorem chunk_stops (F : Fence) (n : Nat) (h6 : F.fn 83) (hro : F.round = none) (hn : 1 ≤ n) (bs bn : Nat) (ad : Addr) (k q T c : Nat) (hT : q * k = T) (G : Nat → Prop) (hk0 : 0 < k) (hq : 0 < q) (hc : T ≤ c) (hm : T < 100000000000)
    (w : World) (hbs : w.cell? ⟨bs, 0, none⟩ = some (.slice (some ad) T c)) (hbn : w.cell? ⟨bn, 0, none⟩ = some (.int .i64 (k : Int))) (gs : ¬ G bs) (gn : ¬ G bn) :
    SeqStopsK F n Try.prog 83 #[.pointer (some ⟨bs, 0, none⟩), .pointer (some ⟨bn, 0, none⟩)] (cutE ad k T) (Kp G) (fun ys => ys.map (·.1) = cutsOf k q) (fun _ => True) q w := fun l J Jx W hW hJ hJx hY h0 =>
  chunk1_in F n h6 hro hn l bs bn ad k q T c hT G hk0 hq hc hm J Jx (fun s W1 h => hJ s W1 _ none h (grownBy_drew' W1) (fun r e => by cases e)) hY W ((Kp.of (F := fun _ => False) hW).cell' hbs fun h => h) ((Kp.of (F := fun _ => False) hW).cell' hbn fun h => h) gs gn h0
end Go.Proofs.Ytangfnenfhkokaa
