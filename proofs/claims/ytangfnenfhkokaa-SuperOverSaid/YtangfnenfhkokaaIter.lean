/-
  slices.Sorted(maps.Keys(m)) at maps with keys of type int: the keys, rising.
-/
import Derived.Test.YtangfnenfhkokaaLay
import Derived.Test.YtangfnenfhkokaaMapF
import Derived.Test.YtangfnenfhkokaaChunk
import Derived.Maps.OwnSet
set_option linter.unusedSimpArgs false
set_option linter.unusedVariables false
namespace Go.Proofs.Ytangfnenfhkokaa
open Go.RowKit Go.Maps Go.Sort Go.Shelf

def Rising (l : List Int) : Prop := l.Pairwise (· < ·)
def okInt (x : Int) : Prop := -9223372036854775808 ≤ x ∧ x ≤ 9223372036854775807
theorem okInt_of {n : Int} (h : (Lit.int .i64 n).wf = true) : okInt n := by
  have h' : ((-9223372036854775808 : Int) ≤ n ∧ n ≤ 9223372036854775807) := by simpa [Lit.wf, IntKind.min, IntKind.max, IntKind.bits, IntKind.signed] using h
  exact h'
theorem rising_sort {l : List Int} (h : l.Nodup) : Rising (l.mergeSort fun x y => decide (x ≤ y)) := by
  have h1 : (l.mergeSort fun x y => decide (x ≤ y)).Pairwise (fun x y => decide (x ≤ y) = true) := List.pairwise_mergeSort (fun a b c h1 h2 => by simp only [decide_eq_true_eq] at *; omega) (fun a b => by simp only [Bool.or_eq_true, decide_eq_true_eq]; omega) l
  have h2 : (l.mergeSort fun x y => decide (x ≤ y)).Nodup := (List.mergeSort_perm l _).nodup_iff.2 h
  refine (h1.and h2).imp fun {a b} h => ?_
  have h3 := h.1
  have h4 := h.2
  simp only [decide_eq_true_eq] at h3
  omega
/-- a map's keys, as numbers -/
theorem keys_of {P : Program} {k : TypeId} {w : World} {M n : Nat} {f : Int → Option Value} (h : MapF P k .i64 w M n f) (hk : P.underlying k = some (.int .i64)) :
    ∃ D : DataW Value, w.ownsMap P k mR M n D ∧ Maps.size D ≤ n ∧ ∀ ss : List Int, ss.Perm (intKeys D) → ss.Nodup ∧ ∀ x, x ∈ ss ↔ (okInt x ∧ (f x).isSome = true) := by
  obtain ⟨D, hown, hD⟩ := h
  refine ⟨D, hown, hown.size_le, fun ss hp => ?_⟩
  have K : Keyed P k := int_keyed hk
  obtain ⟨es, rfl, hpw, _⟩ := hown.entries K
  obtain ⟨es', hD', hko⟩ := hown.keysOf
  obtain rfl : es = es' := by simpa using hD'
  have hk2 : ∀ p ∈ es, ∃ x, p.1 = .int .i64 x ∧ (Lit.int .i64 x).wf = true := fun p hp => by
    obtain ⟨v, hv⟩ := hko p hp
    obtain ⟨x, _, hx, hw⟩ := Maps.keyOf_i64 hk hv
    exact ⟨x, hx, hw⟩
  have hnd : (intKeys (DataW.map es)).Nodup := by
    show (es.map fun p => Go.intOf p.1).Nodup
    refine List.pairwise_map.2 (hpw.imp_of_mem fun {p q} hp' hq' hne e => hne ?_)
    obtain ⟨a, ha, _⟩ := hk2 p hp'
    obtain ⟨b, hb, _⟩ := hk2 q hq'
    rw [ha, hb] at e ⊢
    exact congrArg _ e
  refine ⟨hp.nodup_iff.2 hnd, fun x => ?_⟩
  rw [hp.mem_iff]
  constructor
  · intro hx
    obtain ⟨p, hpm, rfl⟩ := List.mem_map.1 hx
    obtain ⟨a, ha, hw⟩ := hk2 p hpm
    have e : Go.intOf p.1 = a := by rw [ha]; rfl
    rw [e]
    have hh : Maps.has (DataW.map es) (.int .i64 a) = true := by
      rw [has_eq, List.any_eq_true]
      exact ⟨p, hpm, by rw [ha]; simp [Lit.sameKey]⟩
    rw [(hD a hw).1] at hh
    exact ⟨okInt_of hw, hh⟩
  · rintro ⟨hx, hf⟩
    have hw : (Lit.int .i64 x).wf = true := WalkArith.wf_i64 hx
    rw [← (hD x hw).1, has_eq, List.any_eq_true] at hf
    obtain ⟨p, hpm, hs⟩ := hf
    obtain ⟨a, ha, _⟩ := hk2 p hpm
    refine List.mem_map.2 ⟨p, hpm, ?_⟩
    rw [ha] at hs ⊢
    simpa [Lit.sameKey, Go.intOf] using hs

theorem sorts_wide (m : Nat) : AnyZI.SortsIn Try.prog Try.sortedI_ren Fence.wide m :=
  ⟨fun blk off cap ss W hH hblk hsz => callsIn_wide.2 (AnyM.slices_Sort_int Try.sortI blk off cap ss W hH hblk hsz),
   fun p cap W => callsIn_wide.2 (AnyM.slices_Sort_int_none Try.sortI p cap W)⟩
/-- what Sorted gives: the keys, rising -/
def KeysPost (w W : World) (f : Int → Option Value) (e : Ending) (w' : World) : Prop :=
  ∃ (v : Value) (ks : List Int), e = .returned v ∧ Own w' W.heap.size 3 v (ks.map (Value.int .i64)) ∧ Rising ks ∧ (∀ x, x ∈ ks ↔ (okInt x ∧ (f x).isSome = true)) ∧ Below W.heap.size W w'

theorem keys_b (mb : Option Nat) (W : World) : Calls Try.prog 62 #[.map mb] W fun e w' => e = .returned (.func (.func 89) #[] #[.pointer (some ⟨W.heap.size, 0, none⟩)]) ∧ w' = W.alloc (.cells #[.map mb] 82) :=
  callsIn_wide.1 (AnyZI.keys_in Try.keys62 Fence.wide 5 trivial rfl mb W)
set_option maxHeartbeats 1000000 in
theorem sorted_b (M n : Nat) (f : Int → Option Value) (w : World) (h : MapF Try.prog 3 .i64 w M n f) (hn : n ≤ 1000000000) :
    Calls Try.prog 61 #[.func (.func 89) #[] #[.pointer (some ⟨w.heap.size, 0, none⟩)]] (w.alloc (.cells #[.map (some M)] 82)) (KeysPost w (w.alloc (.cells #[.map (some M)] 82)) f) := by
  obtain ⟨D, hown, hsz, hks⟩ := keys_of h Try.underlying3
  have hbl := hown.lt
  have hseq : SeqGives Fence.wide 2 Try.prog 89 #[.pointer (some ⟨w.heap.size, 0, none⟩)] encZ (fun ss => ss.Perm (intKeys D)) (Maps.size D) (w.alloc (.cells #[.map (some M)] 82)) :=
    AnyZI.keys_gives (ρ := Try.keys62_ren) { Try.keys62 with } Fence.wide _ trivial rfl (by omega) w.heap.size M n D _ (by simp) (by simp) (by
      obtain ⟨es, clock, hb, Ft, hs, hD⟩ := hown
      exact ⟨es, clock, (Below.heap_alloc _ _ M hbl).trans hb, Ft, hs, hD⟩)
  have cS := AnyZI.sorted_in Try.sortedI Fence.wide 5 trivial trivial trivial trivial rfl (by omega) (sorts_wide _) (enters_of Try.func88 (by kernel_rfl) rfl) 89 #[.pointer (some ⟨w.heap.size, 0, none⟩)] trivial (enters_of Try.func89 (by kernel_rfl) rfl) _ _ (by unfold maxLen; omega) (by omega) _ hseq
  change CallsIn _ _ Try.prog 61 _ _ _ at cS
  refine (callsIn_wide.1 cS).mono ?_
  rintro e w' ⟨v, ss, rfl, hS, hrow, _, hb⟩
  obtain ⟨hnd, hm⟩ := hks ss hS
  refine ⟨v, _, rfl, ?_, rising_sort hnd, fun x => ?_, hb⟩
  · unfold Own
    rw [List.length_map, List.length_mergeSort]
    exact hrow
  · rw [(List.mergeSort_perm ss _).mem_iff]
    exact hm x
end Go.Proofs.Ytangfnenfhkokaa
