/-
  The contracts of the library functions that work on bytes: bytes.Equal, bytes.Clone, slices.Grow of nothing, slices.Concat.
-/
import Derived.Test.YtangfnenfhkokaaBase
import Derived.Lib.AppendZerosOnto
import Derived.Lib.LazyBuf
set_option linter.unusedSimpArgs false
set_option linter.unusedVariables false
namespace Go.Proofs.Ytangfnenfhkokaa
open Go.RowKit

set_option maxHeartbeats 400000 in
theorem bytes_equal (A : Option Addr) (m cap : Nat) (l : List UInt8) (A' : Option Addr) (m' cap' : Nat) (l' : List UInt8) (w : World) (hm : l.length = m) (hr : RB w A l) (hm' : l'.length = m') (hr' : RB w A' l') :
    Calls Try.prog 68 #[.slice A m cap, .slice A' m' cap'] w fun e w' => e = .returned (.bool (l == l')) ∧ w = w' := by
  have h1 := run_str_try w A cap m l hm hr
  have h2 := run_str_try w A' cap' m' l' hm' hr'
  clear hm hm'
  go_enter Try.func68, Try.ntmps68
  go_wp2
  go_ret
  exact ⟨rfl, rfl⟩

set_option maxHeartbeats 400000 in
theorem bytes_clone (A : Option Addr) (m cap : Nat) (l : List UInt8) (w : World) (hm : l.length = m) (hl : l.length ≤ 140737488355328) (hr : RB w A l) :
    Calls Try.prog 54 #[.slice A m cap] w fun e w' => ∃ v, e = .returned v ∧ Own w' w.heap.size 5 v (l.map eb) ∧ Below w.heap.size w w' := by
  cases A with
  | none =>
    have e0 : l = [] := by
      cases l with
      | nil => rfl
      | cons x l => obtain ⟨ad, e, _⟩ := hr 0 _ rfl; cases e
    subst e0
    clear hm hr hl
    have heq := fun W : World => run_eql_slice_nil (P := Try.prog) W 42 5 none m cap Try.underlying42
    go_enter Try.func54, Try.ntmps54
    go_wp2
    go_ret
    exact ⟨_, rfl, Own.nil _ _ _, Below.refl _ _⟩
  | some ad =>
    obtain ⟨v', w2, HR, hown, hb2⟩ := append_fresh w (some ad) m cap l hm hr hl
    clear hm
    have heq := fun W : World => run_eql_slice_nil (P := Try.prog) W 42 5 (some ad) m cap Try.underlying42
    go_enter Try.func54, Try.ntmps54
    go_wp2_with (at_builtin; refine wpList_append_run rfl _ _ 42 42 rfl _ _ _ _ rfl rfl HR.out ?_)
    go_ret
    exact ⟨_, rfl, hown, hb2⟩

set_option maxRecDepth 100000 in
set_option maxHeartbeats 400000 in
theorem grow_nil (n : Int) (h0 : 0 ≤ n) (hn : n ≤ 140737488355328) (w : World) :
    Calls Try.prog 97 #[.slice none 0 0, .int .i64 n] w fun e w' => ∃ v, e = .returned v ∧ Own w' w.heap.size 5 v [] ∧ Below w.heap.size w w' := by
  obtain ⟨k, rfl⟩ := Int.eq_ofNat_of_zero_le h0
  by_cases hk : k = 0
  · subst hk
    go_enter Try.func97, Try.ntmps97
    go_wp2
    go_ret
    exact ⟨_, rfl, Own.nil _ _ _, Below.refl _ _⟩
  · obtain ⟨i, hii, hz, hsize, hby⟩ := info_parts info_u8
    have hrun := Lib.run_append_grow_zeros (P := Try.prog) w 42 3 42 5 i (.int .u8 0) .i64 .i64 Try.underlying42 Try.underlying3 hii hz none 0 0 [] (by simpa using run_firstCells_none (P := Try.prog) w.drew i.size 0 0 0) k (by omega) (by omega) (by omega) (by omega) (by rw [hby]; omega) (by rw [hby]; exact growslice_fits (by omega) (by omega))
    simp only [Nat.zero_add] at hrun
    have hge : k ≤ grownCap w k 0 5 := grownCap_ge w k 0 _
    have hle : grownCap w k 0 5 ≤ maxLen := grownCap_le_maxLen w k 0 _ (by unfold maxLen; omega)
    generalize grownCap w k 0 5 = c at *
    have hcells : (([] : List Value).toArray ++ Builtin.zeroCells (Value.int .u8 0).cells k ++ Builtin.zeroCells (Value.int .u8 0).cells (c - k)).size = c := by
      simp [size_zeroCells, Value.cells]; omega
    generalize ([] : List Value).toArray ++ Builtin.zeroCells (Value.int .u8 0).cells k ++ Builtin.zeroCells (Value.int .u8 0).cells (c - k) = C at *
    have hB : Blk (w.drew.alloc (.cells C 5)) w.heap.size 5 C := Blk.new w.drew _ _
    have hown : Own (w.drew.alloc (.cells C 5)) w.heap.size 5 (.slice (some ⟨w.heap.size, 0, none⟩) 0 c) [] := hB.own (Nat.le_refl _) (by simp) hcells hle (by simp)
    have hb : Below w.heap.size w (w.drew.alloc (.cells C 5)) := bal (bdr (Below.refl _ _)) _
    generalize w.drew.alloc (.cells C 5) = W at *
    have HR := Lib.hid hrun
    clear hrun hcells hB
    have hpos : (0 : Int) < (k : Int) := by omega
    go_enter Try.func97, Try.ntmps97
    go_wp2_with (at_builtin; refine wpList_append_run rfl _ _ 42 3 rfl _ _ _ _ rfl rfl HR.out ?_)
    go_ret
    exact ⟨_, rfl, hown, hb⟩

theorem flat_len (ls : List (List UInt8)) (k : Nat) (hk : k < ls.length) : (ls.take (k + 1)).flatten = (ls.take k).flatten ++ ls[k] := by
  rw [List.take_succ_eq_append_getElem hk, List.flatten_append]; simp
theorem flat_le (ls : List (List UInt8)) (k : Nat) : (ls.take k).flatten.length ≤ ls.flatten.length := by
  conv => rhs; rw [← List.take_append_drop k ls, List.flatten_append, List.length_append]
  omega

set_option maxRecDepth 100000 in
set_option maxHeartbeats 1000000 in
theorem concat_bytes (A : Option Addr) (n cap : Nat) (vs : List Value) (ls : List (List UInt8)) (w : World) (hn : vs.length = n) (hA : Rd w A vs) (h2 : AreB w vs ls) (hsum : ls.flatten.length ≤ 140737488355328) (hn63 : n ≤ 9223372036854775807) :
    Calls Try.prog 79 #[.slice A n cap] w fun e w' => ∃ v, e = .returned v ∧ Own w' w.heap.size 5 v (ls.flatten.map eb) ∧ Below w.heap.size w w' := by
  subst hn
  have hvl := Lib.hid h2.1
  go_enter Try.func79, Try.ntmps79
  go_wp2
  go_loop [3, 11] (fun s i => ∃ k : Nat, k ≤ vs.length ∧ i = .int .i64 k ∧ s = .int .i64 ((ls.take k).flatten.length : Int)) (fun _ i => vs.length - (intOf i).toNat)
  case atStart => exact ⟨0, by omega, rfl, rfl⟩
  case round =>
    obtain ⟨k, hk, rfl, rfl⟩ := hrel
    have hle := flat_le ls k
    by_cases hlt : k < vs.length
    · have hkl : k < ls.length := by rw [← hvl.out]; exact hlt
      obtain ⟨ad, rfl⟩ := hA.some_of (by intro e; rw [e] at hlt; simp at hlt)
      have hc := hA.at_ k hlt
      obtain ⟨Ak, ck, ek, _, rk⟩ := h2.2 k hlt hkl
      rw [ek] at hc
      have hst := flat_len ls k hkl
      have hle2 := flat_le ls (k + 1)
      have hsl : (ls.take (k + 1)).flatten.length = (ls.take k).flatten.length + ls[k].length := by rw [hst, List.length_append]
      rw [hsl] at hle2
      have HSL := Lib.hid hsl
      clear hst hsl ek
      generalize (ls.take k).flatten.length = s at *
      generalize ls[k].length = q at *
      have hpos : (0 : Int) ≤ (s : Int) + (q : Int) := by omega
      go_wp2
      go_round
      case rel => exact ⟨k + 1, by omega, by go_num, by rw [HSL.out]; go_num⟩
      case measure => simp [intOf]; try omega
    · obtain rfl : k = vs.length := by omega
      clear hlt
      rw [hvl.out, List.take_length] at *
      generalize hS : ls.flatten.length = S at *
      have HS := Lib.hid hS
      clear hS hle
      go_wp2_with fail
      refine (grow_nil _ (by omega) (by omega) _).mono ?_
      rintro e w1 ⟨v1, rfl, ho1, hb1⟩
      have q2 := h2.below hb1
      have qA := hA.below hb1
      have hs1 := hb1.size
      go_wp2_with fail
      go_loopw [6, 27] (fun v i wr => ∃ k : Nat, k ≤ ls.length ∧ i = .int .i64 k ∧ Own wr w.heap.size 5 v ((ls.take k).flatten.map eb) ∧ Below w.heap.size w wr) (fun _ i _ => ls.length - (intOf i).toNat)
      case atStart => exact ⟨0, by omega, rfl, by simpa using ho1, hb1⟩
      case round =>
        clear ho1 q2 qA
        obtain ⟨k, hk, rfl, ho, hb⟩ := hrel
        by_cases hlt : k < ls.length
        · have hkv : k < vs.length := by rw [h2.1]; exact hlt
          have qA := hA.below hb
          obtain ⟨ad, rfl⟩ := qA.some_of (by intro e; rw [e] at hkv; simp at hkv)
          have hc := qA.at_ k hkv
          obtain ⟨Ak, ck, ek, _, rk⟩ := (h2.below hb).2 k hkv hlt
          rw [ek] at hc
          have hle2 := flat_le ls (k + 1)
          have hst := flat_len ls k hlt
          rw [hst, List.length_append] at hle2
          obtain ⟨v', wr', HR, ho', hb', _⟩ := append_bytes wr w.heap.size _ _ ho Ak ls[k].length ck ls[k] rfl rk (by rw [HS.out] at hle2; omega) hb.size
          rw [← hst] at ho'
          clear ek hle2 hst
          generalize ls[k].length = q at *
          go_wp2_with (at_builtin; refine wpList_append_run rfl _ _ 42 42 rfl _ _ _ _ rfl rfl HR.out ?_)
          go_roundw
          case rel => exact ⟨k + 1, by omega, by go_num, ho', hb.trans hb'⟩
          case measure => simp [intOf]; try omega
        · obtain rfl : k = ls.length := by omega
          rw [List.take_length] at ho
          go_wp2
          go_ret
          exact ⟨_, rfl, ho, hb⟩

end Go.Proofs.Ytangfnenfhkokaa
