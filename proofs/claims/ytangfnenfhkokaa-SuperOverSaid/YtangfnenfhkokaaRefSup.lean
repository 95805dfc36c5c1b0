/-
  treeringref4.Bytes.
-/
import Derived.Test.YtangfnenfhkokaaRes
import Derived.Test.YtangfnenfhkokaaRefMay
import Derived.Test.YtangfnenfhkokaaSupP
import Derived.ArgAppend
set_option linter.unusedSimpArgs false
set_option linter.unusedVariables false
namespace Go.Proofs.Ytangfnenfhkokaa
open Go.RowKit Go.Maps
attribute [-go_sem] Builtin.append_

/-- 'append(v, l...)' of bytes -/
theorem app_b {w : World} {B : Nat} {v : Value} {a : List UInt8} (hown : Own w B 5 v (a.map eb)) {A : Option Addr} {n : Nat} (cap : Nat) {l : List UInt8} (hn : l.length = n) (hr : RB w A l) (hl : a.length + l.length ≤ 1000000) (hB : B ≤ w.heap.size) {a' : List UInt8} (ha : a' = a ++ l) :
    ∃ A' c' w2, (Builtin.append_ #[42, 42] 42 #[v, .slice A n cap]).run Try.prog w = .ok (.slice A' a'.length c') w2 ∧ Own w2 B 5 (.slice A' a'.length c') (a'.map eb) ∧ Below B w w2 := by
  subst ha
  obtain ⟨v', w2, hrun, ho, hb, -⟩ := append_bytes w B v a hown A n cap l hn hr (by omega) hB
  obtain ⟨A', c', rfl, -, -⟩ := ho.bytes
  exact ⟨A', c', w2, hrun.out, ho, hb⟩
/-- 'append(v, l...)' where v is a row of bytes that has no room -/
theorem app_lit (w : World) (b : Addr) (n cap : Nat) (a : List UInt8) (hn : a.length = n) (hr0 : RB w (some b) a) (A : Option Addr) (m c : Nat) (l : List UInt8) (hm : l.length = m) (h0 : 0 < l.length) (hr : RB w A l) (hcap : cap < n + m) (hl : a.length + l.length ≤ 1000000) {a' : List UInt8} (ha : a' = a ++ l) :
    ∃ A' c' w2, (Builtin.append_ #[42, 42] 42 #[.slice (some b) n cap, .slice A m c]).run Try.prog w = .ok (.slice A' a'.length c') w2 ∧ Own w2 w.heap.size 5 (.slice A' a'.length c') (a'.map eb) ∧ Below w.heap.size w w2 := by
  subst ha
  obtain ⟨ad, rfl⟩ := hr.some_of h0
  obtain ⟨i, hii, hz, hsize, hby⟩ := info_parts info_u8
  obtain ⟨v', w', h2, h3, h4⟩ := run_append_arg_grows (P := Try.prog) w 42 42 5 i (.int .u8 0) 1 1 Try.underlying42 hii hz hsize hby rfl (by omega) b n cap (a.map eb) (by simpa using hn)
    (fun j u hj => by obtain ⟨ad', e, hc⟩ := hr0 j u hj; cases e; exact hc) ad m c (l.map eb) (by simpa using hm) (fun j u hj => by obtain ⟨ad', e, hc⟩ := hr j u hj; cases e; exact hc) hcap (by unfold maxLen; omega) (by omega)
  have ho : Own w' w.heap.size 5 v' ((a ++ l).map eb) := by
    unfold Own
    rw [List.map_append, List.length_append, List.length_map, List.length_map, hn, hm]
    exact h3
  obtain ⟨A', c', rfl, -, -⟩ := ho.bytes
  exact ⟨A', c', w', h2, ho, ⟨h4.os, h4.tape, h4.output, h4.size, fun k hk => h4.block k hk (by simp)⟩⟩
/-- what is written ahead of log k -/
def preK (s : Sup) (k : Nat) : List UInt8 := [84, 82] ++ num s.number.toNat ++ num s.boot.toNat ++ (if 1 ≤ k then logB s.jour else []) ++ (if 2 ≤ k then logB s.chunks else [])
theorem preK_end (s : Sup) : preK s 2 = penB s := rfl
theorem preK_len (s : Sup) (F : MayF s) (k : Nat) : (preK s k).length ≤ 220 := by
  have h := F.len
  rw [← preK_end] at h
  unfold preK at h ⊢
  simp only [List.length_append] at h ⊢
  have e1 : (if 1 ≤ k then logB s.jour else []).length ≤ (if 1 ≤ 2 then logB s.jour else []).length := by split <;> simp
  have e2 : (if 2 ≤ k then logB s.chunks else []).length ≤ (if 2 ≤ 2 then logB s.chunks else []).length := by split <;> simp
  omega
/-- a byte laid down, apart from a row that was there -/
theorem res_one {w : World} {B : Nat} {v : Value} {cs : List Value} (h : Own w B 5 v cs) (x : UInt8) (n : Int) (hn : n = (x.toNat : Int)) : Res (w.alloc (.cells #[.int .u8 n] 5)) v (some ⟨w.heap.size, 0, none⟩) [x] := by
  subst hn
  refine ⟨RB.lit w 5 (0, 0) [x] _ rfl, fun ad e => ?_, fun ad e hk => ?_⟩
  · cases e; rw [size_more']; exact Nat.lt_succ_self _
  · cases e
    have := (h.lt _ hk).2
    exact Nat.lt_irrefl _ this
theorem sb_in {x : Int} (h : 0 ≤ x ∧ x < 96) : x = ((sb x).toNat : Int) := by rw [sb_nat]; omega
theorem ref_pair {W : World} {L : Nat} {e : TypeId} {s0 : Sup} {nu bo n1 n2 : Int} {l1 l2 : List Int} {s1 s2 : Crc.W} {A A2 : Option Addr} {c c2 : Nat} (hs : s0 = ⟨nu, bo, ⟨l1, n1, s1⟩, ⟨l2, n2, s2⟩⟩) (F : MayF ⟨nu, bo, ⟨l1, n1, s1⟩, ⟨l2, n2, s2⟩⟩)
    (h1 : Rd W A (l1.map ei)) (h2 : Rd W A2 (l2.map ei)) :
    ∀ k : Nat, k < 2 → ∃ (l : SLog) (A' : Option Addr) (c' : Nat), (∀ V v pre, BSt W L e #[.slice A l1.length c, .int .i64 n1, .int .u32 (s1.toNat : Int), .slice A2 l2.length c2, .int .i64 n2, .int .u32 (s2.toNat : Int)] V v pre → V.cell? ⟨L, k * 3, none⟩ = some (.slice A' l.segs.length c') ∧ V.cell? ⟨L, k * 3 + 1, none⟩ = some (.int .i64 l.len) ∧ V.cell? ⟨L, k * 3 + 2, none⟩ = some (.int .u32 (l.last.toNat : Int)) ∧ Rd V A' (l.segs.map ei))
      ∧ preK s0 (k + 1) = preK s0 k ++ logB l ∧ (∀ x ∈ l.segs, 0 ≤ x ∧ x < 96) ∧ (0 ≤ l.len ∧ l.len ≤ 768) ∧ l.segs.length ≤ 96 := by
  intro k hk
  subst hs
  have hn := F.n
  have hj := F.jl
  have hc := F.cl
  simp only at hn hj hc
  obtain rfl | rfl : k = 0 ∨ k = 1 := by omega
  · refine ⟨⟨l1, n1, s1⟩, A, c, fun V v pre h => ⟨h.blk.cell 0, h.blk.cell 1, h.blk.cell 2, h1.below h.bel⟩, ?_, F.j, ⟨hj.1, ?_⟩, ?_⟩
    · unfold preK; simp
    · simp only; omega
    · simp only; omega
  · refine ⟨⟨l2, n2, s2⟩, A2, c2, fun V v pre h => ⟨h.blk.cell 3, h.blk.cell 4, h.blk.cell 5, h2.below h.bel⟩, ?_, F.c, ⟨hc.1, ?_⟩, ?_⟩
    · unfold preK; simp
    · simp only; omega
    · simp only; omega
end Go.Proofs.Ytangfnenfhkokaa
