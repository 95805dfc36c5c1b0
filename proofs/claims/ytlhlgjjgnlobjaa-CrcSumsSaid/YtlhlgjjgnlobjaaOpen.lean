/-
  From a law's arguments as the row gives them to the words of the walks: bytes, numbers.
-/
import Derived.Test.YtlhlgjjgnlobjaaBase
import Derived.ProofKit
import Derived.OpenShut
import Derived.ShutString
import Derived.ChangeOld
set_option linter.unusedVariables false
namespace Go.Proofs.Ytlhlgjjgnlobjaa
open Go.ChangeShapes Go.WideShapes Go.ChangeAt Go.RowKit

theorem own : ownKnob Try.prog.godebug = none := by kernel_rfl
theorem laidOut : laidOutB Try.prog = true := by kernel_rfl

def IsRow (k : IntKind) (w : World) (a : Option Addr) (len cap : Nat) (zs : List Int) : Prop :=
  (a = none ∧ len = 0 ∧ cap = 0 ∧ zs = []) ∨
  ∃ x, a = some x ∧ len ≤ cap ∧ cap ≤ maxLen ∧ zs.length = cap ∧ (∀ i, i < zs.length → w.cell? (x.add i) = some (.int k (zs.getD i 0))) ∧ ∀ n ∈ zs, (Lit.int k n).wf = true

theorem row_bytes {w : World} {a : Option Addr} {len cap : Nat} {zs : List Int} (h : IsRow .u8 w a len cap zs) :
    ∃ l : List UInt8, l.length = len ∧ l.length ≤ maxLen ∧ l.length ≤ cap ∧ cap ≤ maxLen ∧ RB w a l := by
  rcases h with ⟨rfl, rfl, rfl, rfl⟩ | ⟨x, rfl, hl, hm, hz, hc, hwf⟩
  · exact ⟨[], rfl, by simp, by simp, by simp, RB.nil _ _⟩
  · have hlen : ((zs.take len).map fun n => UInt8.ofNat n.toNat).length = len := by simp; omega
    refine ⟨(zs.take len).map fun n => UInt8.ofNat n.toNat, hlen, by omega, by omega, hm, ?_⟩
    intro i u hi
    refine ⟨x, rfl, ?_⟩
    have hlt : i < len := by
      have := (List.getElem?_eq_some_iff.1 hi).1
      simp only [List.length_map, List.length_take] at this
      omega
    have hiz : i < zs.length := by omega
    rw [hc i hiz]
    have hw := hwf zs[i] (List.getElem_mem hiz)
    have hb : 0 ≤ zs[i] ∧ zs[i] ≤ 255 := by
      have := hw
      simp [Lit.wf, IntKind.min, IntKind.max, IntKind.signed, IntKind.bits] at this
      omega
    simp only [List.getElem?_map, List.getElem?_take, hlt, if_true, List.getElem?_eq_getElem hiz, Option.map_some, Option.some.injEq] at hi
    rw [← hi]
    simp only [eb, List.getD_eq_getElem?_getD, List.getElem?_eq_getElem hiz, Option.getD_some]
    congr 2
    simp
    omega
theorem u32_of {n : Int} (h : (Lit.int .u32 n).wf = true) : ∃ c : BitVec 32, n = (c.toNat : Int) := by
  have hb : 0 ≤ n ∧ n ≤ 4294967295 := by
    simp [Lit.wf, IntKind.min, IntKind.max, IntKind.signed, IntKind.bits] at h
    omega
  exact ⟨BitVec.ofNat 32 n.toNat, by simp; omega⟩
theorem u16_of {n : Int} (h : (Lit.int .u16 n).wf = true) : ∃ c : Nat, n = (c : Int) ∧ c < 65536 := by
  have hb : 0 ≤ n ∧ n ≤ 65535 := by
    simp [Lit.wf, IntKind.min, IntKind.max, IntKind.signed, IntKind.bits] at h
    omega
  exact ⟨n.toNat, by omega, by omega⟩
theorem u8_of {n : Int} (h : (Lit.int .u8 n).wf = true) : ∃ c : UInt8, n = (c.toNat : Int) := by
  have hb : 0 ≤ n ∧ n ≤ 255 := by
    simp [Lit.wf, IntKind.min, IntKind.max, IntKind.signed, IntKind.bits] at h
    omega
  exact ⟨UInt8.ofNat n.toNat, by simp; omega⟩
theorem i64_of {n : Int} (h : (Lit.int .i64 n).wf = true) : -9223372036854775808 ≤ n ∧ n ≤ 9223372036854775807 := by
  simp [Lit.wf, IntKind.min, IntKind.max, IntKind.signed, IntKind.bits] at h
  omega
end Go.Proofs.Ytlhlgjjgnlobjaa
