/-
  From a law's arguments as the row gives them to the words of the walks: bytes, numbers.
-/
import Derived.Test.YtpnfgnddlfkfaaaBase
import Derived.ProofKit
import Derived.OpenShut
import Derived.ShutString
import Derived.ChangeOld
set_option linter.unusedVariables false
namespace Go.Proofs.Ytpnfgnddlfkfaaa
open Go.ChangeShapes Go.WideShapes Go.ChangeAt Go.RowKit

theorem own : ownKnob Try.prog.godebug = none := by kernel_rfl
theorem laidOut : laidOutB Try.prog = true := by kernel_rfl

def IsRow (k : IntKind) (w : World) (a : Option Addr) (len cap : Nat) (zs : List Int) : Prop :=
  (a = none ∧ len = 0 ∧ cap = 0 ∧ zs = []) ∨
  ∃ x, a = some x ∧ len ≤ cap ∧ cap ≤ maxLen ∧ zs.length = cap ∧ (∀ i, i < zs.length → w.cell? (x.add i) = some (.int k (zs.getD i 0))) ∧ ∀ n ∈ zs, (Lit.int k n).wf = true

theorem row_bytes {w : World} {a : Option Addr} {len cap : Nat} {zs : List Int} (h : IsRow .u8 w a len cap zs) :
    ∃ l : List UInt8, l.length = len ∧ l.length ≤ maxLen ∧ l.length ≤ cap ∧ cap ≤ maxLen ∧ RB w a l := by
  rcases h with ⟨rfl, rfl, rfl, rfl⟩ | ⟨x, rfl, hl, hm, hz, hc, hwf⟩
  · exact ⟨[], rfl, by simp, by simp, by simp, RB.nil _ _⟩
  · have hlen : ((zs.take len).map fun n => UInt8.ofNat n.toNat).length = len := by simp; omega
    refine ⟨(zs.take len).map fun n => UInt8.ofNat n.toNat, hlen, by omega, by omega, hm, ?_⟩
    intro i u hi
    refine ⟨x, rfl, ?_⟩
    have hlt : i < len := by
      have := (List.getElem?_eq_some_iff.1 hi).1
      simp only [List.length_map, List.length_take] at this
      omega
    have hiz : i < zs.length := by omega
    rw [hc i hiz]
    have hw := hwf zs[i] (List.getElem_mem hiz)
    have hb : 0 ≤ zs[i] ∧ zs[i] ≤ 255 := by
      have := hw
      simp [Lit.wf, IntKind.min, IntKind.max, IntKind.signed, IntKind.bits] at this
      omega
    simp only [List.getElem?_map, List.getElem?_take, hlt, if_true, List.getElem?_eq_getElem hiz, Option.map_some, Option.some.injEq] at hi
    rw [← hi]
    simp only [eb, List.getD_eq_getElem?_getD, List.getElem?_eq_getElem hiz, Option.getD_some]
    congr 2
    simp
    omega
theorem u32_of {n : Int} (h : (Lit.int .u32 n).wf = true) : ∃ c : BitVec 32, n = (c.toNat : Int) := by
  have hb : 0 ≤ n ∧ n ≤ 4294967295 := by
    simp [Lit.wf, IntKind.min, IntKind.max, IntKind.signed, IntKind.bits] at h
    omega
  exact ⟨BitVec.ofNat 32 n.toNat, by simp; omega⟩
theorem u16_of {n : Int} (h : (Lit.int .u16 n).wf = true) : ∃ c : Nat, n = (c : Int) ∧ c < 65536 := by
  have hb : 0 ≤ n ∧ n ≤ 65535 := by
    simp [Lit.wf, IntKind.min, IntKind.max, IntKind.signed, IntKind.bits] at h
    omega
  exact ⟨n.toNat, by omega, by omega⟩
theorem u8_of {n : Int} (h : (Lit.int .u8 n).wf = true) : ∃ c : UInt8, n = (c.toNat : Int) := by
  have hb : 0 ≤ n ∧ n ≤ 255 := by
    simp [Lit.wf, IntKind.min, IntKind.max, IntKind.signed, IntKind.bits] at h
    omega
  exact ⟨UInt8.ofNat n.toNat, by simp; omega⟩
theorem i64_of {n : Int} (h : (Lit.int .i64 n).wf = true) : -9223372036854775808 ≤ n ∧ n ≤ 9223372036854775807 := by
  simp [Lit.wf, IntKind.min, IntKind.max, IntKind.signed, IntKind.bits] at h
  omega
/-- an array of integers by value -/
theorem open_arr {H : Type} {enc : TypeId × Value → H} {P : Program} {w : World} {r : Reach} {b0 base : Nat} {spare : Nat → Bool} {held : Bool} {t e : TypeId} {n : Nat} {k : IntKind} {v : Value} {d : DataW H} {p : List MemPlace}
    (ht : P.underlying t = some (.array n e)) (he : P.underlying e = some (.int k)) (hce : P.cellsOf e = 1) (hC : P.cellsOf t = n) (hv : Value.okWide P w r b0 t v) (h : DataW.Trod enc P w base spare held t v d p) :
    ∃ zs : List Int, zs.length = n ∧ v = .agg (zs.map (Value.int k)).toArray ∧ ∀ z ∈ zs, (Lit.int k z).wf = true := by
  obtain ⟨cs, rfl, hsz⟩ : ∃ cs, v = .agg cs ∧ cs.size = P.cellsOf t := by
    simp only [Value.okWide, ht] at hv
    obtain ⟨cs, h1, h2, _⟩ := hv
    exact ⟨cs, h1, h2⟩
  obtain ⟨fuel, hf⟩ := h
  obtain ⟨xs, m, _, _, hl, hxn, hel⟩ := DataW.trod_array ht hf
  have hcl : (Value.agg cs).cells.toList = cs.toList := rfl
  rw [hcl] at hl hel
  have hcell : ∀ i, i < n → ∃ z, cs.toList[i]? = some (.int k z) ∧ (Lit.int k z).wf = true := by
    intro i hi
    have h1 := hel i hi
    rw [hce, Nat.mul_one, List.getElem?_eq_getElem (by omega : i < xs.length)] at h1
    obtain ⟨z, h2, _, h3⟩ := DataW.trod_int he h1
    refine ⟨z, ?_, h3⟩
    have := congrArg (fun l : List Value => l[0]?) h2
    simpa [List.getElem?_take] using this
  have hn : cs.toList.length = n := by simpa using hsz.trans hC
  refine ⟨(List.range n).map fun i => intOf ((cs.toList[i]?).getD undef), by simp, ?_, ?_⟩
  · congr 1
    apply Array.toList_inj.1
    apply List.ext_getElem?
    intro i
    by_cases hi : i < n
    · obtain ⟨z, h1, _⟩ := hcell i hi
      rw [h1]
      simp only [List.map_map, List.getElem?_map, List.getElem?_range hi, Option.map_some, Function.comp_apply, h1, Option.getD_some, intOf]
    · rw [List.getElem?_eq_none (by omega)]
      simp only [List.map_map, List.getElem?_map]
      rw [List.getElem?_eq_none (by simp; omega)]
      rfl
  · intro z hz
    obtain ⟨i, hi, rfl⟩ := List.mem_map.1 hz
    obtain ⟨z, h1, h2⟩ := hcell i (by simpa using hi)
    simp only [h1, Option.getD_some, intOf]
    exact h2
theorem arr4_u8 {zs : List Int} (h : zs.length = 4) (hw : ∀ z ∈ zs, (Lit.int .u8 z).wf = true) : ∃ d0 d1 d2 d3 : UInt8, zs = [(d0.toNat : Int), (d1.toNat : Int), (d2.toNat : Int), (d3.toNat : Int)] := by
  match zs, h with
  | [z0, z1, z2, z3], _ =>
    obtain ⟨d0, rfl⟩ := u8_of (hw z0 (by simp))
    obtain ⟨d1, rfl⟩ := u8_of (hw z1 (by simp))
    obtain ⟨d2, rfl⟩ := u8_of (hw z2 (by simp))
    obtain ⟨d3, rfl⟩ := u8_of (hw z3 (by simp))
    exact ⟨d0, d1, d2, d3, rfl⟩
theorem arr2 {zs : List Int} {k : IntKind} (h : zs.length = 2) (hw : ∀ z ∈ zs, (Lit.int k z).wf = true) : ∃ z0 z1 : Int, zs = [z0, z1] ∧ (Lit.int k z0).wf = true ∧ (Lit.int k z1).wf = true := by
  match zs, h with
  | [z0, z1], _ => exact ⟨z0, z1, rfl, hw z0 (by simp), hw z1 (by simp)⟩
end Go.Proofs.Ytpnfgnddlfkfaaa
