/-
  From a law's body (a struct with a row of pieces), a row of pieces, rows of pairs to the words of the walks.
-/
import Derived.Test.YtpnfgnddlfkfaaaOpen2
import Derived.Test.YtpnfgnddlfkfaaaOpen3
import Derived.Test.YtpnfgnddlfkfaaaParts
set_option linter.unusedVariables false
set_option linter.unusedSimpArgs false
set_option maxRecDepth 100000
namespace Go.Proofs.Ytpnfgnddlfkfaaa
open Go.ChangeShapes Go.WideShapes Go.ChangeAt Go.RowKit Go.Deep

theorem pcs_length (l : List Part) : (pcs l).length = l.length * 4 := flat_length pc_len l
theorem pcs_get (l : List Part) (i : Nat) (hi : i < l.length) : (pcs l)[i * 4]? = some (.int .i64 l[i].off) ∧ (pcs l)[i * 4 + 1]? = some (.int .i64 l[i].len) ∧ (pcs l)[i * 4 + 2]? = some (.int .i64 l[i].chunk) ∧ (pcs l)[i * 4 + 3]? = some (.int .i64 l[i].at_) :=
  ⟨flat_get pc_len l i 0 hi (by omega), flat_get pc_len l i 1 hi (by omega), flat_get pc_len l i 2 hi (by omega), flat_get pc_len l i 3 hi (by omega)⟩
theorem field_one {H : Type} {enc : TypeId × Value → H} {P : Program} {w : World} {base n o i : Nat} {sp : Nat → Bool} {held : Bool} {t : TypeId} {cs : List Value} {xs : List (DataW H × List MemPlace)} {v : Value}
    (h : DataW.trod enc P w base sp held n t ((cs.drop o).take (P.cellsOf t)) = xs[i]?) (hi : i < xs.length) (hc : P.cellsOf t = 1) (hv : cs[o]? = some v) : ∃ y, DataW.trod enc P w base sp held n t [v] = some y := by
  obtain ⟨ho, e⟩ := List.getElem?_eq_some_iff.1 hv
  rw [hc, List.drop_eq_getElem_cons ho, e, List.getElem?_eq_getElem hi] at h
  exact ⟨_, by simpa using h⟩
theorem field_i64 {H : Type} {enc : TypeId × Value → H} {P : Program} {w : World} {base n o i : Nat} {sp : Nat → Bool} {held : Bool} {t : TypeId} {cs : List Value} {xs : List (DataW H × List MemPlace)} {v : Value}
    (h : DataW.trod enc P w base sp held n t ((cs.drop o).take (P.cellsOf t)) = xs[i]?) (hi : i < xs.length) (hc : P.cellsOf t = 1) (hv : cs[o]? = some v) (ht : P.underlying t = some (.int .i64)) : ∃ z : Int, v = .int .i64 z ∧ -9223372036854775808 ≤ z ∧ z ≤ 9223372036854775807 := by
  obtain ⟨y, hy⟩ := field_one h hi hc hv
  obtain ⟨z, e, _, hw⟩ := DataW.trod_int ht hy
  have := List.cons.inj e
  exact ⟨z, this.1, i64_of hw⟩
theorem field_str {H : Type} {enc : TypeId × Value → H} {P : Program} {w : World} {base n o i : Nat} {sp : Nat → Bool} {held : Bool} {t : TypeId} {cs : List Value} {xs : List (DataW H × List MemPlace)} {v : Value}
    (h : DataW.trod enc P w base sp held n t ((cs.drop o).take (P.cellsOf t)) = xs[i]?) (hi : i < xs.length) (hc : P.cellsOf t = 1) (hv : cs[o]? = some v) (ht : P.underlying t = some .string) : ∃ l : List UInt8, v = .string ⟨l.toArray⟩ ∧ l.length ≤ maxLen := by
  obtain ⟨y, hy⟩ := field_one h hi hc hv
  obtain ⟨⟨⟨l⟩⟩, e, _, hw⟩ := DataW.trod_string ht hy
  have := List.cons.inj e
  exact ⟨l, this.1, hw⟩

section
variable {H : Type} {enc : TypeId × Value → H} {w : World} {base fuel : Nat} {sp : Nat → Bool} {held : Bool} {cs : List Value} {x : DataW H × List MemPlace}

theorem trod_part (h : DataW.trod enc Try.prog w base sp held fuel 85 cs = some x) : ∃ p : Part, cs = pc p ∧ okP p := by
  obtain ⟨xs, n, rfl, rfl, hl, hxl, hf⟩ := DataW.trod_struct Try.underlying85 h
  have hl4 : cs.length = 4 := hl.trans (by kernel_rfl)
  have hx4 : xs.length = 4 := hxl
  match cs, hl4 with
  | [a, b, c, d], _ =>
    obtain ⟨z0, rfl, y0⟩ := field_i64 (hf 0 _ rfl) (by omega) (by kernel_rfl) rfl Try.underlying2
    obtain ⟨z1, rfl, y1⟩ := field_i64 (hf 1 _ rfl) (by omega) (by kernel_rfl) rfl Try.underlying3
    obtain ⟨z2, rfl, y2⟩ := field_i64 (hf 2 _ rfl) (by omega) (by kernel_rfl) rfl Try.underlying3
    obtain ⟨z3, rfl, y3⟩ := field_i64 (hf 3 _ rfl) (by omega) (by kernel_rfl) rfl Try.underlying3
    exact ⟨⟨z0, z1, z2, z3⟩, rfl, y0, y1, y2, y3⟩
end
instance : Inhabited Part := ⟨⟨0, 0, 0, 0⟩⟩
theorem rd_pcs {w : World} {a : Addr} {F : Nat → Part} {n : Nat} (h : ∀ i, i < n → ∀ k, k < 4 → w.cell? ((a.add (i * 4)).add k) = (pc (F i))[k]?) : Rd w (some a) (pcs ((List.range n).map F)) := by
  intro j u hj
  have hlt : j < n * 4 := by
    have := (List.getElem?_eq_some_iff.1 hj).1
    rw [pcs_length, List.length_map, List.length_range] at this
    exact this
  refine ⟨a, rfl, ?_⟩
  have h4 := h (j / 4) (by omega) (j % 4) (by omega)
  rw [Go.Deep.add_add, show j / 4 * 4 + j % 4 = j by omega] at h4
  rw [h4]
  have hi : j / 4 < ((List.range n).map F).length := by rw [List.length_map, List.length_range]; omega
  obtain ⟨g0, g1, g2, g3⟩ := pcs_get ((List.range n).map F) (j / 4) hi
  have he : ((List.range n).map F)[j / 4] = F (j / 4) := by simp
  rw [he] at g0 g1 g2 g3
  have hm : j % 4 = 0 ∨ j % 4 = 1 ∨ j % 4 = 2 ∨ j % 4 = 3 := by omega
  rcases hm with e | e | e | e
  · rw [show j / 4 * 4 = j by omega, hj] at g0; rw [e]; exact g0.symm ▸ rfl
  · rw [show j / 4 * 4 + 1 = j by omega, hj] at g1; rw [e]; exact g1.symm ▸ rfl
  · rw [show j / 4 * 4 + 2 = j by omega, hj] at g2; rw [e]; exact g2.symm ▸ rfl
  · rw [show j / 4 * 4 + 3 = j by omega, hj] at g3; rw [e]; exact g3.symm ▸ rfl
section
variable {H : Type} {enc : TypeId × Value → H} {w : World} {base fuel : Nat} {held : Bool} {cs : List Value} {x : DataW H × List MemPlace}
theorem open_pcs (h : DataW.trod enc Try.prog w base (fun _ => true) held fuel 59 cs = some x) : ∃ (A : Option Addr) (ps : List Part) (c : Nat), cs = [.slice A ps.length c] ∧ ps.length ≤ c ∧ c ≤ maxLen ∧ Rd w A (pcs ps) ∧ ∀ p ∈ ps, okP p := by
  rcases open_slice Try.underlying59 h with ⟨rfl, _⟩ | ⟨a, len, cap, m, n, D, Pl, rfl, _, hl, hm, hmm, rfl, hx⟩
  · exact ⟨none, [], 0, rfl, Nat.le_refl _, by simp, Rd.nil _ _, fun _ h => by cases h⟩
  · simp only [if_true] at hmm
    subst hmm
    have hc : Try.prog.cellsOf 85 = 4 := by kernel_rfl
    rw [hc] at hx
    obtain ⟨F, hF⟩ := choose_lt (α := Part) (p := fun i p => (∀ k, k < 4 → w.cell? ((a.add (i * 4)).add k) = (pc p)[k]?) ∧ okP p) (n := m) (fun i hi => by
      obtain ⟨cs', h1, h2⟩ := hx i hi
      obtain ⟨p, rfl, hp⟩ := trod_part h2
      exact ⟨p, (World.cells?_some h1).2.2, hp⟩)
    refine ⟨some a, (List.range len).map F, m, by simp, by simpa using hl, hm, rd_pcs fun i hi k hk => (hF i (by omega)).1 k hk, fun p hp => by
      obtain ⟨i, hi, rfl⟩ := List.mem_map.1 hp
      exact (hF i (by have := List.mem_range.1 hi; omega)).2⟩
end
section
variable {H : Type} {enc : TypeId × Value → H} {w : World} {base fuel n o i : Nat} {held : Bool} {cs : List Value} {x : DataW H × List MemPlace} {xs : List (DataW H × List MemPlace)}
theorem field_u8s {v : Value}
    (h : DataW.trod enc Try.prog w base (fun _ => true) held n 23 ((cs.drop o).take (Try.prog.cellsOf 23)) = xs[i]?) (hi : i < xs.length) (hv : cs[o]? = some v) : ∃ (A : Option Addr) (m c : Nat), v = .slice A m c ∧ m ≤ c ∧ c ≤ maxLen := by
  obtain ⟨y, hy⟩ := field_one h hi (by kernel_rfl) hv
  rcases open_slice Try.underlying23 hy with ⟨e, _⟩ | ⟨a, len, cap, m, n, D, Pl, e, _, hl, hm, _⟩
  · exact ⟨none, 0, 0, (List.cons.inj e).1, Nat.le_refl _, by simp⟩
  · exact ⟨some a, len, cap, (List.cons.inj e).1, hl, hm⟩
theorem field_pcs {v : Value}
    (h : DataW.trod enc Try.prog w base (fun _ => true) held n 59 ((cs.drop o).take (Try.prog.cellsOf 59)) = xs[i]?) (hi : i < xs.length) (hv : cs[o]? = some v) :
    ∃ (A : Option Addr) (ps : List Part) (c : Nat), v = .slice A ps.length c ∧ ps.length ≤ c ∧ c ≤ maxLen ∧ Rd w A (pcs ps) ∧ ∀ p ∈ ps, okP p := by
  obtain ⟨y, hy⟩ := field_one h hi (by kernel_rfl) hv
  obtain ⟨A, ps, c, e, hr⟩ := open_pcs hy
  exact ⟨A, ps, c, (List.cons.inj e).1, hr⟩

theorem trod_body (h : DataW.trod enc Try.prog w base (fun _ => true) held fuel 61 cs = some x) :
    ∃ (size : Int) (A : Option Addr) (ps : List Part) (c : Nat), cs = [.int .i64 size, .slice A ps.length c] ∧ ps.length ≤ c ∧ c ≤ maxLen ∧ Rd w A (pcs ps) ∧ (-9223372036854775808 ≤ size ∧ size ≤ 9223372036854775807) ∧ ∀ p ∈ ps, okP p := by
  obtain ⟨xs, n, rfl, rfl, hl, hxl, hf⟩ := DataW.trod_struct Try.underlying61 h
  have hl2 : cs.length = 2 := hl.trans (by kernel_rfl)
  have hx2 : xs.length = 2 := hxl
  match cs, hl2 with
  | [a, b], _ =>
    obtain ⟨z0, rfl, b0⟩ := field_i64 (hf 0 _ rfl) (by omega) (by kernel_rfl) rfl Try.underlying2
    obtain ⟨A6, ps, c6, rfl, hp1, hp2, hrp, hok⟩ := field_pcs (hf 1 _ rfl) (by omega) rfl
    exact ⟨z0, A6, ps, c6, rfl, hp1, hp2, hrp, b0, hok⟩
theorem open_body {r : Reach} {b0 : Nat} {v : Value} {d : DataW H} {p : List MemPlace} (hv : Value.okWide Try.prog w r b0 61 v) (h : DataW.Trod enc Try.prog w base (fun _ => true) held 61 v d p) :
    ∃ (size : Int) (A : Option Addr) (ps : List Part) (c : Nat), v = .agg #[.int .i64 size, .slice A ps.length c] ∧ ps.length ≤ c ∧ c ≤ maxLen ∧ Rd w A (pcs ps) ∧ (-9223372036854775808 ≤ size ∧ size ≤ 9223372036854775807) ∧ ∀ p ∈ ps, okP p := by
  obtain ⟨cs, rfl⟩ : ∃ cs, v = .agg cs := by
    simp only [Value.okWide, Try.underlying61] at hv
    obtain ⟨cs, h1, _⟩ := hv
    exact ⟨cs, h1⟩
  obtain ⟨fuel, hf⟩ := h
  obtain ⟨size, A, ps, c, e, hs⟩ := trod_body hf
  refine ⟨size, A, ps, c, ?_, hs⟩
  have : cs = #[.int .i64 size, .slice A ps.length c] := Array.toList_inj.1 e
  rw [this]
theorem open_parts {A : Option Addr} {m c : Nat} {d : DataW H} {p : List MemPlace} (h : DataW.Trod enc Try.prog w base (fun _ => true) held 59 (.slice A m c) d p) :
    ∃ ps : List Part, ps.length = m ∧ m ≤ c ∧ c ≤ maxLen ∧ Rd w A (pcs ps) ∧ ∀ p ∈ ps, okP p := by
  obtain ⟨fuel, hf⟩ := h
  obtain ⟨A', ps, c', e, h1, h2, h3, h4⟩ := open_pcs hf
  have e2 : Value.slice A m c = .slice A' ps.length c' := by simpa [Value.cells] using e
  cases e2
  exact ⟨ps, rfl, h1, h2, h3, h4⟩
end
theorem arr3 {zs : List Int} {k : IntKind} (h : zs.length = 3) (hw : ∀ z ∈ zs, (Lit.int k z).wf = true) : ∃ z0 z1 z2 : Int, zs = [z0, z1, z2] ∧ (Lit.int k z0).wf = true ∧ (Lit.int k z1).wf = true ∧ (Lit.int k z2).wf = true := by
  match zs, h with
  | [a, b, c], _ => exact ⟨a, b, c, rfl, hw a (by simp), hw b (by simp), hw c (by simp)⟩
theorem u16_nats {w : World} {A : Option Addr} {n : Nat} {zs : List Int} (hl : zs.length = n) (hr : Rd w A (zs.map (Value.int .u16))) (h : ∀ z ∈ zs, (Lit.int .u16 z).wf = true) :
    ∃ ns : List Nat, ns.length = n ∧ Rd w A (ns.map fun x : Nat => Value.int .u16 (x : Int)) ∧ ∀ x ∈ ns, x < 65536 := by
  refine ⟨zs.map Int.toNat, by simpa using hl, ?_, fun x hx => ?_⟩
  · have e : ((zs.map Int.toNat).map fun x : Nat => Value.int .u16 (x : Int)) = zs.map (Value.int .u16) := by
      rw [List.map_map]
      refine List.map_congr_left fun z hz => ?_
      obtain ⟨c, rfl, _⟩ := u16_of (h z hz)
      rfl
    rw [e]
    exact hr
  · obtain ⟨z, hz, rfl⟩ := List.mem_map.1 hx
    obtain ⟨c, rfl, hc⟩ := u16_of (h z hz)
    simpa using hc
end Go.Proofs.Ytpnfgnddlfkfaaa
