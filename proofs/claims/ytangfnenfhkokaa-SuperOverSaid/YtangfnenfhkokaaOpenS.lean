/-
  From a law's slot (structs in a struct, two rows of numbers) to the words of the walks.
-/
import Derived.Test.YtangfnenfhkokaaOpen2
import Derived.Test.YtangfnenfhkokaaOpen3
import Derived.Test.YtangfnenfhkokaaBulk
import Derived.Test.YtangfnenfhkokaaSupA
set_option linter.unusedVariables false
set_option linter.unusedSimpArgs false
set_option maxRecDepth 100000
namespace Go.Proofs.Ytangfnenfhkokaa
open Go.ChangeShapes Go.WideShapes Go.ChangeAt Go.RowKit Go.Deep

theorem field_one {H : Type} {enc : TypeId × Value → H} {P : Program} {w : World} {base n o i : Nat} {sp : Nat → Bool} {held : Bool} {t : TypeId} {cs : List Value} {xs : List (DataW H × List MemPlace)} {v : Value}
    (h : DataW.trod enc P w base sp held n t ((cs.drop o).take (P.cellsOf t)) = xs[i]?) (hi : i < xs.length) (hc : P.cellsOf t = 1) (hv : cs[o]? = some v) : ∃ y, xs[i]? = some y ∧ DataW.trod enc P w base sp held n t [v] = some y := by
  obtain ⟨ho, e⟩ := List.getElem?_eq_some_iff.1 hv
  rw [hc, List.drop_eq_getElem_cons ho, e, List.getElem?_eq_getElem hi] at h
  exact ⟨_, List.getElem?_eq_getElem hi, by simpa using h⟩
theorem field_i64 {H : Type} {enc : TypeId × Value → H} {P : Program} {w : World} {base n o i : Nat} {sp : Nat → Bool} {held : Bool} {t : TypeId} {cs : List Value} {xs : List (DataW H × List MemPlace)} {v : Value}
    (h : DataW.trod enc P w base sp held n t ((cs.drop o).take (P.cellsOf t)) = xs[i]?) (hi : i < xs.length) (hc : P.cellsOf t = 1) (hv : cs[o]? = some v) (ht : P.underlying t = some (.int .i64)) : ∃ z : Int, v = .int .i64 z ∧ wide z := by
  obtain ⟨y, -, hy⟩ := field_one h hi hc hv
  obtain ⟨z, e, _, hw⟩ := DataW.trod_int ht hy
  have := List.cons.inj e
  exact ⟨z, this.1, i64_of hw⟩
theorem field_u32 {H : Type} {enc : TypeId × Value → H} {P : Program} {w : World} {base n o i : Nat} {sp : Nat → Bool} {held : Bool} {t : TypeId} {cs : List Value} {xs : List (DataW H × List MemPlace)} {v : Value}
    (h : DataW.trod enc P w base sp held n t ((cs.drop o).take (P.cellsOf t)) = xs[i]?) (hi : i < xs.length) (hc : P.cellsOf t = 1) (hv : cs[o]? = some v) (ht : P.underlying t = some (.int .u32)) : ∃ z : Crc.W, v = .int .u32 (z.toNat : Int) := by
  obtain ⟨y, -, hy⟩ := field_one h hi hc hv
  obtain ⟨z, e, _, hw⟩ := DataW.trod_int ht hy
  have := List.cons.inj e
  obtain ⟨x, rfl⟩ := u32_of hw
  exact ⟨x, this.1⟩
section
variable {H : Type} {enc : TypeId × Value → H} {w : World} {base fuel n o i : Nat} {held : Bool} {cs : List Value} {x : DataW H × List MemPlace} {xs : List (DataW H × List MemPlace)}
theorem bulk_lits {H : Type} (k : IntKind) (zs : List Int) : Rows.uptoBulkAll (lits (H := H) k zs) = zs.length := by
  induction zs with
  | nil => rfl
  | cons z r ih => 
    have : lits (H := H) k (z :: r) = .lit (.int k z) :: lits k r := rfl
    rw [this]
    simp only [Rows.uptoBulkAll, Rows.uptoBulk, ih, List.length_cons]
    omega
theorem trod_ints (h : DataW.trod enc Try.prog w base (fun _ => true) held fuel 35 cs = some x) : ∃ (A : Option Addr) (zs : List Int) (c : Nat), cs = [.slice A zs.length c] ∧ zs.length ≤ c ∧ c ≤ maxLen ∧ Rd w A (zs.map ei) ∧ (∀ z ∈ zs, wide z) ∧ zs.length ≤ Rows.uptoBulk x.1 := by
  rcases open_ints Try.underlying35 Try.underlying3 (by kernel_rfl) h with ⟨hcs, _⟩ | ⟨a, l, c', zs, hcs, _, hl, hm, hz, hd, hcell, hwz⟩
  · exact ⟨none, [], 0, hcs, Nat.le_refl _, by simp, Rd.nil _ _, by simp, Nat.zero_le _⟩
  · simp only [if_true] at hz
    have hlt : (zs.take l).length = l := by rw [List.length_take]; omega
    refine ⟨some a, zs.take l, c', by rw [hlt]; exact hcs, by omega, hm, Rd.of_at fun i hi => ?_, fun z hz' => i64_of (hwz z (List.mem_of_mem_take hz')), ?_⟩
    · simp only [List.length_map, List.length_take] at hi
      rw [hcell i (by omega)]
      simp [ei, List.getD_eq_getElem?_getD, List.getElem?_eq_getElem (by omega : i < zs.length)]
    · rw [hd]
      simp only [Rows.uptoBulk, bulk_lits]
      omega
/-- what the cells of a log are -/
def LogCells (w : World) (l : SLog) (A : Option Addr) (c : Nat) (b : Nat) : Prop := l.segs.length ≤ c ∧ c ≤ maxLen ∧ Rd w A (l.segs.map ei) ∧ (∀ z ∈ l.segs, wide z) ∧ wide l.len ∧ l.segs.length ≤ b
theorem trod_log (h : DataW.trod enc Try.prog w base (fun _ => true) held fuel 62 cs = some x) : ∃ (l : SLog) (A : Option Addr) (c : Nat), cs = [.slice A l.segs.length c, .int .i64 l.len, .int .u32 (l.last.toNat : Int)] ∧ LogCells w l A c (Rows.uptoBulk x.1) := by
  obtain ⟨xs, n, rfl, rfl, hl, hxl, hf⟩ := DataW.trod_struct Try.underlying62 h
  have hl3 : cs.length = 3 := hl.trans (by kernel_rfl)
  have hx3 : xs.length = 3 := hxl
  match cs, hl3 with
  | [a, b, c], _ =>
    obtain ⟨y, hy0, hy⟩ := field_one (hf 0 _ rfl) (by omega) (by kernel_rfl) rfl
    obtain ⟨A, zs, cc, e, h1, h2, h3, h4, h5⟩ := trod_ints hy
    obtain ⟨z1, rfl, b1⟩ := field_i64 (hf 1 _ rfl) (by omega) (by kernel_rfl) rfl Try.underlying3
    obtain ⟨z2, rfl⟩ := field_u32 (hf 2 _ rfl) (by omega) (by kernel_rfl) rfl Try.underlying36
    obtain rfl := (List.cons.inj e).1
    refine ⟨⟨zs, z1, z2⟩, A, cc, rfl, h1, h2, h3, h4, b1, ?_⟩
    have hm : y.1 ∈ xs.map (fun x => x.1) := List.mem_map.2 ⟨y, List.mem_of_getElem? hy0, rfl⟩
    have := bulk_part hm
    simp only [Rows.uptoBulk]
    omega
theorem trod_super (h : DataW.trod enc Try.prog w base (fun _ => true) held fuel 64 cs = some x) : ∃ (s : Sup) (A : Option Addr) (c : Nat) (A2 : Option Addr) (c2 : Nat), cs = (supV s A c A2 c2).cells.toList ∧ wide s.number ∧ wide s.boot ∧ LogCells w s.jour A c (Rows.uptoBulk x.1) ∧ LogCells w s.chunks A2 c2 (Rows.uptoBulk x.1) := by
  obtain ⟨xs, n, rfl, rfl, hl, hxl, hf⟩ := DataW.trod_struct Try.underlying64 h
  have hl8 : cs.length = 8 := hl.trans (by kernel_rfl)
  have hx4 : xs.length = 4 := hxl
  have hc3 : Try.prog.cellsOf 62 = 3 := by kernel_rfl
  match cs, hl8 with
  | [a, b, c, d, e, f, g, k], _ =>
    obtain ⟨z0, rfl, b0⟩ := field_i64 (hf 0 _ rfl) (by omega) (by kernel_rfl) rfl Try.underlying3
    obtain ⟨z1, rfl, b1⟩ := field_i64 (hf 1 _ rfl) (by omega) (by kernel_rfl) rfl Try.underlying3
    have h2 := hf 2 _ rfl
    have h3 := hf 3 _ rfl
    rw [List.getElem?_eq_getElem (by omega : 2 < xs.length)] at h2
    rw [List.getElem?_eq_getElem (by omega : 3 < xs.length)] at h3
    have e2 : (([.int .i64 z0, .int .i64 z1, c, d, e, f, g, k] : List Value).drop 2).take (Try.prog.cellsOf 62) = [c, d, e] := by rw [hc3]; rfl
    have e3 : (([.int .i64 z0, .int .i64 z1, c, d, e, f, g, k] : List Value).drop 5).take (Try.prog.cellsOf 62) = [f, g, k] := by rw [hc3]; rfl
    have h2 : DataW.trod enc Try.prog w base (fun _ => true) held n 62 [c, d, e] = some xs[2] := by rw [← e2]; exact h2
    have h3 : DataW.trod enc Try.prog w base (fun _ => true) held n 62 [f, g, k] = some xs[3] := by rw [← e3]; exact h3
    obtain ⟨l, A, cc, e, o1, o2, o3, o4, o5, o6⟩ := trod_log h2
    obtain ⟨l2, A2, cc2, e', p1, p2, p3, p4, p5, p6⟩ := trod_log h3
    cases e
    cases e'
    have m2 : xs[2].1 ∈ xs.map (fun x => x.1) := List.mem_map.2 ⟨xs[2], List.getElem_mem _, rfl⟩
    have m3 : xs[3].1 ∈ xs.map (fun x => x.1) := List.mem_map.2 ⟨xs[3], List.getElem_mem _, rfl⟩
    have q2 := bulk_part m2
    have q3 := bulk_part m3
    refine ⟨⟨z0, z1, l, l2⟩, A, cc, A2, cc2, rfl, b0, b1, ⟨o1, o2, o3, o4, o5, ?_⟩, ⟨p1, p2, p3, p4, p5, ?_⟩⟩
    · simp only [Rows.uptoBulk]; omega
    · simp only [Rows.uptoBulk]; omega
theorem has_lt {P : Program} {w : World} {r : Reach} {base n : Nat} {a : Addr} {e : TypeId} (h : w.has P r base a e n) : a.block < w.heap.size := by
  obtain ⟨-, -, row, cells, hs, -⟩ := h
  unfold World.shape? at hs
  cases hh : w.heap[a.block]? with
  | none => rw [hh] at hs; cases hs
  | some o => exact (Array.getElem?_eq_some_iff.1 hh).1
theorem row_lt {r : Reach} {b0 : Nat} {ts : List TypeId} {cs : Array Value} (hts : Try.prog.cellTypes Try.prog.depth 64 = some ts) (h : Row.okWide Try.prog w r b0 64 cs) (i : Nat) (hi : ts[i % ts.length]? = some 35) {A : Option Addr} {n c : Nat} (hv : cs[i]? = some (.slice A n c)) :
    ∀ ad, A = some ad → ad.block < w.heap.size := by
  obtain ⟨ts', h1, -, h2⟩ := h
  rw [hts] at h1
  cases h1
  obtain ⟨u, hu, hc⟩ := h2 i _ hv
  rw [hi] at hu
  cases hu
  rintro ad rfl
  simp only [Cell.okWide, Cell.ok, Try.underlying35] at hc
  exact has_lt hc.2.2
/-- a slot as an argument -/
theorem open_super {r : Reach} {b0 : Nat} {v : Value} {d : DataW H} {p : List MemPlace} (hv : Value.okWide Try.prog w r b0 64 v) (h : DataW.Trod enc Try.prog w base (fun _ => true) held 64 v d p) :
    ∃ (s : Sup) (A : Option Addr) (c : Nat) (A2 : Option Addr) (c2 : Nat), v = supV s A c A2 c2 ∧ wide s.number ∧ wide s.boot ∧ LogCells w s.jour A c (Rows.uptoBulk d) ∧ LogCells w s.chunks A2 c2 (Rows.uptoBulk d) ∧ (∀ ad, A = some ad → ad.block < w.heap.size) ∧ (∀ ad, A2 = some ad → ad.block < w.heap.size) := by
  obtain ⟨cs, rfl, hrow⟩ : ∃ cs, v = .agg cs ∧ Row.okWide Try.prog w r b0 64 cs := by
    simp only [Value.okWide, Try.underlying64] at hv
    obtain ⟨cs, h1, _, h2⟩ := hv
    exact ⟨cs, h1, h2⟩
  obtain ⟨fuel, hf⟩ := h
  obtain ⟨s, A, c, A2, c2, e, hs1, hs2, hs3, hs4⟩ := trod_super hf
  have e' : cs = (supV s A c A2 c2).cells := Array.toList_inj.1 e
  subst e'
  refine ⟨s, A, c, A2, c2, rfl, hs1, hs2, hs3, hs4, ?_, ?_⟩
  · exact row_lt (ts := [3, 3, 35, 3, 36, 35, 3, 36]) (by kernel_rfl) hrow 2 rfl rfl
  · exact row_lt (ts := [3, 3, 35, 3, 36, 35, 3, 36]) (by kernel_rfl) hrow 5 rfl rfl
end
end Go.Proofs.Ytangfnenfhkokaa
