/-
  The contracts of package crc and of the reference's sum: what each call answers, and that it leaves all memory as it was.
-/
import Derived.Test.YtpnfgnddlfkfaaaBase
import Derived.Test.YtpnfgnddlfkfaaaCrcMath
set_option linter.unusedSimpArgs false
set_option linter.unusedVariables false
namespace Go.Proofs.Ytpnfgnddlfkfaaa
open Go.RowKit

theorem bits_xor32 (a b : Crc.W) : bits .xor .u32 (a.toNat : Int) (b.toNat : Int) = ((a ^^^ b).toNat : Int) := by
  unfold bits
  simp only [IntKind.bits]
  have h : ∀ x : Crc.W, BitVec.ofInt 32 (x.toNat : Int) = x := fun x => by simp
  rw [h, h]
  show IntKind.wrap .u32 ((a ^^^ b).toNat : Int) = ((a ^^^ b).toNat : Int)
  generalize a ^^^ b = c
  have := c.isLt
  simp only [IntKind.wrap, IntKind.signed, IntKind.bits]
  simp
  omega
theorem bits_and32 (a b : Crc.W) : bits .and .u32 (a.toNat : Int) (b.toNat : Int) = ((a &&& b).toNat : Int) := by
  unfold bits
  simp only [IntKind.bits]
  have h : ∀ x : Crc.W, BitVec.ofInt 32 (x.toNat : Int) = x := fun x => by simp
  rw [h, h]
  show IntKind.wrap .u32 ((a &&& b).toNat : Int) = ((a &&& b).toNat : Int)
  generalize a &&& b = c
  have := c.isLt
  simp only [IntKind.wrap, IntKind.signed, IntKind.bits]
  simp
  omega
theorem low_bit (x : Crc.W) : bits .and .u32 (x.toNat : Int) 1 = if x.getLsbD 0 then 1 else 0 := by
  have h := bits_and32 x 1#32
  have e : ((1#32 : Crc.W).toNat : Int) = 1 := rfl
  rw [e] at h
  rw [h]
  have : x &&& 1#32 = if x.getLsbD 0 then 1#32 else 0#32 := by
    apply BitVec.eq_of_getLsbD_eq
    intro i hi
    rw [BitVec.getLsbD_and]
    by_cases h0 : i = 0
    · subst h0
      cases x.getLsbD 0 <;> rfl
    · have : (1#32 : Crc.W).getLsbD i = false := by revert i; decide
      rw [this]
      cases x.getLsbD 0 <;> simp [this]
  rw [this]
  cases x.getLsbD 0 <;> rfl
theorem half (x : Crc.W) : (x.toNat : Int) / (2 : Int) = ((x >>> 1).toNat : Int) := by
  rw [BitVec.toNat_ushiftRight, Nat.shiftRight_eq_div_pow]; omega
/-- one step as the walk spells it: the low bit is set -/
theorem step_odd (x : Crc.W) (h : (bits .and .u32 (x.toNat : Int) 1 == 1) = true) : bits .xor .u32 ((x.toNat : Int) / 2) 2197175160 = ((Crc.step x).toNat : Int) := by
  have hx : x.getLsbD 0 = true := by
    rw [low_bit] at h
    cases hq : x.getLsbD 0 with
    | true => rfl
    | false => rw [hq] at h; simp at h
  rw [half, show (2197175160 : Int) = (Crc.poly.toNat : Int) from rfl, bits_xor32]
  unfold Crc.step
  rw [hx]; rfl
theorem step_even (x : Crc.W) (h : (bits .and .u32 (x.toNat : Int) 1 == 1) = false) : (x.toNat : Int) / 2 = ((Crc.step x).toNat : Int) := by
  have hx : x.getLsbD 0 = false := by
    rw [low_bit] at h
    cases hq : x.getLsbD 0 with
    | false => rfl
    | true => rw [hq] at h; simp at h
  rw [half, Crc.step_even x hx]

theorem not_spell (x : Crc.W) : bits .xor .u32 IntKind.u32.max (x.toNat : Int) = ((~~~x).toNat : Int) := by
  rw [show IntKind.u32.max = (((4294967295#32 : Crc.W).toNat : Nat) : Int) from rfl, bits_xor32]
  rfl

/-! ### the table -/
def zeros256 : Array Value := Array.replicate 256 (.int .u32 0)
theorem zero256 (w : World) : (zeroValue 132).run Try.prog w = .ok (.agg zeros256) w := by kernel_rfl
def tabA (k : Nat) : Array Value := Array.ofFn fun i : Fin 256 => .int .u32 (if i.val < k then ((Crc.tab i.val).toNat : Int) else 0)
theorem tabA_size (k : Nat) : (tabA k).size = 256 := by simp [tabA]
theorem tabA_zero : tabA 0 = zeros256 := by
  apply Array.ext
  · simp [tabA, zeros256]
  · intro i h1 h2
    simp [tabA, zeros256]
theorem tabA_set (k : Nat) (hk : k < 256) : (tabA k).setIfInBounds k (.int .u32 ((Crc.steps 8 (BitVec.ofNat 32 k)).toNat : Int)) = tabA (k + 1) := by
  unfold tabA
  apply Array.ext
  · simp
  · intro i h1 h2
    have hi : i < 256 := by simpa using h2
    by_cases e : k = i
    · subst e
      simp [Crc.tab]
    · rw [Array.getElem_setIfInBounds_ne (by simpa using hi) e]
      simp only [Array.getElem_ofFn]
      by_cases h : i < k
      · rw [if_pos h, if_pos (by omega)]
      · rw [if_neg h, if_neg (by omega)]
theorem tabA_get (k : Nat) (hk : k < 256) : (tabA 256)[k]? = some (.int .u32 ((Crc.tab k).toNat : Int)) := by
  rw [Array.getElem?_eq_getElem (by simp [tabA]; exact hk)]
  simp [tabA, hk]
theorem tabA_some (k i : Nat) (hi : i < 256) : ∃ x, (tabA k)[i]? = some x := ⟨_, Array.getElem?_eq_getElem (by simp [tabA]; exact hi)⟩
theorem tabA_one (k : Nat) : (tabA k).all (·.oneCell') = true := by
  rw [Array.all_eq_true]
  intro i hi
  simp only [tabA, Array.getElem_ofFn]
  rfl
theorem size256 : (Try.prog.info? 132).map (·.size) = some 256 := by kernel_rfl

set_option maxRecDepth 100000 in
set_option maxHeartbeats 1000000 in
theorem crc_table (w : World) :
    Calls Try.prog 79 #[] w fun e w' => e = .returned (.agg (tabA 256)) ∧ Below w.heap.size w w' := by
  have hz := zero256
  go_enter Try.func79, Try.ntmps79
  go_wp2
  clear hz
  go_loopw [4] (fun i wr => ∃ k : Nat, k ≤ 256 ∧ i = .int .i64 k ∧ Blk wr (w.heap.size + 1) 132 (tabA k) ∧ Blk wr w.heap.size 132 zeros256 ∧ Below w.heap.size w wr) (fun i _ => 256 - (intOf i).toNat)
  case atStart =>
    refine ⟨0, by omega, rfl, ?_, ?_, ?_⟩
    · rw [tabA_zero]; have := Blk.new (w.alloc (.cells zeros256 132)) 132 zeros256; simpa using this
    · exact (Blk.new w _ _).alloc _
    · exact ((Below.refl _ _).alloc (Nat.le_refl _) _).alloc (by simp) _
  case round =>
    obtain ⟨k, hk, rfl, h1, h2, hb⟩ := hrel
    by_cases hlt : k < 256
    · go_wp2
      go_loop [9, 3] (fun j c => ∃ m : Nat, m ≤ 8 ∧ j = .int .i64 m ∧ c = .int .u32 ((Crc.steps m (BitVec.ofNat 32 k)).toNat : Int)) (fun j _ => 8 - (intOf j).toNat)
      case atStart => exact ⟨0, by omega, rfl, by simp [Crc.steps]; omega⟩
      case round =>
        obtain ⟨m, hm, rfl, rfl⟩ := hrel
        by_cases hm8 : m < 8
        · have hs := Crc.steps_succ m (BitVec.ofNat 32 k)
          have Hs := Lib.hid hs
          clear hs
          generalize hg : Crc.steps m (BitVec.ofNat 32 k) = x at *
          clear hg
          go_wp2
          all_goals
            go_round
            case rel => exact ⟨m + 1, by omega, by go_num, by rw [Hs.out]; first | rw [step_odd _ (by assumption)] | rw [step_even _ (by assumption)]⟩
            case measure => simp [intOf]; omega
        · obtain rfl : m = 8 := by omega
          obtain ⟨x0, hx0⟩ := tabA_some k k hlt
          have hc : wr.cell? ⟨w.heap.size + 1, k, none⟩ = some x0 := (h1.cell k).trans hx0
          have hf : wr.frozen? ⟨w.heap.size + 1, k, none⟩ = false := h1.frozen k
          clear hx0
          go_wp2
          go_roundw
          case rel =>
            refine ⟨k + 1, by omega, by go_num, ?_, ?_, ?_⟩
            · rw [← tabA_set k hlt]; exact h1.set k _
            · exact h2.other (by simp) _
            · exact hb.setCell (by simp) _
          case measure => simp [intOf]; omega
    · obtain rfl : k = 256 := by omega
      clear hlt
      have H1 := Lib.hid h1
      have H2 := Lib.hid h2
      clear h1 h2
      go_wp2_with (first | (refine wpList_load_row rfl 132 _ rfl _ rfl _ _ (0, 0) _ H1.out Try.underlying132 rfl (by rw [tabA_size]; exact size256) ?_) | (refine wpList_store_row rfl 132 _ _ rfl _ _ rfl rfl _ _ H2.out (by rw [tabA_size]; exact size256) (by rw [tabA_size]; simp [zeros256]) (tabA_one _) ?_))
      have hb' : Below w.heap.size w (wr.setRow w.heap.size (tabA 256)) := below_setRow hb (Nat.le_refl _) _
      have hr : (wr.setRow w.heap.size (tabA 256)).heap[w.heap.size]? = some (.cells (tabA 256) 132 (0, 0)) := setRow_heap _ _ _ _ _ _ H2.out
      refine bodyPost_ret (v := .agg (tabA 256)) ?_ rfl ⟨rfl, hb'⟩
      exact results_cell_row (p := 0) (ty := 132) rfl _ _ _ _ _ _ _ rfl hr Try.underlying132 rfl (by rw [tabA_size]; exact size256)

/-! ### Next -/
theorem bits_xor8 (a b : Nat) (ha : a < 256) (hb : b < 256) : bits .xor .u8 (a : Int) (b : Int) = ((a ^^^ b : Nat) : Int) ∧ a ^^^ b < 256 := by
  have hlt : a ^^^ b < 256 := Nat.xor_lt_two_pow (n := 8) ha hb
  refine ⟨?_, hlt⟩
  unfold bits
  simp only [IntKind.bits]
  show IntKind.wrap .u8 ((BitVec.ofInt 8 (a : Int) ^^^ BitVec.ofInt 8 (b : Int)).toNat : Int) = _
  have e : (BitVec.ofInt 8 (a : Int) ^^^ BitVec.ofInt 8 (b : Int)).toNat = a ^^^ b := by
    simp only [BitVec.ofInt_natCast, BitVec.toNat_xor, BitVec.toNat_ofNat]
    rw [Nat.mod_eq_of_lt (by omega), Nat.mod_eq_of_lt (by omega)]
  rw [e]
  generalize a ^^^ b = c at *
  simp only [IntKind.wrap, IntKind.signed, IntKind.bits]
  simp
  omega
/-- where a byte leads in the table, as the walk spells it -/
theorem idx_at (x : Crc.W) (y : UInt8) : ∃ j : Nat, j < 256 ∧ bits .xor .u8 ((x.toNat : Int) % 256) (y.toNat : Int) = (j : Int) ∧
    bits .xor .u32 ((x.toNat : Int) / 256) ((Crc.tab j).toNat : Int) = ((Crc.byte x y).toNat : Int) := by
  have hy : y.toNat < 256 := y.toNat_lt
  obtain ⟨h1, h2⟩ := bits_xor8 (x.toNat % 256) y.toNat (by omega) hy
  refine ⟨_, h2, ?_, ?_⟩
  · rw [← h1]; simp
  · have e : (x.toNat : Int) / (256 : Int) = ((x >>> 8).toNat : Int) := by
      rw [BitVec.toNat_ushiftRight, Nat.shiftRight_eq_div_pow]; omega
    rw [e, bits_xor32, Crc.byte_tab]
theorem not32 (c : Crc.W) : IntKind.u32.wrap (-1 - (c.toNat : Int)) = ((~~~c).toNat : Int) := by
  rw [BitVec.toNat_not]
  have := c.isLt
  simp only [IntKind.wrap, IntKind.signed, IntKind.bits]
  simp
  omega

set_option maxRecDepth 100000 in
set_option maxHeartbeats 1000000 in
theorem crc_next (c : Crc.W) (n : Int) (hn : n = (c.toNat : Int)) (A : Option Addr) (m cap : Nat) (l : List UInt8) (w : World) (hm : l.length = m) (hl : l.length ≤ maxLen) (hr : RB w A l) :
    Calls Try.prog 73 #[.int .u32 n, .slice A m cap] w fun e w' => e = .returned (.int .u32 ((Crc.next c l).toNat : Int)) ∧ Below w.heap.size w w' := by
  subst hn
  subst hm
  unfold maxLen at hl
  have hz := zero256
  go_enter Try.func73, Try.ntmps73
  go_wp2_with (first | (go_at_call 79; refine (crc_table _).mono ?_; rintro e w1 ⟨rfl, hb1⟩) | (refine wpList_store_row rfl 132 (.tmp 5) (.tmp 8) rfl _ _ rfl rfl 132 zeros256 (heap_alloc_new _ _) (by rw [tabA_size]; exact size256) (by rw [tabA_size]; simp [zeros256]) (tabA_one _) ?_))
  have hB : Below w.heap.size w ((w1.alloc (.cells zeros256 132)).setRow w1.heap.size (tabA 256)) := below_setRow (hb1.alloc hb1.size _) hb1.size _
  have hT : Blk ((w1.alloc (.cells zeros256 132)).setRow w1.heap.size (tabA 256)) w1.heap.size 132 (tabA 256) := setRow_heap _ _ _ _ _ _ (heap_alloc_new _ _)
  have hR := hr.below hB
  rw [not_spell]
  generalize (w1.alloc (.cells zeros256 132)).setRow w1.heap.size (tabA 256) = W at *
  generalize w1.heap.size = g at *
  clear hz hb1 hr
  go_loop [0, 13] (fun v i => ∃ k : Nat, k ≤ l.length ∧ i = .int .i64 k ∧ v = .int .u32 ((Crc.run (~~~c) (l.take k)).toNat : Int)) (fun _ i => l.length - (intOf i).toNat)
  case atStart => exact ⟨0, by omega, rfl, rfl⟩
  case round =>
    obtain ⟨k, hk, rfl, rfl⟩ := hrel
    by_cases hlt : k < l.length
    · obtain ⟨ad, rfl⟩ := hR.some_of (by omega)
      have hx := hR.at_ k hlt
      have hs : Crc.run (~~~c) (l.take (k + 1)) = Crc.byte (Crc.run (~~~c) (l.take k)) l[k] := by
        unfold Crc.run; rw [List.take_succ_eq_append_getElem hlt, List.foldl_append]; rfl
      have Hs := Lib.hid hs
      clear hs
      generalize Crc.run (~~~c) (l.take k) = x at *
      generalize l[k] = y at *
      obtain ⟨j, hj, hix, hby⟩ := idx_at x y
      have hc : W.cell? ⟨g, j, none⟩ = some (.int .u32 ((Crc.tab j).toNat : Int)) := (hT.cell j).trans (tabA_get j hj)
      have Hby := Lib.hid hby
      clear hby
      go_wp2
      go_round
      case rel => exact ⟨k + 1, by omega, by go_num, by rw [Hs.out, Hby.out]⟩
      case measure => simp [intOf]; try omega
    · obtain rfl : k = l.length := by omega
      clear hlt
      have hfin : Crc.next c l = ~~~(Crc.run (~~~c) l) := rfl
      have Hfin := Lib.hid hfin
      clear hfin
      rw [List.take_length]
      generalize Crc.run (~~~c) l = x at *
      have hx := not_spell x
      have Hx := Lib.hid hx
      clear hx
      go_wp2
      go_ret
      exact ⟨ret_int (by rw [Hfin.out, Hx.out]), hB⟩

set_option maxHeartbeats 400000 in
theorem crc_sum (A : Option Addr) (m cap : Nat) (l : List UInt8) (w : World) (hm : l.length = m) (hl : l.length ≤ maxLen) (hr : RB w A l) :
    Calls Try.prog 60 #[.slice A m cap] w fun e w' => e = .returned (.int .u32 ((Crc.next 0#32 l).toNat : Int)) ∧ Below w.heap.size w w' := by
  go_enter Try.func60, Try.ntmps60
  go_wp2_with (go_at_call 73; refine (crc_next 0#32 _ rfl _ _ _ _ _ hm hl hr).mono ?_; rintro e w1 ⟨rfl, hb1⟩)
  go_ret
  exact ⟨rfl, hb1⟩

abbrev four (c : Crc.W) : List UInt8 := Crc.four c
theorem eb_mod (n : Nat) : eb (UInt8.ofNat (n % 256)) = .int .u8 ((n : Int) % 256) := by
  unfold eb
  congr 1
  simp
theorem four_cells (c : Crc.W) : (four c).map eb = [.int .u8 ((c.toNat : Int) % 256), .int .u8 ((c.toNat : Int) / 256 % 256), .int .u8 ((c.toNat : Int) / 65536 % 256), .int .u8 ((c.toNat : Int) / 16777216)] := by
  have hc := c.isLt
  simp only [four, Crc.four, List.map, eb_mod]
  simp
  omega

end Go.Proofs.Ytpnfgnddlfkfaaa
