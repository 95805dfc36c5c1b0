/-
  The chunk store: what its memory says, and New, Get, find, Size, Next.
-/
import Derived.Test.YtpnfgnddlfkfaaaMapF
import Derived.Test.YtpnfgnddlfkfaaaCrc
import Derived.Test.YtpnfgnddlfkfaaaSlices
import Derived.Test.YtpnfgnddlfkfaaaFlat
import Derived.Test.YtpnfgnddlfkfaaaSteps
import Derived.Deep.RegionHeldLaw
import Derived.Deep.CutBlock
import Derived.Maps.OwnOps
set_option linter.unusedSimpArgs false
set_option linter.unusedVariables false
namespace Go.Proofs.Ytpnfgnddlfkfaaa
open Go.RowKit Go.Maps

theorem Own.kp {F : Nat → Prop} {w w' : World} {B : Nat} {e : TypeId} {v : Value} {cs : List Value} (h : Own w B e v cs) (hk : Kp F w w') (hF : ∀ k, v.ownBlock = some k → ¬ F k) : Own w' B e v cs := by
  obtain ⟨h1, h2⟩ := h
  refine ⟨h1, h2.imp id ?_⟩
  rintro ⟨g, cap, cur, rfl, hg, hh, r⟩
  exact ⟨g, cap, cur, rfl, hg, (hk.block g (Array.getElem?_eq_some_iff.1 hh).1 (hF g rfl)).trans hh, r⟩
theorem Own.typed {w : World} {B : Nat} {e : TypeId} {v : Value} {cs : List Value} (h : Own w B e v cs) (k : Nat) (hk : v.ownBlock = some k) : B ≤ k ∧ k < w.heap.size ∧ ∃ cur, Blk w k e cur := by
  obtain ⟨h1, h2⟩ := h
  rcases h2 with ⟨rfl, h0⟩ | ⟨g, cap, cur, rfl, hg, hh, _⟩
  · cases hk
  · have : g = k := by simpa [Value.ownBlock] using hk
    subst this
    exact ⟨hg, (Array.getElem?_eq_some_iff.1 hh).1, cur, hh⟩

/-- what a store has -/
structure CSt where
  l : Int → Option (List UInt8)
  ids : Int → List Int
  next : Int
  size : Int
def CSt.empty : CSt := ⟨fun _ => none, fun _ => [], 1, 0⟩
def nilS : Value := .slice none 0 0
/-- the sum of a piece, as a map's key -/
def ck (b : List UInt8) : Int := ((Crc.next 0#32 b).toNat : Int)
theorem ck_wf (b : List UInt8) : (Lit.int .u32 (ck b)).wf = true := by
  have := (Crc.next 0#32 b).isLt
  unfold ck
  simp [Lit.wf, IntKind.min, IntKind.max, IntKind.bits, IntKind.signed]
  omega
structure ChunksAt (w : World) (g : Nat) (P : Nat → Prop) (n : Nat) (s : CSt) (L By : Nat) (fl fb : Int → Option Value) : Prop where
  blk : Blk w g 91 #[.map (some L), .map (some By), .int .i64 s.next, .int .i64 s.size]
  ml : MapF Try.prog 3 .i64 w L n fl
  mb : MapF Try.prog 113 .u32 w By n fb
  none_ : ∀ id, s.l id = none → fl id = none
  some_ : ∀ id b, s.l id = some b → ∃ v, fl id = some v ∧ Own w 0 5 v (b.map eb) ∧ ∀ j, v.ownBlock = some j → P j
  row : ∀ k, Own w 0 3 ((fb k).getD nilS) ((s.ids k).map (Value.int .i64)) ∧ ∀ j, ((fb k).getD nilS).ownBlock = some j → P j
  apart : ∀ k k' j, k ≠ k' → ((fb k).getD nilS).ownBlock = some j → ((fb k').getD nilS).ownBlock ≠ some j
  pg : P g
  pl : P L
  pb : P By
  ne : L ≠ By
  lt : ∀ j, P j → j < w.heap.size
def Chunks (w : World) (g : Nat) (P : Nat → Prop) (n : Nat) (s : CSt) : Prop := ∃ L By fl fb, ChunksAt w g P n s L By fl fb
theorem ChunksAt.kp {F : Nat → Prop} {w w' : World} {g : Nat} {P : Nat → Prop} {n : Nat} {s : CSt} {L By : Nat} {fl fb : Int → Option Value} (h : ChunksAt w g P n s L By fl fb) (hk : Kp F w w') (hF : ∀ j, P j → ¬ F j) : ChunksAt w' g P n s L By fl fb where
  blk := h.blk.kp hk (hF _ h.pg)
  ml := h.ml.kp hk (hF _ h.pl)
  mb := h.mb.kp hk (hF _ h.pb)
  none_ := h.none_
  some_ := fun id b hb => by
    obtain ⟨v, h1, h2, h3⟩ := h.some_ id b hb
    exact ⟨v, h1, h2.kp hk fun j e => hF j (h3 j e), h3⟩
  row := fun k => ⟨(h.row k).1.kp hk fun j e => hF j ((h.row k).2 j e), (h.row k).2⟩
  apart := h.apart
  pg := h.pg
  pl := h.pl
  pb := h.pb
  ne := h.ne
  lt := fun j hj => Nat.lt_of_lt_of_le (h.lt j hj) hk.size
theorem Chunks.kp {F : Nat → Prop} {w w' : World} {g : Nat} {P : Nat → Prop} {n : Nat} {s : CSt} (h : Chunks w g P n s) (hk : Kp F w w') (hF : ∀ j, P j → ¬ F j) : Chunks w' g P n s := by
  obtain ⟨L, By, fl, fb, h⟩ := h
  exact ⟨L, By, fl, fb, h.kp hk hF⟩
theorem Chunks.below {w w' : World} {g : Nat} {P : Nat → Prop} {n : Nat} {s : CSt} (h : Chunks w g P n s) (hb : Below w.heap.size w w') : Chunks w' g P n s := h.kp (F := fun _ => False) (Kp.of hb) fun _ _ f => f
theorem Chunks.lt {w : World} {g : Nat} {P : Nat → Prop} {n : Nat} {s : CSt} (h : Chunks w g P n s) (j : Nat) (hj : P j) : j < w.heap.size := by
  obtain ⟨L, By, fl, fb, h⟩ := h
  exact h.lt j hj
theorem Chunks.pg {w : World} {g : Nat} {P : Nat → Prop} {n : Nat} {s : CSt} (h : Chunks w g P n s) : P g := by
  obtain ⟨L, By, fl, fb, h⟩ := h
  exact h.pg
theorem Chunks.mono {w : World} {g : Nat} {P P' : Nat → Prop} {n : Nat} {s : CSt} (h : Chunks w g P n s) (hP : ∀ j, P j → P' j) (hl : ∀ j, P' j → j < w.heap.size) : Chunks w g P' n s := by
  obtain ⟨L, By, fl, fb, h⟩ := h
  exact ⟨L, By, fl, fb, h.blk, h.ml, h.mb, h.none_, fun id b hb => by
    obtain ⟨v, h1, h2, h3⟩ := h.some_ id b hb
    exact ⟨v, h1, h2, fun j e => hP j (h3 j e)⟩, fun k => ⟨(h.row k).1, fun j e => hP j ((h.row k).2 j e)⟩, h.apart, hP _ h.pg, hP _ h.pl, hP _ h.pb, h.ne, hl⟩

theorem size_more' (w : World) (o : Obj) : (w.alloc o).heap.size = w.heap.size + 1 := by simp
theorem chunk_made (w : World) : Chunks (((w.alloc (.map #[] 0)).alloc (.map #[] 0)).alloc (.cells #[.map (some w.heap.size), .map (some (w.heap.size + 1)), .int .i64 1, .int .i64 0] 91)) (w.heap.size + 1 + 1) (fun j => w.heap.size ≤ j ∧ j < w.heap.size + 1 + 1 + 1) 0 CSt.empty := by
  have h1 := MapF.made (P := Try.prog) (k := 3) (q := .i64) w
  have hz1 := size_more' w (.map #[] 0)
  generalize (w.alloc (.map #[] 0)) = w1 at *
  have h2 := MapF.made (P := Try.prog) (k := 113) (q := .u32) w1
  have hb2 : Below w1.heap.size w1 (w1.alloc (.map #[] 0)) := bal (Below.refl _ _) _
  have hz2 := size_more' w1 (.map #[] 0)
  generalize (w1.alloc (.map #[] 0)) = w2 at *
  have h3 := Blk.new w2 91 #[.map (some w.heap.size), .map (some (w.heap.size + 1)), .int .i64 1, .int .i64 0]
  have hb3 : Below w2.heap.size w2 (w2.alloc (.cells #[.map (some w.heap.size), .map (some (w.heap.size + 1)), .int .i64 1, .int .i64 0] 91)) := bal (Below.refl _ _) _
  have hz3 := size_more' w2 (.cells #[.map (some w.heap.size), .map (some (w.heap.size + 1)), .int .i64 1, .int .i64 0] 91)
  generalize (w2.alloc (.cells #[.map (some w.heap.size), .map (some (w.heap.size + 1)), .int .i64 1, .int .i64 0] 91)) = w3 at *
  rw [hz1] at h2
  rw [hz2, hz1] at h3
  exact ⟨w.heap.size, w.heap.size + 1, fun _ => none, fun _ => none, h3, (h1.below hb2).below hb3, h2.below hb3, (fun _ _ => rfl), (fun id b h => by cases h), (fun k => ⟨Own.nil _ _ _, fun j h => by cases h⟩), (fun k k' j _ h => by cases h), ⟨by omega, by omega⟩, ⟨by omega, by omega⟩, ⟨by omega, by omega⟩, by omega, (fun j hj => by omega)⟩
set_option maxHeartbeats 600000 in
theorem chunk_new (w : World) :
    Calls Try.prog 15 #[] w fun e w' => ∃ g, e = .returned (.pointer (some ⟨g, 0, none⟩)) ∧ Chunks w' g (fun j => w.heap.size ≤ j ∧ j < w'.heap.size) 0 CSt.empty ∧ Below w.heap.size w w' := by
  have hmm := @run_makeMap Try.prog
  have hC := chunk_made w
  go_enter Try.func15, Try.ntmps15
  go_wp2
  go_ret
  refine ⟨_, rfl, ?_, bal (bal (bal (Below.refl _ _) _) _) _⟩
  simpa using hC

/-! the two maps, looked up -/
theorem zero_bytes (w : World) : (zeroValue 23).run Try.prog w = .ok nilS w := by kernel_rfl
theorem zero_ints (w : World) : (zeroValue 27).run Try.prog w = .ok nilS w := by kernel_rfl
theorem look_l2 {w : World} {L n : Nat} {fl : Int → Option Value} (h : MapF Try.prog 3 .i64 w L n fl) {id : Int} (h0 : -9223372036854775808 ≤ id) (h1 : id ≤ 9223372036854775807) :
    (Instr.lookup 88 (.map (some L)) (.int .i64 id) true).run Try.prog w = .ok (.tuple #[(fl id).getD nilS, .bool (fl id).isSome]) w := h.look2 Try.underlying3 Try.underlying88 (zero_bytes w) (WalkArith.wf_i64 ⟨h0, h1⟩)
theorem look_l1 {w : World} {L n : Nat} {fl : Int → Option Value} (h : MapF Try.prog 3 .i64 w L n fl) {id : Int} (h0 : -9223372036854775808 ≤ id) (h1 : id ≤ 9223372036854775807) :
    (Instr.lookup 88 (.map (some L)) (.int .i64 id) false).run Try.prog w = .ok ((fl id).getD nilS) w := h.look1 Try.underlying3 Try.underlying88 (zero_bytes w) (WalkArith.wf_i64 ⟨h0, h1⟩)
theorem look_b1 {w : World} {L n : Nat} {fb : Int → Option Value} (h : MapF Try.prog 113 .u32 w L n fb) (b : List UInt8) :
    (Instr.lookup 89 (.map (some L)) (.int .u32 (ck b)) false).run Try.prog w = .ok ((fb (ck b)).getD nilS) w := h.look1 Try.underlying113 Try.underlying89 (zero_ints w) (ck_wf b)
/-- what is at a number, as bytes -/
theorem ChunksAt.val {w : World} {g : Nat} {P : Nat → Prop} {n : Nat} {s : CSt} {L By : Nat} {fl fb : Int → Option Value} (h : ChunksAt w g P n s L By fl fb) (id : Int) :
    ∃ A c, (fl id).getD nilS = .slice A ((s.l id).getD []).length c ∧ RB w A ((s.l id).getD []) ∧ (fl id).isSome = (s.l id).isSome ∧ ((s.l id) = none → A = none ∧ c = 0) := by
  cases hl : s.l id with
  | none =>
    rw [h.none_ id hl]
    exact ⟨none, 0, rfl, RB.nil _ _, rfl, fun _ => ⟨rfl, rfl⟩⟩
  | some b =>
    obtain ⟨v, h1, h2, h3⟩ := h.some_ id b hl
    obtain ⟨A, c, rfl, hc, hr⟩ := h2.bytes
    rw [h1]
    exact ⟨A, c, rfl, hr, rfl, fun h => by cases h⟩

set_option maxHeartbeats 1000000 in
theorem chunk_get (g : Nat) (P : Nat → Prop) (n : Nat) (s : CSt) (id : Int) (h0 : -9223372036854775808 ≤ id) (h1 : id ≤ 9223372036854775807) (w : World) (h : Chunks w g P n s) (hl : ∀ b, s.l id = some b → b.length ≤ 1000000) :
    Calls Try.prog 17 #[.pointer (some ⟨g, 0, none⟩), .int .i64 id] w fun e w' => ∃ v, e = .returned (.tuple #[v, .bool (s.l id).isSome]) ∧ Own w' w.heap.size 5 v (((s.l id).getD []).map eb) ∧ Below w.heap.size w w' := by
  obtain ⟨L, By, fl, fb, h⟩ := h
  have hlk := look_l2 h.ml h0 h1
  obtain ⟨A, c, e1, hr, e2, _⟩ := h.val id
  rw [e1, e2] at hlk
  have hll : ((s.l id).getD []).length ≤ 1000000 := by
    cases hs : s.l id with
    | none => simp
    | some b => exact hl b hs
  generalize (s.l id).isSome = ok at *
  generalize (s.l id).getD [] = b at *
  have hc0 : w.cell? ⟨g, 0, none⟩ = some (.map (some L)) := h.blk.cell 0
  go_enter Try.func17, Try.ntmps17
  go_wp2_with fail
  refine (bytes_clone A _ c b w rfl (by omega) hr).mono ?_
  rintro e w' ⟨v, rfl, ho, hb⟩
  go_wp2
  go_ret2
  exact ⟨_, rfl, ho, hb⟩

set_option maxHeartbeats 1000000 in
theorem chunk_size (g : Nat) (P : Nat → Prop) (n : Nat) (s : CSt) (w : World) (h : Chunks w g P n s) :
    Calls Try.prog 18 #[.pointer (some ⟨g, 0, none⟩)] w fun e w' => e = .returned (.int .i64 s.size) ∧ w = w' := by
  obtain ⟨L, By, fl, fb, h⟩ := h
  have hc3 : w.cell? ⟨g, 3, none⟩ = some (.int .i64 s.size) := h.blk.cell 3
  go_enter Try.func18, Try.ntmps18
  go_wp2
  go_ret
  exact ⟨rfl, rfl⟩
set_option maxHeartbeats 1000000 in
theorem chunk_next (g : Nat) (P : Nat → Prop) (n : Nat) (s : CSt) (w : World) (h : Chunks w g P n s) :
    Calls Try.prog 36 #[.pointer (some ⟨g, 0, none⟩)] w fun e w' => e = .returned (.int .i64 s.next) ∧ w = w' := by
  obtain ⟨L, By, fl, fb, h⟩ := h
  have hc2 : w.cell? ⟨g, 2, none⟩ = some (.int .i64 s.next) := h.blk.cell 2
  go_enter Try.func36, Try.ntmps36
  go_wp2
  go_ret
  exact ⟨rfl, rfl⟩
set_option maxHeartbeats 1000000 in
theorem chunk_may (A : Option Addr) (m c : Nat) (hm : m ≤ 9223372036854775807) (w : World) :
    Calls Try.prog 40 #[.slice A m c] w fun e w' => e = .returned (.bool (decide (1 ≤ m ∧ m ≤ 64))) ∧ w = w' := by
  go_enter Try.func40, Try.ntmps40
  go_wp2
  all_goals go_ret
  all_goals refine ⟨ret_bool ?_, rfl⟩
  all_goals (rw [Bool.eq_iff_iff]; simp only [decide_eq_true_eq, Bool.and_eq_true, Bool.false_eq_true, false_iff]; omega)

/-- the number that a text has -/
def findId (s : CSt) (b : List UInt8) : Option Int := (s.ids (ck b)).find? fun id => (s.l id).getD [] == b
def FindPost (w : World) (r : Option Int) (e : Ending) (w' : World) : Prop := e = .returned (.tuple #[.int .i64 (r.getD 0), .bool r.isSome]) ∧ Below w.heap.size w w'
theorem find_take (l : List Int) (p : Int → Bool) (k : Nat) (hk : k < l.length) (h : (l.take k).find? p = none) : (p l[k] = true → l.find? p = some l[k]) ∧ (p l[k] = false → (l.take (k + 1)).find? p = none) := by
  have e : l = l.take k ++ l[k] :: l.drop (k + 1) := by rw [← List.drop_eq_getElem_cons hk, List.take_append_drop]
  constructor
  · intro hp
    have h2 : (l.take k ++ l[k] :: l.drop (k + 1)).find? p = some l[k] := by
      rw [List.find?_append, h, List.find?_cons, hp]
      rfl
    rw [← e] at h2
    exact h2
  · intro hp
    rw [List.take_succ_eq_append_getElem hk, List.find?_append, h]
    simp [hp]
set_option maxHeartbeats 2000000 in
theorem chunk_find (g : Nat) (P : Nat → Prop) (n : Nat) (s : CSt) (A : Option Addr) (m c : Nat) (b : List UInt8) (w : World) (hm : b.length = m) (hr : RB w A b) (hl : b.length ≤ 1000000) (h : Chunks w g P n s) (hids : ∀ id ∈ s.ids (ck b), -9223372036854775808 ≤ id ∧ id ≤ 9223372036854775807) :
    Calls Try.prog 41 #[.pointer (some ⟨g, 0, none⟩), .slice A m c] w (FindPost w (findId s b)) := by
  subst hm
  obtain ⟨L, By, fl, fb, h⟩ := h
  have HB := Lib.hid fun W (hb : Below w.heap.size w W) => look_b1 ((h.mb.below hb)) b
  have hC1 : Hid (∀ W, Below w.heap.size w W → W.cell? ⟨g, 1, none⟩ = some (.map (some By)) ∧ W.cell? ⟨g, 0, none⟩ = some (.map (some L))) := fun W hb => ⟨(h.blk.below hb).cell 1, (h.blk.below hb).cell 0⟩
  have HLK : Hid (∀ W id, Below w.heap.size w W → -9223372036854775808 ≤ id → id ≤ 9223372036854775807 → ∃ A2 c2 b2, b2 = (s.l id).getD [] ∧ (Instr.lookup 88 (.map (some L)) (.int .i64 id) false).run Try.prog W = .ok (.slice A2 b2.length c2) W ∧ RB W A2 b2) := fun W id hb h0 h1 => by
    obtain ⟨A2, c2, e1, hr2, _⟩ := h.val id
    exact ⟨A2, c2, _, rfl, by rw [← e1]; exact look_l1 (h.ml.below hb) h0 h1, hr2.below hb⟩
  obtain ⟨hrow, _⟩ := h.row (ck b)
  obtain ⟨Ar, cr, er, hcr, hrr, _⟩ := hrow.read
  rw [er] at HB
  have hidl : ((s.ids (ck b)).map (Value.int .i64)).length = (s.ids (ck b)).length := List.length_map _
  rw [hidl] at HB
  have hcl : (s.ids (ck b)).length ≤ 9223372036854775807 := by
    rcases hrow.2 with ⟨_, h0⟩ | ⟨_, cap, _, _, _, _, h1, h2, _⟩
    · simp at h0; rw [h0]; simp
    · unfold maxLen at h2; rw [hidl] at h1; omega
  have HS := Lib.hid fun W (hb : Below w.heap.size w W) => crc_sum A b.length c b W rfl (by unfold maxLen; omega) (hr.below hb)
  have HEQ := Lib.hid fun W (A2 : Option Addr) (c2 : Nat) (b2 : List UInt8) (hb : Below w.heap.size w W) (h2 : RB W A2 b2) => bytes_equal A2 b2.length c2 b2 A b.length c b W rfl h2 rfl (hr.below hb)
  have HIDS := Lib.hid hids
  have HRR := Lib.hid hrr
  generalize hids0 : s.ids (ck b) = ids at *
  have HFI : Hid (findId s b = ids.find? fun id => (s.l id).getD [] == b) := Lib.hid (by unfold findId; rw [hids0])
  clear hids0 hidl hrow er hrr hids h hr hcr
  have HCK : Hid (((Crc.next 0#32 b).toNat : Int) = ck b) := rfl
  generalize ck b = key at *
  have hk := bdr (Below.refl w.heap.size w)
  go_enter Try.func41, Try.ntmps41
  go_wp2
  go_region_held_law (fun W => Below w.heap.size w W ∧ W.cell? ⟨g, 1, none⟩ = some (.map (some By)) ∧ (Instr.lookup 89 (.map (some By)) (.int .u32 key) false).run Try.prog W = .ok (.slice Ar ids.length cr) W) (exact ⟨hk, (hC1.out _ hk).1, HB.out _ hk⟩) (first
    | (go_at_call 60; (with_reducible refine (HS.out _ hk).mono ?_); rintro e w' ⟨rfl, hb'⟩; rw [HCK.out]; replace hk := bn hk hb'; clear hb'))
  clear HS HB HCK
  rename_i w1 _
  go_wp2
  have HKW := Lib.hid hk
  clear hk
  go_loopw [16] (fun i wr => ∃ k : Nat, k ≤ ids.length ∧ i = .int .i64 (k : Int) ∧ Hid ((ids.take k).find? (fun id => (s.l id).getD [] == b) = none) ∧ Below w.heap.size w wr) (fun i _ => ids.length - (intOf i).toNat)
  case atStart => exact ⟨0, Nat.zero_le _, rfl, rfl, HKW.out⟩
  case round =>
    clear HKW
    obtain ⟨k, hkl, rfl, hnone, hk⟩ := hrel
    by_cases hlt : k < ids.length
    · have hft := find_take ids _ k hlt hnone.out
      obtain ⟨b0, b1⟩ := HIDS.out _ (List.getElem_mem hlt)
      obtain ⟨ad, rfl, hcell⟩ := (HRR.out.below hk) k (.int .i64 ids[k]) (by simp [hlt])
      have i0 : (0 : Int) ≤ (k : Int) := by omega
      have i1 : (k : Int) < (ids.length : Int) := by omega
      generalize ids[k] = id at *
      obtain ⟨A2, c2, b2, e2, hlk, hr2⟩ := HLK.out wr id hk b0 b1
      obtain ⟨x1, x0⟩ := hC1.out _ hk
      rw [← e2] at hft
      have HFT := Lib.hid hft
      have HE2 := Lib.hid e2
      clear hft e2 x1 b0 b1
      cases hq : (b2 == b) with
      | true =>
        have HQ := Lib.hid hq
        clear hq
        go_wp2_with fail
        (with_reducible refine (HEQ.out _ _ _ _ hk hr2).mono ?_)
        rintro e _ ⟨rfl, rfl⟩
        rw [HQ.out]
        go_wp2
        go_ret2
        have hfin := HFT.out.1 HQ.out
        exact ⟨by rw [HFI.out, hfin]; rfl, hk⟩
      | false =>
        have HQ := Lib.hid hq
        clear hq
        go_wp2_with fail
        (with_reducible refine (HEQ.out _ _ _ _ hk hr2).mono ?_)
        rintro e _ ⟨rfl, rfl⟩
        rw [HQ.out]
        have hn := Lib.hid (HFT.out.2 HQ.out)
        clear HFT
        go_wp2
        go_roundw
        case rel => exact ⟨k + 1, by omega, by go_num, hn, hk⟩
        case measure => simp [intOf]; try omega
    · obtain rfl : k = ids.length := by omega
      rw [List.take_length] at hnone
      go_wp2
      go_ret2
      exact ⟨by rw [HFI.out, hnone.out]; rfl, hk⟩
end Go.Proofs.Ytpnfgnddlfkfaaa
