/-
  super.log, super.plain.
-/
import Derived.Test.YtangfnenfhkokaaSupA
import Derived.Test.YtangfnenfhkokaaCopy
import Derived.Lib.SmallJoins
set_option linter.unusedSimpArgs false
set_option linter.unusedVariables false
namespace Go.Proofs.Ytangfnenfhkokaa
open Go.RowKit Go.Maps

def sb (s : Int) : UInt8 := UInt8.ofNat (s % 256).toNat
theorem sb_nat (s : Int) : ((sb s).toNat : Int) = s % 256 := by
  unfold sb
  have h0 := Int.emod_nonneg s (b := 256) (by omega)
  have h1 := Int.emod_lt_of_pos s (b := 256) (by omega)
  rw [UInt8.toNat_ofNat']
  omega
/-- a log as bytes -/
def logB (l : SLog) : List UInt8 := num l.segs.length ++ l.segs.map sb ++ num l.len.toNat ++ four l.last
theorem four_len (c : Crc.W) : (four c).length = 4 := rfl
def LogPost (g : Nat) (R : Nat → Prop) (p : List UInt8) (l : SLog) (w : World) (e : Ending) (w' : World) : Prop := e = .returned (.tuple #[]) ∧ PenTo w g R (p ++ logB l) w'
set_option maxRecDepth 100000 in
set_option maxHeartbeats 4000000 in
theorem super_log (g : Nat) (R : Nat → Prop) (p : List UInt8) (l : SLog) (A : Option Addr) (c : Nat) (w : World) (hp : PenR w g R p) (hr : Rd w A (l.segs.map ei)) (hw : ∀ x ∈ l.segs, wide x) (hlw : wide l.len) (hR : ∀ k, R k → k < w.heap.size) (hA : ∀ ad, A = some ad → ad.block < w.heap.size ∧ ¬ (ad.block = g ∨ R ad.block))
    (hl : p.length + l.segs.length < 1000000000) :
    Calls Try.prog 101 #[.pointer (some ⟨g, 0, none⟩), logV l A c] w (LogPost g R p l w) := by
  obtain ⟨l, ln, la⟩ := l
  unfold logV
  unfold wide at hlw
  simp only at hr hw hl hlw ⊢
  have hglt := hp.lt
  have hF : ¬ (w.heap.size = g ∨ R w.heap.size) := by
    rintro (h | h)
    · omega
    · exact Nat.lt_irrefl _ (hR _ h)
  have HN1 := num_10 l.length (by omega)
  have HN2 := num_10 ln.toNat (by omega)
  have b1 := bal (Below.refl w.heap.size w) (.cells #[.slice A l.length c, .int .i64 ln, .int .u32 (la.toNat : Int)] 38)
  have hB := Blk.new w 38 #[.slice A l.length c, .int .i64 ln, .int .u32 (la.toNat : Int)]
  have hp1 := PenTo.refl (hp.keep b1)
  have hr1 := hr.below b1
  go_enter Try.func101, Try.ntmps101
  go_wp2_with fail
  generalize (w.alloc (.cells #[.slice A l.length c, .int .i64 ln, .int .u32 (la.toNat : Int)] 38)) = W1 at *
  have HB1 := Lib.hid b1
  clear b1 hp hr
  refine (pen_numR g _ _ _ (by omega) (by omega) W1 hp1.pen (by omega)).mono ?_
  rintro e w2 ⟨rfl, h2⟩
  have hp2 := hp1.step h2
  simp only [show ((l.length : Nat) : Int).toNat = l.length by omega] at hp2
  have hB2 := hB.kp hp2.kp hF
  have y0 : w2.cell? ⟨w.heap.size, 0, none⟩ = some (.slice A l.length c) := hB2.cell 0
  clear h2 hp1
  go_wp2_with fail
  go_loopw [16] (fun i wr => ∃ k : Nat, k ≤ l.length ∧ i = .int .i64 (k : Int) ∧ PenTo W1 g R (p ++ num l.length ++ (l.take k).map sb) wr) (fun i _ => l.length - (intOf i).toNat)
  case atStart => exact ⟨0, Nat.zero_le _, rfl, by simpa using hp2⟩
  case round =>
    obtain ⟨k, hk, rfl, hpk⟩ := hrel
    have hBk := hB.kp hpk.kp hF
    by_cases hlt : k < l.length
    · have hrk := hr1.kp hpk.kp (fun ad e => (hA ad e).2)
      obtain ⟨ad, rfl⟩ := hrk.some_of (by intro e; have := congrArg List.length e; simp at this; subst this; simp at hlt)
      have x0 := hrk.at_ k (by simpa using hlt)
      rw [List.getElem_map] at x0
      unfold ei at x0
      obtain ⟨q1, q2⟩ := hw l[k] (List.getElem_mem hlt)
      have hst : p ++ num l.length ++ (l.take k).map sb ++ [sb l[k]] = p ++ num l.length ++ (l.take (k + 1)).map sb := by
        rw [List.take_succ_eq_append_getElem hlt, List.map_append, List.append_assoc]; rfl
      obtain ⟨x, hx⟩ : ∃ x, l[k] = x := ⟨_, rfl⟩
      rw [hx] at x0 q1 q2 hst
      have HST := Lib.hid hst
      clear hst hx
      go_wp2_with fail
      refine (pen_byteR g _ _ (sb x) _ (sb_nat x).symm wr hpk.pen (by simp only [List.length_append, List.length_map, List.length_take]; omega)).mono ?_
      rintro e w3 ⟨rfl, h3⟩
      have hp3 := hpk.step h3
      rw [HST.out] at hp3
      go_wp2
      go_roundw
      case rel => exact ⟨k + 1, by omega, by go_num, hp3⟩
      case measure => simp [intOf]; try omega
    · obtain rfl : k = l.length := by omega
      rw [List.take_length] at hpk
      have x1 : wr.cell? ⟨w.heap.size, 1, none⟩ = some (.int .i64 ln) := hBk.cell 1
      clear hp2 hB2 y0
      go_wp2_with fail
      refine (pen_numR g _ _ ln hlw.1 hlw.2 wr hpk.pen (by simp only [List.length_append, List.length_map]; omega)).mono ?_
      rintro e w4 ⟨rfl, h4⟩
      have hp4 := hpk.step h4
      have hB4 := hB.kp hp4.kp hF
      have x2 : w4.cell? ⟨w.heap.size, 2, none⟩ = some (.int .u32 (la.toNat : Int)) := hB4.cell 2
      clear h4 hpk hBk x1
      go_wp2_with fail
      refine (crc_bytes la _ rfl w4).mono ?_
      rintro e w5 ⟨v5, rfl, ho5, hb5⟩
      obtain ⟨A5, c5, rfl, -, hr5, hA5⟩ := ho5.read
      have hlg : logB ⟨l, ln, la⟩ = num l.length ++ l.map sb ++ num ln.toNat ++ four la := rfl
      have hfl4 := four_len la
      generalize four la = fl at *
      have HLG := Lib.hid hlg
      have HFL : Hid (fl.length = 4) := Lib.hid hfl4
      clear hlg
      rw [List.length_map, hfl4]
      clear hfl4
      have hlt4 : ∀ k, k < 4 → k < fl.length := fun k hk => by have := HFL.out; omega
      have hp5 := PenTo.refl (hp4.pen.keep hb5)
      have hglt4 := hp4.pen.lt
      clear ho5
      go_wp2_with fail
      obtain ⟨wo, rfl⟩ : ∃ wo : World, wo = wr := ⟨_, rfl⟩
      go_loopw [33] (fun i wr => ∃ k : Nat, k ≤ 4 ∧ i = .int .i64 (k : Int) ∧ PenTo w5 g (fun k => R k ∨ (W1.heap.size ≤ k ∧ k < w4.heap.size)) (p ++ num l.length ++ l.map sb ++ num ln.toNat ++ fl.take k) wr) (fun i _ => 4 - (intOf i).toNat)
      case atStart => exact ⟨0, by omega, rfl, by simpa using hp5⟩
      case round =>
        obtain ⟨k, hk, rfl, hpk⟩ := hrel
        by_cases hlt : k < 4
        · have hrk : RB wr A5 fl := hr5.kp hpk.kp (fun ad e => by
            have := hA5 ad e
            rintro (h | h | h)
            · omega
            · have := hR _ h; have := HB1.out.size; have := hp4.kp.size; omega
            · omega)
          obtain ⟨ad, rfl⟩ := hrk.some_of (by rw [HFL.out]; omega)
          have x0 := hrk.at_ k (by rw [HFL.out]; omega)
          have hst : p ++ num l.length ++ l.map sb ++ num ln.toNat ++ fl.take k ++ [fl[k]'(hlt4 k hlt)] = p ++ num l.length ++ l.map sb ++ num ln.toNat ++ fl.take (k + 1) := by
            rw [List.take_succ_eq_append_getElem (by rw [HFL.out]; omega), List.append_assoc]
          obtain ⟨x, hx⟩ : ∃ x, fl[k]'(hlt4 k hlt) = x := ⟨_, rfl⟩
          rw [hx] at x0 hst
          have HST := Lib.hid hst
          clear hst hx
          go_wp2_with fail
          refine (pen_byteR g _ _ x _ rfl wr hpk.pen (by simp only [List.length_append, List.length_map, List.length_take, HFL.out]; omega)).mono ?_
          rintro e w6 ⟨rfl, h6⟩
          have hp6 := hpk.step h6
          rw [HST.out] at hp6
          go_wp2
          go_roundw
          case rel => exact ⟨k + 1, by omega, by go_num, hp6⟩
          case measure => simp [intOf]; try omega
        · obtain rfl : k = 4 := by omega
          have hfin : p ++ num l.length ++ l.map sb ++ num ln.toNat ++ fl.take 4 = p ++ logB ⟨l, ln, la⟩ := by
            rw [HLG.out, List.take_of_length_le (by rw [HFL.out]; omega)]; simp only [List.append_assoc]
          rw [hfin] at hpk
          go_wp2
          refine bodyPost_ret (results_none (by kernel_rfl) _ _ _) rfl ?_
          exact ⟨rfl, (hp4.step (hpk.ahead hb5)).ahead HB1.out⟩
def penB (s : Sup) : List UInt8 := [84, 82] ++ num s.number.toNat ++ num s.boot.toNat ++ logB s.jour ++ logB s.chunks
def midB (s : Sup) : List UInt8 := penB s ++ List.replicate (220 - (penB s).length) 0
def plainB (s : Sup) : List UInt8 := midB s ++ four (Crc.next 0#32 (midB s))
theorem midB_len (s : Sup) (h : (penB s).length ≤ 220) : (midB s).length = 220 := by unfold midB; rw [List.length_append, List.length_replicate]; omega
theorem plainB_len (s : Sup) (h : (penB s).length ≤ 220) : (plainB s).length = 224 := by unfold plainB; rw [List.length_append, midB_len s h, four_len]
def zerosA (n : Nat) : Array Value := Array.replicate n (.int .u8 0)
theorem make_lc' (n m : Nat) (h : n ≤ m) (hm : m ≤ 100000) (W : World) : (Instr.makeSlice 42 (.int .i64 (n : Int)) (.int .i64 (m : Int))).run Try.prog W = .ok (.slice (some ⟨W.heap.size, 0, none⟩) n m) (W.alloc (.cells (zerosA m) 5)) := by
  obtain ⟨i, hii, hzi, hsize, hby⟩ := info_parts info_u8
  have h := run_make (P := Try.prog) W 42 5 i (.int .u8 0) Try.underlying42 hii hzi .i64 .i64 (n : Int) (m : Int) (by omega) (by omega) (by rw [hby]; omega) (by omega)
  have e1 : ((n : Int)).toNat = n := by omega
  have e2 : ((m : Int)).toNat = m := by omega
  have e3 : madeCells (Value.int IntKind.u8 0).cells m = zerosA m := by
    unfold zerosA
    apply Array.toList_inj.1
    have : (Value.int IntKind.u8 0).cells = #[Value.int .u8 0] := rfl
    rw [this, toList_madeCells_one]
    simp
  rw [h, hsize, Nat.mul_one, e1, e2, e3]
theorem make_lc (W : World) : (Instr.makeSlice 42 (.int .i64 220) (.int .i64 224)).run Try.prog W = .ok (.slice (some ⟨W.heap.size, 0, none⟩) 220 224) (W.alloc (.cells (zerosA 224) 5)) :=
  make_lc' 220 224 (by omega) (by omega) W
theorem own_lc (n m : Nat) (h : n ≤ m) (hm : m ≤ 100000) (W : World) (B : Nat) (hB : B ≤ W.heap.size) : Own (W.alloc (.cells (zerosA m) 5)) B 5 (.slice (some ⟨W.heap.size, 0, none⟩) n m) ((List.replicate n (0 : UInt8)).map eb) := by
  refine ⟨by rw [List.length_map, List.length_replicate, Nat.mul_one], .inr ⟨W.heap.size, m, zerosA m, by rw [List.length_map, List.length_replicate], hB, heap_alloc_new _ _, by rw [List.length_map, List.length_replicate]; omega, by unfold maxLen; omega, by unfold zerosA; rw [Array.size_replicate, Nat.mul_one], ?_⟩⟩
  unfold zerosA
  rw [List.length_map, List.length_replicate, List.map_replicate, Array.toList_replicate, List.take_replicate, Nat.mul_one, Nat.min_eq_left h]
  rfl
def PlainPost (s : Sup) (w : World) (e : Ending) (w' : World) : Prop := ∃ v, e = .returned v ∧ Own w' w.heap.size 5 v ((plainB s).map eb) ∧ Below w.heap.size w w'
theorem lay_zeros (s : Sup) (h : (penB s).length ≤ 220) : lay (List.replicate 220 0) 0 (penB s) = midB s := by
  unfold lay midB
  rw [List.take_zero, List.nil_append, Nat.zero_add, List.drop_replicate]
set_option maxRecDepth 100000 in
set_option maxHeartbeats 4000000 in
theorem super_plain (s : Sup) (A : Option Addr) (c : Nat) (A2 : Option Addr) (c2 : Nat) (w : World) (h1 : Rd w A (s.jour.segs.map ei)) (h2 : Rd w A2 (s.chunks.segs.map ei)) (hw1 : ∀ x ∈ s.jour.segs, wide x) (hw2 : ∀ x ∈ s.chunks.segs, wide x)
    (hA : ∀ ad, A = some ad → ad.block < w.heap.size) (hA2 : ∀ ad, A2 = some ad → ad.block < w.heap.size) (hn : wide s.number) (hb : wide s.boot) (hl1 : wide s.jour.len) (hl2 : wide s.chunks.len) (hlen : (penB s).length ≤ 220) :
    Calls Try.prog 86 #[supV s A c A2 c2] w (PlainPost s w) := by
  have hlz := lay_zeros s hlen
  have hml := midB_len s hlen
  have hpl := plainB_len s hlen
  have hpp : plainB s = midB s ++ four (Crc.next 0#32 (midB s)) := rfl
  unfold PlainPost
  obtain ⟨P, hP⟩ : ∃ P, penB s = P := ⟨_, rfl⟩
  obtain ⟨nu, bo, J, C⟩ := s
  have hPP : P = [84, 82] ++ num nu.toNat ++ num bo.toNat ++ logB J ++ logB C := hP.symm
  rw [hP] at hlz hlen
  have hJl : J.segs.length ≤ 220 := by
    rw [hPP] at hlen; unfold logB at hlen; simp only [List.length_append, List.length_map] at hlen; omega
  have hCl : C.segs.length ≤ 220 := by
    rw [hPP] at hlen; unfold logB at hlen; simp only [List.length_append, List.length_map] at hlen; omega
  have hLJ := congrArg List.length hPP
  simp only [List.length_append] at hLJ
  generalize hm0 : midB ⟨nu, bo, J, C⟩ = MB at *
  generalize hm1 : plainB ⟨nu, bo, J, C⟩ = PB at *
  have HPP := Lib.hid hPP
  have HLZ := Lib.hid hlz
  have HPB := Lib.hid hpp
  have HLJ := Lib.hid hLJ
  have HML := Lib.hid hml
  clear hm0 hm1 hP hPP hlz hpp hLJ hpl
  obtain ⟨l1, n1, s1⟩ := J
  obtain ⟨l2, n2, s2⟩ := C
  unfold supV
  simp only at h1 h2 hw1 hw2 hJl hCl hn hb hl1 hl2 ⊢
  have b1 := bal (Below.refl _ w) (.cells #[.int .i64 nu, .int .i64 bo, .slice A l1.length c, .int .i64 n1, .int .u32 (s1.toNat : Int), .slice A2 l2.length c2, .int .i64 n2, .int .u32 (s2.toNat : Int)] 68)
  have B1 := Blk.new w 68 #[.int .i64 nu, .int .i64 bo, .slice A l1.length c, .int .i64 n1, .int .u32 (s1.toNat : Int), .slice A2 l2.length c2, .int .i64 n2, .int .u32 (s2.toNat : Int)]
  have z1 := size_more' w (.cells #[.int .i64 nu, .int .i64 bo, .slice A l1.length c, .int .i64 n1, .int .u32 (s1.toNat : Int), .slice A2 l2.length c2, .int .i64 n2, .int .u32 (s2.toNat : Int)] 68)
  have kc := Joins.run_convert_bytes_const_at (P := Try.prog) ((w.alloc (.cells #[.int .i64 nu, .int .i64 bo, .slice A l1.length c, .int .i64 n1, .int .u32 (s1.toNat : Int), .slice A2 l2.length c2, .int .i64 n2, .int .u32 (s2.toNat : Int)] 68)).alloc (.cells #[.slice none 0 0] 144)) 42 5 #[.int .u8 84, .int .u8 82] 2 2 (w.heap.size + 1 + 1) (by simp) Try.underlying42 Try.underlying5
  go_enter Try.func86, Try.ntmps86
  go_wp2_with fail
  have b2 := bal b1 (.cells #[.slice none 0 0] 144)
  have b3 := bal b2 (.cells #[.int .u8 84, .int .u8 82] 5 (2, 3))
  have P2 := Blk.new (w.alloc (.cells #[.int .i64 nu, .int .i64 bo, .slice A l1.length c, .int .i64 n1, .int .u32 (s1.toNat : Int), .slice A2 l2.length c2, .int .i64 n2, .int .u32 (s2.toNat : Int)] 68)) 144 #[.slice none 0 0]
  rw [z1] at P2
  have P3 := P2.below (bal (Below.refl _ _) (.cells #[.int .u8 84, .int .u8 82] 5 (2, 3)))
  have B3 := (B1.below (bal (Below.refl _ _) (.cells #[.slice none 0 0] 144))).below (bal (Below.refl _ _) (.cells #[.int .u8 84, .int .u8 82] 5 (2, 3)))
  have L3 := RB.lit ((w.alloc (.cells #[.int .i64 nu, .int .i64 bo, .slice A l1.length c, .int .i64 n1, .int .u32 (s1.toNat : Int), .slice A2 l2.length c2, .int .i64 n2, .int .u32 (s2.toNat : Int)] 68)).alloc (.cells #[.slice none 0 0] 144)) 5 (2, 3) [84, 82] #[.int .u8 84, .int .u8 82] rfl
  have z2 := size_more' (w.alloc (.cells #[.int .i64 nu, .int .i64 bo, .slice A l1.length c, .int .i64 n1, .int .u32 (s1.toNat : Int), .slice A2 l2.length c2, .int .i64 n2, .int .u32 (s2.toNat : Int)] 68)) (.cells #[.slice none 0 0] 144)
  have z3 := size_more' ((w.alloc (.cells #[.int .i64 nu, .int .i64 bo, .slice A l1.length c, .int .i64 n1, .int .u32 (s1.toNat : Int), .slice A2 l2.length c2, .int .i64 n2, .int .u32 (s2.toNat : Int)] 68)).alloc (.cells #[.slice none 0 0] 144)) (.cells #[.int .u8 84, .int .u8 82] 5 (2, 3))
  rw [z2, z1] at L3 z3
  have hp3 : PenR (((w.alloc (.cells #[.int .i64 nu, .int .i64 bo, .slice A l1.length c, .int .i64 n1, .int .u32 (s1.toNat : Int), .slice A2 l2.length c2, .int .i64 n2, .int .u32 (s2.toNat : Int)] 68)).alloc (.cells #[.slice none 0 0] 144)).alloc (.cells #[.int .u8 84, .int .u8 82] 5 (2, 3))) (w.heap.size + 1) (fun _ => False) [] := ⟨_, P3, Own.nil _ _ _, fun r e => by cases e⟩
  clear kc b1 b2 z1 z2 P2 P3 B1
  generalize (((w.alloc (.cells #[.int .i64 nu, .int .i64 bo, .slice A l1.length c, .int .i64 n1, .int .u32 (s1.toNat : Int), .slice A2 l2.length c2, .int .i64 n2, .int .u32 (s2.toNat : Int)] 68)).alloc (.cells #[.slice none 0 0] 144)).alloc (.cells #[.int .u8 84, .int .u8 82] 5 (2, 3))) = W3 at *
  have HZ3 := Lib.hid z3
  have HB3 := Lib.hid b3
  clear z3
  have h1 := h1.below b3
  have h2 := h2.below b3
  have hp3 := PenTo.refl hp3
  go_loopw [12] (fun i wr => ∃ k : Nat, k ≤ 2 ∧ i = .int .i64 (k : Int) ∧ PenTo W3 (w.heap.size + 1) (fun _ => False) (([84, 82] : List UInt8).take k) wr) (fun i _ => 2 - (intOf i).toNat)
  case atStart => exact ⟨0, by omega, rfl, hp3⟩
  case round =>
    obtain ⟨k, hk, rfl, hpk⟩ := hrel
    by_cases hlt : k < 2
    · have hrk : RB wr (some ⟨w.heap.size + 1 + 1, 0, none⟩) [84, 82] := L3.kp hpk.kp (fun ad e => by cases e; simp)
      have x0 := hrk.at_ k hlt
      have hst : ([84, 82] : List UInt8).take k ++ [([84, 82] : List UInt8)[k]] = ([84, 82] : List UInt8).take (k + 1) := by
        rw [List.take_succ_eq_append_getElem hlt]
      obtain ⟨x, hx⟩ : ∃ x, ([84, 82] : List UInt8)[k] = x := ⟨_, rfl⟩
      rw [hx] at x0 hst
      have HST := Lib.hid hst
      rw [add_zero_lit] at x0
      clear hst hx
      go_wp2_with fail
      refine (pen_byteR _ _ _ x _ rfl wr hpk.pen (by simp only [List.length_take, List.length_cons, List.length_nil]; omega)).mono ?_
      rintro e w6 ⟨rfl, h6⟩
      have hp6 := hpk.step h6
      rw [HST.out] at hp6
      go_wp2
      go_roundw
      case rel => exact ⟨k + 1, by omega, by go_num, hp6⟩
      case measure => simp [intOf]; try omega
    · obtain rfl : k = 2 := by omega
      have HL := HLJ.out
      have hl2' : ([84, 82] : List UInt8).length = 2 := rfl
      rw [hl2'] at HL
      have hF : ¬ (w.heap.size = w.heap.size + 1 ∨ False) := by rintro (q | q) <;> omega
      have hBk := B3.kp hpk.kp hF
      have x0 : wr.cell? ⟨w.heap.size, 0, none⟩ = some (.int .i64 nu) := hBk.cell 0
      rw [show ([84, 82] : List UInt8).take 2 = [84, 82] from rfl] at hpk
      go_wp2_with fail
      refine (pen_numR _ _ _ nu hn.1 hn.2 wr hpk.pen (by simp only [List.length_cons, List.length_nil]; omega)).mono ?_
      rintro e w2 ⟨rfl, h⟩
      have hp2 := hpk.step h
      have hB2 := B3.kp hp2.kp hF
      have x1 : w2.cell? ⟨w.heap.size, 1, none⟩ = some (.int .i64 bo) := hB2.cell 1
      clear h hpk hBk x0
      go_wp2_with fail
      refine (pen_numR _ _ _ bo hb.1 hb.2 w2 hp2.pen (by simp only [List.length_append, hl2']; omega)).mono ?_
      rintro e w4 ⟨rfl, h⟩
      have hp4 := hp2.step h
      have hB4 := B3.kp hp4.kp hF
      have x2 : w4.cell? ⟨w.heap.size, 2, none⟩ = some (.slice A l1.length c) := hB4.cell 2
      have x3 : w4.cell? ⟨w.heap.size, 3, none⟩ = some (.int .i64 n1) := hB4.cell 3
      have x4 : w4.cell? ⟨w.heap.size, 4, none⟩ = some (.int .u32 (s1.toNat : Int)) := hB4.cell 4
      clear h hp2 hB2 x1
      go_wp2_with fail
      refine (super_log _ _ _ ⟨l1, n1, s1⟩ A c w4 hp4.pen (h1.kp hp4.kp fun ad e => by have := hA ad e; rintro (q | q) <;> omega) hw1 hl1 (fun k hk => by rcases hk with q | q; exact q.elim; exact q.2) (fun ad e => by have := hA ad e; have := HZ3.out; have := hp4.kp.size; exact ⟨by omega, by rintro (q | q | q) <;> omega⟩) (by simp only [List.length_append, hl2']; omega)).mono ?_
      rintro e w5 ⟨rfl, h⟩
      have hp5 := hp4.step h
      have hB5 := B3.kp hp5.kp hF
      have x5 : w5.cell? ⟨w.heap.size, 5, none⟩ = some (.slice A2 l2.length c2) := hB5.cell 5
      have x6 : w5.cell? ⟨w.heap.size, 6, none⟩ = some (.int .i64 n2) := hB5.cell 6
      have x7 : w5.cell? ⟨w.heap.size, 7, none⟩ = some (.int .u32 (s2.toNat : Int)) := hB5.cell 7
      clear h hp4 hB4 x2 x3 x4
      go_wp2_with fail
      refine (super_log _ _ _ ⟨l2, n2, s2⟩ A2 c2 w5 hp5.pen (h2.kp hp5.kp fun ad e => by have := hA2 ad e; rintro (q | q) <;> omega) hw2 hl2 (fun k hk => by rcases hk with q | q; exact q.elim; exact q.2) (fun ad e => by have := hA2 ad e; have := HZ3.out; have := hp5.kp.size; exact ⟨by omega, by rintro (q | q | q) <;> omega⟩) (by simp only [List.length_append, hl2']; omega)).mono ?_
      rintro e w7 ⟨rfl, h⟩
      have hp7 := hp5.step h
      rw [← HPP.out] at hp7
      have hb7 : Below w.heap.size w w7 := HB3.out.trans (hp7.kp.below (by have := HZ3.out; omega) fun k hk => by rcases hk with q | q; omega; exact q.elim)
      have hs7 := hb7.size
      have hmk := make_lc w7
      have ho := own_lc 220 224 (by omega) (by omega) w7 w.heap.size hs7
      have hp8 := hp7.pen.keep (bal (Below.refl _ _) (.cells (zerosA 224) 5))
      have hb8 := hb7.alloc hs7 (.cells (zerosA 224) 5)
      have hz8 := size_more' w7 (.cells (zerosA 224) 5)
      clear h hp5 hB5 x5 x6 x7 hb7 hp7 HL hl2'
      go_wp2_with fail
      generalize (w7.alloc (.cells (zerosA 224) 5)) = W8 at *
      refine (pen_bytes _ 0 P W8 (hp8.at_ fun k _ => Nat.zero_le _) (by omega)).mono ?_
      rintro e w9 ⟨v9, rfl, ho9, hb9⟩
      obtain ⟨A9, c9, rfl, -, hr9, hA9⟩ := ho9.read
      rw [List.length_map]
      have hoc := ho.below hb9
      have hb10 := hb8.trans (hb9.mono (by rw [hz8]; omega))
      have HCP := Lib.hid (copy_own hoc 0 (some ⟨w7.heap.size, 0, none⟩) A9 220 224 P.length c9 P (by show P.length = min P.length 220; omega) hr9 (fun _ => ⟨_, rfl, rfl⟩) (by rw [List.length_replicate]; omega) 3)
      rw [HLZ.out] at HCP
      clear ho9 ho hp8 hoc hmk
      have hs9 := hb9.size
      go_wp2_with (refine wpList_copy_ex rfl (.tmp 37) (.tmp 39) 42 42 rfl _ _ rfl rfl P.length HCP.out ?_; rintro w10 ⟨ho10, hk10, hz10⟩)
      have hb11 := hb10.trans (hk10.below (B := w.heap.size) (by omega) fun j e => by
        have : w7.heap.size = j := by simpa [Value.ownBlock] using e
        omega)
      have hr10 := ho10.read_at
      have hml := HML.out
      go_wp2_with fail
      refine (crc_sum (some ⟨w7.heap.size, 0, none⟩) 220 224 MB w10 hml (by rw [hml]; unfold maxLen; omega) hr10).mono ?_
      rintro e w11 ⟨rfl, hb12⟩
      have ho11 := ho10.below hb12
      have hb13 := hb11.trans (hb12.mono (by omega))
      have hs12 := hb12.size
      clear ho10 hr10 hb12
      go_wp2_with fail
      refine (crc_bytes _ _ rfl w11).mono ?_
      rintro e w12 ⟨v12, rfl, ho12, hb14⟩
      obtain ⟨A12, c12, rfl, -, hr12, -⟩ := ho12.read
      have hb15 := hb13.trans (hb14.mono (by omega))
      have hs14 := hb14.size
      obtain ⟨v13, w13, hrun, ho13, hb16, -⟩ := append_bytes w12 w.heap.size _ _ (ho11.below hb14) A12 4 c12 (four (Crc.next 0#32 MB)) rfl hr12 (by rw [hml, four_len]; omega) (by omega)
      rw [← HPB.out] at ho13
      have hb17 := hb15.trans hb16
      have HO := Lib.hid ho13
      clear ho12 ho11 ho13 hml hb16 hb15 hb14 hb13 hr12
      go_wp2_with (at_builtin; refine wpList_append_run rfl _ _ 42 42 rfl _ _ _ _ rfl rfl hrun.out ?_)
      go_ret
      exact ⟨_, rfl, HO.out, hb17⟩
end Go.Proofs.Ytangfnenfhkokaa
