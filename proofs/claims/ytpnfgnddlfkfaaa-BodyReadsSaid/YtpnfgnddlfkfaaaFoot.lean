/-
  Footprints: which blocks a call may turn. 'Kp F w w'': every block that was there and is not of F is as it was.
-/
import Derived.Test.YtpnfgnddlfkfaaaPenNum
import Derived.Maps.AppendAt
set_option linter.unusedSimpArgs false
set_option linter.unusedVariables false
namespace Go.Proofs.Ytpnfgnddlfkfaaa
open Go.RowKit

structure Kp (F : Nat → Prop) (w w' : World) : Prop where
  os : w'.os = w.os
  tape : w'.tape = w.tape
  output : w'.output = w.output
  size : w.heap.size ≤ w'.heap.size
  block : ∀ k, k < w.heap.size → ¬ F k → w'.heap[k]? = w.heap[k]?
theorem Kp.refl (F : Nat → Prop) (w : World) : Kp F w w := ⟨rfl, rfl, rfl, Nat.le_refl _, fun _ _ _ => rfl⟩
theorem Kp.of {F : Nat → Prop} {w w' : World} (h : Below w.heap.size w w') : Kp F w w' := ⟨h.os, h.tape, h.output, h.size, fun k hk _ => h.block k hk⟩
theorem Kp.mono {F G : Nat → Prop} {w w' : World} (h : Kp F w w') (hFG : ∀ k, k < w.heap.size → F k → G k) : Kp G w w' := ⟨h.os, h.tape, h.output, h.size, fun k hk hG => h.block k hk fun hF => hG (hFG k hk hF)⟩
/-- a second step may turn what the first one may, and what is new -/
theorem Kp.trans {F G : Nat → Prop} {a b c : World} (h : Kp F a b) (k : Kp G b c) (hG : ∀ i, i < a.heap.size → G i → F i) : Kp F a c :=
  ⟨k.os.trans h.os, k.tape.trans h.tape, k.output.trans h.output, Nat.le_trans h.size k.size, fun i hi hF => (k.block i (Nat.lt_of_lt_of_le hi h.size) fun hg => hF (hG i hi hg)).trans (h.block i hi hF)⟩
theorem Kp.below {F : Nat → Prop} {B : Nat} {w w' : World} (h : Kp F w w') (hB : B ≤ w.heap.size) (hF : ∀ k, F k → B ≤ k) : Below B w w' :=
  ⟨h.os, h.tape, h.output, h.size, fun k hk => h.block k (Nat.lt_of_lt_of_le hk hB) fun f => Nat.lt_irrefl _ (Nat.lt_of_lt_of_le hk (hF k f))⟩
theorem Kp.setCell {F : Nat → Prop} {a w : World} (h : Kp F a w) {g : Nat} (i : Nat) (u : Value) (hg : F g) : Kp F a (w.setCell ⟨g, i, none⟩ u) :=
  ⟨h.os, h.tape, h.output, by simpa [World.setCell] using h.size, fun k hk hF => (Below.heap_setCell _ _ _ _ (by rintro rfl; exact hF hg)).trans (h.block k hk hF)⟩
theorem Blk.kp {F : Nat → Prop} {w w' : World} {g : Nat} {e : TypeId} {cs : Array Value} (h : Blk w g e cs) (hk : Kp F w w') (hF : ¬ F g) : Blk w' g e cs := (hk.block g h.lt hF).trans h
theorem Rd.kp {F : Nat → Prop} {w w' : World} {A : Option Addr} {cs : List Value} (h : Rd w A cs) (hk : Kp F w w') (hF : ∀ ad, A = some ad → ¬ F ad.block) : Rd w' A cs := by
  intro i u hi
  obtain ⟨ad, e, hc⟩ := h i u hi
  refine ⟨ad, e, ?_⟩
  have hlt := block_lt_of_cell hc
  have hb : (ad.add i).block = ad.block := add_block ad i
  exact (World.cell?_of_block (hk.block _ hlt (by rw [hb]; exact hF ad e))).trans hc
theorem RB.kp {F : Nat → Prop} {w w' : World} {A : Option Addr} {l : List UInt8} (h : RB w A l) (hk : Kp F w w') (hF : ∀ ad, A = some ad → ¬ F ad.block) : RB w' A l := Rd.kp h hk hF
theorem kp_grown {w w' : World} {v : Value} (h : w.grownBy w' v.ownBlock) : Kp (fun k => v.ownBlock = some k) w w' :=
  ⟨h.os, h.tape, h.output, h.size, fun k hk hF => h.block k hk fun e => hF e.symm⟩

/-- a pen at block g that has written l; where its row lies: R -/
def PenR (w : World) (g : Nat) (R : Nat → Prop) (l : List UInt8) : Prop :=
  ∃ v, Blk w g 98 #[v] ∧ Own w 0 5 v (l.map eb) ∧ ∀ r, v.ownBlock = some r → R r
theorem PenR.mono {w : World} {g : Nat} {R R' : Nat → Prop} {l : List UInt8} (h : PenR w g R l) (hR : ∀ k, k < w.heap.size → R k → R' k) : PenR w g R' l := by
  obtain ⟨v, h1, h2, h3⟩ := h
  exact ⟨v, h1, h2, fun r hr => hR r (h2.lt r hr).2 (h3 r hr)⟩
theorem PenR.keep {w w' : World} {g : Nat} {R : Nat → Prop} {l : List UInt8} (h : PenR w g R l) (hb : Below w.heap.size w w') : PenR w' g R l := by
  obtain ⟨v, h1, h2, h3⟩ := h
  exact ⟨v, h1.below hb, h2.below hb, h3⟩
theorem PenR.kp {F : Nat → Prop} {w w' : World} {g : Nat} {R : Nat → Prop} {l : List UInt8} (h : PenR w g R l) (hk : Kp F w w') (hg : ¬ F g) (hR : ∀ k, R k → ¬ F k) : PenR w' g R l := by
  obtain ⟨v, h1, h2, h3⟩ := h
  refine ⟨v, h1.kp hk hg, ?_, h3⟩
  obtain ⟨q1, q2⟩ := h2
  refine ⟨q1, q2.imp id ?_⟩
  rintro ⟨r, cap, cur, rfl, hr, hh, rest⟩
  exact ⟨r, cap, cur, rfl, hr, (hk.block r (Array.getElem?_eq_some_iff.1 hh).1 (hR r (h3 r rfl))).trans hh, rest⟩
theorem PenR.at_ {w : World} {g B : Nat} {R : Nat → Prop} {l : List UInt8} (h : PenR w g R l) (hR : ∀ k, R k → B ≤ k) : PenAt w g B l := by
  obtain ⟨v, h1, h2, h3⟩ := h
  refine ⟨v, h1, ?_⟩
  obtain ⟨q1, q2⟩ := h2
  refine ⟨q1, q2.imp id ?_⟩
  rintro ⟨r, cap, cur, rfl, hr, rest⟩
  exact ⟨r, cap, cur, rfl, hR r (h3 r rfl), rest⟩
theorem PenR.lt {w : World} {g : Nat} {R : Nat → Prop} {l : List UInt8} (h : PenR w g R l) : g < w.heap.size := by obtain ⟨_, h1, _⟩ := h; exact h1.lt

/-- since w0 the pen at g, its row of R or new, has come to l; all else is as it was -/
structure PenTo (w0 : World) (g : Nat) (R : Nat → Prop) (l : List UInt8) (w : World) : Prop where
  pen : PenR w g (fun k => R k ∨ (w0.heap.size ≤ k ∧ k < w.heap.size)) l
  kp : Kp (fun k => k = g ∨ R k) w0 w
theorem PenTo.refl {w : World} {g : Nat} {R : Nat → Prop} {l : List UInt8} (h : PenR w g R l) : PenTo w g R l w := ⟨h.mono fun _ _ r => .inl r, Kp.refl _ _⟩
theorem PenTo.step {w0 w w' : World} {g : Nat} {R : Nat → Prop} {l l' : List UInt8} (h : PenTo w0 g R l w) (k : PenTo w g (fun k => R k ∨ (w0.heap.size ≤ k ∧ k < w.heap.size)) l' w') : PenTo w0 g R l' w' := by
  refine ⟨k.pen.mono fun i hi r => ?_, h.kp.trans k.kp fun i hi r => ?_⟩
  · have h1 := h.kp.size
    have h2 := k.kp.size
    rcases r with (r | r) | r
    · exact .inl r
    · exact .inr ⟨r.1, by omega⟩
    · exact .inr ⟨by omega, r.2⟩
  · rcases r with r | r | r
    · exact .inl r
    · exact .inr r
    · omega
/-- made ahead of the first step: whatever came in between -/
theorem PenTo.ahead {a w0 w : World} {g : Nat} {R : Nat → Prop} {l : List UInt8} (h : PenTo w0 g R l w) (hb : Below a.heap.size a w0) : PenTo a g R l w := by
  refine ⟨h.pen.mono fun i hi r => ?_, (Kp.of hb).trans h.kp fun i _ r => r⟩
  have := hb.size
  rcases r with r | r
  · exact .inl r
  · exact .inr ⟨by omega, r.2⟩
theorem PenTo.later {w0 w w' : World} {g : Nat} {R : Nat → Prop} {l : List UInt8} (h : PenTo w0 g R l w) (hb : Below w.heap.size w w') : PenTo w0 g R l w' := by
  refine ⟨(h.pen.keep hb).mono fun i hi r => ?_, h.kp.trans (Kp.of (F := fun _ => False) hb) fun i _ r => r.elim⟩
  rcases r with r | r
  · exact .inl r
  · exact .inr ⟨r.1, hi⟩

/-- 'append' of bytes: where the new row lies -/
theorem append_bytes_at (w : World) (v : Value) (a : List UInt8) (hown : Own w 0 5 v (a.map eb)) (ad : Addr) (n cap : Nat) (l : List UInt8) (hn : l.length = n) (hr : RB w (some ad) l) (hl : a.length + l.length ≤ 140737488355328) :
    ∃ v' w2, Hid ((Builtin.append_ #[23, 23] 23 #[v, .slice (some ad) n cap]).run Try.prog w = .ok v' w2) ∧ Own w2 0 5 v' ((a ++ l).map eb) ∧ w.grownBy w2 v.ownBlock ∧ (v'.ownBlock = v.ownBlock ∨ v'.ownBlock = some w.heap.size) := by
  obtain ⟨i, hii, hz, hsize, hby⟩ := info_parts info_u8
  obtain ⟨v', w', h2, h3, h4, _, h5⟩ := run_append_own_at (P := Try.prog) w 0 23 23 5 i (.int .u8 0) 1 1 Try.underlying23 hii hz hsize hby rfl (by omega) v (a.map eb).length (a.map eb) hown ad n cap (l.map eb) (by simpa using hn)
    (fun j u hj => by obtain ⟨ad', e, hc⟩ := hr j u hj; cases e; exact hc) (eb_cells l) (by subst hn; simp; unfold maxLen; omega) (by subst hn; simp; omega) (Nat.zero_le _)
  refine ⟨v', w', h2, ?_, h4, h5⟩
  unfold Own
  rw [List.map_append]
  subst hn
  simpa using h3

set_option maxRecDepth 100000 in
set_option maxHeartbeats 2000000 in
theorem pen_byteR (g : Nat) (R : Nat → Prop) (l : List UInt8) (x : UInt8) (n : Int) (hn : n = (x.toNat : Int)) (w : World) (hp : PenR w g R l) (hl : l.length < 140737488355328) :
    Calls Try.prog 67 #[.pointer (some ⟨g, 0, none⟩), .int .u8 n] w fun e w' => e = .returned (.tuple #[]) ∧ PenTo w g R (l ++ [x]) w' := by
  subst hn
  obtain ⟨v, hb, ho, hR⟩ := hp
  have hc : w.cell? ⟨g, 0, none⟩ = some v := hb.cell 0
  have hba := bal (Below.refl _ w) (.cells #[.int .u8 (x.toNat : Int)] 5)
  have ho' := ho.below hba
  obtain ⟨v2, w2, HR, ho2, hg2, hat⟩ := append_bytes_at (w.alloc (.cells #[.int .u8 (x.toNat : Int)] 5)) v l ho' ⟨w.heap.size, 0, none⟩ 1 1 [x] rfl (RB.lit _ _ _ _ _ rfl) (by simp; omega)
  have h1 := hb.alloc (.cells #[.int .u8 (x.toNat : Int)] 5)
  have hbl : Blk w2 g 98 #[v] := (hg2.block g h1.lt (h1.not_row ho' (by decide))).trans h1
  have hfz := hbl.frozen 0
  have hc2 : w2.cell? ⟨g, 0, none⟩ = some v := hbl.cell 0
  have hne := hbl.not_row ho2 (by decide)
  have hsz := hg2.size
  have hsa : (w.alloc (.cells #[.int .u8 (x.toNat : Int)] 5)).heap.size = w.heap.size + 1 := by simp
  have hkp : Kp (fun k => k = g ∨ R k) w w2 := (Kp.of hba).trans (kp_grown hg2) fun i _ e => .inr (hR i e)
  have hat2 : ∀ r, v2.ownBlock = some r → R r ∨ (w.heap.size ≤ r ∧ r < w2.heap.size) := by
    intro r hr
    rcases hat with h | h
    · exact .inl (hR r (h.symm.trans hr))
    · have hlt := (ho2.lt r hr).2
      rw [h] at hr
      have := Option.some.inj hr
      right
      rw [hsa] at this
      omega
  have HNE := Lib.hid hne
  have HAT := Lib.hid hat2
  clear hne hat hat2 hsa hsz
  obtain ⟨A2, c2, rfl, _, _⟩ := ho2.bytes
  rw [show (l ++ [x]).length = l.length + 1 by simp] at HR ho2 HNE HAT
  go_enter Try.func67, Try.ntmps67
  go_wp2_with (at_builtin; refine wpList_append_run rfl _ _ 23 23 rfl _ _ _ _ rfl rfl HR.out ?_)
  go_end0
  exact ⟨rfl, ⟨_, hbl.set 0 _, ho2.other HNE.out _, fun r hr => by simpa [World.setCell] using HAT.out r hr⟩, hkp.setCell 0 _ (.inl rfl)⟩

set_option maxRecDepth 100000 in
set_option maxHeartbeats 2000000 in
theorem pen_numR (g : Nat) (R : Nat → Prop) (l : List UInt8) (n : Int) (h0 : -9223372036854775808 ≤ n) (h1 : n ≤ 9223372036854775807) (w : World) (hp : PenR w g R l) (hl : l.length < 140737488355000) :
    Calls Try.prog 43 #[.pointer (some ⟨g, 0, none⟩), .int .i64 n] w fun e w' => e = .returned (.tuple #[]) ∧ PenTo w g R (l ++ num n.toNat) w' := by
  obtain ⟨m, hm, hm1, hmn⟩ : ∃ m : Nat, (if n < 0 then 0 else n) = (m : Int) ∧ m ≤ 9223372036854775807 ∧ n.toNat = m := ⟨n.toNat, by split <;> omega, by omega, rfl⟩
  rw [hmn]
  clear hmn
  go_enter Try.func43, Try.ntmps43
  go_wp2
  clear hm h0 h1
  go_loopw [1] (fun z wr => ∃ (q : Nat) (pre : List UInt8), q ≤ m ∧ z = .int .i64 q ∧ PenTo w g R (l ++ pre) wr ∧ Hid (pre ++ num q = num m)) (fun z _ => (intOf z).toNat)
  case atStart => exact ⟨m, [], Nat.le_refl _, rfl, by rw [List.append_nil]; exact PenTo.refl hp, rfl⟩
  case round =>
    obtain ⟨q, pre, hq, rfl, hpq, hpre⟩ := hrel
    have hlen : pre.length + (num q).length ≤ 10 := by rw [← List.length_append, hpre.out]; exact num_10 m hm1
    clear hp
    by_cases h128 : (128 : Int) ≤ (q : Int)
    · have hor := or_128 q (by omega)
      have hlq : (l ++ pre).length < 140737488355328 := by rw [List.length_append]; omega
      have hng := num_great q (by omega)
      generalize UInt8.ofNat (q % 128 + 128) = y at *
      have HNG := Lib.hid hng
      have HOR := Lib.hid hor
      clear hng hor
      go_wp2_with fail
      refine (pen_byteR g _ _ y _ HOR.out wr hpq.pen hlq).mono ?_
      rintro e w' ⟨rfl, hp'⟩
      have hp2 := hpq.step hp'
      rw [List.append_assoc] at hp2
      go_wp2
      go_roundw
      case measure => 
        have e1 : ((q : Int) / 128).toNat = q / 128 := by omega
        show (q : Int).toNat > ((q : Int) / 128).toNat
        rw [e1]
        omega
      case rel => 
        have hfin : (pre ++ [y]) ++ num (q / 128) = num m := by
          have h1 := hpre.out
          rw [HNG.out] at h1
          rw [← h1, List.append_assoc]
          simp
        have hle : q / 128 ≤ m := by omega
        have hnum : (Value.int .i64 ((q : Int) / 128)) = .int .i64 ((q / 128 : Nat) : Int) := by simp
        exact ⟨q / 128, pre ++ [y], hle, hnum, hp2, hfin⟩
    · have hsm := num_small q (by omega)
      have hby : (q : Int) = ((UInt8.ofNat q).toNat : Int) := by rw [UInt8.toNat_ofNat']; omega
      have hlq : (l ++ pre).length < 140737488355328 := by rw [List.length_append]; omega
      generalize UInt8.ofNat q = y at *
      have HSM := Lib.hid hsm
      have HBY := Lib.hid hby
      clear hsm hby hlen
      go_wp2_with fail
      refine (pen_byteR g _ _ y _ HBY.out wr hpq.pen hlq).mono ?_
      rintro e w' ⟨rfl, hp'⟩
      have hp2 := hpq.step hp'
      have hfin : l ++ pre ++ [y] = l ++ num m := by
        have h1 := hpre.out
        rw [HSM.out] at h1
        rw [← h1, List.append_assoc]
      rw [hfin] at hp2
      clear hfin
      go_wp2
      go_end0
      exact ⟨rfl, hp2⟩

/-- 'append' of a text's bytes: where the new row lies -/
theorem append_text_at (w : World) (v : Value) (a : List UInt8) (hown : Own w 0 5 v (a.map eb)) (s : List UInt8) (hl : a.length + s.length ≤ 140737488355328) :
    ∃ v' w2, Hid ((Builtin.append_ #[23, 9] 23 #[v, .string ⟨s.toArray⟩]).run Try.prog w = .ok v' w2) ∧ Own w2 0 5 v' ((a ++ s).map eb) ∧ w.grownBy w2 v.ownBlock ∧ (v'.ownBlock = v.ownBlock ∨ ∃ r, v'.ownBlock = some r ∧ w.heap.size ≤ r) := by
  obtain ⟨i, hii, hz, hsize, hby⟩ := info_parts info_u8
  have hsz : (⟨s.toArray⟩ : ByteArray).size = s.length := by simp [ByteArray.size]
  have hown0 := hown
  unfold Own at hown0
  rw [List.length_map] at hown0
  obtain ⟨v', w', h2, h3, h4, h5⟩ := Lib.run_append_own_string (P := Try.prog) w 0 23 9 23 5 i Try.underlying23 Try.underlying9 hii hz hsize hby v a.length (a.map eb) hown0 ⟨s.toArray⟩ (by rw [hsz]; unfold maxLen; omega) (by rw [hsz]; omega) (Nat.zero_le _)
  have hcells : Lib.strCells ⟨s.toArray⟩ = s.map eb := by
    unfold Lib.strCells eb
    simp
  have h3' := h3
  rw [hcells, hsz, ← List.map_append] at h3'
  refine ⟨v', w', h2, by unfold Own; rw [List.length_map, List.length_append]; exact h3', h4, ?_⟩
  have hinj : ∀ {v1 v2 : Value} {w1 w2 : World}, (Result.ok v1 w1 : Result Value) = Result.ok v2 w2 → v1 = v2 := by
    intro v1 v2 w1 w2 h; cases h; rfl
  rcases hown0.2 with ⟨rfl, h0⟩ | ⟨g, cap, cur, rfl, hbg, hg, hnc, hcm, hcs, htake⟩
  · by_cases hm : s.length = 0
    · left
      rw [h5.2 ⟨rfl, by rw [hsz]; exact hm⟩]
    · right
      have hr := run_append_nil_string (P := Try.prog) w 23 9 23 5 i (.int .u8 0) Try.underlying23 Try.underlying9 hii hz ⟨s.toArray⟩ (by rw [hsz]; omega) (by rw [hsz]; omega) (by rw [hby, hsz]; omega)
      rw [h2] at hr
      rw [hinj hr]
      exact ⟨w.heap.size, rfl, Nat.le_refl _⟩
  · by_cases hroom : a.length + (⟨s.toArray⟩ : ByteArray).size ≤ cap
    · left
      have hcs' : cur.size = cap := by simpa using hcs
      have hr := Lib.run_append_room_string (P := Try.prog) w 23 9 23 5 i Try.underlying23 Try.underlying9 hii hsize g a.length cap cur hg ⟨s.toArray⟩ hroom (by omega)
      rw [h2] at hr
      rw [hinj hr]
      rfl
    · right
      have hxl : (a.map eb).length = a.length := by simp
      have holds : ∀ j u, (a.map eb)[j]? = some u → w.cell? ((⟨g, 0, none⟩ : Addr).add j) = some u := hown0.cells (g := g) rfl
      have hr := Lib.run_append_grow_string (P := Try.prog) w 23 9 23 5 i (.int .u8 0) Try.underlying23 Try.underlying9 hii hz ⟨g, 0, none⟩ a.length cap (a.map eb) (by rw [hsize]; simp) holds ⟨s.toArray⟩ (by rw [hsz]; omega) (by rw [hsz]; omega) (by rw [hby, hsz]; exact growslice_fits (by omega) (by omega))
      rw [h2] at hr
      rw [hinj hr]
      exact ⟨w.heap.size, rfl, Nat.le_refl _⟩

set_option maxRecDepth 100000 in
set_option maxHeartbeats 2000000 in
theorem pen_textR (g : Nat) (R : Nat → Prop) (l s : List UInt8) (w : World) (hp : PenR w g R l) (hl : l.length + s.length < 140737488355000) :
    Calls Try.prog 44 #[.pointer (some ⟨g, 0, none⟩), .string ⟨s.toArray⟩] w fun e w' => e = .returned (.tuple #[]) ∧ PenTo w g R (l ++ (num s.length ++ s)) w' := by
  have hnum := num_10 s.length (by omega)
  rw [← List.append_assoc]
  go_enter Try.func44, Try.ntmps44
  go_wp2_with fail
  refine (pen_numR g R l (s.length : Int) (by omega) (by omega) w hp (by omega)).mono ?_
  rintro e w1 ⟨rfl, hp1⟩
  rw [show ((s.length : Int)).toNat = s.length by omega] at hp1
  obtain ⟨⟨v, hb, ho, hR⟩, hk⟩ := hp1
  have hc : w1.cell? ⟨g, 0, none⟩ = some v := hb.cell 0
  obtain ⟨v2, w2, HR, ho2, hg2, hat⟩ := append_text_at w1 v _ ho s (by rw [List.length_append]; omega)
  have hbl : Blk w2 g 98 #[v] := (hg2.block g hb.lt (hb.not_row ho (by decide))).trans hb
  have hfz := hbl.frozen 0
  have hc2 : w2.cell? ⟨g, 0, none⟩ = some v := hbl.cell 0
  have hne := hbl.not_row ho2 (by decide)
  have z1 := hk.size
  have z2 := hg2.size
  have hkp : Kp (fun k => k = g ∨ R k) w w2 := hk.trans (kp_grown hg2) fun i hi e => by
    rcases hR i e with h | h
    · exact .inr h
    · omega
  have hat2 : ∀ r, v2.ownBlock = some r → R r ∨ (w.heap.size ≤ r ∧ r < w2.heap.size) := by
    intro r hr
    rcases hat with h | ⟨q, h, hq⟩
    · rcases hR r (h.symm.trans hr) with h | h
      · exact .inl h
      · exact .inr ⟨h.1, by omega⟩
    · have hlt := (ho2.lt r hr).2
      rw [h] at hr
      have := Option.some.inj hr
      right
      omega
  have HNE := Lib.hid hne
  have HAT := Lib.hid hat2
  clear hne hat hat2 z1 z2 hR hk
  obtain ⟨A2, c2, rfl, _, _⟩ := ho2.bytes
  have hll : (l ++ num s.length ++ s).length = l.length + (num s.length).length + s.length := by simp [Nat.add_assoc]
  rw [hll] at HR ho2 HNE HAT
  clear hll
  go_wp2_with (at_builtin; refine wpList_append_run rfl _ _ 23 9 rfl _ _ _ _ rfl rfl HR.out ?_)
  go_end0
  exact ⟨rfl, ⟨_, hbl.set 0 _, ho2.other HNE.out _, fun r hr => by simpa [World.setCell] using HAT.out r hr⟩, hkp.setCell 0 _ (.inl rfl)⟩
end Go.Proofs.Ytpnfgnddlfkfaaa
