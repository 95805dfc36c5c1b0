/-
  The disk: Read, Write, Fuse.
-/
import Derived.Test.YtangfnenfhkokaaDisk
set_option linter.unusedSimpArgs false
set_option linter.unusedVariables false
namespace Go.Proofs.Ytangfnenfhkokaa
open Go.RowKit Go.Maps

def curD (s : DSt) (k : Int) : List UInt8 := (s.ca k).getD (s.fl.getD k.toNat [])
def readD (s : DSt) (k : Int) : List UInt8 × Int := if s.dead then ([], 15) else if thereB s.fl.length k then (curD s k, 0) else ([], 1)
theorem DOk.cur {s : DSt} (h : DOk s) {k : Int} (hk : thereB s.fl.length k = true) : (curD s k).length = 64 := by
  have hk' : 0 ≤ k ∧ k < (s.fl.length : Int) := by simpa [thereB] using hk
  unfold curD
  cases hc : s.ca k with
  | some b => exact (h.cs k b hc).1
  | none => exact h.sec k.toNat (by omega)
theorem DiskAt.val {w : World} {g : Nat} {P : Nat → Prop} {n : Nat} {s : DSt} {L M : Nat} {fv : List Value} {fc : Int → Option Value} (h : DiskAt w g P n s L M fv fc) {i : Nat} (hi : i < s.fl.length) :
    ∃ A c, fv.getD i nilS = .slice A (s.fl.getD i []).length c ∧ (s.fl.getD i []).length ≤ c ∧ RB w A (s.fl.getD i []) ∧ w.cell? ⟨L, i, none⟩ = some (.slice A (s.fl.getD i []).length c) ∧ ∀ ad, A = some ad → P ad.block := by
  obtain ⟨h1, h2⟩ := h.sec i hi
  obtain ⟨A, c, e, hc, hr⟩ := h1.bytes
  refine ⟨A, c, e, hc, hr, ?_, fun ad ea => h2 ad.block (by rw [e, ea]; rfl)⟩
  rw [h.rows.cell i, ← e]
  have : i < fv.length := by rw [h.fll]; exact hi
  simp [List.getD_eq_getElem?_getD, List.getElem?_eq_getElem this]
def ReadPost (w : World) (r : List UInt8 × Int) (e : Ending) (w' : World) : Prop :=
  ∃ v, e = .returned (.tuple #[v, .int .i64 r.2]) ∧ Own w' w.heap.size 5 v (r.1.map eb) ∧ Below w.heap.size w w'
theorem zero_bytes' (w : World) : (zeroValue 42).run Try.prog w = .ok nilS w := by kernel_rfl
theorem look_c2 {w : World} {L n : Nat} {fl : Int → Option Value} (h : MapF Try.prog 3 .i64 w L n fl) {id : Int} (h0 : -9223372036854775808 ≤ id) (h1 : id ≤ 9223372036854775807) :
    (Instr.lookup 82 (.map (some L)) (.int .i64 id) true).run Try.prog w = .ok (.tuple #[(fl id).getD nilS, .bool (fl id).isSome]) w := h.look2 Try.underlying3 Try.underlying82 (zero_bytes' w) (WalkArith.wf_i64 ⟨h0, h1⟩)
set_option maxRecDepth 100000 in
set_option maxHeartbeats 2000000 in
theorem disk_read (g : Nat) (P : Nat → Prop) (n : Nat) (s : DSt) (k : Int) (w : World) (h : Disk w g P n s) (ok : DOk s) :
    Calls Try.prog 24 #[.pointer (some ⟨g, 0, none⟩), .int .i64 k] w (ReadPost w (readD s k)) := by
  obtain ⟨L, M, fv, fc, h⟩ := h
  have x0 : w.cell? ⟨g, 0, none⟩ = some (.slice (some ⟨L, 0, none⟩) s.fl.length s.fl.length) := h.blk.cell 0
  have x1 : w.cell? ⟨g, 1, none⟩ = some (.map (some M)) := h.blk.cell 1
  have x3 : w.cell? ⟨g, 3, none⟩ = some (.bool s.dead) := h.blk.cell 3
  have HAL := Lib.hid (disk_alive g s.dead w x3)
  have HTH := Lib.hid (disk_there g _ _ _ k w x0)
  have hlen := ok.len
  cases hd : s.dead with
  | true =>
    have hr : readD s k = ([], 15) := by unfold readD; rw [hd]; rfl
    rw [hr]
    rw [hd] at HAL
    clear hr hd x0 x1 x3 h ok HTH
    go_enter Try.func24, Try.ntmps24
    go_wp2_with fail
    (with_reducible refine HAL.out.mono ?_)
    rintro e _ ⟨rfl, rfl⟩
    go_wp2
    go_ret2
    exact ⟨_, rfl, Own.nil _ _ _, Below.refl _ _⟩
  | false =>
    rw [hd] at HAL
    cases ht : thereB s.fl.length k with
    | false =>
      have hr : readD s k = ([], 1) := by unfold readD; rw [hd, ht]; rfl
      rw [hr]
      rw [ht] at HTH
      clear hr hd ht x0 x1 x3 h ok
      go_enter Try.func24, Try.ntmps24
      go_wp2_with fail
      (with_reducible refine HAL.out.mono ?_)
      rintro e _ ⟨rfl, rfl⟩
      go_wp2_with fail
      (with_reducible refine HTH.out.mono ?_)
      rintro e _ ⟨rfl, rfl⟩
      go_wp2
      go_ret2
      exact ⟨_, rfl, Own.nil _ _ _, Below.refl _ _⟩
    | true =>
      have hr : readD s k = (curD s k, 0) := by unfold readD; rw [hd, ht]; rfl
      rw [hr]
      rw [ht] at HTH
      have hcur := ok.cur ht
      have hk' : 0 ≤ k ∧ k < (s.fl.length : Int) := by simpa [thereB] using ht
      obtain ⟨q, rfl⟩ := Int.eq_ofNat_of_zero_le hk'.1
      have hq : q < s.fl.length := by omega
      have i0 : (0 : Int) ≤ (q : Int) := by omega
      have i1 : (q : Int) < (s.fl.length : Int) := by omega
      have hlk := look_c2 h.map (id := (q : Int)) (by omega) (by omega)
      cases hc : s.ca (q : Int) with
      | some b =>
        obtain ⟨v, hv, ho, _⟩ := h.some_ _ _ hc
        obtain ⟨A, c, rfl, _, hrb⟩ := ho.bytes
        have hcd : curD s (q : Int) = b := by unfold curD; rw [hc]; rfl
        rw [hcd] at hcur ⊢
        rw [hv] at hlk
        simp only [Option.getD_some, Option.isSome_some] at hlk
        have HCL := Lib.hid (bytes_clone A b.length c b w rfl (by omega) hrb)
        clear hr hd ht x0 x3 h ok hc hcd hv ho hk' hrb hcur
        go_enter Try.func24, Try.ntmps24
        go_wp2_with fail
        (with_reducible refine HAL.out.mono ?_)
        rintro e _ ⟨rfl, rfl⟩
        go_wp2_with fail
        (with_reducible refine HTH.out.mono ?_)
        rintro e _ ⟨rfl, rfl⟩
        go_wp2_with fail
        (with_reducible refine HCL.out.mono ?_)
        rintro e w' ⟨v, rfl, ho, hb⟩
        go_wp2
        go_ret2
        exact ⟨_, rfl, ho, hb⟩
      | none =>
        obtain ⟨A, c, _, _, hrb, hcell, _⟩ := h.val hq
        have hcd : curD s (q : Int) = s.fl.getD q [] := by unfold curD; rw [hc]; rfl
        rw [hcd] at hcur ⊢
        rw [h.none_ _ hc] at hlk
        simp only [Option.getD_none, Option.isSome_none] at hlk
        generalize s.fl.getD q [] = b at *
        have HCL := Lib.hid (bytes_clone A b.length c b w rfl (by omega) hrb)
        clear hr hd ht x3 h ok hc hcd hk' hrb hcur
        go_enter Try.func24, Try.ntmps24
        go_wp2_with fail
        (with_reducible refine HAL.out.mono ?_)
        rintro e _ ⟨rfl, rfl⟩
        go_wp2_with fail
        (with_reducible refine HTH.out.mono ?_)
        rintro e _ ⟨rfl, rfl⟩
        go_wp2_with fail
        (with_reducible refine HCL.out.mono ?_)
        rintro e w' ⟨v, rfl, ho, hb⟩
        go_wp2
        go_ret2
        exact ⟨_, rfl, ho, hb⟩

def putD (s : DSt) (k : Int) (b : List UInt8) : DSt := ⟨s.fl, fun y => if y = k then some b else s.ca y, s.fuse, s.dead, s.ops⟩
def writeD (s : DSt) (k : Int) (b : List UInt8) : Int × DSt :=
  if s.dead then (15, s) else if thereB s.fl.length k && decide (b.length = 64) then (if s.fuse = 0 then (15, (burnD s).2) else (0, putD (burnD s).2 k b)) else (1, s)
theorem DOk.put {s : DSt} (h : DOk s) {k : Int} {b : List UInt8} (hk : thereB s.fl.length k = true) (hb : b.length = 64) : DOk (putD s k b) := by
  have hk' : 0 ≤ k ∧ k < (s.fl.length : Int) := by simpa [thereB] using hk
  refine ⟨h.len, h.sec, fun x c hx => ?_, h.fuse0, h.fuse1, h.ops0, h.ops1⟩
  simp only [putD] at hx ⊢
  by_cases e : x = k
  · rw [if_pos e] at hx
    cases hx
    exact ⟨hb, by omega, by omega⟩
  · rw [if_neg e] at hx
    exact h.cs x c hx
theorem burnD_fl (s : DSt) : (burnD s).2.fl = s.fl := by unfold burnD; split <;> rfl
theorem DOk.write {s : DSt} (h : DOk s) (ho : s.ops < 1000000000) (k : Int) (b : List UInt8) : DOk (writeD s k b).2 := by
  unfold writeD
  split
  · exact h
  · split
    · rename_i hb
      simp only [Bool.and_eq_true, decide_eq_true_eq] at hb
      split
      · exact h.burn ho
      · exact (h.burn ho).put (by rw [burnD_fl]; exact hb.1) hb.2
    · exact h
/-- 'd.cache[k] = b' -/
theorem DiskAt.put {w : World} {g : Nat} {P : Nat → Prop} {n : Nat} {s : DSt} {L M : Nat} {fv : List Value} {fc : Int → Option Value} (h : DiskAt w g P n s L M fv fc) {v : Value} {b : List UInt8} {B : Nat} (hv : Own w B 5 v (b.map eb)) (hPB : ∀ j, P j → j < B) (hB : B ≤ w.heap.size) (hn : n < maxLen) {k : Int} (h0 : -9223372036854775808 ≤ k) (h1 : k ≤ 9223372036854775807) :
    ∃ w', (Instr.mapUpdate 82 (.map (some M)) (.int .i64 k) v).run Try.prog w = .ok () w' ∧ DiskAt w' g (fun j => P j ∨ (B ≤ j ∧ j < w'.heap.size)) (n + 1) (putD s k b) L M fv (fun y => if y = k then some v else fc y) ∧ Kp P w w' ∧ w'.heap.size = w.heap.size := by
  obtain ⟨w', hrun, hm, hk, hz⟩ := h.map.store Try.underlying3 Try.underlying82 hn (WalkArith.wf_i64 ⟨h0, h1⟩) v
  have hkP : Kp P w w' := hk.mono fun j _ e => e ▸ h.pm
  have hvt := hv.typed
  have hMg : ∀ {g' : Nat} {e : TypeId} {cs : Array Value}, Blk w g' e cs → ¬ g' = M := fun hb e => h.map.no_blk (e ▸ hb) rfl
  refine ⟨w', hrun, ⟨h.blk.kp hk (hMg h.blk), h.rows.kp hk (hMg h.rows), hm, h.fll, fun i hi => ⟨(h.sec i hi).1.kp hk fun j e f => (h.sec i hi).1.no_map h.map (f ▸ e), fun j e => .inl ((h.sec i hi).2 j e)⟩, fun y hy => ?_, fun y b' hy => ?_, h.ap1, fun i x u j hi hj hx => ?_, fun x y u1 u2 j hne hx hy hj => ?_, .inl h.pg, .inl h.pl, .inl h.pm, fun j hj => ?_⟩, hkP, hz⟩
  · simp only [putD] at hy ⊢
    by_cases e : y = k
    · rw [if_pos e] at hy; cases hy
    · rw [if_neg e] at hy ⊢; exact h.none_ y hy
  · simp only [putD] at hy ⊢
    by_cases e : y = k
    · rw [if_pos e] at hy ⊢
      cases hy
      refine ⟨v, rfl, (hv.lower (Nat.zero_le _)).kp hk fun j e f => hv.no_map h.map (f ▸ e), fun j e => .inr ⟨(hvt j e).1, by rw [hz]; exact (hvt j e).2.1⟩⟩
    · rw [if_neg e] at hy ⊢
      obtain ⟨u, u1, u2, u3⟩ := h.some_ y b' hy
      exact ⟨u, u1, u2.kp hk fun j e f => u2.no_map h.map (f ▸ e), fun j e => .inl (u3 j e)⟩
  · by_cases e : x = k
    · rw [if_pos e] at hx
      cases hx
      intro e2
      have a1 := hPB _ ((h.sec i hi).2 j hj)
      have a2 := (hvt j e2).1
      omega
    · rw [if_neg e] at hx
      exact h.ap2 i x u j hi hj hx
  · have hPo : ∀ z u, fc z = some u → ∀ j, u.ownBlock = some j → j < B := fun z u hz' j hj' => by
      cases hca : s.ca z with
      | none => rw [h.none_ z hca] at hz'; cases hz'
      | some bb =>
        obtain ⟨u', a1, _, a3⟩ := h.some_ z bb hca
        rw [a1] at hz'
        cases hz'
        exact hPB _ (a3 j hj')
    by_cases ex : x = k
    · by_cases ey : y = k
      · exact absurd (ex.trans ey.symm) hne
      · rw [if_pos ex] at hx
        rw [if_neg ey] at hy
        cases hx
        intro e2
        have a1 := hPo y u2 hy j e2
        have a2 := (hvt j hj).1
        omega
    · rw [if_neg ex] at hx
      by_cases ey : y = k
      · rw [if_pos ey] at hy
        cases hy
        intro e2
        have a1 := hPo x u1 hx j hj
        have a2 := (hvt j e2).1
        omega
      · rw [if_neg ey] at hy
        exact h.ap3 x y u1 u2 j hne hx hy hj
  · rcases hj with hj | hj
    · rw [hz]; exact h.lt j hj
    · exact hj.2
/-- sixty-four bytes do not lie in a block of five cells -/
theorem rb_not_five {w : World} {g : Nat} {e : TypeId} {c0 c1 c2 c3 c4 : Value} (hb : Blk w g e #[c0, c1, c2, c3, c4]) {A : Option Addr} {b : List UInt8} (hr : RB w A b) {ad : Addr} (ha : A = some ad) (hg : ad.block = g) (hl : 5 < b.length) : False := by
  subst ha
  obtain ⟨x, off, e1, hc⟩ := hr.lit_of (by omega)
  subst e1
  have h1 := hc 5 hl
  have hx : x = g := hg
  subst hx
  rw [hb.cell (off + 5)] at h1
  rw [Array.getElem?_eq_none (by simp)] at h1
  cases h1
def WritePost (w : World) (g : Nat) (P : Nat → Prop) (n : Nat) (r : Int × DSt) (e : Ending) (w' : World) : Prop :=
  e = .returned (.int .i64 r.1) ∧ Kp P w w' ∧ Disk w' g (fun j => P j ∨ (w.heap.size ≤ j ∧ j < w'.heap.size)) (n + 1) r.2
set_option maxRecDepth 100000 in
set_option maxHeartbeats 2000000 in
theorem disk_write (g : Nat) (P : Nat → Prop) (n : Nat) (s : DSt) (k : Int) (A : Option Addr) (m c : Nat) (b : List UInt8) (w : World) (hm : b.length = m) (hr : RB w A b) (hl : b.length ≤ 9223372036854775807) (h : Disk w g P n s) (ok : DOk s) (hn : n < 1000000000) :
    Calls Try.prog 38 #[.pointer (some ⟨g, 0, none⟩), .int .i64 k, .slice A m c] w (WritePost w g P n (writeD s k b)) := by
  subst hm
  have hG := h.grow (Below.refl w.heap.size w)
  obtain ⟨L, M, fv, fc, h⟩ := h
  have x0 : w.cell? ⟨g, 0, none⟩ = some (.slice (some ⟨L, 0, none⟩) s.fl.length s.fl.length) := h.blk.cell 0
  have x3 : w.cell? ⟨g, 3, none⟩ = some (.bool s.dead) := h.blk.cell 3
  have HAL := Lib.hid (disk_alive g s.dead w x3)
  have HTH := Lib.hid (disk_there g _ _ _ k w x0)
  have HBU := Lib.hid (disk_burn g P n s L M fv fc w h ok)
  have HG := Lib.hid hG
  have hlen := ok.len
  clear hG x0 x3
  cases hd : s.dead with
  | true =>
    have hr : writeD s k b = (15, s) := by unfold writeD; rw [hd]; rfl
    rw [hr]
    rw [hd] at HAL
    clear hr hd h ok HTH HBU
    go_enter Try.func38, Try.ntmps38
    go_wp2_with fail
    (with_reducible refine HAL.out.mono ?_)
    rintro e _ ⟨rfl, rfl⟩
    go_wp2
    go_ret
    exact ⟨rfl, Kp.refl _ _, HG.out⟩
  | false =>
    rw [hd] at HAL
    cases ht : thereB s.fl.length k with
    | false =>
      have hr : writeD s k b = (1, s) := by unfold writeD; rw [hd, ht]; rfl
      rw [hr]
      rw [ht] at HTH
      clear hr hd ht h ok HBU
      go_enter Try.func38, Try.ntmps38
      go_wp2_with fail
      (with_reducible refine HAL.out.mono ?_)
      rintro e _ ⟨rfl, rfl⟩
      go_wp2_with fail
      (with_reducible refine HTH.out.mono ?_)
      rintro e _ ⟨rfl, rfl⟩
      go_wp2
      go_ret
      exact ⟨rfl, Kp.refl _ _, HG.out⟩
    | true =>
      rw [ht] at HTH
      by_cases h64 : b.length = 64
      rotate_left
      · have hr : writeD s k b = (1, s) := by unfold writeD; rw [hd, ht, decide_eq_false h64]; rfl
        rw [hr]
        have q : ((b.length : Int) == 64) = false := beq_eq_false_iff_ne.2 (by omega)
        clear hr hd ht h ok HBU
        go_enter Try.func38, Try.ntmps38
        go_wp2_with fail
        (with_reducible refine HAL.out.mono ?_)
        rintro e _ ⟨rfl, rfl⟩
        go_wp2_with fail
        (with_reducible refine HTH.out.mono ?_)
        rintro e _ ⟨rfl, rfl⟩
        go_wp2
        go_ret
        exact ⟨rfl, Kp.refl _ _, HG.out⟩
      have q : ((b.length : Int) == 64) = true := by rw [h64]; rfl
      have hk' : 0 ≤ k ∧ k < (s.fl.length : Int) := by simpa [thereB] using ht
      by_cases hf : s.fuse = 0
      · have hr : writeD s k b = (15, (burnD s).2) := by unfold writeD; rw [hd, ht, decide_eq_true h64, if_neg (by decide), if_pos (by rfl), if_pos hf]
        rw [hr]
        have hb1 : (burnD s).1 = 15 := by unfold burnD; rw [if_pos hf]
        unfold BurnPost at HBU
        rw [hb1] at HBU
        have hpg := Lib.hid h.pg
        clear hr hd ht h ok hf hb1 HG h64
        go_enter Try.func38, Try.ntmps38
        go_wp2_with fail
        (with_reducible refine HAL.out.mono ?_)
        rintro e _ ⟨rfl, rfl⟩
        go_wp2_with fail
        (with_reducible refine HTH.out.mono ?_)
        rintro e _ ⟨rfl, rfl⟩
        go_wp2_with fail
        (with_reducible refine HBU.out.mono ?_)
        rintro e w1 ⟨rfl, hk1, hz1, h1⟩
        go_wp2
        go_ret
        refine ⟨rfl, hk1.mono fun j _ e => e ▸ hpg.out, L, M, fv, fc, h1.mono (fun j hj => .inl hj) (fun j hj => ?_) (by omega)⟩
        rcases hj with hj | hj
        · exact h1.lt j hj
        · exact hj.2
      · have hr : writeD s k b = (0, putD (burnD s).2 k b) := by unfold writeD; rw [hd, ht, decide_eq_true h64, if_neg (by decide), if_pos (by rfl), if_neg hf]
        rw [hr]
        have hb1 : (burnD s).1 = 0 := by unfold burnD; rw [if_neg hf]
        unfold BurnPost at HBU
        rw [hb1] at HBU
        have hrr : RB w A b := ‹RB w A b›
        have hpg := Lib.hid h.pg
        have HA : Hid (∀ ad, A = some ad → ¬ ad.block = g) := Lib.hid fun ad e f => rb_not_five h.blk hrr e f (by omega)
        have HR := Lib.hid hr
        have hrb := Lib.hid ‹RB w A b›
        have hlt := Lib.hid h.lt
        have hb64 : b.length ≤ 64 := by omega
        clear hr hd ht h ok hf hb1 HG HR h64 hrr
        go_enter Try.func38, Try.ntmps38
        go_wp2_with fail
        (with_reducible refine HAL.out.mono ?_)
        rintro e _ ⟨rfl, rfl⟩
        go_wp2_with fail
        (with_reducible refine HTH.out.mono ?_)
        rintro e _ ⟨rfl, rfl⟩
        go_wp2_with fail
        (with_reducible refine HBU.out.mono ?_)
        rintro e w1 ⟨rfl, hk1, hz1, h1⟩
        have hk1P : Kp P w w1 := hk1.mono fun j _ e => e ▸ hpg.out
        have hr1 := hrb.out.kp hk1 HA.out
        have hk := bdr (Below.refl w1.heap.size w1)
        have HC : Hid (∀ W, Below w1.heap.size w1 W → W.cell? ⟨g, 1, none⟩ = some (.map (some M))) := fun W hb => (h1.blk.below hb).cell 1
        have HCL := Lib.hid fun W (hb : Below w1.heap.size w1 W) => bytes_clone A b.length c b W rfl (by omega) (hr1.below hb)
        have HPUT : Hid (∀ W v W2, Below w1.heap.size w1 W → Own W2 W.heap.size 5 v (b.map eb) → Below W.heap.size W W2 → ∃ w3, (Instr.mapUpdate 82 (.map (some M)) (.int .i64 k) v).run Try.prog W2 = .ok () w3 ∧ Kp P w1 w3 ∧ Disk w3 g (fun j => P j ∨ (w.heap.size ≤ j ∧ j < w3.heap.size)) (n + 1) (putD (burnD s).2 k b) ∧ w3.cell? ⟨g, 1, none⟩ = some (.map (some M))) := fun W v W2 hb ho hb2 => by
          have hb12 := bn hb hb2
          have hzb := hb.size
          have hzb2 := hb2.size
          obtain ⟨w3, hrun, h3, hk3, hz3⟩ := ((h1.kp (F := fun _ => False) (Kp.of hb12) fun _ _ f => f)).put ho (fun j hj => Nat.lt_of_lt_of_le (h1.lt j hj) hb.size) hb2.size (by unfold maxLen; omega) (by omega) (by omega) (k := k) (b := b)
          refine ⟨w3, hrun, (kp_of (F := P) hb12).trans hk3 fun _ _ p => p, ⟨L, M, _, _, h3.mono (fun j hj => ?_) (fun j hj => ?_) (Nat.le_refl _)⟩, h3.blk.cell 1⟩
          · rcases hj with hj | hj
            · exact .inl hj
            · exact .inr ⟨by omega, hj.2⟩
          · rcases hj with hj | hj
            · have a1 := hlt.out j hj; omega
            · exact hj.2
        clear h1 hr1 hrb HA HBU HAL HTH
        go_wp2_with fail
        go_region_held_law (fun W => W.cell? ⟨g, 1, none⟩ = some (.map (some M))) (first | exact HC.out _ hk | exact x9) (first
          | (go_at_call 54; (with_reducible refine (HCL.out _ hk).mono ?_); rintro e w2 ⟨v2, rfl, ho2, hb2⟩; obtain ⟨w3, hrun3, hk3, h3, x9⟩ := HPUT.out _ _ _ hk ho2 hb2; replace hk := bn hk hb2; clear ho2 hb2))
        all_goals
          go_wp2_with fail
          go_ret
          exact ⟨rfl, hk1P.trans hk3 fun _ _ p => p, h3⟩
end Go.Proofs.Ytangfnenfhkokaa
