/-
  What ChunkOnce calls and gives.
-/
import Derived.Test.YtpnfgnddlfkfaaaLaw10
import Derived.BigQuiet
set_option linter.unusedSimpArgs false
set_option linter.unusedVariables false
namespace Go.Proofs.Ytpnfgnddlfkfaaa
open Go.RowKit Go.Maps

def okLen (b : List UInt8) : Prop := 1 ≤ b.length ∧ b.length ≤ 64
/-- the numbers of the first k texts -/
def OnceQ (ls : List (List UInt8)) (k : Nat) (F : List Int) (s : CSt) : Prop :=
  F.length = ls.length ∧ ∀ i, i < ls.length → (i < k → (okLen (ls.getD i []) ∧ s.l (F.getD i 0) = some (ls.getD i [])) ∨ (¬ okLen (ls.getD i []) ∧ F.getD i 0 = 0)) ∧ (k ≤ i → F.getD i 0 = 0)
theorem OnceQ.start (ls : List (List UInt8)) (s : CSt) : OnceQ ls 0 (List.replicate ls.length 0) s := ⟨by simp, fun i hi => ⟨fun h => by omega, fun _ => by simp [List.getD_eq_getElem?_getD, List.getElem?_replicate, hi]⟩⟩
theorem OnceQ.skip {ls : List (List UInt8)} {k : Nat} {F : List Int} {s : CSt} (h : OnceQ ls k F s) (hb : ¬ okLen (ls.getD k [])) : OnceQ ls (k + 1) F s := by
  refine ⟨h.1, fun i hi => ⟨fun hlt => ?_, fun hge => (h.2 i hi).2 (by omega)⟩⟩
  by_cases e : i = k
  · subst e
    exact .inr ⟨hb, (h.2 i hi).2 (Nat.le_refl _)⟩
  · exact (h.2 i hi).1 (by omega)
theorem OnceQ.put {ls : List (List UInt8)} {k : Nat} {F : List Int} {s s' : CSt} (h : OnceQ ls k F s) (hk : k < ls.length) (hb : okLen (ls.getD k [])) {id : Int} (hid : s'.l id = some (ls.getD k [])) (hs : ∀ x b, s.l x = some b → s'.l x = some b) : OnceQ ls (k + 1) (F.set k id) s' := by
  have hl := h.1
  refine ⟨by simp [h.1], fun i hi => ⟨fun hlt => ?_, fun hge => ?_⟩⟩
  · by_cases e : i = k
    · subst e
      refine .inl ⟨hb, ?_⟩
      rw [show (F.set i id).getD i 0 = id by simp [List.getD_eq_getElem?_getD, List.getElem?_set, hl, hi]]
      exact hid
    · have e1 : (F.set k id).getD i 0 = F.getD i 0 := by simp [List.getD_eq_getElem?_getD, List.getElem?_set, Ne.symm e]
      rw [e1]
      rcases (h.2 i hi).1 (by omega) with ⟨a, b⟩ | hx
      · exact .inl ⟨a, hs _ _ b⟩
      · exact .inr hx
  · have e1 : (F.set k id).getD i 0 = F.getD i 0 := by simp [List.getD_eq_getElem?_getD, List.getElem?_set, show ¬ k = i by omega]
    rw [e1]
    exact (h.2 i hi).2 (by omega)
def i64a (F : List Int) : Array Value := (F.map (Value.int .i64)).toArray
theorem i64a_set (F : List Int) (k : Nat) (x : Int) : (i64a F).setIfInBounds k (.int .i64 x) = i64a (F.set k x) := by
  unfold i64a
  rw [List.map_set]
  simp
theorem i64a_get (F : List Int) (k : Nat) (hk : k < F.length) : (i64a F)[k]? = some (.int .i64 (F.getD k 0)) := by
  unfold i64a
  simp [List.getD_eq_getElem?_getD, List.getElem?_map, List.getElem?_eq_getElem hk]
theorem i64a_zero (n : Nat) : i64a (List.replicate n 0) = Array.replicate n (.int .i64 0) := by
  unfold i64a
  rw [List.map_replicate]
  simp
/-- what a text's slice is -/
theorem AreB.at_ {w : World} {vs : List Value} {ls : List (List UInt8)} (h : AreB w vs ls) (i : Nat) (hi : i < ls.length) : ∃ A c, vs[i]? = some (.slice A (ls.getD i []).length c) ∧ RB w A (ls.getD i []) := by
  have h1 : i < vs.length := by rw [h.1]; exact hi
  obtain ⟨A, c, e, _, hr⟩ := h.2 i h1 hi
  have e2 : ls.getD i [] = ls[i] := by simp [List.getD_eq_getElem?_getD, List.getElem?_eq_getElem hi]
  rw [e2]
  exact ⟨A, c, by rw [List.getElem?_eq_getElem h1, e], hr⟩
theorem set_keeps {s : CSt} {id : Int} {b : List UInt8} (hn : s.l id = none) (x : Int) (c : List UInt8) (h : s.l x = some c) : (setSt s id b).l x = some c := by
  unfold setSt
  simp only
  rw [if_neg (fun e => by rw [e, hn] at h; cases h)]
  exact h

/-- where the texts lie -/
theorem texts_at {w : World} {A : Option Addr} {vs : List Value} {ls : List (List UInt8)} (hv : Rd w A vs) (hl : AreB w vs ls) (h0 : 0 < ls.length) :
    ∃ bb ob, A = some ⟨bb, ob, none⟩ ∧ bb < w.heap.size ∧ ∀ i, i < ls.length → ∃ Ai ci, (∀ ad, Ai = some ad → 0 < (ls.getD i []).length → ad.block < w.heap.size) ∧ ∀ W, Below w.heap.size w W → W.cell? ⟨bb, ob + i, none⟩ = some (.slice Ai (ls.getD i []).length ci) ∧ RB W Ai (ls.getD i []) := by
  have hlen : vs.length = ls.length := hl.1
  obtain ⟨bb, ob, e, hlt, hcell⟩ := hv.lit_of 0 (by omega)
  refine ⟨bb, ob, e, hlt, fun i hi => ?_⟩
  obtain ⟨Ai, ci, hvi, hr⟩ := hl.at_ i hi
  have hc := hcell i (by omega)
  rw [List.getElem?_eq_getElem (by omega)] at hvi
  rw [Option.some.inj hvi] at hc
  exact ⟨Ai, ci, fun ad e hp => Rd.lt hr e (by intro h0; rw [List.map_eq_nil_iff] at h0; rw [h0] at hp; simp at hp), fun W hb => ⟨(hb.cell (p := ⟨bb, ob + i, none⟩) hlt).trans hc, hr.below hb⟩⟩
theorem OnceQ.full {ls : List (List UInt8)} {F : List Int} {s : CSt} (h : OnceQ ls ls.length F s) (inv : CInv s) (i : Nat) (hi : i < ls.length) : (okLen (ls.getD i []) ∧ s.l (F.getD i 0) = some (ls.getD i []) ∧ 1 ≤ F.getD i 0 ∧ F.getD i 0 < s.next) ∨ F.getD i 0 = 0 := by
  rcases (h.2 i hi).1 hi with ⟨a, b⟩ | ⟨a, b⟩
  · have := inv.i4 _ _ b
    exact .inl ⟨a, b, this.2⟩
  · exact .inr b
theorem same_id {s : CSt} (inv : CInv s) {x y : Int} {a b : List UInt8} (hx : s.l x = some a) (hy : s.l y = some b) : (x == y) = ((⟨a.toArray⟩ : ByteArray).toList == (⟨b.toArray⟩ : ByteArray).toList) := by
  have e1 : (⟨a.toArray⟩ : ByteArray).toList = a := by simp
  have e2 : (⟨b.toArray⟩ : ByteArray).toList = b := by simp
  rw [e1, e2, Bool.eq_iff_iff, beq_iff_eq, beq_iff_eq]
  constructor
  · intro e
    rw [e, hy] at hx
    exact (Option.some.inj hx).symm
  · intro e
    rw [e] at hx
    exact inv.i3 x y b hx hy

set_option maxRecDepth 100000 in
set_option maxHeartbeats 8000000 in
theorem once_walk (A : Option Addr) (m cap : Nat) (vs : List Value) (ls : List (List UInt8)) (hm : ls.length = m) (A1 : Option Addr) (m1 c1 : Nat) (l1 : List UInt8) (hm1 : l1.length = m1) (w : World) (hmm : m ≤ 9223372036854775807) (hm1m : m1 ≤ 9223372036854775807) (hv : Rd w A vs) (hl : AreB w vs ls) (hlen : ∀ b ∈ ls, b.length ≤ 9223372036854775807) (hr1 : RB w A1 l1) :
    Calls Try.prog 3 #[.slice A m cap, .slice A1 m1 c1] w fun e w' => e = .returned (.bool true) ∧ Below w.heap.size w w' := by
  subst hm hm1
  by_cases c60 : (60 : Int) < (ls.length : Int)
  · go_enter Try.func3, Try.ntmps3
    go_wp2_with fail
    (with_reducible refine (law10_awake _).mono ?_)
    rintro e w1 ⟨rfl, hb1⟩
    go_wp2
    go_ret
    exact ⟨rfl, hb1⟩
  by_cases c200 : (200 : Int) < (l1.length : Int)
  · go_enter Try.func3, Try.ntmps3
    go_wp2_with fail
    (with_reducible refine (law10_awake _).mono ?_)
    rintro e w1 ⟨rfl, hb1⟩
    go_wp2
    go_ret
    exact ⟨rfl, hb1⟩
  have hmk := fun W : World => make_run (P := Try.prog) 27 3 (.int .i64 0) 8 Try.underlying27 info_int rfl (ls.length : Int) (by omega) (by omega) (by omega) W
  simp only [show ((ls.length : Nat) : Int).toNat = ls.length by omega] at hmk
  have HV := Lib.hid hv
  have HL := Lib.hid hl
  have HLEN := Lib.hid hlen
  have HR1 := Lib.hid hr1
  clear hv hl hlen hr1
  go_enter Try.func3, Try.ntmps3
  go_wp2_with fail
  (with_reducible refine (law10_awake _).mono ?_)
  rintro e w1 ⟨rfl, hb1⟩
  go_wp2_with fail
  (with_reducible refine (chunk_new _).mono ?_)
  rintro e w2 ⟨g, rfl, hc2, hb2⟩
  have hz1 := hb1.size
  have hz2 := hb2.size
  have hb3 := bal (bn hb1 hb2) (.cells (Array.replicate ls.length (.int .i64 0)) 3)
  have hc3 := hc2.below (bal (Below.refl _ _) (.cells (Array.replicate ls.length (.int .i64 0)) 3))
  have hB3 : Blk (w2.alloc (.cells (Array.replicate ls.length (.int .i64 0)) 3)) w2.heap.size 3 (i64a (List.replicate ls.length 0)) := by rw [i64a_zero]; exact Blk.new w2 3 _
  go_wp2
  generalize (w2.alloc (.cells (Array.replicate ls.length (.int .i64 0)) 3)) = W3 at *
  clear hmk
  have hR : w2.heap.size = w2.heap.size := rfl
  obtain ⟨R, hRe⟩ : ∃ R, w2.heap.size = R := ⟨_, rfl⟩
  rw [hRe] at hB3 ⊢
  have hP3 : ∀ j, (w1.heap.size ≤ j ∧ j < w2.heap.size) → w.heap.size ≤ j ∧ j ≠ R := fun j hj => by omega
  have hRlt := hB3.lt
  have hRlow : w.heap.size ≤ R := by omega
  clear hR
  go_loopw [7, 8] (fun sz i wr => ∃ (k : Nat) (s : CSt) (P : Nat → Prop) (F : List Int), k ≤ ls.length ∧ i = .int .i64 (k : Int) ∧ sz = .int .i64 s.size ∧ Chunks wr g P (2 * k) s ∧ Hid (∀ j, P j → w.heap.size ≤ j ∧ j ≠ R) ∧ Blk wr R 3 (i64a F) ∧ Hid (COk (2 * k) s ∧ CInv s ∧ s.next ≤ (k : Int) + 1) ∧ Hid (OnceQ ls k F s) ∧ Below w.heap.size w wr) (fun _ i _ => ls.length - (intOf i).toNat)
  case atStart => exact ⟨0, CSt.empty, _, _, Nat.zero_le _, rfl, rfl, hc3, hP3, hB3, ⟨COk.empty, CInv.empty, by decide⟩, OnceQ.start ls _, hb3⟩
  case round =>
    clear hc3 hP3 hB3 hb3 hc2 hb1 hb2 hz1 hz2 hRe
    obtain ⟨k, s, P, F, hk, rfl, rfl, hc, hP, hB, hinv, hQ, hb⟩ := hrel
    by_cases hlt : k < ls.length
    · obtain ⟨Ab, cb, hvk, hrb⟩ := HL.out.at_ k hlt
      have hbl := HLEN.out (ls.getD k []) (by rw [List.getD_eq_getElem?_getD, List.getElem?_eq_getElem hlt]; exact List.getElem_mem hlt)
      have hQP := fun id s' => hQ.out.put (s' := s') hlt (id := id)
      have hQS := hQ.out.skip (k := k)
      have hFk : F.length = ls.length := hQ.out.1
      obtain ⟨bb, ob, rfl, hblt, hcell⟩ := HV.out.lit_of k (by rw [HL.out.1]; exact hlt)
      have hck := hcell k (by rw [HL.out.1]; exact hlt)
      have hvk2 : vs[k]'(by rw [HL.out.1]; exact hlt) = .slice Ab (ls.getD k []).length cb := by
        rw [List.getElem?_eq_getElem (by rw [HL.out.1]; exact hlt)] at hvk
        exact Option.some.inj hvk
      rw [hvk2] at hck
      have HCK : Hid (∀ W, Below w.heap.size w W → W.cell? ⟨bb, ob + k, none⟩ = some (.slice Ab (ls.getD k []).length cb)) := fun W h => (h.cell (p := ⟨bb, ob + k, none⟩) hblt).trans hck
      have hAlt : ∀ ad, Ab = some ad → 0 < (ls.getD k []).length → ad.block < w.heap.size := fun ad e hp => Rd.lt hrb e (by intro h0; rw [List.map_eq_nil_iff] at h0; rw [h0] at hp; simp at hp)
      have i0 : (0 : Int) ≤ (k : Int) := by omega
      have i1 : (k : Int) < (ls.length : Int) := by omega
      clear hcell hvk hvk2 hck
      obtain ⟨ok, inv, hnx⟩ := hinv.out
      have hs0 := ok.size0
      have hs1 := ok.size1
      generalize ls.getD k [] = tx at *
      have x0 := HCK.out _ hb
      by_cases hval : okLen tx
      · have hQP2 := fun id s' => hQP id s' hval
        unfold okLen at hval
        have hv1 := hval.1
        have hv2 := hval.2
        cases hf : findId s tx with
        | some id =>
          have hput : putR s tx = (id, false, 0, s) := by unfold putR; rw [if_pos hval, hf]
          have hfid := (inv.find hv1 id).1 hf
          have HP := Lib.hid (chunk_put g P (2 * k) s Ab tx.length cb tx wr rfl (hrb.below hb) (by omega) (fun ad e hp => by have h1 := hAlt ad e (by omega); have h2 := (hP.out _ hp).1; omega) hc ok inv (by omega) (by omega))
          rw [hput] at HP
          unfold PutPost at HP
          simp only at HP
          have HQN := Lib.hid (hQP2 id s hfid (fun x b h => h))
          have HINV : Hid (COk (2 * (k + 1)) (s) ∧ CInv (s) ∧ (s).next ≤ ((k + 1 : Nat) : Int) + 1) := by
            have := putR_ok ok inv (by omega) (by omega) tx
            rw [hput] at this
            exact ⟨this.1, this.2.1, by have h3 := this.2.2; simp only at h3; omega⟩
          have HSZ : Hid ((s).size = s.size + 0) := Lib.hid (by simp)
          clear hput hQP hQP2 hQS ok inv hinv hQ
          clear hf hfid hval
          go_wp2_with fail
          (with_reducible refine (HP.out).mono ?_)
          rintro e w5 ⟨rfl, hk5, hc5⟩
          have hB5 := hB.kp hk5 fun h => (hP.out R h).2 rfl
          have hb5 : Below w.heap.size w w5 := hb.trans (hk5.below hb.size fun j hj => (hP.out j hj).1)
          have hRw := hB.lt
          have hzr := hb.size
          have hP5 : Hid (∀ j, (P j ∨ (wr.heap.size ≤ j ∧ j < w5.heap.size)) → w.heap.size ≤ j ∧ j ≠ R) := fun j hj => by
            rcases hj with hj | hj
            · exact hP.out j hj
            · omega
          have x9 : w5.cell? ⟨R, k, none⟩ = some (.int .i64 (F.getD k 0)) := (hB5.cell k).trans (i64a_get F k (by omega))
          have f9 : w5.frozen? ⟨R, k, none⟩ = false := hB5.frozen k
          have HB6 := Lib.hid (hB5.set k (.int .i64 id))
          rw [i64a_set] at HB6
          have HK6 := Lib.hid ((Kp.refl (fun j => j = R) w5).setCell k (.int .i64 id) rfl)
          have HC6 : Hid (Chunks (w5.setCell ⟨R, k, none⟩ (.int .i64 id)) g _ (2 * k + 2) s) := hc5.kp HK6.out fun j hj e => (hP5.out j hj).2 e
          have HBB : Hid (Below w.heap.size w (w5.setCell ⟨R, k, none⟩ (.int .i64 id))) := hb5.setCell (by simp only; omega) _
          have x5 := HCK.out _ hb5
          have x6 := HCK.out _ HBB.out
          clear hk5 hc5 hB5 hc hB
          go_wp2
          go_roundw
          case rel => exact ⟨k + 1, s, _, F.set k id, by omega, by go_num, rfl, HC6.out, hP5, HB6.out, HINV, HQN, HBB.out⟩
          case measure => simp [intOf]; try omega

        | none =>
          have hput : putR s tx = (s.next, true, 0, setSt s s.next tx) := by unfold putR; rw [if_pos hval, hf]
          have HP := Lib.hid (chunk_put g P (2 * k) s Ab tx.length cb tx wr rfl (hrb.below hb) (by omega) (fun ad e hp => by have h1 := hAlt ad e (by omega); have h2 := (hP.out _ hp).1; omega) hc ok inv (by omega) (by omega))
          rw [hput] at HP
          unfold PutPost at HP
          simp only at HP
          have HQN := Lib.hid (hQP2 s.next (setSt s s.next tx) (by simp [setSt]) (fun x b h => set_keeps (inv.next_none (Int.le_refl _)) x b h))
          have HINV : Hid (COk (2 * (k + 1)) ((setSt s s.next tx)) ∧ CInv ((setSt s s.next tx)) ∧ ((setSt s s.next tx)).next ≤ ((k + 1 : Nat) : Int) + 1) := by
            have := putR_ok ok inv (by omega) (by omega) tx
            rw [hput] at this
            exact ⟨this.1, this.2.1, by have h3 := this.2.2; simp only at h3; omega⟩
          have HSZ : Hid (((setSt s s.next tx)).size = s.size + tx.length) := rfl
          clear hput hQP hQP2 hQS ok inv hinv hQ
          clear hf hval
          generalize hS1 : setSt s s.next tx = s1 at *
          generalize hNX : s.next = nx at *
          clear hS1 hNX
          go_wp2_with fail
          (with_reducible refine (HP.out).mono ?_)
          rintro e w5 ⟨rfl, hk5, hc5⟩
          have hB5 := hB.kp hk5 fun h => (hP.out R h).2 rfl
          have hb5 : Below w.heap.size w w5 := hb.trans (hk5.below hb.size fun j hj => (hP.out j hj).1)
          have hRw := hB.lt
          have hzr := hb.size
          have hP5 : Hid (∀ j, (P j ∨ (wr.heap.size ≤ j ∧ j < w5.heap.size)) → w.heap.size ≤ j ∧ j ≠ R) := fun j hj => by
            rcases hj with hj | hj
            · exact hP.out j hj
            · omega
          have x9 : w5.cell? ⟨R, k, none⟩ = some (.int .i64 (F.getD k 0)) := (hB5.cell k).trans (i64a_get F k (by omega))
          have f9 : w5.frozen? ⟨R, k, none⟩ = false := hB5.frozen k
          have HB6 := Lib.hid (hB5.set k (.int .i64 nx))
          rw [i64a_set] at HB6
          have HK6 := Lib.hid ((Kp.refl (fun j => j = R) w5).setCell k (.int .i64 nx) rfl)
          have HC6 : Hid (Chunks (w5.setCell ⟨R, k, none⟩ (.int .i64 nx)) g _ (2 * k + 2) s1) := hc5.kp HK6.out fun j hj e => (hP5.out j hj).2 e
          have HBB : Hid (Below w.heap.size w (w5.setCell ⟨R, k, none⟩ (.int .i64 nx))) := hb5.setCell (by simp only; omega) _
          have x5 := HCK.out _ hb5
          have x6 := HCK.out _ HBB.out
          clear hk5 hc5 hB5 hc hB
          go_wp2
          go_roundw
          case rel => exact ⟨k + 1, s1, _, F.set k nx, by omega, by go_num, by rw [HSZ.out], HC6.out, hP5, HB6.out, HINV, HQN, HBB.out⟩
          case measure => simp [intOf]; try omega

      · have HQN := Lib.hid (hQS hval)
        have HINV : Hid (COk (2 * (k + 1)) s ∧ CInv s ∧ s.next ≤ ((k + 1 : Nat) : Int) + 1) := ⟨ok.mono (by omega) (by omega), inv, by omega⟩
        have HG := Lib.hid (hc.mono (P' := P) (fun _ h => h) hc.lt)
        have HC2 : Hid (Chunks wr g P (2 * (k + 1)) s) := by
          obtain ⟨L, By, fl, fb, h⟩ := hc
          exact ⟨L, By, fl, fb, h.mono (fun _ h => h) h.lt (by omega)⟩
        unfold okLen at hval
        have HP := Lib.hid (chunk_put_no g Ab tx.length cb wr (by omega) hval)
        clear hQP hQS ok inv hinv hQ hc HG
        by_cases h1 : tx.length < 1
        · have t1 : (tx.length : Int) < 1 := by omega
          clear hval h1
          go_wp2_with fail
          (with_reducible refine (HP.out).mono ?_)
          rintro e _ ⟨rfl, rfl⟩
          go_wp2
          go_roundw
          case rel => exact ⟨k + 1, s, P, F, by omega, by go_num, rfl, HC2.out, hP, hB, HINV, HQN, hb⟩
          case measure => simp [intOf]; try omega
        · have t1 : 1 ≤ (tx.length : Int) := by omega
          have t2 : (64 : Int) < (tx.length : Int) := by omega
          clear hval h1
          go_wp2_with fail
          (with_reducible refine (HP.out).mono ?_)
          rintro e _ ⟨rfl, rfl⟩
          go_wp2
          go_roundw
          case rel => exact ⟨k + 1, s, P, F, by omega, by go_num, rfl, HC2.out, hP, hB, HINV, HQN, hb⟩
          case measure => simp [intOf]; try omega
    · obtain rfl : k = ls.length := by omega
      obtain ⟨ok, inv, hnx⟩ := hinv.out
      have hFl : F.length = ls.length := hQ.out.1
      have HQ := Lib.hid fun i hi => hQ.out.full inv i hi
      have HINV := Lib.hid inv
      have HOK : Hid (∀ q, q ≤ 200 → COk (2 * ls.length + 2 * q) s) := fun q hq => ok.mono (by omega) (by omega)
      clear hQ hinv ok inv hlt hk
      go_wp2
      go_loopw [12] (fun i wr => ∃ (q : Nat) (P : Nat → Prop), q ≤ l1.length ∧ i = .int .i64 (q : Int) ∧ Chunks wr g P (2 * ls.length + 2 * q) s ∧ Hid (∀ j, P j → w.heap.size ≤ j ∧ j ≠ R) ∧ Blk wr R 3 (i64a F) ∧ Below w.heap.size w wr) (fun i _ => l1.length - (intOf i).toNat)
      case atStart => exact ⟨0, P, Nat.zero_le _, rfl, hc, hP, hB, hb⟩
      case round =>
        clear hc hP hB hb
        obtain ⟨q, P, hq, rfl, hc, hP, hB, hb⟩ := hrel
        by_cases hl0 : q < l1.length ∧ ¬ ls.length = 0
        · have hlt := hl0.1
          have hl0 := hl0.2
          by_cases hlt : q < l1.length
          · obtain ⟨b1, o1, rfl, hb1lt, hby⟩ := Rd.lit_of HR1.out q (by rw [List.length_map]; exact hlt)
            have hcq0 := hby q (by rw [List.length_map]; exact hlt)
            rw [List.getElem_map] at hcq0
            have hcq : wr.cell? ⟨b1, o1 + q, none⟩ = some (eb l1[q]) := (hb.cell (p := ⟨b1, o1 + q, none⟩) hb1lt).trans hcq0
            have hx256 := (l1[q]).toNat_lt
            unfold eb at hcq
            clear hby hcq0
            generalize (l1[q]).toNat = x at *
            obtain ⟨kk, hkk⟩ : ∃ kk, kk = x % ls.length := ⟨_, rfl⟩
            have hkl : kk < ls.length := by rw [hkk]; exact Nat.mod_lt _ (by omega)
            have hrem : Int.tmod (x:Int) (ls.length:Int) = (kk : Int) := by rw [hkk]; exact (Int.ofNat_tmod ..).symm
            have i0 : (0 : Int) ≤ (q : Int) := by omega
            have i1 : (q : Int) < (l1.length : Int) := by omega
            have k0 : (0 : Int) ≤ (kk : Int) := by omega
            have k1 : (kk : Int) < (ls.length : Int) := by omega
            have hlp : (0 : Int) < (ls.length : Int) := by omega
            have hln : (ls.length : Int) ≠ 0 := by omega
            have x9 : wr.cell? ⟨R, kk, none⟩ = some (.int .i64 (F.getD kk 0)) := (hB.cell kk).trans (i64a_get F kk (by omega))
            have HQ9 := HQ.out kk hkl
            clear hkk
            obtain ⟨bb, ob, rfl, hbblt, HT0⟩ := texts_at HV.out HL.out (by omega)
            obtain ⟨Ai, ci, hAlt, HT1⟩ := HT0 kk hkl
            have HT := Lib.hid HT1
            have hbl := HLEN.out (ls.getD kk []) (by rw [List.getD_eq_getElem?_getD, List.getElem?_eq_getElem hkl]; exact List.getElem_mem hkl)
            clear HT0 HT1
            generalize hfe : F.getD kk 0 = fid at *
            generalize ls.getD kk [] = tx at *
            obtain ⟨x7, hrx⟩ := HT.out _ hb
            rcases HQ9 with ⟨hval, hsl, hf1, hfn⟩ | rfl
            · unfold okLen at hval
              have hv1 := hval.1
              have hv2 := hval.2
              have hfd := (HINV.out.find hv1 fid).2 hsl
              have hput : putR s tx = (fid, false, 0, s) := by unfold putR; rw [if_pos hval, hfd]
              have HP := Lib.hid (chunk_put g P (2 * ls.length + 2 * q) s Ai tx.length ci tx wr rfl hrx (by omega) (fun ad e hp => by have h1 := hAlt ad e (by omega); have h2 := (hP.out _ hp).1; omega) hc (HOK.out q (by omega)) HINV.out (by omega) (by omega))
              rw [hput] at HP
              unfold PutPost at HP
              simp only at HP
              have hfb : (fid == 0) = false := by rw [beq_eq_false_iff_ne]; omega
              have HG : Hid (∀ W, Chunks W g (fun j => P j ∨ (wr.heap.size ≤ j ∧ j < W.heap.size)) (2 * ls.length + 2 * q + 2) s → Calls Try.prog 17 #[.pointer (some ⟨g, 0, none⟩), .int .i64 fid] W fun e w' => ∃ v, e = .returned (.tuple #[v, .bool true]) ∧ Own w' W.heap.size 5 v (tx.map eb) ∧ Below W.heap.size W w') := fun W h => by
                have h9 := chunk_get g _ _ s fid (by omega) (by omega) W h (fun b e => by rw [hsl] at e; cases e; omega)
                rw [hsl] at h9
                exact h9
              clear hput hfd hsl hval hc hAlt hrx
              go_wp2_with fail
              (with_reducible refine (HP.out).mono ?_)
              rintro e w5 ⟨rfl, hk5, hc5⟩
              have hB5 := hB.kp hk5 fun h => (hP.out R h).2 rfl
              have hb5 : Below w.heap.size w w5 := hb.trans (hk5.below hb.size fun j hj => (hP.out j hj).1)
              have hRw := hB.lt
              have hzr := hb.size
              have hP5 : Hid (∀ j, (P j ∨ (wr.heap.size ≤ j ∧ j < w5.heap.size)) → w.heap.size ≤ j ∧ j ≠ R) := fun j hj => by
                rcases hj with hj | hj
                · exact hP.out j hj
                · omega
              have x9 : w5.cell? ⟨R, kk, none⟩ = some (.int .i64 fid) := by rw [← hfe]; exact (hB5.cell kk).trans (i64a_get F kk (by omega))
              clear hk5 hB
              go_wp2_with fail
              (with_reducible refine (HG.out _ hc5).mono ?_)
              rintro e w6 ⟨v6, rfl, ho6, hb6⟩
              obtain ⟨A6, c6, rfl, _, r6⟩ := ho6.bytes
              have hb06 := bn hb5 hb6
              have hB6 := hB5.below hb6
              have hc6 := hc5.below hb6
              obtain ⟨x7, hrx⟩ := HT.out _ hb06
              have t1 : ∀ nq, (convert 23 9 (.slice A6 tx.length c6)).run Try.prog (w6.drewN nq) = .ok (.string ⟨tx.toArray⟩) (w6.drewN nq) := fun nq => run_str_try _ _ _ _ _ rfl (r6.below (below_drewN (Below.refl _ _) _))
              have t2 : ∀ nq, (convert 23 9 (.slice Ai tx.length ci)).run Try.prog (w6.drewN nq) = .ok (.string ⟨tx.toArray⟩) (w6.drewN nq) := fun nq => run_str_try _ _ _ _ _ rfl (hrx.below (below_drewN (Below.refl _ _) _))
              have hbeq : ((⟨tx.toArray⟩ : ByteArray).toList == (⟨tx.toArray⟩ : ByteArray).toList) = true := beq_iff_eq.2 rfl
              generalize (⟨tx.toArray⟩ : ByteArray) = s1 at *
              go_wp2
              go_quiet (fail)
              have hb7 : Below w6.heap.size w6 (w6.drewN nq) := below_drewN (Below.refl _ _) _
              have hc7 := hc6.below hb7
              have hB7 := hB6.below hb7
              have hb07 := bn hb06 hb7
              clear t1 t2 hbeq hb7 hc6 hB6 hc5 hB5
              generalize w6.drewN nq = w7 at *
              go_wp2
              go_roundw
              case rel => exact ⟨q + 1, _, by omega, by go_num, hc7, hP5, hB7, hb07⟩
              case measure => simp [intOf]; try omega
            · have HC2 : Hid (Chunks wr g P (2 * ls.length + 2 * (q + 1)) s) := by
                obtain ⟨L, By, fl, fb, h⟩ := hc
                exact ⟨L, By, fl, fb, h.mono (fun _ h => h) h.lt (by omega)⟩
              clear hc hrx hAlt
              go_wp2
              go_roundw
              case rel => exact ⟨q + 1, P, by omega, by go_num, HC2.out, hP, hB, hb⟩
              case measure => simp [intOf]; try omega
          · omega
        · by_cases hl1 : q < l1.length
          all_goals
            first
            | have hlz : (ls.length : Int) = 0 := by omega
            | have hlz : l1.length ≤ q := by omega
            go_wp2
            go_loopw [19] (fun i wx => ∃ (a : Nat), a ≤ ls.length ∧ i = .int .i64 (a : Int) ∧ Chunks wx g P (2 * ls.length + 2 * q) s ∧ Blk wx R 3 (i64a F) ∧ Below w.heap.size w wx) (fun i _ => ls.length - (intOf i).toNat)
            case atStart => exact ⟨0, Nat.zero_le _, rfl, hc, hB, hb⟩
            case round =>
              clear hc hB hb
              obtain ⟨a, ha, rfl, hc, hB, hb⟩ := hrel
              by_cases hlt : a < ls.length
              · try (exfalso; omega)
                all_goals
                  go_wp2
                  go_loopw [20] (fun i wx => ∃ (b : Nat), b ≤ a ∧ i = .int .i64 (b : Int) ∧ Chunks wx g P (2 * ls.length + 2 * q) s ∧ Blk wx R 3 (i64a F) ∧ Below w.heap.size w wx) (fun i _ => a - (intOf i).toNat)
                  case atStart => exact ⟨0, Nat.zero_le _, rfl, hc, hB, hb⟩
                  case round =>
                    clear hc hB hb
                    obtain ⟨b, hbb, rfl, hc, hB, hb⟩ := hrel
                    by_cases hbt : b < a
                    · have HA := HQ.out a hlt
                      have HBQ := HQ.out b (by omega)
                      have a9 := (hB.cell a).trans (i64a_get F a (by omega))
                      have b9 := (hB.cell b).trans (i64a_get F b (by omega))
                      obtain ⟨bb, ob, rfl, hbblt, HT0⟩ := texts_at HV.out HL.out (by omega)
                      obtain ⟨Aa, ca, _, HTa⟩ := HT0 a hlt
                      obtain ⟨Ab, cb, _, HTb⟩ := HT0 b (by omega)
                      obtain ⟨xa, ra⟩ := HTa _ hb
                      obtain ⟨xb, rb⟩ := HTb _ hb
                      clear HT0 HTa HTb
                      generalize F.getD a 0 = fa at *
                      generalize F.getD b 0 = fb at *
                      generalize ls.getD a [] = ta at *
                      generalize ls.getD b [] = tb at *
                      have i0 : (0 : Int) ≤ (a : Int) := by omega
                      have i1 : (a : Int) < (ls.length : Int) := by omega
                      have j0 : (0 : Int) ≤ (b : Int) := by omega
                      have j1 : (b : Int) < (ls.length : Int) := by omega
                      have j2 : (b : Int) < (a : Int) := by omega
                      have HC := Lib.hid hc
                      have HB := Lib.hid hB
                      clear hc hB
                      rcases HA with ⟨_, hsa, ha1, _⟩ | rfl
                      · rcases HBQ with ⟨_, hsb, hb1, _⟩ | rfl
                        · have hse := same_id HINV.out hsa hsb
                          have t1 : ∀ nq, (convert 23 9 (.slice Aa ta.length ca)).run Try.prog (World.drewN _ nq) = .ok (.string ⟨ta.toArray⟩) (World.drewN _ nq) := fun nq => run_str_try _ _ _ _ _ rfl (ra.below (below_drewN (Below.refl _ _) _))
                          have t2 : ∀ nq, (convert 23 9 (.slice Ab tb.length cb)).run Try.prog (World.drewN _ nq) = .ok (.string ⟨tb.toArray⟩) (World.drewN _ nq) := fun nq => run_str_try _ _ _ _ _ rfl (rb.below (below_drewN (Below.refl _ _) _))
                          clear ra rb hsa hsb
                          generalize (⟨ta.toArray⟩ : ByteArray) = sa at *
                          generalize (⟨tb.toArray⟩ : ByteArray) = sb at *
                          have p1 : (0 : Int) < fa := by omega
                          have p2 : (0 : Int) < fb := by omega
                          cases hq : (sa.toList == sb.toList)
                          all_goals
                            rw [hq] at hse
                            go_wp2
                            go_quiet (fail)
                            clear t1 t2
                            have HC := Lib.hid (HC.out.below (below_drewN (Below.refl _ _) nq))
                            have HB := Lib.hid (HB.out.below (below_drewN (Below.refl _ _) nq))
                            have hb := bn hb (below_drewN (Below.refl _ _) nq)
                            go_wp2
                            go_roundw
                            case rel => exact ⟨b + 1, by omega, by go_num, HC.out, HB.out, hb⟩
                            case measure => simp [intOf]; try omega
                        · have p1 : (0 : Int) < fa := by omega
                          clear ra rb hsa
                          go_wp2
                          go_quiet (fail)
                          have HC := Lib.hid (HC.out.below (below_drewN (Below.refl _ _) nq))
                          have HB := Lib.hid (HB.out.below (below_drewN (Below.refl _ _) nq))
                          have hb := bn hb (below_drewN (Below.refl _ _) nq)
                          go_wp2
                          go_roundw
                          case rel => exact ⟨b + 1, by omega, by go_num, HC.out, HB.out, hb⟩
                          case measure => simp [intOf]; try omega
                      · clear HBQ ra rb
                        go_wp2
                        go_quiet (fail)
                        have HC := Lib.hid (HC.out.below (below_drewN (Below.refl _ _) nq))
                        have HB := Lib.hid (HB.out.below (below_drewN (Below.refl _ _) nq))
                        have hb := bn hb (below_drewN (Below.refl _ _) nq)
                        go_wp2
                        go_roundw
                        case rel => exact ⟨b + 1, by omega, by go_num, HC.out, HB.out, hb⟩
                        case measure => simp [intOf]; try omega
                    · go_wp2
                      go_roundw
                      case rel => exact ⟨a + 1, by omega, by go_num, hc, hB, hb⟩
                      case measure => simp [intOf]; try omega
              · have HC := Lib.hid (chunk_size g P _ s _ hc)
                go_wp2_with fail
                (with_reducible refine (HC.out).mono ?_)
                rintro e _ ⟨rfl, rfl⟩
                go_wp2
                go_ret
                exact ⟨ret_bool (by simp), hb⟩
end Go.Proofs.Ytpnfgnddlfkfaaa
