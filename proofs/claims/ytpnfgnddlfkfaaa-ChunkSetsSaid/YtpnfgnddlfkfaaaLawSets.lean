/-
  What ChunkSets calls and gives.
-/
import Derived.Test.YtpnfgnddlfkfaaaSetsMath
set_option linter.unusedSimpArgs false
set_option linter.unusedVariables false
namespace Go.Proofs.Ytpnfgnddlfkfaaa
open Go.RowKit Go.Maps

theorem bytes_of_textF (w : World) (s : List UInt8) : ∃ A c w', (convert 9 23 (.string ⟨s.toArray⟩)).run Try.prog w = .ok (.slice A s.length c) w' ∧ RB w' A s ∧ Below w.heap.size w w' ∧ ∀ ad, A = some ad → w.heap.size ≤ ad.block ∧ ad.block < w'.heap.size := by
  have h := run_bytes_of_string (P := Try.prog) w 9 23 5 ⟨s.toArray⟩ Try.underlying9 Try.underlying23 Try.underlying5
  have hsz : (⟨s.toArray⟩ : ByteArray).size = s.length := by simp [ByteArray.size]
  rw [hsz] at h
  refine ⟨_, _, _, h, ?_, bal (bdr (Below.refl _ _)) _, fun ad e => by cases e; exact ⟨Nat.le_refl _, by rw [size_more']; exact Nat.lt_succ_self _⟩⟩
  intro i u hi
  refine ⟨_, rfl, ?_⟩
  have e1 : (⟨w.heap.size, 0, none⟩ : Addr).add i = ⟨w.heap.size, i, none⟩ := by unfold Addr.add; split <;> simp_all
  have e2 : w.drew.heap.size = w.heap.size := rfl
  have hnew := heap_alloc_new w.drew (.cells (bytesRow ⟨s.toArray⟩ (grownCap w s.length 0 5)) 5 ((bytesRow ⟨s.toArray⟩ (grownCap w s.length 0 5)).size, (bytesRow ⟨s.toArray⟩ (grownCap w s.length 0 5)).size + 1))
  rw [e2] at hnew
  rw [e1, cell_of_row _ w.heap.size i _ 5 _ hnew]
  have hi2 : i < s.length := by
    have := (List.getElem?_eq_some_iff.1 hi).1
    simpa using this
  have hi3 : (s.map eb)[i]? = some u := hi
  rw [List.getElem?_map, List.getElem?_eq_getElem hi2] at hi3
  unfold bytesRow
  rw [Array.getElem?_append_left (by simpa using hi2)]
  simpa [eb, List.getElem?_eq_getElem hi2] using hi3

set_option maxRecDepth 100000 in
set_option maxHeartbeats 2000000 in
theorem chunk_parseF (A : Option Addr) (m c : Nat) (l : List UInt8) (w : World) (hm : l.length = m) (hl : l.length ≤ 1000000000) (hr : RB w A l) :
    Calls Try.prog 22 #[.slice A m c] w fun e w' => ∃ A2 c2, e = .returned (.tuple #[.int .i64 ((parseR l).1 : Int), .slice A2 (parseR l).2.1.length c2, .int .i64 (if (parseR l).2.2 then 0 else 2)]) ∧ RB w' A2 (parseR l).2.1 ∧ Below w.heap.size w w' ∧ ∀ ad, A2 = some ad → w.heap.size ≤ ad.block ∧ ad.block < w'.heap.size := by
  subst hm
  have HOF := Lib.hid (parse_of (l := l))
  generalize parseR l = pr at *
  go_enter Try.func22, Try.ntmps22
  go_wp2_with fail
  (with_reducible refine (eye_new A _ c l w rfl (by omega) hr).mono ?_)
  rintro e w2 ⟨g, rfl, hg, he2, hb2⟩
  go_wp2_with fail
  (with_reducible refine (eye_num g _ _ he2 he2.lt2).mono ?_)
  rintro e w3 ⟨rfl, he3, hk3⟩
  have hb3 := hb2.trans (hk3.below hb2.size hg)
  clear he2 hb2 hk3
  generalize hE : eNum (some l) = E at *
  obtain ⟨n, st⟩ := E
  simp only at he3 HOF ⊢
  go_wp2_with fail
  (with_reducible refine (eye_text g _ _ he3 he3.lt2).mono ?_)
  rintro e w4 ⟨rfl, he4, hk4⟩
  have hb4 := hb3.trans (hk4.below hb3.size hg)
  clear he3 hb3 hk4 hE
  rcases HOF.out with ⟨s, rfl, hs⟩ | ⟨rfl, hs | ⟨x, r, hs⟩⟩
  · rw [hs] at he4 ⊢
    simp only at he4 ⊢
    clear hs HOF
    obtain ⟨A5, c5, w5, hcv, hr5, hb5, hfr5⟩ := bytes_of_textF w4 s
    generalize (⟨s.toArray⟩ : ByteArray) = ss at *
    go_wp2_with fail
    (with_reducible refine (eye_bad g _ _ he4).mono ?_)
    rintro e _ ⟨rfl, rfl⟩
    go_wp2_with fail
    (with_reducible refine (eye_left g _ _ he4).mono ?_)
    rintro e _ ⟨rfl, rfl⟩
    simp only [left, Option.isNone_some, List.length_nil]
    go_wp2
    go_ret3
    exact ⟨A5, ⟨c5, rfl⟩, hr5, bn hb4 hb5, fun ad e => ⟨Nat.le_trans hb4.size (hfr5 ad e).1, (hfr5 ad e).2⟩⟩
  · rw [hs] at he4
    clear hs HOF
    generalize (ByteArray.mk _) = ss at *
    go_wp2_with fail
    (with_reducible refine (eye_bad g _ _ he4).mono ?_)
    rintro e _ ⟨rfl, rfl⟩
    simp only [Option.isNone_none]
    go_wp2
    go_ret3
    exact ⟨none, ⟨0, rfl⟩, RB.nil _ _, hb4, fun ad e => by cases e⟩
  · rw [hs] at he4
    clear hs HOF
    generalize (ByteArray.mk _) = ss at *
    go_wp2_with fail
    (with_reducible refine (eye_bad g _ _ he4).mono ?_)
    rintro e _ ⟨rfl, rfl⟩
    go_wp2_with fail
    (with_reducible refine (eye_left g _ _ he4).mono ?_)
    rintro e _ ⟨rfl, rfl⟩
    have hpos : (0 : Int) < ((left (some (x :: r)) : Nat) : Int) := by simp [left]
    generalize ((left (some (x :: r)) : Nat) : Int) = q at *
    simp only [Option.isNone_some]
    go_wp2
    go_ret3
    exact ⟨none, ⟨0, rfl⟩, RB.nil _ _, hb4, fun ad e => by cases e⟩

/-- 'append(row, x)', one value of one cell -/
theorem append_one {P : Program} (t e : TypeId) (z : Value) (bytes : Nat) (ht : P.underlying t = some (.slice e)) (hi : (P.info? e).map (fun i => (i.zero, i.size, i.bytes)) = some (some z, 1, bytes)) (hz1 : z.cells.size = 1) (hb64 : 0 < bytes ∧ bytes ≤ 64)
    (w : World) (v : Value) (cs : List Value) (hown : Own w 0 e v cs) (u : Value) (hu : u.oneCell' = true) (hl : cs.length < 1000000) :
    ∃ v' w2, Hid ((Builtin.append_ #[t, t] t #[v, .slice (some ⟨w.heap.size, 0, none⟩) 1 1]).run P (w.alloc (.cells #[u] e)) = .ok v' w2) ∧ Own w2 0 e v' (cs ++ [u]) ∧
      Kp (fun k => v.ownBlock = some k) w w2 ∧ (∀ k, v'.ownBlock = some k → v.ownBlock = some k ∨ w.heap.size ≤ k) := by
  obtain ⟨i, hii, hz, hsize, hby⟩ := info_parts hi
  have hb := bal (Below.refl w.heap.size w) (.cells #[u] e)
  have h' := hown.below hb
  have hnew : ∀ j x, ([u])[j]? = some x → (w.alloc (.cells #[u] e)).cell? ((⟨w.heap.size, 0, none⟩ : Addr).add j) = some x := by
    intro j x hj
    obtain ⟨ad, e1, hc⟩ := Rd.lit w e (0, 0) [u] j x hj
    cases e1
    exact hc
  have hmul : (cs.length + 1) * bytes ≤ 1000001 * 64 := Nat.mul_le_mul (by omega) hb64.2
  obtain ⟨v', w', h2, h3, h4, _, h5⟩ := run_append_own_at (P := P) (w.alloc (.cells #[u] e)) 0 t t e i z 1 bytes ht hii hz hsize hby hz1 (by omega) v cs.length cs h' ⟨w.heap.size, 0, none⟩ 1 1 [u] rfl hnew
    (by intro x hx; rw [List.mem_singleton.1 hx]; exact hu) (by unfold maxLen; omega) (by omega) (Nat.zero_le _)
  refine ⟨v', w', h2, ?_, ((Kp.of hb).mono (F := fun _ => False) fun _ _ h => h.elim).trans ((kp_grown h4).mono fun k _ hk => hk) fun i _ hg => hg, fun k hk => ?_⟩
  · unfold Own
    simpa using h3
  · rcases h5 with e | e
    · exact .inl (e ▸ hk)
    · rw [e] at hk
      cases hk
      exact .inr (by simp)
/-- v is a row of slices of the bytes ls; it and they lie in blocks of Q -/
def Recs (w : World) (Q : Nat → Prop) (v : Value) (ls : List (List UInt8)) : Prop :=
  ∃ vs, Own w 0 23 v vs ∧ vs.length = ls.length ∧ (∀ k, v.ownBlock = some k → Q k) ∧ ∀ i, i < ls.length → ∃ A c, vs[i]? = some (.slice A (ls.getD i []).length c) ∧ RB w A (ls.getD i []) ∧ ∀ ad, A = some ad → Q ad.block ∧ ∀ k, v.ownBlock = some k → ad.block ≠ k
theorem Recs.nil (w : World) (Q : Nat → Prop) : Recs w Q (.slice none 0 0) [] := ⟨[], Own.nil _ _ _, rfl, fun k h => (by cases h), fun i h => (by simp at h)⟩
theorem Recs.kp {F : Nat → Prop} {w w' : World} {Q : Nat → Prop} {v : Value} {ls : List (List UInt8)} (h : Recs w Q v ls) (hk : Kp F w w') (hF : ∀ j, Q j → ¬ F j) : Recs w' Q v ls := by
  obtain ⟨vs, h1, h2, h3, h4⟩ := h
  refine ⟨vs, h1.kp hk fun k e => hF k (h3 k e), h2, h3, fun i hi => ?_⟩
  obtain ⟨A, c, a1, a2, a3⟩ := h4 i hi
  exact ⟨A, c, a1, a2.kp hk fun ad e => hF _ (a3 ad e).1, a3⟩
theorem Recs.below {w w' : World} {Q : Nat → Prop} {v : Value} {ls : List (List UInt8)} (h : Recs w Q v ls) (hb : Below w.heap.size w w') : Recs w' Q v ls := h.kp (F := fun _ => False) (Kp.of hb) fun _ _ f => f
/-- one more: u holds l, its block from B on -/
theorem Recs.snoc {w : World} {Q : Nat → Prop} {v : Value} {ls : List (List UInt8)} (h : Recs w Q v ls) {u : Value} {l : List UInt8} {B : Nat} (hu : Own w B 5 u (l.map eb)) (hQB : ∀ j, Q j → j < B) (hB : B ≤ w.heap.size) (hl : ls.length < 1000) :
    ∃ v' w2, Hid ((Builtin.append_ #[22, 22] 22 #[v, .slice (some ⟨w.heap.size, 0, none⟩) 1 1]).run Try.prog (w.alloc (.cells #[u] 23)) = .ok v' w2) ∧ Recs w2 (fun j => Q j ∨ (B ≤ j ∧ j < w2.heap.size)) v' (ls ++ [l]) ∧ Kp Q w w2 := by
  obtain ⟨vs, h1, h2, h3, h4⟩ := h
  have hul := hu.typed
  obtain ⟨Au, cu, rfl, _, hru⟩ := hu.bytes
  have hul' : ∀ ad, Au = some ad → B ≤ ad.block ∧ ad.block < w.heap.size := fun ad e => ⟨(hul ad.block (by rw [e]; rfl)).1, (hul ad.block (by rw [e]; rfl)).2.1⟩
  obtain ⟨v', w2, hrun, ho, hk, hloc⟩ := append_one (P := Try.prog) 22 23 (.slice none 0 0) 24 Try.underlying22 (by kernel_rfl) rfl (by omega) w v vs h1 (.slice Au l.length cu) rfl (by omega)
  have ht := ho.typed
  have hsz := hk.size
  have hkQ : Kp Q w w2 := hk.mono fun j _ e => h3 j e
  refine ⟨v', w2, hrun, ⟨_, ho, by simp [h2], fun k e => ?_, fun i hi => ?_⟩, hkQ⟩
  · rcases hloc k e with e1 | e1
    · exact .inl (h3 k e1)
    · exact .inr ⟨by omega, (ht k e).2.1⟩
  · rw [List.length_append, List.length_singleton] at hi
    by_cases hil : i < ls.length
    · obtain ⟨A, c, a1, a2, a3⟩ := h4 i hil
      rw [show (ls ++ [l]).getD i [] = ls.getD i [] by simp [List.getD_eq_getElem?_getD, List.getElem?_append_left hil]]
      refine ⟨A, c, by rw [List.getElem?_append_left (by omega)]; exact a1, a2.kp hk fun ad e f => (a3 ad e).2 _ f rfl, fun ad e => ⟨.inl (a3 ad e).1, fun k e1 => ?_⟩⟩
      rcases hloc k e1 with e2 | e2
      · exact (a3 ad e).2 k e2
      · have := hQB _ (a3 ad e).1
        omega
    · have : i = ls.length := by omega
      subst this
      rw [show (ls ++ [l]).getD ls.length [] = l by simp [List.getD_eq_getElem?_getD]]
      refine ⟨Au, cu, by rw [← h2]; simp, hru.kp hk fun ad e f => ?_, fun ad e => ⟨.inr ⟨(hul' ad e).1, ?_⟩, fun k e1 e2 => ?_⟩⟩
      · have := hQB _ (h3 _ f)
        have := (hul' ad e).1
        omega
      · have := (hul' ad e).2; omega
      · have := hul' ad e
        rcases hloc k e1 with e3 | e3
        · have := hQB _ (h3 _ e3); omega
        · omega
theorem Recs.read {w : World} {Q : Nat → Prop} {v : Value} {ls : List (List UInt8)} (h : Recs w Q v ls) : ∃ A c, v = .slice A ls.length c ∧ ∀ i, i < ls.length → ∃ b Ai ci, A = some ⟨b, 0, none⟩ ∧ w.cell? ⟨b, i, none⟩ = some (.slice Ai (ls.getD i []).length ci) ∧ RB w Ai (ls.getD i []) := by
  obtain ⟨vs, h1, h2, h3, h4⟩ := h
  rcases h1.2 with ⟨rfl, h0⟩ | ⟨g, cap, cur, rfl, _, hh, hle, _, hs, ht⟩
  · exact ⟨none, 0, by rw [← h2, h0], fun i hi => by omega⟩
  · refine ⟨some ⟨g, 0, none⟩, cap, by rw [h2], fun i hi => ?_⟩
    obtain ⟨A, c, a1, a2, _⟩ := h4 i hi
    refine ⟨g, A, c, rfl, ?_, a2⟩
    have hb : Blk w g 23 cur := hh
    rw [hb.cell i, ← a1, ← ht, List.getElem?_take, if_pos (by omega)]
    simp

set_option maxRecDepth 100000 in
set_option maxHeartbeats 8000000 in
theorem sets_walk (A : Option Addr) (m cap : Nat) (vs : List Value) (ls : List (List UInt8)) (hm : ls.length = m) (x : UInt8) (w : World) (hmm : m ≤ 9223372036854775807) (hv : Rd w A vs) (hl : AreB w vs ls) (hlen : ∀ b ∈ ls, b.length ≤ 9223372036854775807) :
    Calls Try.prog 12 #[.slice A m cap, .int .u8 (x.toNat : Int)] w fun e w' => e = .returned (.bool true) ∧ Below w.heap.size w w' := by
  subst hm
  by_cases c60 : 60 < ls.length
  · go_enter Try.func12, Try.ntmps12
    go_wp2_with fail
    (with_reducible refine (law10_awake _).mono ?_)
    rintro e w1 ⟨rfl, hb1⟩
    go_wp2
    go_ret
    exact ⟨rfl, hb1⟩
  have hl60 : ls.length ≤ 60 := by omega
  clear c60
  have HV := Lib.hid hv
  have HL := Lib.hid hl
  have HLEN := Lib.hid hlen
  clear hv hl hlen
  go_enter Try.func12, Try.ntmps12
  go_wp2_with fail
  (with_reducible refine (law10_awake _).mono ?_)
  rintro e w1 ⟨rfl, hb1⟩
  go_wp2_with fail
  (with_reducible refine (chunk_new _).mono ?_)
  rintro e w2 ⟨g, rfl, hc2, hb2⟩
  go_wp2_with fail
  (with_reducible refine (chunk_new _).mono ?_)
  rintro e w3 ⟨gd', rfl, hd3, hb3⟩
  have hz1 := hb1.size
  have hz2 := hb2.size
  have hb4 := bn (bn hb1 hb2) hb3
  have HC3 := Lib.hid (hc2.below hb3)
  have HD3 := Lib.hid hd3
  have HB4 := Lib.hid hb4
  obtain ⟨PD, hPD⟩ : ∃ PD : Nat → Prop, PD = fun j => w2.heap.size ≤ j ∧ j < w3.heap.size := ⟨_, rfl⟩
  rw [← hPD] at HD3
  have HP3 : Hid (∀ j, (w1.heap.size ≤ j ∧ j < w2.heap.size) → w.heap.size ≤ j ∧ ¬ PD j) := Lib.hid fun j hj => ⟨by omega, by rw [hPD]; exact fun f => by have f' : w2.heap.size ≤ j ∧ j < w3.heap.size := f; omega⟩
  have HPD : Hid (∀ j, PD j → w.heap.size ≤ j) := Lib.hid fun j hj => by rw [hPD] at hj; have f' : w2.heap.size ≤ j ∧ j < w3.heap.size := hj; omega
  clear hb1 hb2 hb3 hc2 hd3 hb4 hz1 hz2 hPD
  go_wp2
  go_loopw [7, 8] (fun r i wr => ∃ (k : Nat) (s : CSt) (M : List (Int × List UInt8)) (P Q : Nat → Prop), k ≤ ls.length ∧ i = .int .i64 (k : Int) ∧ Chunks wr g P (2 * k) s ∧ Chunks wr gd' PD 0 CSt.empty ∧ Recs wr Q r (M.map fun p => recB p.1.toNat p.2) ∧ Hid (∀ j, P j → w.heap.size ≤ j ∧ ¬ PD j ∧ ¬ Q j) ∧ Hid (∀ j, Q j → w.heap.size ≤ j ∧ ¬ PD j ∧ j < wr.heap.size) ∧ Hid (Made (2 * k) s M ∧ M.length ≤ k) ∧ Below w.heap.size w wr) (fun _ i _ => ls.length - (intOf i).toNat)
  case atStart => exact ⟨0, CSt.empty, [], _, fun _ => False, Nat.zero_le _, rfl, HC3.out, HD3.out, Recs.nil _ _, Lib.hid fun j hj => ⟨(HP3.out j hj).1, (HP3.out j hj).2, fun f => f⟩, Lib.hid fun j hj => hj.elim, Lib.hid ⟨Made.empty, Nat.le_refl _⟩, HB4.out⟩
  case round =>
    clear HC3 HD3 HP3 HB4
    obtain ⟨k, s, M, P, Q, hk, rfl, hc, hd, hrec, hP, hQ, hmade, hb⟩ := hrel
    by_cases hlt : k < ls.length
    · obtain ⟨bb, ob, rfl, hbblt, HT0⟩ := texts_at HV.out HL.out (by omega)
      obtain ⟨Ai, ci, hAlt, hti⟩ := HT0 k hlt
      have hbl := HLEN.out (ls.getD k []) (by rw [List.getD_eq_getElem?_getD, List.getElem?_eq_getElem hlt]; exact List.getElem_mem hlt)
      obtain ⟨hcell, hrb⟩ := hti wr hb
      have HTI := Lib.hid hti
      have i0 : (0 : Int) ≤ (k : Int) := by omega
      have i1 : (k : Int) < (ls.length : Int) := by omega
      generalize ls.getD k [] = bt at *
      obtain ⟨hma, hml⟩ := hmade.out
      have hnx1 : s.next ≤ 1000 := by have := hma.nx; omega
      have hnx0 : 1 ≤ s.next := by have := hma.nx; omega
      have HPUT := Lib.hid (chunk_put2 g P (2 * k) s Ai bt.length ci bt wr rfl hrb hbl (fun ad e h0 f => by have := hAlt ad e h0; have := (hP.out _ f).1; omega) hc hma.good.ok hma.good.inv (by omega) (by omega))
      have hcase := hma.put (by omega) (by omega) bt
      clear HT0 hti hrb hma hmade hAlt
      have hzb := hb.size
      have hdlt := Lib.hid hd.lt
      have HKEEP : Hid (∀ w4, Kp P wr w4 → Chunks w4 gd' PD 0 CSt.empty ∧ Recs w4 Q u7 (M.map fun p => recB p.1.toNat p.2) ∧ (∀ j, (P j ∨ (wr.heap.size ≤ j ∧ j < w4.heap.size)) → w.heap.size ≤ j ∧ ¬ PD j ∧ ¬ Q j) ∧ Below w.heap.size w w4) := Lib.hid fun w4 hk4 =>
        ⟨hd.kp hk4 fun j hj f => (hP.out j f).2.1 hj, hrec.kp hk4 fun j hj f => (hP.out j f).2.2 hj, fun j hj => by
          rcases hj with hj | hj
          · exact hP.out j hj
          · exact ⟨by omega, fun f => by have := hdlt.out j f; omega, fun f => by have := (hQ.out j f).2.2; omega⟩, hb.trans (hk4.below hzb fun j hj => (hP.out j hj).1)⟩
      rcases hcase with ⟨hput, hm2⟩ | ⟨id, hput, hm2⟩ | ⟨hput, hok, hm2⟩
      · rw [hput] at HPUT
        have HM : Hid (Made (2 * (k + 1)) s M ∧ M.length ≤ k + 1) := Lib.hid ⟨hm2, by omega⟩
        clear hput hm2 hc hd hrec hb
        go_wp2_with fail
        (with_reducible refine HPUT.out.mono ?_)
        rintro e w4 ⟨rfl, hk4, hc4⟩
        simp only at hc4
        obtain ⟨hd4, hr4, hP4, hb4⟩ := HKEEP.out w4 hk4
        have HP4 := Lib.hid hP4
        have hz4 := hk4.size
        have HQ4 : Hid (∀ j, Q j → w.heap.size ≤ j ∧ ¬ PD j ∧ j < w4.heap.size) := Lib.hid fun j hj => ⟨(hQ.out j hj).1, (hQ.out j hj).2.1, by have := (hQ.out j hj).2.2; omega⟩
        clear hk4 hP4 hcell
        go_wp2
        go_roundw
        case rel => exact ⟨k + 1, s, M, _, Q, by omega, by go_num, hc4, hd4, hr4, HP4, HQ4, HM, hb4⟩
        case measure => simp [intOf]; try omega
      · rw [hput] at HPUT
        have HM : Hid (Made (2 * (k + 1)) s M ∧ M.length ≤ k + 1) := Lib.hid ⟨hm2, by omega⟩
        clear hput hm2 hc hd hrec hb
        go_wp2_with fail
        (with_reducible refine HPUT.out.mono ?_)
        rintro e w4 ⟨rfl, hk4, hc4⟩
        simp only at hc4
        obtain ⟨hd4, hr4, hP4, hb4⟩ := HKEEP.out w4 hk4
        have HP4 := Lib.hid hP4
        have hz4 := hk4.size
        have HQ4 : Hid (∀ j, Q j → w.heap.size ≤ j ∧ ¬ PD j ∧ j < w4.heap.size) := Lib.hid fun j hj => ⟨(hQ.out j hj).1, (hQ.out j hj).2.1, by have := (hQ.out j hj).2.2; omega⟩
        clear hk4 hP4 hcell
        go_wp2
        go_roundw
        case rel => exact ⟨k + 1, s, M, _, Q, by omega, by go_num, hc4, hd4, hr4, HP4, HQ4, HM, hb4⟩
        case measure => simp [intOf]; try omega
      · rw [hput] at HPUT
        have HM : Hid (Made (2 * (k + 1)) (setSt s s.next bt) (M ++ [(s.next, bt)]) ∧ (M ++ [(s.next, bt)]).length ≤ k + 1) := Lib.hid ⟨hm2, by simp; omega⟩
        have HREC := Lib.hid fun W h => chunk_record s.next (by omega) (by omega) Ai bt.length ci bt W rfl (by have := hok.2; omega) h
        clear hput hm2 hc hd hrec hb hok
        generalize setSt s s.next bt = s4 at *
        generalize s.next = nx at *
        go_wp2_with fail
        (with_reducible refine HPUT.out.mono ?_)
        rintro e w4 ⟨rfl, hk4, hc4⟩
        simp only at hc4
        obtain ⟨hd4, hr4, hP4, hb4⟩ := HKEEP.out w4 hk4
        have HP4 := Lib.hid hP4
        have hz4 := hk4.size
        have hclt := Lib.hid hc4.lt
        obtain ⟨hcell4, hrb4⟩ := HTI.out w4 hb4
        clear hk4 hP4 hcell
        go_wp2_with fail
        (with_reducible refine (HREC.out w4 hrb4).mono ?_)
        rintro e w5 ⟨v5, rfl, ho5, hb5⟩
        obtain ⟨A5, c5, rfl, _, _⟩ := ho5.bytes
        have hc5 := hc4.below hb5
        have hd5 := hd4.below hb5
        have hr5 := hr4.below hb5
        have hb5w := bn hb4 hb5
        have hz5 := hb5.size
        obtain ⟨v6, w6, HR6, hr6, hk6⟩ := hr5.snoc ho5 (fun j hj => by have := (hQ.out j hj).2.2; omega) hz5 (by simp; omega)
        have HC6 := Lib.hid (hc5.kp hk6 fun j hj f => (HP4.out j hj).2.2 f)
        have HD6 := Lib.hid (hd5.kp hk6 fun j hj f => (hQ.out j f).2.1 hj)
        have HB6 : Hid (Below w.heap.size w w6) := Lib.hid (hb5w.trans (hk6.below hb5w.size fun j hj => (hQ.out j hj).1))
        have hz6 := hk6.size
        have HP6 : Hid (∀ j, (P j ∨ (wr.heap.size ≤ j ∧ j < w4.heap.size)) → w.heap.size ≤ j ∧ ¬ PD j ∧ ¬ (Q j ∨ (w4.heap.size ≤ j ∧ j < w6.heap.size))) := Lib.hid fun j hj => ⟨(HP4.out j hj).1, (HP4.out j hj).2.1, fun f => by
          rcases f with f | f
          · exact (HP4.out j hj).2.2 f
          · have := hclt.out j hj; omega⟩
        have HQ6 : Hid (∀ j, (Q j ∨ (w4.heap.size ≤ j ∧ j < w6.heap.size)) → w.heap.size ≤ j ∧ ¬ PD j ∧ j < w6.heap.size) := Lib.hid fun j hj => by
          have hzz := hb4.size
          rcases hj with hj | hj
          · have := hQ.out j hj; exact ⟨this.1, this.2.1, by omega⟩
          · exact ⟨by omega, fun f => by have := hdlt.out j f; omega, hj.2⟩
        have HR6' : Hid (Recs w6 (fun j => Q j ∨ (w4.heap.size ≤ j ∧ j < w6.heap.size)) v6 ((M ++ [(nx, bt)]).map fun p => recB p.1.toNat p.2)) := Lib.hid (by rw [List.map_append]; exact hr6)
        clear hc4 hd4 hr4 hb4 hc5 hd5 hr5 hb5w hr6 hk6 ho5 hb5 hrb4 hcell4
        go_wp2_with (at_builtin; refine wpList_append_run rfl _ _ 22 22 rfl _ _ _ _ rfl rfl HR6.out ?_)
        go_roundw
        case rel => exact ⟨k + 1, s4, _, _, _, by omega, by go_num, HC6.out, HD6.out, HR6'.out, HP6, HQ6, HM, HB6.out⟩
        case measure => simp [intOf]; try omega
    · obtain rfl : k = ls.length := by omega
      obtain ⟨wo, rfl⟩ : ∃ wo : World, wo = wr := ⟨_, rfl⟩
      obtain ⟨hma, hml⟩ := hmade.out
      have HMA := Lib.hid hma
      have hPDlt := Lib.hid hd.lt
      have hQ2 : Hid (∀ j, Q j → w.heap.size ≤ j) := Lib.hid fun j hj => (hQ.out j hj).1
      have HRES : Hid (∀ W, Kp PD wo W → (Chunks W g P (2 * ls.length) s ∧ Recs W Q u7 (M.map fun p => recB p.1.toNat p.2))) := Lib.hid fun W hk => ⟨hc.kp hk fun j hj f => (hP.out j hj).2.1 f, hrec.kp hk fun j hj f => (hQ.out j hj).2.1 f⟩
      have HD0 := Lib.hid hd
      have HB0 := Lib.hid hb
      have HRL : Hid (∀ j, PD j → j < wo.heap.size) := Lib.hid hd.lt
      obtain ⟨A7, c7, rfl, -⟩ := hrec.read
      rw [List.length_map]
      generalize hxx : x.toNat = t at *
      have hx256 : t < 256 := by rw [← hxx]; exact x.toNat_lt
      clear hxx hma hmade hd hb hc hrec hlt hk hQ
      go_wp2
      go_loopw [12, 13, 14, 15] (fun i _ _ _ wr => ∃ (q : Nat) (d : CSt) (PE : Nat → Prop), q ≤ M.length ∧ i = .int .i64 (q : Int) ∧ Chunks wr gd' PE (2 * q) d ∧ Hid (Kp PD wo wr) ∧ Hid (∀ j, PE j → PD j ∨ (wo.heap.size ≤ j ∧ j < wr.heap.size)) ∧ Hid (SetsQ M t q d)) (fun i _ _ _ _ => M.length - (intOf i).toNat)
      case atStart => exact ⟨0, CSt.empty, PD, Nat.zero_le _, rfl, HD0.out, Lib.hid (Kp.refl _ _), Lib.hid fun j hj => .inl hj, Lib.hid (SetsQ.start M t)⟩
      case round =>
        clear HD0
        obtain ⟨q, d, PE, hq, rfl, hd, hkd, hPE, hsq⟩ := hrel
        obtain ⟨hcx, hrx⟩ := HRES.out _ hkd.out
        by_cases hlt : q < M.length
        · obtain ⟨jj, hjj⟩ : ∃ jj, jj = (q + t) % M.length := ⟨_, rfl⟩
          have hjl : jj < M.length := by rw [hjj]; exact Nat.mod_lt _ (by omega)
          have hrem : Int.tmod ((q : Int) + (t : Int)) (M.length : Int) = (jj : Int) := by rw [hjj]; exact (Int.ofNat_tmod ..).symm
          have hwx : IntKind.i64.wrap (t : Int) = (t : Int) := IntWalk.i64_in _ (by omega)
          obtain ⟨p, hp⟩ : ∃ p, gd M jj = p := ⟨_, rfl⟩
          have hst := hsq.out.step HMA.out (by omega) hlt (p := p) (by rw [← hjj]; exact hp)
          obtain ⟨hs0, hs1, hs2, hs3, hs4, hs5⟩ := hst
          obtain ⟨A8, c8, he8, hrd⟩ := hrx.read
          obtain ⟨b8, Ai, ci, hA8, hcell, hrb⟩ := hrd jj (by rw [List.length_map]; exact hjl)
          have hgr : (M.map fun p => recB p.1.toNat p.2).getD jj [] = recB p.1.toNat p.2 := by
            rw [← hp]
            unfold gd
            simp [List.getD_eq_getElem?_getD, List.getElem?_map, List.getElem?_eq_getElem hjl]
          rw [hgr] at hcell hrb
          rw [hA8] at he8
          have hA7 : A7 = some ⟨b8, 0, none⟩ := by injection he8
          subst hA7
          have hpar := parseR_rec p.1.toNat (by omega) p.2 (by have := hs5.2; omega)
          have hrl : (recB p.1.toNat p.2).length ≤ 1000000000 := by
            have := num_10 p.1.toNat (by omega)
            have := num_10 p.2.length (by have := hs5.2; omega)
            have := hs5.2
            unfold recB
            simp only [List.length_append]
            omega
          have HPAR := Lib.hid (chunk_parseF Ai (recB p.1.toNat p.2).length ci (recB p.1.toNat p.2) wr rfl hrl hrb)
          rw [hpar] at HPAR
          simp only [if_true, show ((p.1.toNat : Nat) : Int) = p.1 by omega] at HPAR
          have hdlt := Lib.hid hd.lt
          have HSET := Lib.hid fun W A2 c2 (hr : RB W A2 p.2) hA hh => chunk_set gd' PE (2 * q) d p.1 (by omega) (by omega) A2 p.2.length c2 p.2 W rfl hr (by have := hs5.2; omega) hA hh hsq.out.good.ok (by omega)
          have HSET2 := Lib.hid fun P2 W A2 c2 (hr : RB W A2 p.2) hA hh => chunk_set gd' P2 (2 * (q + 1)) (setSt d p.1 p.2) p.1 (by omega) (by omega) A2 p.2.length c2 p.2 W rfl hr (by have := hs5.2; omega) hA hh hs1.good.ok (by omega)
          have HSET3 := Lib.hid fun P2 W A2 c2 (hr : RB W A2 p.2) hA hh => chunk_set gd' P2 (2 * (q + 1)) (setSt d p.1 p.2) (p.1 + 1000) (by omega) (by omega) A2 p.2.length c2 p.2 W rfl hr (by have := hs5.2; omega) hA hh hs1.good.ok (by omega)
          unfold SetPost at HSET HSET2 HSET3
          rw [hs0] at HSET
          rw [hs2] at HSET2
          rw [hs3] at HSET3
          have HS1 := Lib.hid hs1
          have i0 : (0 : Int) ≤ (jj : Int) := by omega
          have i1 : (jj : Int) < (M.length : Int) := by omega
          have hlp : (0 : Int) < (M.length : Int) := by omega
          have hln : (M.length : Int) ≠ 0 := by omega
          have hml1 : M.length ≤ 60 := by omega
          obtain ⟨hp0, hp1⟩ := hs4
          clear hjj hp hs0 hs1 hs2 hs3 hs5 hcx hrx hA8 he8 hrd hgr hpar hrl hrb hsq
          generalize setSt d p.1 p.2 = d4 at *
          obtain ⟨id, bt⟩ := p
          dsimp only at HPAR HSET HSET2 HSET3 hp0 hp1 hcell
          generalize recB id.toNat bt = rc at *
          go_wp2_with fail
          (with_reducible refine HPAR.out.mono ?_)
          rintro e w4 ⟨A2, c2, rfl, hr4, hb4, hfr4⟩
          have hd4 := hd.below hb4
          have hz4 := hb4.size
          replace hfr4 := Lib.hid hfr4
          have hA2 : Hid (∀ ad, A2 = some ad → ¬ PE ad.block) := Lib.hid fun ad e f => by have := hfr4.out ad e; have := hdlt.out _ f; omega
          have HS := Lib.hid (HSET.out w4 A2 c2 hr4 hA2.out hd4)
          clear HPAR HSET hcell
          go_wp2_with fail
          (with_reducible refine HS.out.mono ?_)
          rintro e w5 ⟨rfl, _, h5⟩
          obtain ⟨hk5, hd5⟩ := h5 (by decide)
          have hr5 := hr4.kp hk5 hA2.out
          have hz5 := hk5.size
          have hA5 : Hid (∀ ad, A2 = some ad → ¬ (PE ad.block ∨ (w4.heap.size ≤ ad.block ∧ ad.block < w5.heap.size))) := Lib.hid fun ad e f => by
            rcases f with f | f
            · exact hA2.out ad e f
            · have := (hfr4.out ad e).2; omega
          have HS2 := Lib.hid (HSET2.out _ w5 A2 c2 hr5 hA5.out hd5)
          clear h5 HS
          go_wp2_with fail
          (with_reducible refine HS2.out.mono ?_)
          rintro e w6 ⟨rfl, h6, _⟩
          have hb6 := h6 (by decide)
          have HS3 := Lib.hid (HSET3.out _ w6 A2 c2 (hr5.below hb6) hA5.out (hd5.below hb6))
          clear h6 HS2
          go_wp2_with fail
          (with_reducible refine HS3.out.mono ?_)
          rintro e w7 ⟨rfl, h7, _⟩
          have hb7 := h7 (by decide)
          clear h7 HS3
          have hz6 := hb6.size
          have hz7 := hb7.size
          have hd7 := (hd5.below hb6).below hb7
          have hzk := hkd.out.size
          have HKN : Hid (Kp PD wo w7) := Lib.hid (((hkd.out.trans (kp_of (F := fun _ => False) hb4) fun _ _ f => f.elim).trans hk5 fun i hi hp => by
            rcases hPE.out i hp with h | h
            · exact h
            · omega).trans (kp_of (F := fun _ => False) (hb6.trans (hb7.mono hz6))) fun _ _ f => f.elim)
          have HPN : Hid (∀ j, (PE j ∨ (w4.heap.size ≤ j ∧ j < w5.heap.size)) → PD j ∨ (wo.heap.size ≤ j ∧ j < w7.heap.size)) := Lib.hid fun j hj => by
            rcases hj with hj | hj
            · rcases hPE.out j hj with h | h
              · exact .inl h
              · exact .inr ⟨h.1, by omega⟩
            · exact .inr ⟨by omega, by omega⟩
          clear hd hd4 hd5 hk5 hb6 hb7 hb4 hr4 hr5 hA5 hA2 hdlt hkd hPE
          go_wp2
          go_roundw
          case rel => exact ⟨q + 1, d4, _, by omega, by go_num, hd7, HKN, HPN, HS1⟩
          case measure => simp [intOf]; try omega
        · obtain rfl : q = M.length := by omega
          obtain ⟨e1, e2, e3⟩ := hsq.out.done HMA.out
          have HE := Lib.hid e1
          have HE2 := Lib.hid e2
          have HE3 := Lib.hid e3
          have hb : Below w.heap.size w wr := HB0.out.trans (hkd.out.below HB0.out.size fun j hj => HPD.out j hj)
          have hsl : ∀ id b, s.l id = some b → b.length ≤ 1000000 := fun id b h => by have := HMA.out.good.ok.len id b h; omega
          have HSL := Lib.hid hsl
          clear e1 e2 e3 hsl hlt hq hkd hPE hrx HRES HB0 hPDlt HRL
          go_wp2_with fail
          (with_reducible refine (chunk_ids g P _ s wr hcx (by omega)).mono ?_)
          rintro e w4 ⟨v4, ks, rfl, ho4, hri4, hm4, hb4⟩
          have hc4 := hcx.below hb4
          have hd4 := hd.below hb4
          have hb4w := bn hb hb4
          go_wp2_with fail
          (with_reducible refine (chunk_ids gd' PE _ d w4 hd4 (by omega)).mono ?_)
          rintro e w5 ⟨v5, ks2, rfl, ho5, hri5, hm5, hb5⟩
          have hks : ks2 = ks := rising_ext hri5 hri4 fun x => by rw [hm5 x, hm4 x, HE3.out x]
          subst hks
          have hc5 := hc4.below hb5
          have hd5 := hd4.below hb5
          have hb5w := bn hb4w hb5
          have hz5 := hb5.size
          obtain ⟨Ap, cp, rfl, -, hrp0, -⟩ := ho4.read
          obtain ⟨Aq, cq, rfl, -, hrq, -⟩ := ho5.read
          have hrp := hrp0.below hb5
          rw [List.length_map]
          have HRP := Lib.hid hrp
          have HRQ := Lib.hid hrq
          have HM4 := Lib.hid hm4
          have HC5 := Lib.hid hc5
          have HD5 := Lib.hid hd5
          have HB5 := Lib.hid hb5w
          have hkl : ks2.length ≤ 1000000 := by
            have := HMA.out.good.sto.ids_len HMA.out.good.inv HMA.out.good.ok.next1 hri4 hm4
            omega
          clear hcx hd hb hb4 hc4 hd4 hb4w ho4 ho5 hri4 hri5 hm4 hm5 hb5 hrp0 hrp hrq hz5
          go_wp2_with fail
          (with_reducible refine (chunk_size g P _ s w5 hc5).mono ?_)
          rintro e _ ⟨rfl, rfl⟩
          go_wp2_with fail
          (with_reducible refine (chunk_size gd' PE _ d w5 hd5).mono ?_)
          rintro e _ ⟨rfl, rfl⟩
          rw [HE.out]
          go_wp2_with fail
          (with_reducible refine (chunk_next g P _ s w5 hc5).mono ?_)
          rintro e _ ⟨rfl, rfl⟩
          go_wp2_with fail
          (with_reducible refine (chunk_next gd' PE _ d w5 hd5).mono ?_)
          rintro e _ ⟨rfl, rfl⟩
          rw [HE2.out]
          go_wp2
          clear hc5 hd5 hb5w
          go_loopw [18, 19, 20, 21, 22] (fun i _ _ _ _ wy => ∃ (a : Nat), a ≤ ks2.length ∧ i = .int .i64 (a : Int) ∧ Below w5.heap.size w5 wy) (fun i _ _ _ _ _ => ks2.length - (intOf i).toNat)
          case atStart => exact ⟨0, Nat.zero_le _, rfl, Below.refl _ _⟩
          case round =>
            obtain ⟨a, ha, rfl, hb⟩ := hrel
            by_cases hlt : a < ks2.length
            · obtain ⟨bp, op, rfl, hbp, hcp⟩ := HRP.out.lit_of a (by rw [List.length_map]; exact hlt)
              obtain ⟨bq, oq, rfl, hbq, hcq⟩ := HRQ.out.lit_of a (by rw [List.length_map]; exact hlt)
              have qp := hcp a (by rw [List.length_map]; exact hlt)
              have qq := hcq a (by rw [List.length_map]; exact hlt)
              rw [List.getElem_map] at qp qq
              obtain ⟨hid, hsome⟩ := (HM4.out ks2[a]).1 (List.getElem_mem hlt)
              obtain ⟨bt, hbt⟩ := Option.isSome_iff_exists.1 hsome
              have i0 : (0 : Int) ≤ (a : Int) := by omega
              have i1 : (a : Int) < (ks2.length : Int) := by omega
              unfold okInt at hid
              obtain ⟨hid0, hid1⟩ := hid
              clear hcp hcq hsome
              generalize ks2[a] = id at *
              have HCP : Hid (∀ W, Below w5.heap.size w5 W → W.cell? ⟨bp, op + a, none⟩ = some (.int .i64 id) ∧ W.cell? ⟨bq, oq + a, none⟩ = some (.int .i64 id)) := Lib.hid fun W h => ⟨(h.cell (p := ⟨bp, op + a, none⟩) hbp).trans qp, (h.cell (p := ⟨bq, oq + a, none⟩) hbq).trans qq⟩
              obtain ⟨x1, x2⟩ := HCP.out _ hb
              have hdbt : d.l id = some bt := by rw [HE3.out id]; exact hbt
              have HG1 := Lib.hid fun W h => chunk_get g P (2 * ls.length) s id hid0 hid1 W h (HSL.out id)
              have HG2 := Lib.hid fun W h => chunk_get gd' PE (2 * M.length) d id hid0 hid1 W h (fun b e => HSL.out id b (by rw [← HE3.out id]; exact e))
              rw [hbt] at HG1
              rw [hdbt] at HG2
              simp only [Option.getD_some, Option.isSome_some] at HG1 HG2
              clear hbt hdbt qp qq
              go_wp2_with fail
              (with_reducible refine (HG1.out _ (HC5.out.below hb)).mono ?_)
              rintro e w6 ⟨v6, rfl, ho6, hb6⟩
              have hb6w := bn hb hb6
              obtain ⟨A6, c6, rfl, _, r6⟩ := ho6.bytes
              obtain ⟨y1, y2⟩ := HCP.out _ hb6w
              clear hb hb6 ho6 x1 x2
              go_wp2_with fail
              (with_reducible refine (HG2.out _ (HD5.out.below hb6w)).mono ?_)
              rintro e w7 ⟨v7, rfl, ho7, hb7⟩
              have hb7w := bn hb6w hb7
              obtain ⟨A7, c7, rfl, _, r7⟩ := ho7.bytes
              have r67 := r6.below hb7
              obtain ⟨z1, z2⟩ := HCP.out _ hb7w
              clear hb6w hb7 ho7 y1 y2 r6
              have t1 : ∀ nq, (convert 23 9 (.slice A6 bt.length c6)).run Try.prog (w7.drewN nq) = .ok (.string ⟨bt.toArray⟩) (w7.drewN nq) := fun nq => run_str_try _ _ _ _ _ rfl (r67.below (below_drewN (Below.refl _ _) _))
              have t2 : ∀ nq, (convert 23 9 (.slice A7 bt.length c7)).run Try.prog (w7.drewN nq) = .ok (.string ⟨bt.toArray⟩) (w7.drewN nq) := fun nq => run_str_try _ _ _ _ _ rfl (r7.below (below_drewN (Below.refl _ _) _))
              have hbeq : ((⟨bt.toArray⟩ : ByteArray).toList == (⟨bt.toArray⟩ : ByteArray).toList) = true := beq_iff_eq.2 rfl
              generalize (⟨bt.toArray⟩ : ByteArray) = s1 at *
              go_wp2
              go_quiet (fail)
              have hb8 : Below w5.heap.size w5 (w7.drewN nq) := bn hb7w (below_drewN (Below.refl _ _) _)
              clear t1 t2 hbeq hb7w
              generalize w7.drewN nq = w8 at *
              go_wp2
              go_roundw
              case rel => exact ⟨a + 1, by omega, by go_num, hb8⟩
              case measure => simp [intOf]; try omega
            · obtain rfl : a = ks2.length := by omega
              go_wp2
              go_ret
              exact ⟨rfl, bn HB5.out hb⟩
end Go.Proofs.Ytpnfgnddlfkfaaa
