/-
  The chunk store: Set and Put.
-/
import Derived.Test.YtpnfgnddlfkfaaaChunk
import Derived.Maps.AppendAt
import Derived.IntWalk
set_option linter.unusedSimpArgs false
set_option linter.unusedVariables false
namespace Go.Proofs.Ytpnfgnddlfkfaaa
open Go.RowKit Go.Maps

theorem info_int : (Try.prog.info? 3).map (fun i => (i.zero, i.size, i.bytes)) = some (some (.int .i64 0), 1, 8) := by kernel_rfl
theorem i64s_one (l : List Int) : ∀ u ∈ l.map (Value.int .i64), u.oneCell' = true := by
  intro u hu
  obtain ⟨x, _, rfl⟩ := List.mem_map.1 hu
  rfl
/-- 'append(row, id)' -/
theorem append_id (w : World) (v : Value) (a : List Int) (hown : Own w 0 3 v (a.map (Value.int .i64))) (id : Int) (hl : a.length < 1000000) :
    ∃ v' w2, (Builtin.append_ #[27, 27] 27 #[v, .slice (some ⟨w.heap.size, 0, none⟩) 1 1]).run Try.prog (w.alloc (.cells #[.int .i64 id] 3)) = .ok v' w2 ∧ Own w2 0 3 v' ((a ++ [id]).map (Value.int .i64)) ∧
      Kp (fun k => v.ownBlock = some k) w w2 ∧ (∀ k, v'.ownBlock = some k → v.ownBlock = some k ∨ w.heap.size ≤ k) := by
  obtain ⟨i, hii, hz, hsize, hby⟩ := info_parts info_int
  have hb := bal (Below.refl w.heap.size w) (.cells #[.int .i64 id] 3)
  have h' := hown.below hb
  have hnew : ∀ j u, ([Value.int .i64 id])[j]? = some u → (w.alloc (.cells #[.int .i64 id] 3)).cell? ((⟨w.heap.size, 0, none⟩ : Addr).add j) = some u := by
    intro j u hj
    obtain ⟨ad, e, hc⟩ := Rd.lit w 3 (0, 0) [Value.int .i64 id] j u hj
    cases e
    exact hc
  obtain ⟨v', w', h2, h3, h4, _, h5⟩ := run_append_own_at (P := Try.prog) (w.alloc (.cells #[.int .i64 id] 3)) 0 27 27 3 i (.int .i64 0) 1 8 Try.underlying27 hii hz hsize hby rfl (by omega) v (a.map (Value.int .i64)).length (a.map (Value.int .i64)) h' ⟨w.heap.size, 0, none⟩ 1 1 [.int .i64 id] rfl hnew
    (by intro u hu; rw [List.mem_singleton.1 hu]; rfl) (by simp; unfold maxLen; omega) (by simp; omega) (Nat.zero_le _)
  refine ⟨v', w', h2, ?_, ((Kp.of hb).mono (F := fun _ => False) fun _ _ h => h.elim).trans ((kp_grown h4).mono fun k _ hk => hk) fun i _ hg => hg, fun k hk => ?_⟩
  · unfold Own
    rw [List.map_append]
    simpa using h3
  · rcases h5 with e | e
    · exact .inl (e ▸ hk)
    · rw [e] at hk
      cases hk
      exact .inr (by simp)
theorem ChunksAt.mono {w : World} {g : Nat} {P P' : Nat → Prop} {n n' : Nat} {s : CSt} {L By : Nat} {fl fb : Int → Option Value} (h : ChunksAt w g P n s L By fl fb) (hP : ∀ j, P j → P' j) (hl : ∀ j, P' j → j < w.heap.size) (hn : n ≤ n') : ChunksAt w g P' n' s L By fl fb :=
  ⟨h.blk, h.ml.mono hn, h.mb.mono hn, h.none_, fun id b hb => by
    obtain ⟨v, h1, h2, h3⟩ := h.some_ id b hb
    exact ⟨v, h1, h2, fun j e => hP j (h3 j e)⟩, fun k => ⟨(h.row k).1, fun j e => hP j ((h.row k).2 j e)⟩, h.apart, hP _ h.pg, hP _ h.pl, hP _ h.pb, h.ne, hl⟩
theorem Own.no_map {w : World} {B : Nat} {e : TypeId} {v : Value} {cs : List Value} (h : Own w B e v cs) {P : Program} {k : TypeId} {q : IntKind} {M n : Nat} {f : Int → Option Value} (hm : MapF P k q w M n f) : v.ownBlock ≠ some M := fun e1 => by
  obtain ⟨_, _, cur, hb⟩ := h.typed M e1
  exact hm.no_blk hb rfl
theorem Own.no_blk {w : World} {B g : Nat} {e e' : TypeId} {v : Value} {cs : List Value} {cs' : Array Value} (h : Own w B e v cs) (hb : Blk w g e' cs') (hne : e ≠ e') : v.ownBlock ≠ some g := fun e1 => by
  obtain ⟨_, _, cur, hc⟩ := h.typed g e1
  exact hne (hc.type hb)
/-- 'c.l[id] = v' -/
theorem ChunksAt.put_l {w : World} {g : Nat} {P : Nat → Prop} {n : Nat} {s : CSt} {L By : Nat} {fl fb : Int → Option Value} (h : ChunksAt w g P n s L By fl fb) {v : Value} {b : List UInt8} (hv : Own w 0 5 v (b.map eb)) (hvP : ∀ j, v.ownBlock = some j → P j) (hn : n < maxLen) {id : Int} (h0 : -9223372036854775808 ≤ id) (h1 : id ≤ 9223372036854775807) :
    ∃ w', (Instr.mapUpdate 88 (.map (some L)) (.int .i64 id) v).run Try.prog w = .ok () w' ∧ ChunksAt w' g P (n + 1) ⟨fun y => if y = id then some b else s.l y, s.ids, s.next, s.size⟩ L By (fun y => if y = id then some v else fl y) fb ∧ Kp (fun j => j = L) w w' ∧ w'.heap.size = w.heap.size := by
  obtain ⟨w', hrun, hm, hk, hz⟩ := h.ml.store Try.underlying3 Try.underlying88 hn (WalkArith.wf_i64 ⟨h0, h1⟩) v
  have hg : g ≠ L := fun e => h.ml.no_blk (e ▸ h.blk) rfl
  refine ⟨w', hrun, ⟨h.blk.kp hk hg, hm, (h.mb.kp hk fun e => h.ne e.symm).mono (by omega), fun y hy => ?_, fun y b' hy => ?_, fun k => ⟨(h.row k).1.kp hk fun j e f => (h.row k).1.no_map h.ml (f ▸ e), (h.row k).2⟩, h.apart, h.pg, h.pl, h.pb, h.ne, fun j hj => by rw [hz]; exact h.lt j hj⟩, hk, hz⟩
  · simp only at hy ⊢
    by_cases e : y = id
    · rw [if_pos e] at hy; cases hy
    · rw [if_neg e] at hy ⊢; exact h.none_ y hy
  · simp only at hy ⊢
    by_cases e : y = id
    · rw [if_pos e] at hy ⊢
      cases hy
      exact ⟨v, rfl, hv.kp hk fun j e f => hv.no_map h.ml (f ▸ e), hvP⟩
    · rw [if_neg e] at hy ⊢
      obtain ⟨u, u1, u2, u3⟩ := h.some_ y b' hy
      exact ⟨u, u1, u2.kp hk fun j e f => u2.no_map h.ml (f ▸ e), u3⟩
/-- 'c.by[k] = append(c.by[k], id)' -/
theorem ChunksAt.put_by {w : World} {g : Nat} {P : Nat → Prop} {n : Nat} {s : CSt} {L By : Nat} {fl fb : Int → Option Value} (h : ChunksAt w g P n s L By fl fb) (b : List UInt8) (id : Int) (hl : (s.ids (ck b)).length < 1000000) (hn : n < maxLen) :
    ∃ v' w2 w3, (Builtin.append_ #[27, 27] 27 #[(fb (ck b)).getD nilS, .slice (some ⟨w.heap.size, 0, none⟩) 1 1]).run Try.prog (w.alloc (.cells #[.int .i64 id] 3)) = .ok v' w2 ∧
      (Instr.mapUpdate 89 (.map (some By)) (.int .u32 (ck b)) v').run Try.prog w2 = .ok () w3 ∧
      ChunksAt w3 g (fun j => P j ∨ (w.heap.size ≤ j ∧ j < w3.heap.size)) (n + 1) ⟨s.l, fun k => if k = ck b then s.ids k ++ [id] else s.ids k, s.next, s.size⟩ L By fl (fun k => if k = ck b then some v' else fb k) ∧ Kp P w w3 ∧ w2.cell? ⟨g, 1, none⟩ = some (.map (some By)) := by
  obtain ⟨v', w2, hrun, ho, hk, hloc⟩ := append_id w _ _ (h.row (ck b)).1 id hl
  have hrow := (h.row (ck b)).1
  have hF : ∀ j, ((fb (ck b)).getD nilS).ownBlock = some j → P j := (h.row (ck b)).2
  have hg2 : Blk w2 g _ _ := h.blk.kp hk (hrow.no_blk h.blk (by decide))
  have hml2 := h.ml.kp hk (hrow.no_map h.ml)
  have hmb2 := h.mb.kp hk (hrow.no_map h.mb)
  have hlt2 := hk.size
  obtain ⟨w3, hrun3, hm3, hk3, hz3⟩ := hmb2.store Try.underlying113 Try.underlying89 hn (ck_wf b) v'
  have hgB : g ≠ By := fun e => hmb2.no_blk (e ▸ hg2) rfl
  have hP3 : ∀ j, P j → j < w3.heap.size := fun j hj => by rw [hz3]; exact Nat.lt_of_lt_of_le (h.lt j hj) hlt2
  refine ⟨v', w2, w3, hrun, hrun3, ⟨hg2.kp hk3 hgB, (hml2.kp hk3 h.ne).mono (by omega), hm3, h.none_, fun y b' hy => ?_, fun k => ?_, fun k k' j hne hj => ?_, .inl h.pg, .inl h.pl, .inl h.pb, h.ne, fun j hj => ?_⟩, ?_, hg2.cell 1⟩
  · obtain ⟨u, u1, u2, u3⟩ := h.some_ y b' hy
    have u2' := u2.kp hk fun j e f => by
      obtain ⟨_, _, cur, hc⟩ := u2.typed j e
      exact hrow.no_blk hc (by decide) f
    exact ⟨u, u1, u2'.kp hk3 fun j e f => u2'.no_map hmb2 (f ▸ e), fun j e => .inl (u3 j e)⟩
  · by_cases e : k = ck b
    · subst e
      simp only [if_true]
      have ho3 := ho.kp hk3 fun j e f => ho.no_map hmb2 (f ▸ e)
      refine ⟨ho3, fun j hj => ?_⟩
      rcases hloc j hj with h1 | h1
      · exact .inl (hF j h1)
      · exact .inr ⟨h1, (ho3.typed j hj).2.1⟩
    · simp only [if_neg e]
      have hr := (h.row k).1
      have hr2 := hr.kp hk fun j e1 f => h.apart k (ck b) j e e1 f
      exact ⟨hr2.kp hk3 fun j e1 f => hr2.no_map hmb2 (f ▸ e1), fun j e1 => .inl ((h.row k).2 j e1)⟩
  · by_cases e : k = ck b
    · subst e
      have e' : ¬ k' = ck b := fun h => hne h.symm
      simp only [if_true, if_neg e'] at hj ⊢
      rcases hloc j hj with h1 | h1
      · exact h.apart _ k' j hne h1
      · intro h2
        have := h.lt j ((h.row k').2 j h2)
        omega
    · by_cases e' : k' = ck b
      · subst e'
        simp only [if_true, if_neg e] at hj ⊢
        intro h2
        rcases hloc j h2 with h1 | h1
        · exact h.apart k _ j hne hj h1
        · have := h.lt j ((h.row k).2 j hj)
          omega
      · simp only [if_neg e, if_neg e'] at hj ⊢
        exact h.apart k k' j hne hj
  · rcases hj with hj | hj
    · exact hP3 j hj
    · exact hj.2
  · refine (hk.mono fun j _ e => hF j e).trans (hk3.mono fun j _ e => ?_) fun j _ hj => hj
    subst e
    exact h.pb
/-- a field is written -/
theorem ChunksAt.set_next {w : World} {g : Nat} {P : Nat → Prop} {n : Nat} {s : CSt} {L By : Nat} {fl fb : Int → Option Value} (h : ChunksAt w g P n s L By fl fb) (x : Int) : ChunksAt (w.setCell ⟨g, 2, none⟩ (.int .i64 x)) g P n ⟨s.l, s.ids, x, s.size⟩ L By fl fb :=
  have hk := (Kp.refl (fun j => j = g) w).setCell 2 (.int .i64 x) rfl
  ⟨h.blk.set 2 _, h.ml.set h.blk, h.mb.set h.blk, h.none_, fun id b hb => by
    obtain ⟨v, h1, h2, h3⟩ := h.some_ id b hb
    exact ⟨v, h1, h2.kp hk fun j e f => h2.no_blk h.blk (by decide) (f ▸ e), h3⟩, fun k => ⟨(h.row k).1.kp hk fun j e f => (h.row k).1.no_blk h.blk (by decide) (f ▸ e), (h.row k).2⟩, h.apart, h.pg, h.pl, h.pb, h.ne, fun j hj => by have := h.lt j hj; simpa using this⟩
theorem ChunksAt.set_size {w : World} {g : Nat} {P : Nat → Prop} {n : Nat} {s : CSt} {L By : Nat} {fl fb : Int → Option Value} (h : ChunksAt w g P n s L By fl fb) (x : Int) : ChunksAt (w.setCell ⟨g, 3, none⟩ (.int .i64 x)) g P n ⟨s.l, s.ids, s.next, x⟩ L By fl fb :=
  have hk := (Kp.refl (fun j => j = g) w).setCell 3 (.int .i64 x) rfl
  ⟨h.blk.set 3 _, h.ml.set h.blk, h.mb.set h.blk, h.none_, fun id b hb => by
    obtain ⟨v, h1, h2, h3⟩ := h.some_ id b hb
    exact ⟨v, h1, h2.kp hk fun j e f => h2.no_blk h.blk (by decide) (f ▸ e), h3⟩, fun k => ⟨(h.row k).1.kp hk fun j e f => (h.row k).1.no_blk h.blk (by decide) (f ▸ e), (h.row k).2⟩, h.apart, h.pg, h.pl, h.pb, h.ne, fun j hj => by have := h.lt j hj; simpa using this⟩

def setErr (s : CSt) (id : Int) (b : List UInt8) : Int := if 1 ≤ id ∧ id ≤ 4611686018427387904 ∧ 1 ≤ b.length ∧ b.length ≤ 64 then (if (s.l id).isSome ∨ (findId s b).isSome then 5 else 0) else 1
def setSt (s : CSt) (id : Int) (b : List UInt8) : CSt := ⟨fun y => if y = id then some b else s.l y, fun k => if k = ck b then s.ids k ++ [id] else s.ids k, if s.next < id + 1 then id + 1 else s.next, s.size + b.length⟩
/-- bounds under which nothing wraps -/
structure COk (n : Nat) (s : CSt) : Prop where
  nb : n ≤ 1000000000
  ids : ∀ k, (s.ids k).length ≤ n
  idr : ∀ k, ∀ id ∈ s.ids k, 1 ≤ id ∧ id ≤ 4611686018427387904
  len : ∀ id b, s.l id = some b → b.length ≤ 64
  next0 : 1 ≤ s.next
  next1 : s.next ≤ 4611686018427387905
  size0 : 0 ≤ s.size
  size1 : s.size ≤ n * 64
def SetPost (w : World) (g : Nat) (P : Nat → Prop) (n : Nat) (s : CSt) (id : Int) (b : List UInt8) (e : Ending) (w' : World) : Prop :=
  e = .returned (.int .i64 (setErr s id b)) ∧ (setErr s id b ≠ 0 → Below w.heap.size w w') ∧ (setErr s id b = 0 → Kp P w w' ∧ Chunks w' g (fun j => P j ∨ (w.heap.size ≤ j ∧ j < w'.heap.size)) (n + 2) (setSt s id b))

set_option maxRecDepth 100000 in
set_option maxHeartbeats 4000000 in
theorem chunk_set (g : Nat) (P : Nat → Prop) (n : Nat) (s : CSt) (id : Int) (h0 : -9223372036854775808 ≤ id) (h1 : id ≤ 9223372036854775807) (A : Option Addr) (m c : Nat) (b : List UInt8) (w : World) (hm : b.length = m) (hr : RB w A b) (hl : b.length ≤ 1000000) (hA : ∀ ad, A = some ad → ¬ P ad.block) (h : Chunks w g P n s) (ok : COk n s) (hn : n < 100000) :
    Calls Try.prog 33 #[.pointer (some ⟨g, 0, none⟩), .int .i64 id, .slice A m c] w (SetPost w g P n s id b) := by
  subst hm
  by_cases c1 : id < 1
  · have he : setErr s id b = 1 := by unfold setErr; rw [if_neg (by omega)]
    have HE := Lib.hid he
    clear he
    go_enter Try.func33, Try.ntmps33
    go_wp2
    go_ret
    exact ⟨ret_int HE.out.symm, fun _ => Below.refl _ _, fun h => by rw [HE.out] at h; cases h⟩
  by_cases c2 : 4611686018427387904 < id
  · have he : setErr s id b = 1 := by unfold setErr; rw [if_neg (by omega)]
    have HE := Lib.hid he
    clear he
    go_enter Try.func33, Try.ntmps33
    go_wp2
    go_ret
    exact ⟨ret_int HE.out.symm, fun _ => Below.refl _ _, fun h => by rw [HE.out] at h; cases h⟩
  by_cases c3 : 1 ≤ b.length ∧ b.length ≤ 64
  rotate_left
  · have he : setErr s id b = 1 := by unfold setErr; rw [if_neg (by omega)]
    have HE := Lib.hid he
    have HD := Lib.hid (decide_eq_false c3)
    clear he c3
    go_enter Try.func33, Try.ntmps33
    go_wp2_with (go_at_call 40; refine (chunk_may A b.length c (by omega) _).mono ?_; rintro e _ ⟨rfl, rfl⟩; rw [HD.out])
    go_ret
    exact ⟨ret_int HE.out.symm, fun _ => Below.refl _ _, fun h => by rw [HE.out] at h; cases h⟩
  have HD := Lib.hid (decide_eq_true c3)
  have HERR : Hid (setErr s id b = if (s.l id).isSome ∨ (findId s b).isSome then 5 else 0) := Lib.hid (by unfold setErr; rw [if_pos (by omega)])
  obtain ⟨L, By, fl, fb, h⟩ := h
  have hlk := look_l2 h.ml h0 h1
  obtain ⟨A2, c2', e1, _, e2, _⟩ := h.val id
  rw [e1, e2] at hlk
  have hc0 : w.cell? ⟨g, 0, none⟩ = some (.map (some L)) := h.blk.cell 0
  have HF := Lib.hid (chunk_find g P n s A b.length c b w rfl hr hl ⟨L, By, fl, fb, h⟩ fun id hid => by have := ok.idr _ id hid; omega)
  by_cases hth : (s.l id).isSome ∨ (findId s b).isSome
  · have he : setErr s id b = 5 := by rw [HERR.out, if_pos hth]
    have HE := Lib.hid he
    clear he HERR
    have HTH := Lib.hid hth
    clear hth e1 e2
    generalize hso : (s.l id).isSome = so at *
    have HSO := Lib.hid hso
    generalize ((s.l id).getD []).length = l2 at *
    clear hso h ok
    go_enter Try.func33, Try.ntmps33
    go_wp2_with (first | (go_at_call 40; refine (chunk_may A b.length c (by omega) _).mono ?_; rintro e _ ⟨rfl, rfl⟩; rw [HD.out]))
    (with_reducible refine (HF.out).mono ?_)
    rintro e w1 ⟨rfl, hb1⟩
    have HT2 := HTH.out
    generalize (findId s b).isSome = fo at *
    generalize (findId s b).getD 0 = fi at *
    have HT3 := Lib.hid HT2
    clear HT2
    cases fo with
    | true =>
      go_wp2
      go_ret
      exact ⟨ret_int HE.out.symm, fun _ => hb1, fun h => by rw [HE.out] at h; cases h⟩
    | false =>
      obtain rfl : so = true := by simpa using HT3.out
      go_wp2
      go_ret
      exact ⟨ret_int HE.out.symm, fun _ => hb1, fun h => by rw [HE.out] at h; cases h⟩
  · have he : setErr s id b = 0 := by rw [HERR.out, if_neg hth]
    have HE := Lib.hid he
    clear he HERR
    have hso : (s.l id).isSome = false := by simpa using fun h => hth (.inl h)
    have hfo : findId s b = none := by simpa using fun h => hth (.inr h)
    rw [hso] at hlk
    rw [hfo] at HF
    have HFO := Lib.hid hfo
    clear hth hso hfo
    generalize ((s.l id).getD []).length = l2 at *
    go_enter Try.func33, Try.ntmps33
    go_wp2_with (first | (go_at_call 40; refine (chunk_may A b.length c (by omega) _).mono ?_; rintro e _ ⟨rfl, rfl⟩; rw [HD.out]))
    (with_reducible refine (HF.out).mono ?_)
    rintro e w1 ⟨rfl, hb1⟩
    simp only [Option.getD_none, Option.isSome_none]
    have h1 := h.kp (F := fun _ => False) (Kp.of hb1) fun _ _ f => f
    have hr1 := hr.below hb1
    have hzz := hb1.size
    have hlen := ok.ids (ck b)
    have hnx0 := ok.next0
    have hnx1 := ok.next1
    have hsz0 := ok.size0
    have hsz1 := ok.size1
    have hnb := hn
    have HPL := Lib.hid h.pl
    have HPG := Lib.hid h.pg
    have HLT := Lib.hid h.lt
    clear hlk hc0 HF ok hr h
    have hk := bdr (Below.refl w1.heap.size w1)
    go_upto_region 7 with (fail)
    have HC : Hid (∀ W, Below w1.heap.size w1 W → W.cell? ⟨g, 0, none⟩ = some (.map (some L))) := fun W hb => (h1.blk.below hb).cell 0
    have HCL := Lib.hid fun W (hb : Below w1.heap.size w1 W) => bytes_clone A b.length c b W rfl (by omega) (hr1.below hb)
    have HPUT : Hid (∀ W v W2, Below w1.heap.size w1 W → Own W2 W.heap.size 5 v (b.map eb) → Below W.heap.size W W2 → ∃ w3, (Instr.mapUpdate 88 (.map (some L)) (.int .i64 id) v).run Try.prog W2 = .ok () w3 ∧ ChunksAt w3 g (fun j => P j ∨ (w1.heap.size ≤ j ∧ j < w3.heap.size)) (n + 1) ⟨fun y => if y = id then some b else s.l y, s.ids, s.next, s.size⟩ L By (fun y => if y = id then some v else fl y) fb ∧ Kp (fun j => j = L) w1 w3) := fun W v W2 hb ho hb2 => by
      have hb12 := bn hb hb2
      have h2 := (h1.kp (F := fun _ => False) (Kp.of hb12) fun _ _ f => f).mono (P' := fun j => P j ∨ (w1.heap.size ≤ j ∧ j < W2.heap.size)) (fun j hj => .inl hj) (fun j hj => by
        rcases hj with hj | hj
        · exact Nat.lt_of_lt_of_le (h1.lt j hj) hb12.size
        · exact hj.2) (Nat.le_refl n)
      obtain ⟨w3, hrun, h3, hk3, hz3⟩ := h2.put_l (ho.lower (Nat.zero_le _)) (fun j e => .inr ⟨Nat.le_trans hb.size (ho.typed j e).1, (ho.typed j e).2.1⟩) (by unfold maxLen; omega) h0 (by omega)
      refine ⟨w3, hrun, by rw [hz3]; exact h3, ((Kp.of hb12).mono (F := fun _ => False) fun _ _ f => f.elim).trans hk3 fun j _ e => e⟩
    clear h1
    go_region_held_law (fun W => W.cell? ⟨g, 0, none⟩ = some (.map (some L))) (first | exact HC.out _ hk | exact h3.blk.cell 0) (first
      | (go_at_call 42; (with_reducible refine (HCL.out _ hk).mono ?_); rintro e w2 ⟨v2, rfl, ho2, hb2⟩; obtain ⟨w3, hrun3, h3, hk3⟩ := HPUT.out _ _ _ hk ho2 hb2; replace hk := bn hk hb2; clear ho2 hb2))
    clear HC HCL HPUT hrun3 hk
    have hr3 := hr1.kp hk3 fun ad e f => hA ad e (f ▸ HPL.out)
    have hz3 := hk3.size
    go_wp2_with fail
    (with_reducible refine (crc_sum A b.length c b w3 rfl (by unfold maxLen; omega) hr3).mono ?_)
    rintro e w4 ⟨rfl, hb4⟩
    rw [show ((Crc.next 0#32 b).toNat : Int) = ck b from rfl]
    have h4 : ChunksAt w4.drew g _ (n + 1) _ L By _ fb := (h3.kp (F := fun _ => False) (Kp.of (bdr hb4)) fun _ _ f => f)
    have hk4 : Kp P w1 w4 := (hk3.mono fun j _ e => e ▸ HPL.out).trans ((Kp.of hb4).mono (F := fun _ => False) fun _ _ f => f.elim) fun j _ e => e
    have hz4 := hb4.size
    have hlkA := look_b1 h4.mb b
    have hlkB := look_b1 (h4.mb.below (bal (Below.refl _ _) (.cells #[.int .i64 id] 3))) b
    obtain ⟨v5, w5, w6, hrun5, hrun6, h6, hk6, hc5⟩ := h4.put_by b id (by simp only; omega) (by unfold maxLen; omega)
    have HR5 := Lib.hid hrun5
    have HGC := Lib.hid (h4.blk.cell 1)
    have HGC2 := Lib.hid ((h4.blk.alloc (.cells #[.int .i64 id] 3)).cell 1)
    have HG6 := Lib.hid (h6.blk.cell 1)
    have HC5 := Lib.hid hc5
    clear hrun5 hc5 h4 h3 hk3 hr3 hr1 hb4
    have hlkB2 : (Instr.lookup 89 (.map (some By)) (.int .u32 (ck b)) false).run Try.prog (w4.alloc (.cells #[.int .i64 id] 3)).drew = .ok ((fb (ck b)).getD nilS) (w4.alloc (.cells #[.int .i64 id] 3)).drew := hlkB
    have hgc2 : (w4.alloc (.cells #[.int .i64 id] 3)).drew.cell? ⟨g, 1, none⟩ = some (.map (some By)) := HGC2.out
    have HGC3 := Lib.hid hgc2
    have HRW := Lib.hid h6
    have HK6 := Lib.hid hk6
    clear hlkB hgc2 HGC2 h6 hk6
    generalize (fb (ck b)).getD nilS = vb at *
    generalize hKE : ck b = key at *
    have HKE := Lib.hid hKE
    clear hKE
    go_wp2
    go_region_held_law (fun W => W.cell? ⟨g, 1, none⟩ = some (.map (some By))) (first | exact HGC.out | exact HGC3.out | exact HC5.out | exact HG6.out) (first
      | (refine step_app (by rfl) (by rfl) _ _ 27 27 (by rfl) _ _ _ _ (by rfl) (by rfl) HR5.out ?_)
      | fail)
    all_goals
      have x2 : w6.cell? ⟨g, 2, none⟩ = some (.int .i64 s.next) := HRW.out.blk.cell 2
      have x3 : w6.cell? ⟨g, 3, none⟩ = some (.int .i64 s.size) := HRW.out.blk.cell 3
      have f2 : w6.frozen? ⟨g, 2, none⟩ = false := HRW.out.blk.frozen 2
      have f3 : w6.frozen? ⟨g, 3, none⟩ = false := HRW.out.blk.frozen 3
      clear hlkA hlkB2 hrun6 HR5 HGC HGC3 HC5 HG6
      have HFIN : Hid (∀ x, x = (if s.next < id + 1 then id + 1 else s.next) → Kp P w ((w6.setCell ⟨g, 2, none⟩ (.int .i64 x)).setCell ⟨g, 3, none⟩ (.int .i64 (s.size + b.length))) ∧ Chunks ((w6.setCell ⟨g, 2, none⟩ (.int .i64 x)).setCell ⟨g, 3, none⟩ (.int .i64 (s.size + b.length))) g (fun j => P j ∨ (w.heap.size ≤ j ∧ j < ((w6.setCell ⟨g, 2, none⟩ (.int .i64 x)).setCell ⟨g, 3, none⟩ (.int .i64 (s.size + b.length))).heap.size)) (n + 2) (setSt s id b)) := fun x hx => by
        have hkA : Kp P w w1 := (Kp.of hb1).mono (F := fun _ => False) fun _ _ f => f.elim
        have hkB : Kp P w w4 := hkA.trans hk4 fun _ _ p => p
        have hz41 : w.heap.size ≤ w4.drew.heap.size := Nat.le_trans hzz (Nat.le_trans hz3 hz4)
        have hkC : Kp P w w4.drew := hkB.trans ((Kp.of (bdr (Below.refl w4.heap.size w4))).mono (F := fun _ => False) (G := P) fun _ _ f => f.elim) fun _ _ p => p
        have hkD : Kp P w w6 := hkC.trans HK6.out fun i hi hp => by
          rcases hp with hp | hp
          · exact hp
          · omega
        have h7 := (HRW.out.set_next x).set_size (s.size + b.length)
        have hs : setSt s id b = ⟨fun y => if y = id then some b else s.l y, fun k => if k = key then s.ids k ++ [id] else s.ids k, x, s.size + b.length⟩ := by unfold setSt; rw [HKE.out, hx]
        rw [hs]
        have hzs : ((w6.setCell ⟨g, 2, none⟩ (.int .i64 x)).setCell ⟨g, 3, none⟩ (.int .i64 (s.size + b.length))).heap.size = w6.heap.size := by simp
        refine ⟨(hkD.setCell 2 _ HPG.out).setCell 3 _ HPG.out, ?_⟩
        rw [hzs]
        generalize ((w6.setCell ⟨g, 2, none⟩ (.int .i64 x)).setCell ⟨g, 3, none⟩ (.int .i64 (s.size + b.length))) = W at *
        have hz6 := HK6.out.size
        have hzd : w4.drew.heap.size = w4.heap.size := rfl
        have h8 := h7.mono (P' := fun j => P j ∨ (w.heap.size ≤ j ∧ j < w6.heap.size)) (n' := n + 2) (fun j hj => by
          rcases hj with (hj | hj) | hj
          · exact .inl hj
          · exact .inr ⟨by omega, by omega⟩
          · exact .inr ⟨by omega, hj.2⟩) (fun j hj => by
          rw [hzs]
          rcases hj with hj | hj
          · have h1 := HLT.out j hj
            have h2 := hkD.size
            omega
          · exact hj.2) (by omega)
        exact ⟨L, By, _, _, h8⟩
      clear HRW HK6 hk4 hlen
      by_cases hmx : s.next < id + 1
      · have HX := Lib.hid (HFIN.out (id + 1) (by rw [if_pos hmx]))
        clear HFIN
        go_wp2
        go_ret
        exact ⟨ret_int HE.out.symm, fun h => absurd HE.out h, fun _ => HX.out⟩
      · have HX := Lib.hid (HFIN.out s.next (by rw [if_neg hmx]))
        have hmx2 : id + 1 ≤ s.next := by omega
        clear HFIN
        go_wp2
        go_ret
        exact ⟨ret_int HE.out.symm, fun h => absurd HE.out h, fun _ => HX.out⟩
end Go.Proofs.Ytpnfgnddlfkfaaa
