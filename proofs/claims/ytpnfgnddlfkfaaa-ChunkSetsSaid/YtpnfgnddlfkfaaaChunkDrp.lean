/-
  slices.DeleteFunc at Drop's closure, in place; Drop.
-/
import Derived.Test.YtpnfgnddlfkfaaaChunkDel
import Derived.Test.YtpnfgnddlfkfaaaChunkSto
import Derived.Lib.SliceRun
set_option linter.unusedSimpArgs false
set_option linter.unusedVariables false
namespace Go.Proofs.Ytpnfgnddlfkfaaa
open Go.RowKit Go.Maps

def kpf (id : Int) (x : Int) : Bool := x != id
/-- the row in the midst of the deletion: a cells written, k numbers looked at -/
structure DelInv (C : Array Value) (cap : Nat) (l : List Int) (id : Int) (a k : Nat) : Prop where
  sz : C.size = cap
  lt : a < k
  le : k ≤ l.length
  pre : C.toList.take a = ((l.take k).filter (kpf id)).map (Value.int .i64)
  post : ∀ m, k ≤ m → m < l.length → C[m]? = some (.int .i64 (l.getD m 0))
theorem getD_at (l : List Int) (k : Nat) (h : k < l.length) : l.getD k 0 = l[k] := by simp [List.getD_eq_getElem?_getD, List.getElem?_eq_getElem h]
theorem DelInv.skip {C : Array Value} {cap : Nat} {l : List Int} {id : Int} {a k : Nat} (h : DelInv C cap l id a k) (hk : k < l.length) (hid : l.getD k 0 = id) : DelInv C cap l id a (k + 1) := by
  refine ⟨h.sz, Nat.lt_succ_of_lt h.lt, hk, ?_, fun m h1 h2 => h.post m (by omega) h2⟩
  rw [h.pre, List.take_succ_eq_append_getElem hk, List.filter_append]
  rw [getD_at l k hk] at hid
  rw [show [l[k]].filter (kpf id) = [] by simp [kpf, hid], List.append_nil]
theorem DelInv.keep {C : Array Value} {cap : Nat} {l : List Int} {id : Int} {a k : Nat} (h : DelInv C cap l id a k) (hc : l.length ≤ cap) (hk : k < l.length) (hid : l.getD k 0 ≠ id) : DelInv (C.setIfInBounds a (.int .i64 (l.getD k 0))) cap l id (a + 1) (k + 1) := by
  have h1 := h.lt
  have h2 := h.sz
  refine ⟨by simpa using h.sz, by omega, hk, ?_, fun m h3 h4 => ?_⟩
  · rw [List.take_succ_eq_append_getElem hk, List.filter_append, List.map_append, ← h.pre]
    have e : (C.setIfInBounds a (.int .i64 (l.getD k 0))).toList = C.toList.set a (.int .i64 (l.getD k 0)) := by simp
    rw [e, List.take_succ_eq_append_getElem (by simp; omega)]
    rw [List.take_set_of_le (Nat.le_refl a)]
    congr 1
    rw [List.getElem_set_self]
    rw [getD_at l k hk] at hid
    rw [getD_at l k hk, show [l[k]].filter (kpf id) = [l[k]] by simp [kpf, hid]]
    rfl
  · rw [Array.getElem?_setIfInBounds]
    rw [if_neg (by omega)]
    exact h.post m (by omega) h4
theorem blk_setCells {e : TypeId} {g : Nat} : ∀ (vs : List Value) (o : Nat) (w : World) (C : Array Value), Blk w g e C → ∃ C', Blk (w.setCells g o vs) g e C' ∧ C'.size = C.size ∧ ∀ i, i < o → C'[i]? = C[i]?
  | [], o, w, C, h => ⟨C, h, rfl, fun _ _ => rfl⟩
  | v :: vs, o, w, C, h => by
    obtain ⟨C', h1, h2, h3⟩ := blk_setCells vs (o + 1) _ _ (h.set o v)
    refine ⟨C', h1, by rw [h2]; simp, fun i hi => ?_⟩
    rw [h3 i (by omega), Array.getElem?_setIfInBounds, if_neg (by omega)]
theorem kp_setCells {F : Nat → Prop} {g : Nat} (hg : F g) : ∀ (vs : List Value) (o : Nat) (a w : World), Kp F a w → Kp F a (w.setCells g o vs)
  | [], o, a, w, h => h
  | v :: vs, o, a, w, h => kp_setCells hg vs (o + 1) a _ (h.setCell o v hg)
theorem size_setCells' (b : Nat) : ∀ (vs : List Value) (o : Nat) (w : World), (w.setCells b o vs).heap.size = w.heap.size
  | [], o, w => rfl
  | v :: vs, o, w => by
    show ((w.setCell ⟨b, o, none⟩ v).setCells b (o + 1) vs).heap.size = w.heap.size
    rw [size_setCells' b vs]
    simp
theorem row_end {w : World} {g cap : Nat} {C : Array Value} {l : List Int} {id : Int} {a : Nat} (hb : Blk w g 3 C) (h : DelInv C cap l id a l.length) (hc : l.length ≤ cap) (hm : cap ≤ maxLen) (n : Nat) (z : Value) :
    a = (l.filter (kpf id)).length ∧ Own (w.setCells g a (List.replicate n z)) 0 3 (.slice (some ⟨g, 0, none⟩) a cap) ((l.filter (kpf id)).map (Value.int .i64)) := by
  have hpre := h.pre
  rw [List.take_length] at hpre
  have hal : a = (l.filter (kpf id)).length := by
    have := congrArg List.length hpre
    rw [List.length_take, List.length_map] at this
    have h1 := h.sz
    have h2 := h.lt
    simp at this
    omega
  obtain ⟨C', h1, h2, h3⟩ := blk_setCells (List.replicate n z) a w C hb
  refine ⟨hal, ?_⟩
  unfold Own
  rw [List.length_map, ← hal]
  refine ⟨by simp [hal], .inr ⟨g, cap, C', rfl, Nat.zero_le _, h1, ?_, hm, by rw [h2, h.sz]; simp, ?_⟩⟩
  · have := h.lt; omega
  · rw [Nat.mul_one, ← hpre]
    refine List.ext_getElem? fun i => ?_
    rw [List.getElem?_take, List.getElem?_take]
    split
    · rename_i hi
      have := h3 i hi
      simpa using this
    · rfl
theorem posOf_spec {l : List Int} {id : Int} (h : id ∈ l) : ∃ k : Nat, posOf l id = (k : Int) ∧ k < l.length ∧ l.getD k 0 = id ∧ ∀ m : Nat, m < k → l.getD m 0 ≠ id := by
  unfold posOf
  rw [if_pos h]
  induction l with
  | nil => cases h
  | cons x l ih =>
    by_cases e : x = id
    · exact ⟨0, by simp [List.takeWhile_cons, e], by simp, by simp [e], fun m hm => by omega⟩
    · have hm : id ∈ l := by
        rcases List.mem_cons.1 h with h | h
        · exact absurd h.symm e
        · exact h
      obtain ⟨k, h1, h2, h3, h4⟩ := ih hm
      have hb : (x != id) = true := by simpa using e
      refine ⟨k + 1, ?_, by simp; omega, by simpa using h3, fun m hm2 => ?_⟩
      · rw [List.takeWhile_cons, if_pos hb, List.length_cons]
        omega
      · cases m with
        | zero => simpa using e
        | succ m => simpa using h4 m (by omega)
theorem delInv_start {C : Array Value} {cap : Nat} {l : List Int} {id : Int} {k : Nat} (hs : C.size = cap) (hc : l.length ≤ cap) (ht : C.toList.take l.length = l.map (Value.int .i64)) (hk : k < l.length) (hid : l.getD k 0 = id) (hlow : ∀ m, m < k → l.getD m 0 ≠ id) : DelInv C cap l id k (k + 1) := by
  have hget : ∀ m, m < l.length → C[m]? = some (.int .i64 (l.getD m 0)) := fun m hm => by
    have e1 : (C.toList.take l.length)[m]? = C[m]? := by rw [List.getElem?_take, if_pos hm]; simp
    rw [← e1, ht, List.getElem?_map, List.getElem?_eq_getElem hm, getD_at l m hm]
    rfl
  refine ⟨hs, Nat.lt_succ_self k, hk, ?_, fun m _ h2 => hget m h2⟩
  have e : (l.take (k + 1)).filter (kpf id) = l.take k := by
    rw [List.take_succ_eq_append_getElem hk, List.filter_append]
    rw [getD_at l k hk] at hid
    rw [show [l[k]].filter (kpf id) = [] by simp [kpf, hid], List.append_nil]
    refine List.filter_eq_self.2 fun x hx => ?_
    obtain ⟨i, hi, rfl⟩ := List.mem_iff_getElem.1 hx
    rw [List.length_take] at hi
    have := hlow i (by omega)
    rw [getD_at l i (by omega)] at this
    rw [List.getElem_take]
    simpa [kpf] using this
  rw [e]
  have := congrArg (List.take k) ht
  rw [List.take_take, Nat.min_eq_left (by omega), ← List.map_take] at this
  exact this

set_option maxRecDepth 100000 in
set_option maxHeartbeats 2000000 in
theorem delete_is (v : Value) (l : List Int) (id : Int) (B : Nat) (w : World) (ho : Own w 0 3 v (l.map (Value.int .i64))) (hl : l.length ≤ 1000000) (hB : w.cell? ⟨B, 0, none⟩ = some (.int .i64 id)) (hne : v.ownBlock ≠ some B) (hm : id ∈ l) :
    Calls Try.prog 61 #[v, .func (.func 62) #[] #[.pointer (some ⟨B, 0, none⟩)]] w fun e w' => ∃ v', e = .returned v' ∧ Own w' 0 3 v' ((l.filter (kpf id)).map (Value.int .i64)) ∧ v'.ownBlock = v.ownBlock ∧ Kp (fun q => v.ownBlock = some q) w w' ∧ w'.heap.size = w.heap.size := by
  obtain ⟨h1, h2⟩ := ho
  rcases h2 with ⟨rfl, h0⟩ | ⟨g, cap, cur, rfl, _, hh, hle, hcm, hcs, hct⟩
  · rw [List.length_map] at h0
    rw [List.length_eq_zero_iff.1 h0] at hm
    cases hm
  have hgB : B ≠ g := fun e => hne (by rw [e]; rfl)
  have hblk : Blk w g 3 cur := hh
  rw [Nat.mul_one] at hcs hct
  rw [List.length_map] at hle hct ⊢
  obtain ⟨k, hpos, hk, hid, hlow⟩ := posOf_spec hm
  have hrd : Rd w (some ⟨g, 0, none⟩) (l.map (Value.int .i64)) := by
    intro i u hi
    refine ⟨_, rfl, ?_⟩
    rw [add_zero_lit, hblk.cell i]
    rw [← hct, List.getElem?_take] at hi
    split at hi
    · simpa using hi
    · cases hi
  have HIX := Lib.hid (index_is (some ⟨g, 0, none⟩) l.length cap l id B w rfl hl hrd hB)
  rw [hpos] at HIX
  have HST := Lib.hid (delInv_start hcs hle hct hk hid hlow)
  have HBLK := Lib.hid hblk
  have HBLT : Hid (B < w.heap.size) := Lib.hid (by have := block_lt_of_cell hB; simpa using this)
  have HBC := Lib.hid hB
  have hq : ((k : Int) == -1) = false := beq_eq_false_iff_ne.2 (by omega)
  have hcap : cap ≤ 9223372036854775807 := by unfold maxLen at hcm; omega
  have HCM := Lib.hid hcm
  clear h1 hh hct hcs hpos hid hlow hrd hm hne hblk hB hcm
  go_enter Try.func61, Try.ntmps61
  go_wp2_with fail
  (with_reducible refine HIX.out.mono ?_)
  rintro e _ ⟨rfl, rfl⟩
  clear HIX
  go_wp2
  clear hq
  go_loopw [5, 6, 7] (fun i j _ wr => ∃ (a m : Nat) (C : Array Value), i = .int .i64 (a : Int) ∧ j = .int .i64 (m : Int) ∧ Blk wr g 3 C ∧ Hid (DelInv C cap l id a m) ∧ Hid (Kp (fun q => q = g) w wr) ∧ Hid (wr.heap.size = w.heap.size)) (fun _ j _ _ => l.length - (intOf j).toNat)
  case atStart => exact ⟨k, k + 1, cur, rfl, by go_num, HBLK.out, HST.out, Kp.refl _ _, rfl⟩
  case round =>
    clear HBLK HST hk
    obtain ⟨a, m, C, rfl, rfl, hb, hI, hkp, hsz⟩ := hrel
    have hlt2 := hI.out.lt
    have hle2 := hI.out.le
    by_cases hlt : m < l.length
    · have hcB : wr.cell? ⟨B, 0, none⟩ = some (.int .i64 id) := (World.cell?_of_block (a := ⟨B, 0, none⟩) (hkp.out.block B HBLT.out hgB)).trans HBC.out
      have i0 : (0 : Int) ≤ (m : Int) := by omega
      have i1 : (m : Int) < (l.length : Int) := by omega
      have j0 : (0 : Int) ≤ (a : Int) := by omega
      have j1 : (a : Int) < (l.length : Int) := by omega
      have hcm := (hb.cell m).trans (hI.out.post m (Nat.le_refl _) hlt)
      have hsz2 := hI.out.sz
      obtain ⟨old, hold⟩ : ∃ old, C[a]? = some old := ⟨_, Array.getElem?_eq_getElem (by omega)⟩
      have hca := (hb.cell a).trans hold
      have hfa := hb.frozen a
      have HD := Lib.hid (drop_is (l.getD m 0) id B wr hcB)
      have HSK := Lib.hid (hI.out.skip hlt)
      have HKP := Lib.hid (hI.out.keep hle hlt)
      have HB2 := Lib.hid hb
      clear hcB hold hsz2 hI hb
      generalize l.getD m 0 = y at *
      by_cases he : y = id
      · have HE := Lib.hid (HSK.out he)
        have hbq : (y == id) = true := by simpa using he
        have HQ := Lib.hid hbq
        clear hbq he HSK HKP
        go_wp2_with fail
        (with_reducible refine HD.out.mono ?_)
        rintro e _ ⟨rfl, rfl⟩
        rw [HQ.out]
        go_wp2
        go_roundw
        case rel => exact ⟨a, m + 1, C, rfl, by go_num, HB2.out, HE, hkp, hsz⟩
        case measure => simp [intOf]; try omega
      · have HE := Lib.hid (HKP.out he)
        have hbq : (y == id) = false := by simpa using he
        have HQ := Lib.hid hbq
        clear hbq he HSK HKP
        have HBN := Lib.hid (HB2.out.set a (.int .i64 y))
        have HKN : Hid (Kp (fun q => q = g) w (wr.setCell ⟨g, a, none⟩ (.int .i64 y))) := Lib.hid (hkp.out.setCell a _ rfl)
        have HSN : Hid ((wr.setCell ⟨g, a, none⟩ (.int .i64 y)).heap.size = w.heap.size) := Lib.hid (by simpa using hsz.out)
        go_wp2_with fail
        (with_reducible refine HD.out.mono ?_)
        rintro e _ ⟨rfl, rfl⟩
        rw [HQ.out]
        go_wp2
        go_roundw
        case rel => exact ⟨a + 1, m + 1, _, by go_num, by go_num, HBN.out, HE, HKN, HSN⟩
        case measure => simp [intOf]; try omega
    · obtain rfl : m = l.length := by omega
      have hend := row_end hb hI.out hle HCM.out (l.length - a) (.int .i64 0)
      have hsz2 := hI.out.sz
      have HEND := Lib.hid hend
      have HKE := Lib.hid (kp_setCells (F := fun q => q = g) rfl (List.replicate (l.length - a) (.int .i64 0)) a w wr hkp.out)
      have hcl : ∀ ty, (Builtin.clear_ #[27] ty #[.slice (some ⟨g, a, none⟩) (l.length - a) (cap - a)]).run Try.prog wr = .ok (.tuple #[]) (wr.setCells g a (List.replicate (l.length - a) (.int .i64 0))) :=
        fun ty => Lib.run_clear_slice wr 27 3 ty (.int .i64 0) Try.underlying27 (fun w => by kernel_rfl) rfl rfl g a _ _ (by omega) (fun j hj => by rw [hb.cell (a + j), Array.getElem?_eq_getElem (by omega)]; rfl) (fun j hj => hb.frozen (a + j))
      have HSN : Hid ((wr.setCells g a (List.replicate (l.length - a) (.int .i64 0))).heap.size = w.heap.size) := Lib.hid (by rw [size_setCells']; exact hsz.out)
      have j0 : (0 : Int) ≤ (a : Int) := by omega
      have j1 : (a : Int) ≤ (l.length : Int) := by omega
      have j2 : (a : Int) ≤ (cap : Int) := by omega
      clear hend hsz2 hb hI hlt hle2
      go_wp2
      go_ret
      refine ⟨_, rfl, ?_, rfl, ?_, HSN.out⟩
      · exact HEND.out.2
      · exact HKE.out.mono fun _ _ e => by rw [e]; rfl

/-- 'delete(c.l, id)' -/
theorem ChunksAt.del_l {w : World} {g : Nat} {P : Nat → Prop} {n : Nat} {s : CSt} {L By : Nat} {fl fb : Int → Option Value} (h : ChunksAt w g P n s L By fl fb) {id : Int} (h0 : -9223372036854775808 ≤ id) (h1 : id ≤ 9223372036854775807) (ty : TypeId) :
    ∃ w', (Builtin.delete_ #[88, 3] ty #[.map (some L), .int .i64 id]).run Try.prog w = .ok (.tuple #[]) w' ∧ ChunksAt w' g P n ⟨fun y => if y = id then none else s.l y, s.ids, s.next, s.size⟩ L By (fun y => if y = id then none else fl y) fb ∧ Kp (fun j => j = L) w w' ∧ w'.heap.size = w.heap.size := by
  obtain ⟨w', hrun, hm, hk, hz⟩ := h.ml.drop (P := Try.prog) (t := 88) (e := 23) Try.underlying3 Try.underlying88 (WalkArith.wf_i64 ⟨h0, h1⟩) ty
  have hg : g ≠ L := fun e => h.ml.no_blk (e ▸ h.blk) rfl
  refine ⟨w', hrun, ⟨h.blk.kp hk hg, hm, (h.mb.kp hk fun e => h.ne e.symm), fun y hy => ?_, fun y b' hy => ?_, fun k => ⟨(h.row k).1.kp hk fun j e f => (h.row k).1.no_map h.ml (f ▸ e), (h.row k).2⟩, h.apart, h.pg, h.pl, h.pb, h.ne, fun j hj => by rw [hz]; exact h.lt j hj⟩, hk, hz⟩
  · simp only at hy ⊢
    by_cases e : y = id
    · rw [if_pos e]
    · rw [if_neg e] at hy ⊢; exact h.none_ y hy
  · simp only at hy ⊢
    by_cases e : y = id
    · rw [if_pos e] at hy; cases hy
    · rw [if_neg e] at hy ⊢
      obtain ⟨u, u1, u2, u3⟩ := h.some_ y b' hy
      exact ⟨u, u1, u2.kp hk fun j e f => u2.no_map h.ml (f ▸ e), u3⟩
/-- 'c.by[k] = DeleteFunc(c.by[k], ..)' -/
theorem ChunksAt.cut_by {w : World} {g : Nat} {P : Nat → Prop} {n : Nat} {s : CSt} {L By : Nat} {fl fb : Int → Option Value} (h : ChunksAt w g P n s L By fl fb) (b : List UInt8) (ids' : List Int) (hn : n < maxLen) {v' : Value} {w2 : World} (ho : Own w2 0 3 v' (ids'.map (Value.int .i64))) (hvo : v'.ownBlock = ((fb (ck b)).getD nilS).ownBlock) (hk : Kp (fun q => ((fb (ck b)).getD nilS).ownBlock = some q) w w2) :
    ∃ w3, (Instr.mapUpdate 89 (.map (some By)) (.int .u32 (ck b)) v').run Try.prog w2 = .ok () w3 ∧
      ChunksAt w3 g P (n + 1) ⟨s.l, fun k => if k = ck b then ids' else s.ids k, s.next, s.size⟩ L By fl (fun k => if k = ck b then some v' else fb k) ∧ Kp P w w3 := by
  have hrow := (h.row (ck b)).1
  have hF : ∀ j, ((fb (ck b)).getD nilS).ownBlock = some j → P j := (h.row (ck b)).2
  have hg2 : Blk w2 g _ _ := h.blk.kp hk (hrow.no_blk h.blk (by decide))
  have hml2 := h.ml.kp hk (hrow.no_map h.ml)
  have hmb2 := h.mb.kp hk (hrow.no_map h.mb)
  have hlt2 := hk.size
  obtain ⟨w3, hrun3, hm3, hk3, hz3⟩ := hmb2.store Try.underlying113 Try.underlying89 hn (ck_wf b) v'
  have hgB : g ≠ By := fun e => hmb2.no_blk (e ▸ hg2) rfl
  have hP3 : ∀ j, P j → j < w3.heap.size := fun j hj => by rw [hz3]; exact Nat.lt_of_lt_of_le (h.lt j hj) hlt2
  refine ⟨w3, hrun3, ⟨hg2.kp hk3 hgB, (hml2.kp hk3 h.ne).mono (by omega), hm3, h.none_, fun y b' hy => ?_, fun k => ?_, fun k k' j hne hj => ?_, h.pg, h.pl, h.pb, h.ne, hP3⟩, ?_⟩
  · obtain ⟨u, u1, u2, u3⟩ := h.some_ y b' hy
    have u2' := u2.kp hk fun j e f => by
      obtain ⟨_, _, cur, hc⟩ := u2.typed j e
      exact hrow.no_blk hc (by decide) f
    exact ⟨u, u1, u2'.kp hk3 fun j e f => u2'.no_map hmb2 (f ▸ e), fun j e => u3 j e⟩
  · by_cases e : k = ck b
    · subst e
      simp only [if_true]
      have ho3 := ho.kp hk3 fun j e f => ho.no_map hmb2 (f ▸ e)
      refine ⟨ho3, fun j hj => hF j ?_⟩
      simp only [Option.getD_some] at hj
      rw [← hvo]; exact hj
    · simp only [if_neg e]
      have hr := (h.row k).1
      have hr2 := hr.kp hk fun j e1 f => h.apart k (ck b) j e e1 f
      exact ⟨hr2.kp hk3 fun j e1 f => hr2.no_map hmb2 (f ▸ e1), fun j e1 => (h.row k).2 j e1⟩
  · by_cases e : k = ck b
    · subst e
      have e' : ¬ k' = ck b := fun h => hne h.symm
      simp only [if_true, if_neg e', Option.getD_some] at hj ⊢
      rw [hvo] at hj
      exact h.apart _ k' j hne hj
    · by_cases e' : k' = ck b
      · subst e'
        simp only [if_true, if_neg e, Option.getD_some] at hj ⊢
        rw [hvo]
        exact h.apart k _ j hne hj
      · simp only [if_neg e, if_neg e'] at hj ⊢
        exact h.apart k k' j hne hj
  · refine (hk.mono fun j _ e => hF j e).trans (hk3.mono fun j _ e => ?_) fun j _ hj => hj
    subst e
    exact h.pb

/-- Drop: whether it was there, the store behind it -/
def dropR (s : CSt) (id : Int) : CSt := match s.l id with | some b => dropSt s id b | none => s
def DropPost (w : World) (g : Nat) (P : Nat → Prop) (n : Nat) (s : CSt) (id : Int) (e : Ending) (w' : World) : Prop :=
  e = .returned (.bool (s.l id).isSome) ∧ Kp P w w' ∧ Chunks w' g (fun j => P j ∨ (w.heap.size ≤ j ∧ j < w'.heap.size)) (n + 2) (dropR s id)
set_option maxRecDepth 100000 in
set_option maxHeartbeats 4000000 in
theorem chunk_drop (g : Nat) (P : Nat → Prop) (n : Nat) (s : CSt) (id : Int) (h0 : -9223372036854775808 ≤ id) (h1 : id ≤ 9223372036854775807) (w : World) (h : Chunks w g P n s) (ok : COk n s) (inv : CInv s) (hn : n < 100000) :
    Calls Try.prog 34 #[.pointer (some ⟨g, 0, none⟩), .int .i64 id] w (DropPost w g P n s id) := by
  have hG := h.grow (bdr (bal (Below.refl w.heap.size w) (.cells #[.int .i64 id] 3)))
  obtain ⟨L, By, fl, fb, h⟩ := h
  have hlt := h.lt
  have h' := h.kp (F := fun _ => False) (Kp.of (bal (Below.refl w.heap.size w) (.cells #[.int .i64 id] 3))) fun _ _ f => f
  have hk := bal (Below.refl w.heap.size w) (.cells #[.int .i64 id] 3)
  have hB0 := Blk.new w 3 #[.int .i64 id]
  have hsz0 := size_more' w (.cells #[.int .i64 id] 3)
  cases hs : s.l id with
  | none =>
    unfold DropPost
    have hd : dropR s id = s := by unfold dropR; rw [hs]
    rw [hd, hs]
    have hd' : ChunksAt (w.alloc (.cells #[.int .i64 id] 3)).drew g P n s L By fl fb := h'.kp (F := fun _ => False) (Kp.of (bdr (Below.refl _ _))) fun _ _ f => f
    have hlk2 := look_l2 hd'.ml h0 h1
    rw [hd'.none_ id hs] at hlk2
    simp only [Option.getD_none, Option.isSome_none] at hlk2
    have hc0 : (w.alloc (.cells #[.int .i64 id] 3)).cell? ⟨g, 0, none⟩ = some (.map (some L)) := h'.blk.cell 0
    have hcb : (w.alloc (.cells #[.int .i64 id] 3)).cell? ⟨w.heap.size, 0, none⟩ = some (.int .i64 id) := hB0.cell 0
    have HG := Lib.hid hG
    clear h h' ok inv hB0 hs hd hG hd'
    go_enter Try.func34, Try.ntmps34
    go_wp2_with fail
    go_region_held (fun W => W.cell? ⟨g, 0, none⟩ = some (.map (some L)) ∧ W.cell? ⟨w.heap.size, 0, none⟩ = some (.int .i64 id) ∧ (Instr.lookup 88 (.map (some L)) (.int .i64 id) true).run Try.prog W = .ok (.tuple #[nilS, .bool false]) W) (exact ⟨hc0, hcb, hlk2⟩) (fail)
    go_wp2_with fail
    go_ret
    exact ⟨rfl, kp_of (bdr hk), HG.out⟩
  | some b =>
    unfold DropPost
    have hd : dropR s id = dropSt s id b := by unfold dropR; rw [hs]
    rw [hd, hs]
    obtain ⟨v, hfv, hov, _⟩ := h'.some_ id b hs
    obtain ⟨A, c, rfl, hbc, hrb⟩ := hov.bytes
    have hd' : ChunksAt (w.alloc (.cells #[.int .i64 id] 3)).drew g P n s L By fl fb := h'.kp (F := fun _ => False) (Kp.of (bdr (Below.refl _ _))) fun _ _ f => f
    have hlk2 := look_l2 hd'.ml h0 h1
    rw [hfv] at hlk2
    simp only [Option.getD_some, Option.isSome_some] at hlk2
    have hbl := ok.len id b hs
    have hmem := inv.i1 id b hs
    have hidl := ok.ids (ck b)
    have hz0 := ok.size0
    have hz1 := ok.size1
    have hc0 : (w.alloc (.cells #[.int .i64 id] 3)).cell? ⟨g, 0, none⟩ = some (.map (some L)) := h'.blk.cell 0
    have hcb : (w.alloc (.cells #[.int .i64 id] 3)).cell? ⟨w.heap.size, 0, none⟩ = some (.int .i64 id) := hB0.cell 0
    have hPG : P g := h.pg
    have hPL : P L := h.pl
    have hrowP : ∀ j, ((fb (ck b)).getD nilS).ownBlock = some j → P j := (h.row (ck b)).2
    have h2 : ChunksAt (w.alloc (.cells #[.int .i64 id] 3)).drew.drew g P n s L By fl fb := hd'.kp (F := fun _ => False) (Kp.of (bdr (Below.refl _ _))) fun _ _ f => f
    obtain ⟨w3, hrun3, h3, hk3, hz3⟩ := h2.del_l h0 h1 0
    have hdel : ∀ ty, (Builtin.delete_ #[88, 3] ty #[.map (some L), .int .i64 id]).run Try.prog (w.alloc (.cells #[.int .i64 id] 3)).drew.drew = .ok (.tuple #[]) w3 := fun ty => hrun3
    have hb2 : Below w.heap.size w (w.alloc (.cells #[.int .i64 id] 3)).drew.drew := bdr (bdr hk)
    have hB2 : Blk (w.alloc (.cells #[.int .i64 id] 3)).drew.drew w.heap.size 3 #[.int .i64 id] := hB0
    have hLlt : L < w.heap.size := hlt L hPL
    have hB3 := hB2.kp hk3 (by omega)
    have hrb2 : RB (w.alloc (.cells #[.int .i64 id] 3)).drew.drew A b := hrb
    have hrb3 := hrb2.kp hk3 fun ad e f => by
      have := hov.no_map h'.ml
      rw [e] at this
      simp [Value.ownBlock, f] at this
    have hk3P : Kp P w w3 := (kp_of (F := P) hb2).trans (hk3.mono fun j _ e => e ▸ hPL) fun _ _ p => p
    have hz3' : w.heap.size ≤ w3.heap.size := hk3P.size
    have HHC0 := Lib.hid hc0
    have hc02 : (w.alloc (.cells #[.int .i64 id] 3)).drew.cell? ⟨g, 0, none⟩ = some (.map (some L)) := hc0
    have hcb2 : (w.alloc (.cells #[.int .i64 id] 3)).drew.cell? ⟨w.heap.size, 0, none⟩ = some (.int .i64 id) := hcb
    have HC2 : Hid (_ ∧ _) := Lib.hid ⟨hc02, hcb2⟩
    have HC3 : Hid (_ ∧ _) := Lib.hid ⟨h3.blk.cell 0, hB3.cell 0⟩
    have HLT := Lib.hid hlt
    have HHS := Lib.hid hd
    have HMEM := Lib.hid hmem
    have HROWP := Lib.hid hrowP
    have HPG := Lib.hid hPG
    clear h h' hd' ok inv hB0 hs hd hG hfv hov h2 hrun3 hk3 hz3 hB2 hrb hrb2 hmem hrowP hsz0 hPL hPG hLlt hc02 hcb2
    go_enter Try.func34, Try.ntmps34
    go_wp2_with fail
    go_region_held (fun W => W.cell? ⟨g, 0, none⟩ = some (.map (some L)) ∧ W.cell? ⟨w.heap.size, 0, none⟩ = some (.int .i64 id) ∧ (Instr.lookup 88 (.map (some L)) (.int .i64 id) true).run Try.prog W = .ok (.tuple #[.slice A b.length c, .bool true]) W) (exact ⟨hc0, hcb, hlk2⟩) (fail)
    go_wp2_with fail
    go_region_held (fun W => W.cell? ⟨g, 0, none⟩ = some (.map (some L)) ∧ W.cell? ⟨w.heap.size, 0, none⟩ = some (.int .i64 id)) (first | exact HC2.out | exact HC3.out) (fail)
    have HK4 := Lib.hid fun W hb => (kp_of (F := P) (w := w3) (w' := W) hb)
    have hrow := h3.row (ck b)
    have HDEL := Lib.hid fun W (hb : Below w3.heap.size w3 W) => delete_is ((fb (ck b)).getD nilS) (s.ids (ck b)) id w.heap.size W (hrow.1.below hb) (by omega) ((hB3.below hb).cell 0) (fun e => by have := HLT.out _ (HROWP.out _ e); omega) HMEM.out
    have HCUT := Lib.hid fun W (hb : Below w3.heap.size w3 W) (v' : Value) w2 h5 h6 h7 => ((h3.kp (F := fun _ => False) (Kp.of hb) fun _ _ f => f).cut_by b ((s.ids (ck b)).filter (kpf id)) (v' := v') (w2 := w2) (by unfold maxLen; omega) h5 h6 h7)
    have HL1 := Lib.hid fun W (hb : Below w3.heap.size w3 W) => look_b1 (h3.mb.below hb) b
    have HC1 : Hid (∀ W, Below w3.heap.size w3 W → W.cell? ⟨g, 1, none⟩ = some (.map (some By))) := fun W hb => (h3.blk.below hb).cell 1
    have HRG := Lib.hid fun W W2 (hb : Below w3.heap.size w3 W) (hk : Kp (fun q => ((fb (ck b)).getD nilS).ownBlock = some q) W W2) => ((h3.blk.below hb).kp hk (hrow.1.no_blk h3.blk (by decide))).cell 1
    clear hlk2 hc0 hcb hdel HC2 HHC0 hrow
    go_wp2_with fail
    (with_reducible refine (crc_sum A b.length c b w3 rfl (by unfold maxLen; omega) hrb3).mono ?_)
    rintro e w4 ⟨rfl, hb4⟩
    rw [show ((Crc.next 0#32 b).toNat : Int) = ck b from rfl]
    have hb4' : Below w3.heap.size w3 w4.drew := bdr hb4
    have hlk := HL1.out _ hb4'
    have hcg := HC1.out _ hb4'
    have HDEL2 := Lib.hid (HDEL.out _ hb4')
    have HCUT2 := Lib.hid (HCUT.out _ hb4')
    have HKK : Hid (Kp P w w4.drew) := Lib.hid (hk3P.trans (HK4.out _ hb4') fun _ _ p => p)
    have HRG2 := Lib.hid fun W2 => HRG.out _ W2 hb4'
    clear HDEL HCUT HL1 HC1 HRG hb4 hb4' h3 hB3 hrb3
    generalize (fb (ck b)).getD nilS = vb at *
    generalize hKE : ck b = key at *
    have HKE := Lib.hid hKE
    clear hKE
    go_wp2_with fail
    go_region_held_law (fun W => W.cell? ⟨g, 1, none⟩ = some (.map (some By))) (first | exact hcg | exact hc5 | exact h6.blk.cell 1) (first
      | (go_at_call 61; (with_reducible refine HDEL2.out.mono ?_); rintro e w5 ⟨v5, rfl, ho5, hvo5, hk5, hz5⟩; obtain ⟨w6, hrun6, h6, hk6⟩ := HCUT2.out _ _ ho5 hvo5 hk5; have hc5 := HRG2.out _ hk5))
    all_goals
      have x3 : w6.cell? ⟨g, 3, none⟩ = some (.int .i64 s.size) := h6.blk.cell 3
      have f3 : w6.frozen? ⟨g, 3, none⟩ = false := h6.blk.frozen 3
      have HRW := Lib.hid h6
      have HK6 := Lib.hid hk6
      have hle : (b.length : Int) ≤ 64 := by omega
      have hn1 : (n : Int) ≤ 100000 := by omega
      clear hlk hcg hc5 h6 hk6 hrun6 ho5 hvo5 hk5 HDEL2 HCUT2 HRG2
      go_wp2_with fail
      go_ret
      have hkD : Kp P w w6 := HKK.out.trans HK6.out fun _ _ p => p
      refine ⟨rfl, hkD.setCell 3 _ HPG.out, ?_⟩
      have h7 := HRW.out.set_size (s.size - b.length)
      have hs : dropSt s id b = ⟨fun y => if y = id then none else s.l y, fun k => if k = key then (s.ids k).filter (fun x => x != id) else s.ids k, s.next, s.size - b.length⟩ := by unfold dropSt; rw [HKE.out]
      rw [hs]
      have e9 : (fun k => if k = key then (s.ids k).filter (fun x => x != id) else s.ids k) = (fun k => if k = key then (s.ids key).filter (kpf id) else s.ids k) := by
        funext k
        by_cases e : k = key
        · rw [if_pos e, if_pos e, e]; rfl
        · rw [if_neg e, if_neg e]
      rw [e9]
      have hzs : (w6.setCell ⟨g, 3, none⟩ (.int .i64 (s.size - b.length))).heap.size = w6.heap.size := by simp
      have h8 := h7.mono (P' := fun j => P j ∨ (w.heap.size ≤ j ∧ j < (w6.setCell ⟨g, 3, none⟩ (.int .i64 (s.size - b.length))).heap.size)) (n' := n + 2) (fun j hj => .inl hj) (fun j hj => by
        rcases hj with hj | hj
        · have h1 := HLT.out j hj
          have h2 := hkD.size
          omega
        · exact hj.2) (by omega)
      exact ⟨L, By, _, _, h8⟩
end Go.Proofs.Ytpnfgnddlfkfaaa
