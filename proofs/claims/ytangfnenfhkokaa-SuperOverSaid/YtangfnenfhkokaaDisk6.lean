/-
  The disk: Crash.
-/
import Derived.Test.YtangfnenfhkokaaDisk5
import Derived.Test.YtangfnenfhkokaaIter
set_option linter.unusedSimpArgs false
set_option linter.unusedVariables false
namespace Go.Proofs.Ytangfnenfhkokaa
open Go.RowKit Go.Maps

def posK (ks : List Int) (x : Int) : Nat := (ks.takeWhile fun y => y != x).length
theorem posK_at : ∀ {ks : List Int}, ks.Nodup → ∀ (i : Nat) (hi : i < ks.length), posK ks ks[i] = i
  | [], _, i, hi => by simp at hi
  | y :: ks, h, i, hi => by
    rw [List.nodup_cons] at h
    unfold posK
    cases i with
    | zero => simp [List.takeWhile_cons]
    | succ i =>
      have hne : y ≠ ks[i]'(by simpa using hi) := fun e => h.1 (e ▸ List.getElem_mem _)
      have : (y != (y :: ks)[i + 1]) = true := by simpa using hne
      rw [List.takeWhile_cons, if_pos this, List.length_cons]
      have := posK_at h.2 i (by simpa using hi)
      unfold posK at this
      simpa using this
theorem rising_nd {l : List Int} (h : Rising l) : l.Nodup := h.imp fun {a b} h e => by omega
/-- a sector behind a crash -/
def crashAt (s : DSt) (ch : List UInt8) (ks : List Int) (m : Nat) : List UInt8 :=
  if ch = [] then s.fl.getD m [] else match s.ca (m : Int) with | none => s.fl.getD m [] | some b => afterB (s.fl.getD m []) b (ch.getD (posK ks (m : Int) % ch.length) 0).toNat
def crashD (s : DSt) (ch : List UInt8) (ks : List Int) : DSt := ⟨(List.range s.fl.length).map (crashAt s ch ks), fun _ => none, -1, false, 0⟩
theorem crashD_get (s : DSt) (ch : List UInt8) (ks : List Int) (i : Nat) (hi : i < s.fl.length) : (crashD s ch ks).fl.getD i [] = crashAt s ch ks i := by
  simp [crashD, List.getD_eq_getElem?_getD, List.getElem?_map, List.getElem?_range, hi]
theorem crashAt_len {s : DSt} (h : DOk s) (ch : List UInt8) (ks : List Int) {m : Nat} (hm : m < s.fl.length) : (crashAt s ch ks m).length = 64 := by
  unfold crashAt
  split
  · exact h.sec m hm
  · cases hc : s.ca (m : Int) with
    | none => exact h.sec m hm
    | some b => exact afterB_len (h.sec m hm) (h.cs _ b hc).1 _ (UInt8.toNat_lt _)
theorem DOk.crash {s : DSt} (h : DOk s) (ch : List UInt8) (ks : List Int) : DOk (crashD s ch ks) := by
  have hlen : (crashD s ch ks).fl.length = s.fl.length := by simp [crashD]
  refine ⟨by rw [hlen]; exact h.len, fun i hi => ?_, fun x b h => (by cases h), by simp [crashD], by simp [crashD], by simp [crashD], by simp [crashD]⟩
  rw [hlen] at hi
  rw [crashD_get s ch ks i hi]
  exact crashAt_len h ch ks hi
theorem ext_getD {a b : List (List UInt8)} (hl : a.length = b.length) (h : ∀ i, i < a.length → a.getD i [] = b.getD i []) : a = b := by
  refine List.ext_getElem? fun i => ?_
  by_cases hi : i < a.length
  · have := h i hi
    simp only [List.getD_eq_getElem?_getD, List.getElem?_eq_getElem hi, List.getElem?_eq_getElem (show i < b.length by omega), Option.getD_some] at this
    rw [List.getElem?_eq_getElem hi, List.getElem?_eq_getElem (by omega), this]
  · rw [List.getElem?_eq_none (by omega), List.getElem?_eq_none (by omega)]
/-- a sector's slice is another one -/
theorem DiskAt.sec_put {w : World} {g : Nat} {P : Nat → Prop} {n : Nat} {s : DSt} {L M : Nat} {fv : List Value} {fc : Int → Option Value} (h : DiskAt w g P n s L M fv fc) {k : Nat} (hk : k < s.fl.length) {v : Value} {l : List UInt8} {B : Nat} (ho : Own w B 5 v (l.map eb)) (hPB : ∀ j, P j → j < B) :
    DiskAt (w.setCell ⟨L, k, none⟩ v) g (fun j => P j ∨ (B ≤ j ∧ j < w.heap.size)) n ⟨s.fl.set k l, s.ca, s.fuse, s.dead, s.ops⟩ L M (fv.set k v) fc := by
  have hkp := (Kp.refl (fun j => j = L) w).setCell k v rfl
  have hot := ho.typed
  have hkf : k < fv.length := by rw [h.fll]; exact hk
  have hgL : g ≠ L := fun e => absurd ((e ▸ h.blk).type h.rows) (by decide)
  have hfs : ∀ i, (fv.set k v).getD i nilS = if i = k then v else fv.getD i nilS := fun i => by
    by_cases e : i = k
    · subst e; simp [List.getD_eq_getElem?_getD, List.getElem?_set, hkf]
    · simp [List.getD_eq_getElem?_getD, List.getElem?_set, e, Ne.symm e]
  have hcP : ∀ x u, fc x = some u → ∀ j, u.ownBlock = some j → j < B := fun x u hx j hj => by
    cases hc : s.ca x with
    | none => rw [h.none_ x hc] at hx; cases hx
    | some b =>
      obtain ⟨u', h1, _, h3⟩ := h.some_ x b hc
      rw [hx] at h1
      cases h1
      exact hPB _ (h3 j hj)
  refine ⟨by have := h.blk.kp hkp hgL; simpa using this, by have := h.rows.set k v; simpa using this, h.map.kp hkp fun e => h.map.no_blk h.rows e, by simpa using h.fll, fun i hi => ?_, h.none_, fun x b hb => ?_, fun i m j hi hm hne hj => ?_, fun i x u j hi hj hx => ?_, h.ap3, .inl h.pg, .inl h.pl, .inl h.pm, fun j hj => ?_⟩
  · have hi' : i < s.fl.length := by simpa using hi
    simp only
    rw [set_getD _ _ _ _ hk, hfs i]
    by_cases e : i = k
    · rw [if_pos e, if_pos e]
      exact ⟨(ho.lower (Nat.zero_le _)).kp hkp fun j e1 f => ho.no_blk h.rows (by decide) (f ▸ e1), fun j e1 => .inr ⟨(hot j e1).1, (hot j e1).2.1⟩⟩
    · rw [if_neg e, if_neg e]
      exact ⟨(h.sec i hi').1.kp hkp fun j e1 f => (h.sec i hi').1.no_blk h.rows (by decide) (f ▸ e1), fun j e1 => .inl ((h.sec i hi').2 j e1)⟩
  · obtain ⟨u, h1, h2, h3⟩ := h.some_ x b hb
    exact ⟨u, h1, h2.kp hkp fun j e1 f => h2.no_blk h.rows (by decide) (f ▸ e1), fun j e1 => .inl (h3 j e1)⟩
  · have hi' : i < s.fl.length := by simpa using hi
    have hm' : m < s.fl.length := by simpa using hm
    rw [hfs i] at hj
    rw [hfs m]
    by_cases e : i = k
    · rw [if_pos e] at hj
      rw [if_neg (by omega)]
      intro e2
      have a1 := (hot j hj).1
      have a2 := hPB _ ((h.sec m hm').2 j e2)
      omega
    · rw [if_neg e] at hj
      by_cases e3 : m = k
      · rw [if_pos e3]
        intro e2
        have a1 := (hot j e2).1
        have a2 := hPB _ ((h.sec i hi').2 j hj)
        omega
      · rw [if_neg e3]
        exact h.ap1 i m j hi' hm' hne hj
  · have hi' : i < s.fl.length := by simpa using hi
    rw [hfs i] at hj
    by_cases e : i = k
    · rw [if_pos e] at hj
      intro e2
      have a1 := (hot j hj).1
      have a2 := hcP x u hx j e2
      omega
    · rw [if_neg e] at hj
      exact h.ap2 i x u j hi' hj hx
  · have hz : (w.setCell ⟨L, k, none⟩ v).heap.size = w.heap.size := by simp
    rw [hz]
    rcases hj with hj | hj
    · exact h.lt j hj
    · exact hj.2
theorem look_c1 {w : World} {L n : Nat} {fl : Int → Option Value} (h : MapF Try.prog 3 .i64 w L n fl) {id : Int} (h0 : -9223372036854775808 ≤ id) (h1 : id ≤ 9223372036854775807) :
    (Instr.lookup 82 (.map (some L)) (.int .i64 id) false).run Try.prog w = .ok ((fl id).getD nilS) w := h.look1 Try.underlying3 Try.underlying82 (zero_bytes' w) (WalkArith.wf_i64 ⟨h0, h1⟩)
/-- the disk behind a crash in the midst of its making: i keys are done -/
structure CrashMid (s : DSt) (ch : List UInt8) (ks : List Int) (i : Nat) (o : List (List UInt8)) : Prop where
  len : o.length = s.fl.length
  get : ∀ m, m < s.fl.length → o.getD m [] = if (m : Int) ∈ ks.take i then crashAt s ch ks m else s.fl.getD m []
theorem CrashMid.start (s : DSt) (ch : List UInt8) (ks : List Int) : CrashMid s ch ks 0 s.fl := ⟨rfl, fun m _ => by simp⟩
theorem CrashMid.step {s : DSt} {ch : List UInt8} {ks : List Int} {i : Nat} {o : List (List UInt8)} (h : CrashMid s ch ks i o) (hi : i < ks.length) {k : Nat} (hk : k < s.fl.length) (hki : ks[i] = (k : Int)) : CrashMid s ch ks (i + 1) (o.set k (crashAt s ch ks k)) := by
  refine ⟨by simpa using h.len, fun m hm => ?_⟩
  rw [set_getD _ _ _ _ (by rw [h.len]; exact hk), List.take_succ_eq_append_getElem hi]
  by_cases e : m = k
  · subst e
    rw [if_pos rfl, if_pos (by rw [hki]; simp)]
  · rw [if_neg e, h.get m hm]
    have : ((m : Int) ∈ ks.take i ++ [ks[i]]) ↔ (m : Int) ∈ ks.take i := by
      rw [List.mem_append, List.mem_singleton, hki]
      constructor
      · rintro (h | h)
        · exact h
        · omega
      · exact .inl
    simp only [this]
theorem CrashMid.done {s : DSt} {ch : List UInt8} {ks : List Int} {o : List (List UInt8)} (h : CrashMid s ch ks ks.length o) (hks : ∀ x, x ∈ ks ↔ (okInt x ∧ (s.ca x).isSome = true)) (hl : s.fl.length ≤ 776) : o = (crashD s ch ks).fl := by
  refine ext_getD (by rw [h.len]; simp [crashD]) fun i hi => ?_
  rw [h.len] at hi
  rw [h.get i hi, crashD_get s ch ks i hi, List.take_length]
  by_cases hm : (i : Int) ∈ ks
  · rw [if_pos hm]
  · rw [if_neg hm]
    unfold crashAt
    split
    · rfl
    · cases hc : s.ca (i : Int) with
      | none => rfl
      | some b => exact absurd ((hks _).2 ⟨by unfold okInt; omega, by rw [hc]; rfl⟩) hm
theorem CrashMid.none {s : DSt} {ks : List Int} : (crashD s [] ks).fl = s.fl := by
  refine ext_getD (by simp [crashD]) fun i hi => ?_
  have hi' : i < s.fl.length := by simpa [crashD] using hi
  rw [crashD_get s [] ks i hi']
  rfl
theorem own_len {w : World} {B : Nat} {e : TypeId} {v : Value} {cs : List Value} (h : Own w B e v cs) : cs.length ≤ maxLen := by
  rcases h.2 with ⟨_, h0⟩ | ⟨_, cap, _, _, _, _, h1, h2, _⟩
  · rw [h0]; exact Nat.zero_le _
  · exact Nat.le_trans h1 h2
def CrashPost (w : World) (s : DSt) (ch : List UInt8) (e : Ending) (w' : World) : Prop :=
  ∃ g ks, e = .returned (.pointer (some ⟨g, 0, none⟩)) ∧ Rising ks ∧ (∀ x, x ∈ ks ↔ (okInt x ∧ (s.ca x).isSome = true)) ∧ Disk w' g (fun j => w.heap.size ≤ j ∧ j < w'.heap.size) 0 (crashD s ch ks) ∧ Below w.heap.size w w'
set_option maxRecDepth 100000 in
set_option maxHeartbeats 8000000 in
theorem disk_crash (g : Nat) (P : Nat → Prop) (n : Nat) (s : DSt) (A : Option Addr) (m c : Nat) (ch : List UInt8) (w : World) (hm : ch.length = m) (hl : ch.length ≤ 1000000) (hr : RB w A ch) (h : Disk w g P n s) (ok : DOk s) (hn : n ≤ 1000000000) :
    Calls Try.prog 36 #[.pointer (some ⟨g, 0, none⟩), .slice A m c] w (CrashPost w s ch) := by
  subst hm
  obtain ⟨L, M, fv, fc, h⟩ := h
  have hlen := ok.len
  have x0 : w.cell? ⟨g, 0, none⟩ = some (.slice (some ⟨L, 0, none⟩) s.fl.length s.fl.length) := h.blk.cell 0
  have HN := Lib.hid (disk_new s.fl.length hlen w)
  have H := Lib.hid fun W (hb : Below w.heap.size w W) => h.kp (F := fun _ => False) (Kp.of hb) fun _ _ f => f
  have hPlt := Lib.hid h.lt
  have HR := Lib.hid fun W (hb : Below w.heap.size w W) => hr.below hb
  have HOK := Lib.hid ok
  clear h hr ok
  go_enter Try.func36, Try.ntmps36
  go_wp2_with fail
  (with_reducible refine HN.out.mono ?_)
  rintro e w1 ⟨g', rfl, hd1, hb1⟩
  obtain ⟨L', M', fv', fc', hd1⟩ := hd1
  have y0 : w1.cell? ⟨g, 0, none⟩ = some (.slice (some ⟨L, 0, none⟩) s.fl.length s.fl.length) := (H.out _ hb1).blk.cell 0
  have HD1 := Lib.hid hd1
  have HB1 := Lib.hid hb1
  clear x0 hd1 hb1 HN
  go_wp2
  go_loopw [7, 8, 27] (fun _ _ i wr => ∃ (k : Nat) (o : List (List UInt8)), k ≤ s.fl.length ∧ i = .int .i64 (k : Int) ∧ DiskAt wr g' (fun j => w.heap.size ≤ j ∧ j < w1.heap.size) 0 ⟨o, fun _ => none, -1, false, 0⟩ L' M' fv' fc' ∧ Hid (o.length = s.fl.length ∧ (∀ m, m < s.fl.length → (o.getD m []).length = 64) ∧ ∀ m, m < k → o.getD m [] = s.fl.getD m []) ∧ Below w.heap.size w wr ∧ Hid (wr.heap.size = w1.heap.size)) (fun _ _ i _ => s.fl.length - (intOf i).toNat)
  case atStart => exact ⟨0, _, Nat.zero_le _, rfl, HD1.out, Lib.hid ⟨by simp [newD], fun m hm => by simp [newD, List.getD_eq_getElem?_getD, List.getElem?_replicate, hm, zeros64], fun m hm => by omega⟩, HB1.out, rfl⟩
  case round =>
    clear HD1 HB1
    obtain ⟨k, o, hk, rfl, hd, ho, hb, hz⟩ := hrel
    by_cases hlt : k < s.fl.length
    · obtain ⟨ho1, ho2, ho3⟩ := ho.out
      have hk' : k < o.length := by omega
      have hdd := H.out wr hb
      have hsl := HOK.out.sec k hlt
      obtain ⟨A0, c0, _, hc0, hr0, hcell0, _⟩ := hdd.val hlt
      rw [hsl] at hcell0
      have hso := hd.sec k hk'
      have hol := ho2 k hlt
      simp only at hso
      obtain ⟨gs, cap, _, hvs, hgs, _, hcap, _⟩ := hso.1.blk (by rw [List.length_map, hol]; omega)
      rw [List.length_map, hol] at hvs hcap
      have hcell1 : wr.cell? ⟨L', k, none⟩ = some (.slice (some ⟨gs, 0, none⟩) 64 cap) := by
        rw [hd.rows.cell k, ← hvs]
        have : k < fv'.length := by rw [hd.fll]; exact hk'
        simp [List.getD_eq_getElem?_getD, List.getElem?_eq_getElem this]
      obtain ⟨w2, hrun2, hw2, hk2, hz2⟩ := copy_own hso.1 0 (some ⟨gs, 0, none⟩) A0 64 cap 64 c0 (s.fl.getD k []) (by rw [hsl]; rfl) hr0 (fun _ => ⟨gs, by rw [hvs]; rfl, rfl⟩) (by rw [hol, hsl]; omega) 0
      rw [lay_all _ _ (hol.trans hsl.symm)] at hw2
      rw [hsl] at hrun2
      have h2 := hd.sec_write hk' (l := s.fl.getD k []) (hsl.trans hol.symm) hw2 hk2 hz2
      have hX : ∃ w', (Builtin.copy_ #[42, 42] 3 #[.slice (some ⟨gs, 0, none⟩) 64 cap, .slice A0 64 c0]).run Try.prog wr = .ok (goInt (64 : Nat)) w' ∧ w' = w2 := ⟨w2, hrun2, rfl⟩
      have HX := Lib.hid hX
      have HH2 := Lib.hid h2
      have HB2 : Hid (Below w.heap.size w w2) := Lib.hid (hb.trans (hk2.below hb.size fun j e => (hso.2 j e).1))
      have HZ2 : Hid (w2.heap.size = w1.heap.size) := Lib.hid (hz2.trans hz.out)
      have HO2 : Hid ((o.set k (s.fl.getD k [])).length = s.fl.length ∧ (∀ m, m < s.fl.length → ((o.set k (s.fl.getD k [])).getD m []).length = 64) ∧ ∀ m, m < k + 1 → (o.set k (s.fl.getD k [])).getD m [] = s.fl.getD m []) := Lib.hid ⟨by simpa using ho1, fun m hm => by
        rw [set_getD _ _ _ _ hk']
        split
        · exact hsl
        · exact ho2 m hm, fun m hm => by
        rw [set_getD _ _ _ _ hk']
        split
        · rename_i e; rw [e]
        · exact ho3 m (by omega)⟩
      have z0 : wr.cell? ⟨g', 0, none⟩ = some (.slice (some ⟨L', 0, none⟩) o.length o.length) := hd.blk.cell 0
      rw [ho1] at z0
      have i0 : (0 : Int) ≤ (k : Int) := by omega
      have i1 : (k : Int) < (s.fl.length : Int) := by omega
      clear hd hb hz ho ho1 ho2 ho3 hdd hsl hr0 hso hol hvs hcap hrun2 hw2 hk2 hz2 h2 hX hgs hc0 y0
      go_wp2_with (refine wpList_copy_ex rfl (.tmp 38) (.tmp 39) 42 42 rfl _ _ rfl rfl 64 HX.out ?_; rintro _ rfl)
      go_roundw
      case rel => exact ⟨k + 1, _, by omega, by go_num, HH2.out, HO2, HB2.out, HZ2⟩
      case measure => simp [intOf]; try omega
    · obtain rfl : k = s.fl.length := by omega
      have hoo : o = s.fl := ext_getD ho.out.1 fun i hi => ho.out.2.2 i (by have := ho.out.1; omega)
      subst hoo
      obtain ⟨wo, rfl⟩ : ∃ wo : World, wo = wr := ⟨_, rfl⟩
      have hdd := H.out wo hb
      have z1 : wo.cell? ⟨g, 1, none⟩ = some (.map (some M)) := hdd.blk.cell 1
      have HK := Lib.hid (keys_b (some M) wo)
      have HS := Lib.hid (sorted_b M n fc wo hdd.map hn)
      have HD := Lib.hid hd
      have HBW := Lib.hid hb
      have HZW := Lib.hid hz.out
      have HFS : Hid (∀ x, (fc x).isSome = (s.ca x).isSome) := Lib.hid fun x => by
        cases hx : s.ca x with
        | none => rw [hdd.none_ x hx]; rfl
        | some b => obtain ⟨v, h1, _⟩ := hdd.some_ x b hx; rw [h1]; rfl
      clear hd hb hz ho hlt hk hdd y0
      go_wp2_with fail
      (with_reducible refine HK.out.mono ?_)
      rintro e w4 ⟨rfl, rfl⟩
      go_wp2_with fail
      (with_reducible refine HS.out.mono ?_)
      rintro e w5 ⟨v5, ks, rfl, hv5, hri, hmem, hb5⟩
      have hb5o := bn (bal (Below.refl wo.heap.size wo) _) hb5
      have hb5w := bn HBW.out hb5o
      obtain ⟨A5, c5, rfl, _, hr5, hfr5⟩ := hv5.read
      have HNE : Hid (∀ ad, A5 = some ad → ad.block ≠ L') := Lib.hid fun ad e => by
        have h1 := hfr5 ad e
        have h2 := (HD.out.lt L' HD.out.pl)
        rw [size_more'] at h1
        omega
      rw [List.length_map]
      have hmem' : ∀ x, x ∈ ks ↔ (okInt x ∧ (s.ca x).isSome = true) := fun x => by rw [hmem x, HFS.out x]
      have HMEM := Lib.hid hmem'
      have HRI := Lib.hid hri
      have HR5 := Lib.hid hr5
      have hkl : ks.length ≤ 9223372036854775807 := by have := own_len hv5; rw [List.length_map] at this; unfold maxLen at this; omega
      have HD5 : Hid (DiskAt w5 g' (fun j => w.heap.size ≤ j ∧ j < w5.heap.size) 0 ⟨s.fl, fun _ => none, -1, false, 0⟩ L' M' fv' fc') := Lib.hid ((HD.out.kp (F := fun _ => False) (Kp.of hb5o) fun _ _ f => f).mono (fun j hj => ⟨hj.1, by have := hb5o.size; have := HZW.out; omega⟩) (fun j hj => hj.2) (Nat.le_refl _))
      have HB5 := Lib.hid hb5w
      have HLW : Hid (w.heap.size ≤ L') := Lib.hid HD.out.pl.1
      clear hri hmem hmem' hr5 hv5 hb5 hb5o hb5w HD HK HS HFS HBW HZW z1 hfr5
      by_cases hch : ch = []
      · subst hch
        go_wp2
        go_loopw [9, 10, 49] (fun _ _ i wr => ∃ k : Nat, k ≤ ks.length ∧ i = .int .i64 (k : Int) ∧ wr = w5) (fun _ _ i _ => ks.length - (intOf i).toNat)
        case atStart => exact ⟨0, Nat.zero_le _, rfl, rfl⟩
        case round =>
          obtain ⟨k, hk, rfl, hw5⟩ := hrel
          subst hw5
          by_cases hlt : k < ks.length
          · obtain ⟨b5, o5, rfl, hb5lt, hcell5⟩ := HR5.out.lit_at k (by rw [List.length_map]; exact hlt)
            have hcell := hcell5 k (by rw [List.length_map]; exact hlt)
            rw [List.getElem_map] at hcell
            have i0 : (0 : Int) ≤ (k : Int) := by omega
            have i1 : (k : Int) < (ks.length : Int) := by omega
            clear hcell5
            generalize ks[k] = x at *
            go_wp2
            go_roundw
            case rel => exact ⟨k + 1, by omega, by go_num, by trivial⟩
            case measure => simp [intOf]; try omega
          · obtain rfl : k = ks.length := by omega
            go_wp2
            go_ret
            refine ⟨g', ks, rfl, HRI.out, HMEM.out, ⟨L', M', fv', fc', ?_⟩, HB5.out⟩
            have h9 := HD5.out
            rw [← CrashMid.none (s := s) (ks := ks)] at h9
            exact h9
      · have hchl : 0 < ch.length := List.length_pos_iff.2 hch
        have hcp : (0 : Int) < (ch.length : Int) := by omega
        have hcn : (ch.length : Int) ≠ 0 := by omega
        obtain ⟨ba, oa, rfl, _, _⟩ : ∃ ba oa, A = some ⟨ba, oa, none⟩ ∧ True ∧ True := by
          obtain ⟨ba, oa, e, _⟩ := Rd.lit_at (HR.out _ HB5.out) 0 (by rw [List.length_map]; exact hchl)
          exact ⟨ba, oa, e, trivial, trivial⟩
        go_wp2
        go_loopw [9, 10, 49] (fun _ _ i wr => ∃ (k : Nat) (o : List (List UInt8)) (fv2 : List Value), k ≤ ks.length ∧ i = .int .i64 (k : Int) ∧ DiskAt wr g' (fun j => w.heap.size ≤ j ∧ j < wr.heap.size) 0 ⟨o, fun _ => none, -1, false, 0⟩ L' M' fv2 fc' ∧ Hid (CrashMid s ch ks k o) ∧ Hid (Kp (fun j => j = L') w5 wr) ∧ Below w.heap.size w wr) (fun _ _ i _ => ks.length - (intOf i).toNat)
        case atStart => exact ⟨0, _, _, Nat.zero_le _, rfl, HD5.out, Lib.hid (CrashMid.start s ch ks), Lib.hid (Kp.refl _ _), HB5.out⟩
        case round =>
          clear HD5
          obtain ⟨k, o, fv2, hk, rfl, hd, hcm, hkp, hb⟩ := hrel
          by_cases hlt : k < ks.length
          · obtain ⟨b5, o5, rfl, hb5lt, hcell5⟩ := HR5.out.lit_at k (by rw [List.length_map]; exact hlt)
            have hcell0 := hcell5 k (by rw [List.length_map]; exact hlt)
            rw [List.getElem_map] at hcell0
            have hcell : wr.cell? ⟨b5, o5 + k, none⟩ = some (.int .i64 ks[k]) := (World.cell?_of_block (a := ⟨b5, o5 + k, none⟩) (hkp.out.block b5 hb5lt (HNE.out _ rfl))).trans hcell0
            obtain ⟨_, hsome⟩ := (HMEM.out ks[k]).1 (List.getElem_mem hlt)
            obtain ⟨bt, hbt⟩ := Option.isSome_iff_exists.1 hsome
            obtain ⟨hbt64, hx0, hx1⟩ := HOK.out.cs _ bt hbt
            obtain ⟨q, hq⟩ := Int.eq_ofNat_of_zero_le hx0
            have hql : q < s.fl.length := by omega
            have hpos := posK_at (rising_nd HRI.out) k hlt
            have hstep := hcm.out.step hlt hql hq
            rw [hq] at hcell hbt hpos
            obtain ⟨kk, hkk⟩ : ∃ kk, kk = k % ch.length := ⟨_, rfl⟩
            have hkkl : kk < ch.length := by rw [hkk]; exact Nat.mod_lt _ hchl
            have hrem : Int.tmod (k : Int) (ch.length : Int) = (kk : Int) := by rw [hkk]; exact (Int.ofNat_tmod ..).symm
            obtain ⟨cb, hcb⟩ : ∃ cb, ch.getD kk 0 = cb := ⟨_, rfl⟩
            have hca : crashAt s ch ks q = afterB (s.fl.getD q []) bt cb.toNat := by
              unfold crashAt
              rw [if_neg hch, hbt]
              simp only
              rw [hpos, ← hkk, hcb]
            have hol : o.length = s.fl.length := hcm.out.len
            have i0 : (0 : Int) ≤ (k : Int) := by omega
            have i1 : (k : Int) < (ks.length : Int) := by omega
            have q0 : (0 : Int) ≤ (q : Int) := by omega
            have q1 : (q : Int) < (s.fl.length : Int) := by omega
            have k0 : (0 : Int) ≤ (kk : Int) := by omega
            have k1 : (kk : Int) < (ch.length : Int) := by omega
            have hsl := HOK.out.sec q hql
            have HWB : Hid (∀ W, Kp (fun j => j = L') wr W → Below w.heap.size w W) := Lib.hid fun W h => hb.trans (h.below hb.size fun j e => e ▸ HLW.out)
            have hgL' : g' ≠ L' := fun e => absurd ((e ▸ hd.blk).type hd.rows) (by decide)
            have hd0 := H.out wr hb
            obtain ⟨A0, c0, e0, hc0, _, _, _⟩ := hd0.val hql
            obtain ⟨v1, hv1, hov, _⟩ := hd0.some_ _ bt hbt
            obtain ⟨A1, c1, rfl, hc1, _⟩ := hov.bytes
            have hfq : q < fv.length := by rw [hd0.fll]; exact hql
            have HS : Hid (∀ W, Kp (fun j => j = L') wr W → (W.cell? ⟨g', 0, none⟩ = some (.slice (some ⟨L', 0, none⟩) s.fl.length s.fl.length) ∧ W.cell? ⟨g, 0, none⟩ = some (.slice (some ⟨L, 0, none⟩) s.fl.length s.fl.length) ∧ W.cell? ⟨g, 1, none⟩ = some (.map (some M)) ∧ W.cell? ⟨ba, oa + kk, none⟩ = some (.int .u8 (cb.toNat : Int))) ∧ W.cell? ⟨L, q, none⟩ = some (.slice A0 64 c0) ∧ (Instr.lookup 82 (.map (some M)) (.int .i64 (q : Int)) false).run Try.prog W = .ok (.slice A1 64 c1) W ∧ RB W A0 (s.fl.getD q []) ∧ RB W A1 bt) := Lib.hid fun W hW => by
              have hdW := H.out W (HWB.out W hW)
              have hgW := (hd.blk.kp hW hgL').cell 0
              simp only [hol] at hgW
              obtain ⟨ba', oa', e, _, hcc⟩ := Rd.lit_at (HR.out W (HWB.out W hW)) 0 (by rw [List.length_map]; exact hchl)
              cases e
              have hcx := hcc kk (by rw [List.length_map]; exact hkkl)
              rw [List.getElem_map] at hcx
              have hcg : ch[kk] = cb := by rw [← hcb]; simp [List.getD_eq_getElem?_getD, List.getElem?_eq_getElem hkkl]
              rw [hcg] at hcx
              have hrow := hdW.rows.cell q
              have hfg : fv.toArray[q]? = some (fv.getD q nilS) := by simp [List.getD_eq_getElem?_getD, List.getElem?_eq_getElem hfq]
              rw [hfg, e0, hsl] at hrow
              have hlk := look_c1 hdW.map (id := (q : Int)) (by omega) (by omega)
              rw [hv1, hbt64] at hlk
              refine ⟨⟨hgW, hdW.blk.cell 0, hdW.blk.cell 1, hcx⟩, hrow, hlk, ?_, ?_⟩
              · have h5 := (hdW.sec q hql).1
                rw [e0] at h5
                exact h5.read_at
              · obtain ⟨v2, a1, a2, _⟩ := hdW.some_ _ bt hbt
                rw [hv1] at a1
                cases a1
                exact a2.read_at
            have HAF := Lib.hid fun W (hW : Below wr.heap.size wr W) => disk_after A0 A1 c0 c1 (s.fl.getD q []) bt cb.toNat (UInt8.toNat_lt _) W hsl hbt64 (by omega) (HS.out W (kp_of hW)).2.2.2.1 (HS.out W (kp_of hW)).2.2.2.2
            have HPUT : Hid (∀ W v W2, Below wr.heap.size wr W → Own W2 W.heap.size 5 v ((afterB (s.fl.getD q []) bt cb.toNat).map eb) → Below W.heap.size W W2 → DiskAt (W2.setCell ⟨L', q, none⟩ v) g' (fun j => w.heap.size ≤ j ∧ j < (W2.setCell ⟨L', q, none⟩ v).heap.size) 0 ⟨o.set q (crashAt s ch ks q), fun _ => none, -1, false, 0⟩ L' M' (fv2.set q v) fc' ∧ Hid (Kp (fun j => j = L') w5 (W2.setCell ⟨L', q, none⟩ v)) ∧ Below w.heap.size w (W2.setCell ⟨L', q, none⟩ v) ∧ (∃ old, W2.cell? ⟨L', q, none⟩ = some old) ∧ W2.frozen? ⟨L', q, none⟩ = false) := Lib.hid fun W v W2 hW ho hb2 => by
              have hW2 := bn hW hb2
              have hzW := hW.size
              have hzW2 := hb2.size
              have hd2 := hd.kp (F := fun _ => False) (Kp.of hW2) fun _ _ f => f
              have hqo : q < o.length := by omega
              have h6 := hd2.sec_put (k := q) hqo ho (fun j hj => Nat.lt_of_lt_of_le hj.2 hzW)
              have hzs : (W2.setCell ⟨L', q, none⟩ v).heap.size = W2.heap.size := by simp
              have hwz := hb.size
              rw [← hca] at h6
              refine ⟨h6.mono (fun j hj => ?_) (fun j hj => hj.2) (Nat.le_refl _), Lib.hid ((hkp.out.trans (kp_of (F := fun _ => False) hW2) fun _ _ f => f.elim).setCell q v rfl), (hb.trans (hW2.mono hwz)).setCell HLW.out v, ?_, hd2.rows.frozen q⟩
              · rw [hzs]
                rcases hj with hj | hj
                · exact ⟨hj.1, by omega⟩
                · exact ⟨by omega, hj.2⟩
              · rw [hd2.rows.cell q]
                exact ⟨_, Array.getElem?_eq_getElem (by have := hd2.fll; simp only at this; simp; omega)⟩
            have hAL : (afterB (s.fl.getD q []) bt cb.toNat).length = 64 := afterB_len hsl hbt64 _ (UInt8.toNat_lt _)
            have HAL := Lib.hid hAL
            have HST := Lib.hid hstep
            have hk0 := bdr (Below.refl wr.heap.size wr)
            clear hd hcm hkp hcell0 hcell5 hsome hbt hbt64 hq hpos hstep hkk hcb hca hsl hd0 e0 hv1 hov hAL hol hb hx0 hx1 hgL'
            generalize afterB (s.fl.getD q []) bt cb.toNat = AB at *
            go_wp2_with fail
            go_region_held (fun W => (W.cell? ⟨g', 0, none⟩ = some (.slice (some ⟨L', 0, none⟩) s.fl.length s.fl.length) ∧ W.cell? ⟨g, 0, none⟩ = some (.slice (some ⟨L, 0, none⟩) s.fl.length s.fl.length) ∧ W.cell? ⟨g, 1, none⟩ = some (.map (some M)) ∧ W.cell? ⟨ba, oa + kk, none⟩ = some (.int .u8 (cb.toNat : Int))) ∧ W.cell? ⟨L, q, none⟩ = some (.slice A0 64 c0) ∧ (Instr.lookup 82 (.map (some M)) (.int .i64 (q : Int)) false).run Try.prog W = .ok (.slice A1 64 c1) W) (first | exact ⟨(HS.out _ (kp_of hk0)).1, (HS.out _ (kp_of hk0)).2.1, (HS.out _ (kp_of hk0)).2.2.1⟩ | exact ⟨(HS.out _ ((kp_of hk0).setCell q _ rfl)).1, (HS.out _ ((kp_of hk0).setCell q _ rfl)).2.1, (HS.out _ ((kp_of hk0).setCell q _ rfl)).2.2.1⟩) ((go_at_call 63; (with_reducible refine (HAF.out _ hk0).mono ?_); rintro e w9 ⟨v9, rfl, ho9, hb9⟩; obtain ⟨A9, c9, rfl, _, _⟩ := ho9.bytes; obtain ⟨h9, hkp9, hbw9, ⟨old9, hold9⟩, hfz9⟩ := HPUT.out _ _ _ hk0 ho9 hb9; replace hk0 := bn hk0 hb9; replace h9 := Lib.hid h9; replace hbw9 := Lib.hid hbw9; clear ho9 hb9))
            all_goals
              go_wp2_with fail
              go_roundw
              case rel => exact ⟨k + 1, _, _, by omega, by go_num, h9.out, HST, hkp9, hbw9.out⟩
              case measure => simp [intOf]; try omega
          · obtain rfl : k = ks.length := by omega
            have hoo := hcm.out.done HMEM.out hlen
            rw [hoo] at hd
            have HD := Lib.hid hd
            clear hd hoo
            go_wp2
            go_ret
            exact ⟨g', ks, rfl, HRI.out, HMEM.out, ⟨L', M', fv2, fc', HD.out⟩, hb⟩
end Go.Proofs.Ytangfnenfhkokaa
