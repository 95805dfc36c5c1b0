/-
  super.Read.
-/
import Derived.Test.YtangfnenfhkokaaSupQ
import Derived.Test.YtangfnenfhkokaaSupW
set_option linter.unusedSimpArgs false
set_option linter.unusedVariables false
namespace Go.Proofs.Ytangfnenfhkokaa
open Go.RowKit Go.Maps

def OptPost (o : Option Sup) (w : World) (e : Ending) (w' : World) : Prop :=
  ∃ s A c A2 c2 ok, e = .returned (.tuple #[supV s A c A2 c2, .bool ok]) ∧ o = (if ok then some s else none) ∧ (ok = false → s = zeroS) ∧ Rd w' A (s.jour.segs.map ei) ∧ Rd w' A2 (s.chunks.segs.map ei) ∧ (∀ ad, A = some ad → w.heap.size ≤ ad.block ∧ ad.block < w'.heap.size) ∧ (∀ ad, A2 = some ad → w.heap.size ≤ ad.block ∧ ad.block < w'.heap.size) ∧ Below w.heap.size w w'
/-- rows of bytes of the call's own -/
def Rows (w : World) (B : Nat) (vs : List Value) (ls : List (List UInt8)) : Prop := vs.length = ls.length ∧ ∀ i (h1 : i < vs.length) (h2 : i < ls.length), Own w B 5 vs[i] (ls[i].map eb)
theorem Rows.below {w w' : World} {B : Nat} {vs : List Value} {ls : List (List UInt8)} (h : Rows w B vs ls) (hb : Below w.heap.size w w') : Rows w' B vs ls := ⟨h.1, fun i h1 h2 => (h.2 i h1 h2).below hb⟩
theorem Rows.are {w : World} {B : Nat} {vs : List Value} {ls : List (List UInt8)} (h : Rows w B vs ls) : AreB w vs ls := ⟨h.1, fun i h1 h2 => by
  obtain ⟨A, c, h3, h4, h5⟩ := (h.2 i h1 h2).bytes
  exact ⟨A, c, h3, h4, h5⟩⟩
theorem info_rows : (Try.prog.info? 42).map (fun i => (i.zero, i.size, i.bytes)) = some (some (.slice none 0 0), 1, 24) := by kernel_rfl
/-- 'append(l, b)' of a row of bytes -/
theorem append_row (w : World) (B : Nat) (v : Value) (vs : List Value) (ls : List (List UInt8)) (hv : Own w B 42 v vs) (hr : Rows w B vs ls) (u : Value) (l : List UInt8) (hu : Own w B 5 u (l.map eb)) (hn : vs.length < 1000) (hB : B ≤ w.heap.size) :
    ∃ A' c' w', (Builtin.append_ #[22, 22] 22 #[v, .slice (some ⟨w.heap.size, 0, none⟩) 1 1]).run Try.prog (w.alloc (.cells #[u] 42)) = .ok (.slice A' (vs.length + 1) c') w' ∧ Own w' B 42 (.slice A' (vs.length + 1) c') (vs ++ [u]) ∧ Rows w' B (vs ++ [u]) (ls ++ [l]) ∧ Below B w w' := by
  have hb := bal (Below.refl w.heap.size w) (.cells #[u] 42)
  have hone : u.oneCell' = true := by obtain ⟨A, c, rfl, -, -⟩ := hu.bytes; rfl
  obtain ⟨v', w', h1, h2, h3, h4⟩ := append_run (P := Try.prog) (w.alloc (.cells #[u] 42)) B 22 22 42 (.slice none 0 0) 24 Try.underlying22 info_rows rfl v _ (hv.below hb) (some ⟨w.heap.size, 0, none⟩) 1 1 [u] rfl (Rd.lit w _ _ [u]) (by intro x hx; rw [List.mem_singleton.1 hx]; exact hone) (by unfold maxLen; simp; omega) (by simp; omega) (by simp; omega)
  have keep : ∀ x cs, Own w B 5 x cs → Own w' B 5 x cs := fun x cs hx => by
    have hx2 := hx.below hb
    refine World.ownsRow.kept hx2 h3 ?_
    exact Own.apart hx2 (hv.below hb) (by decide)
  obtain ⟨A', c', rfl, -, -, -⟩ := h2.read
  rw [List.length_append, List.length_singleton] at h1 h2
  refine ⟨A', c', w', h1, h2, ⟨by simp [hr.1], fun i h5 h6 => ?_⟩, (hb.mono hB).trans h4⟩
  by_cases hi : i < vs.length
  · have hi2 : i < ls.length := by rw [← hr.1]; exact hi
    rw [List.getElem_append_left hi, List.getElem_append_left hi2]
    exact keep _ _ (hr.2 i hi hi2)
  · have e1 : i = vs.length := by simp at h5; omega
    subst e1
    have h1 := hr.1
    rw [List.getElem_append_right (by omega), List.getElem_append_right (by omega)]
    simp only [Nat.sub_self, h1, List.getElem_cons_zero]
    exact keep _ _ hu
/-- the first k sectors of a slot -/
def secs (d : DSt) (slot : Int) (k : Nat) : List (List UInt8) := (List.range k).map fun i : Nat => (readD d (slot * 4 + (i : Int))).1
theorem secs_succ (d : DSt) (slot : Int) (k : Nat) : secs d slot (k + 1) = secs d slot k ++ [(readD d (slot * 4 + (k : Int))).1] := by unfold secs; rw [List.range_succ, List.map_append]; rfl
def supRead (d : DSt) (slot segs : Int) : Option Sup :=
  if (decide (0 ≤ slot ∧ slot ≤ 1) && (List.range 4).all fun i : Nat => (readD d (slot * 4 + (i : Int))).2 == 0) = true then parseB (secs d slot 4).flatten segs else none
theorem opt_no {o : Option Sup} {w w' : World} (h : o = none) (hb : Below w.heap.size w w') : OptPost o w (.returned (.tuple #[.agg #[.int .i64 0, .int .i64 0, .slice none 0 0, .int .i64 0, .int .u32 0, .slice none 0 0, .int .i64 0, .int .u32 0], .bool false])) w' :=
  ⟨zeroS, none, 0, none, 0, false, rfl, h, fun _ => rfl, Rd.nil _ _, Rd.nil _ _, (fun ad e => by cases e), (fun ad e => by cases e), hb⟩
theorem sread_res {tmps : Array Value} {w : World} {T : Nat} {b : Bool} {v0 v1 v2 v3 v4 v5 v6 v7 : Value} (h2 : tmps[6]?.getD undef = .pointer (some ⟨T, 0, none⟩)) (h3 : tmps[7]?.getD undef = .bool b) (h : Blk w T 68 #[v0, v1, v2, v3, v4, v5, v6, v7]) :
    (results Try.f60 tmps).run Try.prog w = .ok (.tuple #[.agg #[v0, v1, v2, v3, v4, v5, v6, v7], .bool b]) w := by
  have c0 : w.cell? ⟨T, 0, none⟩ = some v0 := h.cell 0
  have c1 : w.cell? ⟨T, 1, none⟩ = some v1 := h.cell 1
  have c2 : w.cell? ⟨T, 2, none⟩ = some v2 := h.cell 2
  have c3 : w.cell? ⟨T, 3, none⟩ = some v3 := h.cell 3
  have c4 : w.cell? ⟨T, 4, none⟩ = some v4 := h.cell 4
  have c5 : w.cell? ⟨T, 5, none⟩ = some v5 := h.cell 5
  have c6 : w.cell? ⟨T, 6, none⟩ = some v6 := h.cell 6
  have c7 : w.cell? ⟨T, 7, none⟩ = some v7 := h.cell 7
  simp [results, Try.results60, go_sem, h2, h3, c0, c1, c2, c3, c4, c5, c6, c7]
set_option maxRecDepth 100000 in
set_option maxHeartbeats 4000000 in
theorem super_read_out (P : Option Addr) (d : DSt) (slot segs : Int) (w : World) (h : slot < 0 ∨ 1 < slot) :
    Calls Try.prog 60 #[.pointer P, .int .i64 slot, .int .i64 segs] w (OptPost (supRead d slot segs) w) := by
  have hno : supRead d slot segs = none := by unfold supRead; rw [decide_eq_false (by omega)]; rfl
  have HNO := Lib.hid hno
  have b1 := bal (Below.refl w.heap.size w) (.cells #[.int .i64 0, .int .i64 0, .slice none 0 0, .int .i64 0, .int .u32 0, .slice none 0 0, .int .i64 0, .int .u32 0] 68)
  have T0 := Blk.new w 68 #[.int .i64 0, .int .i64 0, .slice none 0 0, .int .i64 0, .int .u32 0, .slice none 0 0, .int .i64 0, .int .u32 0]
  clear hno
  go_enter Try.func60, Try.ntmps60
  rcases h with hs | hs
  · go_wp2
    refine bodyPost_ret (sread_res (T := w.heap.size) rfl rfl T0) rfl ?_
    exact opt_no HNO.out b1
  · go_wp2
    refine bodyPost_ret (sread_res (T := w.heap.size) rfl rfl T0) rfl ?_
    exact opt_no HNO.out b1
theorem readD_len {d : DSt} (h : DOk d) {k : Int} (h0 : (readD d k).2 = 0) : (readD d k).1.length = 64 := by
  unfold readD at *
  split at h0
  · cases h0
  · split at h0
    · rename_i hk
      rw [if_neg (by assumption), if_pos hk]
      exact h.cur hk
    · cases h0
theorem secs_len {d : DSt} (h : DOk d) (slot : Int) : ∀ k, (∀ i, i < k → (readD d (slot * 4 + ((i : Nat) : Int))).2 = 0) → (secs d slot k).flatten.length = 64 * k
  | 0, _ => rfl
  | k + 1, hk => by
    rw [secs_succ, List.flatten_append, List.length_append, secs_len h slot k fun i hi => hk i (by omega)]
    simp only [List.flatten_cons, List.flatten_nil, List.append_nil]
    rw [readD_len h (hk k (by omega))]
    omega
set_option maxRecDepth 100000 in
set_option maxHeartbeats 4000000 in
theorem super_read (w0 : World) (g n : Nat) (P : Nat → Prop) (d : DSt) (slot : Nat) (segs : Int) (w : World) (hL : Live w0 w g P n d) (hs : slot ≤ 1) :
    Calls Try.prog 60 #[.pointer (some ⟨g, 0, none⟩), .int .i64 (slot : Int), .int .i64 segs] w (OptPost (supRead d (slot : Int) segs) w) := by
  have b1 := bal (Below.refl w.heap.size w) (.cells #[.int .i64 0, .int .i64 0, .slice none 0 0, .int .i64 0, .int .u32 0, .slice none 0 0, .int .i64 0, .int .u32 0] 68)
  have T0 := Blk.new w 68 #[.int .i64 0, .int .i64 0, .slice none 0 0, .int .i64 0, .int .u32 0, .slice none 0 0, .int .i64 0, .int .u32 0]
  have z1 := size_more' w (.cells #[.int .i64 0, .int .i64 0, .slice none 0 0, .int .i64 0, .int .u32 0, .slice none 0 0, .int .i64 0, .int .u32 0] 68)
  have hL1 := hL.below b1
  have b0 := b1
  go_enter Try.func60, Try.ntmps60
  go_wp2_with fail
  generalize (w.alloc (.cells #[.int .i64 0, .int .i64 0, .slice none 0 0, .int .i64 0, .int .u32 0, .slice none 0 0, .int .i64 0, .int .u32 0] 68)) = W1 at *
  go_loopw [19, 8] (fun i v wr => ∃ (k : Nat) (vs : List Value), k ≤ 4 ∧ i = .int .i64 (k : Int) ∧ (∀ j, j < k → (readD d ((slot : Int) * 4 + ((j : Nat) : Int))).2 = 0) ∧ Own wr W1.heap.size 42 v vs ∧ Rows wr W1.heap.size vs (secs d (slot : Int) k) ∧ Below W1.heap.size W1 wr) (fun i _ _ => 4 - (intOf i).toNat)
  case atStart => exact ⟨0, [], by omega, rfl, fun j hj => by omega, Own.nil _ _ _, ⟨rfl, fun i h1 _ => by simp at h1⟩, Below.refl _ _⟩
  case round =>
    obtain ⟨k, vs, hk, rfl, hall, hv, hrows, hb⟩ := hrel
    have hsl : (secs d (slot : Int) k).length = k := by unfold secs; rw [List.length_map, List.length_range]
    have hvl : vs.length = k := by rw [hrows.1, hsl]
    have hTk := T0.below hb
    by_cases hlt : k < 4
    · have hLk := hL1.below hb
      obtain ⟨r, hr⟩ : ∃ r, readD d ((slot : Int) * 4 + ((k : Nat) : Int)) = r := ⟨_, rfl⟩
      have hrd := live_read hLk ((slot : Int) * 4 + (k : Int)) hr
      unfold ReadPost at hrd
      have HRD := Lib.hid hrd
      have HR := Lib.hid hr
      have HALL := Lib.hid hall
      obtain ⟨Av, cv, rfl, -, -, -⟩ := hv.read
      rw [hvl] at hv
      have HVL := Lib.hid hvl
      clear hrd hr hall hLk hsl hvl
      rw [HVL.out]
      go_wp2_with fail
      (with_reducible refine HRD.out.mono ?_)
      rintro e w2 ⟨v2, rfl, ho2, hb2⟩
      obtain ⟨A2, c2, rfl, hc2, -⟩ := ho2.bytes
      have hs1 := hb.size
      by_cases hr0 : r.2 = 0
      · have t0 : (r.2 != 0) = false := by rw [hr0]; rfl
        obtain ⟨A3, c3, w3, hrun, hv3, hr3, hb3⟩ := append_row w2 W1.heap.size _ vs _ (hv.below hb2) (hrows.below hb2) _ r.1 (ho2.lower hs1) (by rw [HVL.out]; omega) (by have := hb2.size; omega)
        rw [HVL.out] at hrun hv3
        have HRUN := Lib.hid hrun
        clear hrun
        go_wp2_with (at_builtin; refine wpList_append_run rfl _ _ 22 22 rfl _ _ _ _ rfl rfl HRUN.out ?_)
        go_roundw
        case rel =>
          refine ⟨k + 1, vs ++ [.slice A2 r.1.length c2], by omega, by go_num, fun j hj => ?_, hv3, by rw [secs_succ, HR.out]; exact hr3, (hb.trans (hb2.mono hs1)).trans hb3⟩
          by_cases hj2 : j < k
          · exact HALL.out j hj2
          · obtain rfl : j = k := by omega
            rw [HR.out]; exact hr0
        case measure => simp [intOf]; try omega
      · have t0 : (r.2 != 0) = true := by rw [bne_iff_ne]; exact hr0
        have hno : supRead d (slot : Int) segs = none := by
          unfold supRead
          rw [if_neg]
          intro h
          rw [Bool.and_eq_true, List.all_eq_true] at h
          have := h.2 k (List.mem_range.2 hlt)
          rw [HR.out] at this
          exact hr0 (by simpa using this)
        have HNO := Lib.hid hno
        have TT := hTk.below hb2
        have hbn := (bn b0 hb).trans (hb2.mono (by omega))
        clear hno
        have t00 : w2.cell? ⟨w.heap.size, 0, none⟩ = some (.int .i64 0) := TT.cell 0
        have u0 := TT.frozen 0
        have t1 : w2.cell? ⟨w.heap.size, 1, none⟩ = some (.int .i64 0) := TT.cell 1
        have u1 := TT.frozen 1
        have t2 : w2.cell? ⟨w.heap.size, 2, none⟩ = some (.slice none 0 0) := TT.cell 2
        have u2 := TT.frozen 2
        have t3 : w2.cell? ⟨w.heap.size, 3, none⟩ = some (.int .i64 0) := TT.cell 3
        have u3 := TT.frozen 3
        have t4 : w2.cell? ⟨w.heap.size, 4, none⟩ = some (.int .u32 0) := TT.cell 4
        have u4 := TT.frozen 4
        have t5 : w2.cell? ⟨w.heap.size, 5, none⟩ = some (.slice none 0 0) := TT.cell 5
        have u5 := TT.frozen 5
        have t6 : w2.cell? ⟨w.heap.size, 6, none⟩ = some (.int .i64 0) := TT.cell 6
        have u6 := TT.frozen 6
        have t7 : w2.cell? ⟨w.heap.size, 7, none⟩ = some (.int .u32 0) := TT.cell 7
        have u7 := TT.frozen 7
        go_wp2
        refine bodyPost_ret (sread_res (T := w.heap.size) rfl rfl (blk_set8 TT)) rfl ?_
        exact opt_no HNO.out (below_set8 hbn (Nat.le_refl _) _ _ _ _ _ _ _ _)
    · obtain rfl : k = 4 := by omega
      have hfl := secs_len hL.ok (slot : Int) 4 hall
      have hsr : supRead d (slot : Int) segs = parseB (secs d (slot : Int) 4).flatten segs := by
        unfold supRead
        rw [if_pos]
        rw [Bool.and_eq_true, List.all_eq_true]
        exact ⟨decide_eq_true (by omega), fun i hi => by rw [hall i (List.mem_range.1 hi)]; rfl⟩
      obtain ⟨Av, cv, rfl, -, rv, -⟩ := hv.read
      have hare := hrows.are
      have hsl4 := hrows.1
      rw [hvl]
      generalize secs d (slot : Int) 4 = ls at *
      have HSR := Lib.hid hsr
      have HVL := Lib.hid hvl
      have HFL := Lib.hid hfl
      have hb1 := bn b0 hb
      clear hsr hall hrows hv hvl hfl hsl hsl4
      go_wp2_with fail
      refine (concat_bytes Av 4 cv vs ls wr HVL.out rv hare (by rw [HFL.out]; omega) (by omega)).mono ?_
      rintro e w2 ⟨v2, rfl, ho2, hb2⟩
      obtain ⟨A2, c2, rfl, hc2, r2⟩ := ho2.bytes
      rw [HFL.out] at hc2 ⊢
      go_wp2_with fail
      refine (super_parse ls.flatten segs A2 c2 w2 HFL.out hc2 r2).mono ?_
      unfold ParsePost
      rintro e w3 ⟨s, B1, d1, B2, d2, ok, rfl, hpar, hz, q1, q2, p1, p2, hb3⟩
      rw [← HSR.out] at hpar
      have TT := (hTk.below hb2).below hb3
      have hbn := (bn hb1 hb2).trans (hb3.mono (by have := hb1.size; have := hb2.size; omega))
      have hs12 := hb1.size
      have hs11 := hb.size
      have hs2 := hb2.size
      have hs3 := hb3.size
      have HPAR := Lib.hid hpar
      have HZ := Lib.hid hz
      clear hpar hz ho2 r2 hare rv
      have hsv : supV s B1 d1 B2 d2 = .agg #[.int .i64 s.number, .int .i64 s.boot, .slice B1 s.jour.segs.length d1, .int .i64 s.jour.len, .int .u32 (s.jour.last.toNat : Int), .slice B2 s.chunks.segs.length d2, .int .i64 s.chunks.len, .int .u32 (s.chunks.last.toNat : Int)] := rfl
      rw [hsv]
      have HSV := Lib.hid hsv
      clear hsv
      have t0 : w3.cell? ⟨w.heap.size, 0, none⟩ = some (.int .i64 0) := TT.cell 0
      have u0 := TT.frozen 0
      have t1 : w3.cell? ⟨w.heap.size, 1, none⟩ = some (.int .i64 0) := TT.cell 1
      have u1 := TT.frozen 1
      have t2 : w3.cell? ⟨w.heap.size, 2, none⟩ = some (.slice none 0 0) := TT.cell 2
      have u2 := TT.frozen 2
      have t3 : w3.cell? ⟨w.heap.size, 3, none⟩ = some (.int .i64 0) := TT.cell 3
      have u3 := TT.frozen 3
      have t4 : w3.cell? ⟨w.heap.size, 4, none⟩ = some (.int .u32 0) := TT.cell 4
      have u4 := TT.frozen 4
      have t5 : w3.cell? ⟨w.heap.size, 5, none⟩ = some (.slice none 0 0) := TT.cell 5
      have u5 := TT.frozen 5
      have t6 : w3.cell? ⟨w.heap.size, 6, none⟩ = some (.int .i64 0) := TT.cell 6
      have u6 := TT.frozen 6
      have t7 : w3.cell? ⟨w.heap.size, 7, none⟩ = some (.int .u32 0) := TT.cell 7
      have u7 := TT.frozen 7
      have HS := kp_set8 (Kp.refl (fun j => j = w.heap.size) w3) rfl (.int .i64 s.number) (.int .i64 s.boot) (.slice B1 s.jour.segs.length d1) (.int .i64 s.jour.len) (.int .u32 (s.jour.last.toNat : Int)) (.slice B2 s.chunks.segs.length d2) (.int .i64 s.chunks.len) (.int .u32 (s.chunks.last.toNat : Int))
      go_wp2
      refine bodyPost_ret (sread_res (T := w.heap.size) rfl rfl (blk_set8 TT)) rfl ?_
      refine ⟨s, B1, d1, B2, d2, ok, by rw [HSV.out], HPAR.out, HZ.out, ?_, ?_, fun ad e => ?_, fun ad e => ?_, below_set8 hbn (Nat.le_refl _) _ _ _ _ _ _ _ _⟩
      · exact Rd.kp q1 HS fun ad e h => by have := p1 ad e; omega
      · exact Rd.kp q2 HS fun ad e h => by have := p2 ad e; omega
      · have h1 := p1 ad e
        have h2 := HS.size
        omega
      · have h1 := p2 ad e
        have h2 := HS.size
        omega
end Go.Proofs.Ytangfnenfhkokaa
