/-
  What EventRows calls and gives.
-/
import Derived.Test.YtlgkcpgbmobacaaLawEApart
import Derived.Test.YtlgkcpgbmobacaaRefItem
import Derived.Test.YtlgkcpgbmobacaaOpenIs
set_option linter.unusedSimpArgs false
set_option linter.unusedVariables false
namespace Go.Proofs.Ytlgkcpgbmobacaa
open Go.RowKit

def sel (l : List IX) : List IX := l.filter fun x => may x.i
def encs (l : List IX) : List UInt8 := (l.map fun x => enc x.i).flatten
theorem sel_snoc_t (l : List IX) (x : IX) (h : may x.i = true) : sel (l ++ [x]) = sel l ++ [x] := by unfold sel; simp [h]
theorem sel_snoc_f (l : List IX) (x : IX) (h : may x.i = false) : sel (l ++ [x]) = sel l := by unfold sel; simp [h]
theorem encs_snoc (l : List IX) (x : IX) : encs (l ++ [x]) = encs l ++ enc x.i := by unfold encs; simp
theorem encs_cons (x : IX) (l : List IX) : encs (x :: l) = enc x.i ++ encs l := by unfold encs; simp
theorem sel_length (l : List IX) : (sel l).length ≤ l.length := List.length_filter_le _ _
theorem encs_length (l : List IX) (h : ∀ x ∈ l, may x.i = true ∧ x.i.parts.length ≤ 100) : (encs l).length ≤ 3200 * l.length := by
  induction l with
  | nil => simp [encs]
  | cons x l ih =>
    rw [encs_cons, List.length_append, List.length_cons]
    have h1 := enc_length x.i (h x (by simp)).1 (by have := (h x (by simp)).2; omega)
    have h2 := (h x (by simp)).2
    have h3 := ih fun y hy => h y (by simp [hy])
    omega
theorem sel_mem {l : List IX} {x : IX} (h : x ∈ sel l) : x ∈ l ∧ may x.i = true := by simpa [sel] using h
theorem EyeAt.typed {w : World} {g : Nat} {st : Option (List UInt8)} (h : EyeAt w g st) : ∃ cs, Blk w g 89 cs := by
  cases st with
  | none => exact ⟨_, h⟩
  | some l => exact ⟨_, h.choose_spec.choose_spec.1⟩
theorem info_item : (Try.prog.info? 61).map (fun i => (i.zero, i.size, i.bytes)) = some (some (.agg #[.int .i64 0, .string ByteArray.empty, .string ByteArray.empty, .int .i64 0, .int .i64 0, .slice none 0 0, .slice none 0 0]), 7, 104) := by kernel_rfl

/-- one item is read: what comes back is the item -/
theorem read_one {st : Option (List UInt8)} {x : Item} {l : List UInt8} (h : may x = true) (hlen : x.parts.length ≤ 4611686018427387904) (hst : st = some (enc x ++ l)) : (dItem st).2 = some l ∧ (dItem st).1 = x := by
  subst hst
  rw [dItem_enc x l h hlen]
  exact ⟨rfl, rfl⟩
theorem read_none : (dItem (some [])).2 = none := by
  have h : (eByte (some [])).2 = none := rfl
  unfold dItem
  simp [eByte, eTake, eText, eNum, eNumGo]

set_option maxRecDepth 100000 in
set_option maxHeartbeats 4000000 in
theorem erows_walk (A : Option Addr) (n c : Nat) (xs : List IX) (hn : xs.length = n) (w : World) (hr : Rd w A (flat IX.cs xs)) (hok : ∀ x ∈ xs, x.ok w) (hnm : n ≤ 9223372036854775807) :
    Calls Try.prog 11 #[.slice A n c] w fun e w' => e = .returned (.bool true) ∧ Below w.heap.size w w' := by
  subst hn
  have HOK := Lib.hid hok
  have HRD := Lib.hid hr
  clear hok hr
  go_enter Try.func11, Try.ntmps11
  go_wp2_with fail
  (with_reducible refine (law14_awake _).mono ?_)
  rintro e w1 ⟨rfl, hb1⟩
  go_wp2
  have hp0 := (pen_freshR w1).mono (R' := fun k => w.heap.size ≤ k) fun _ _ h => h.elim
  have hb2 : Below w.heap.size w (w1.alloc (.cells #[.slice none 0 0] 26)) := bal hb1 _
  have hz2 : w.heap.size ≤ w1.heap.size := hb1.size
  have hg2 : w1.heap.size < (w1.alloc (.cells #[.slice none 0 0] 26)).heap.size := by simp
  generalize hG : w1.heap.size = G at *
  generalize (w1.alloc (.cells #[.slice none 0 0] 26)) = W1 at *
  clear hG hb1
  go_loopw [4, 5] (fun v i wr => ∃ k : Nat, k ≤ xs.length ∧ k ≤ 41 ∧ i = .int .i64 (k : Int) ∧ ORow wr w.heap.size 61 7 IX.cs v (sel (xs.take k)) ∧ PenR wr G (fun k => w.heap.size ≤ k) (encs (sel (xs.take k))) ∧ Below w.heap.size w wr ∧ Hid (∀ x ∈ xs.take k, x.i.parts.length ≤ 100)) (fun _ i _ => xs.length - (intOf i).toNat)
  case atStart => exact ⟨0, Nat.zero_le _, by omega, rfl, ORow.nil _ _ _, hp0, hb2, fun x hx => by simp at hx⟩
  case round =>
    obtain ⟨k, hk, hk41, rfl, ho, hp, hb, hsm⟩ := hrel
    by_cases hlt : k < xs.length
    · by_cases h40 : (40 : Int) < (k : Int)
      · go_wp2
        go_ret
        exact ⟨rfl, hb⟩
      · obtain ⟨b, o6, rfl, hx⟩ := flat_at IX.cs_length (by decide) HRD.out k hlt
        have hokx := HOK.out _ (List.getElem_mem hlt)
        have htk : xs.take (k + 1) = xs.take k ++ [xs[k]] := List.take_succ_eq_append_getElem hlt
        have hblt : b < w.heap.size := by
          have h7 := flat_get IX.cs_length xs k 0 hlt (by decide)
          obtain ⟨ad, e, hc⟩ := HRD.out _ _ (h7.trans rfl)
          cases e
          have := block_lt_of_cell hc
          rwa [add_block] at this
        have HXC : Hid (∀ W, Below w.heap.size w W → ∀ k' u, (xs[k].cs)[k']? = some u → W.cell? ⟨b, o6 + k * 7 + k', none⟩ = some u) := fun W h k' u hu => (h.cell (p := ⟨b, o6 + k * 7 + k', none⟩) hblt).trans (hx k' u hu)
        clear hx
        have i0 : (0 : Int) ≤ (k : Int) := by omega
        have i1 : (k : Int) < (xs.length : Int) := by omega
        have hlen := encs_length (sel (xs.take k)) fun y hy => ⟨(sel_mem hy).2, hsm.out y (sel_mem hy).1⟩
        have hsl := sel_length (xs.take k)
        have htl : (xs.take k).length = k := by rw [List.length_take]; omega
        have HLB : Hid ((sel (xs.take k)).length ≤ 41 ∧ (encs (sel (xs.take k))).length ≤ 131200) := ⟨by omega, by omega⟩
        clear hlen hsl htl
        generalize xs[k] = x at *
        have HTK := Lib.hid htk
        clear htk
        have HIX : Hid (IX.cs_length x = IX.cs_length x) := rfl
        obtain ⟨q1, q2, q3, q4, q5⟩ := hokx
        have HS := Lib.hid fun W => law14_small x.i x.A5 x.c5 x.A6 x.c6 W q1 q2 q3 q4
        have HM : Hid (decide (x.i.path.length ≤ 500 ∧ x.i.to_.length ≤ 500 ∧ x.i.parts.length ≤ 100 ∧ x.i.data ≤ 500) = true → x.i.parts.length ≤ 100) := fun h => (of_decide_eq_true h).2.2.1
        generalize decide (x.i.path.length ≤ 500 ∧ x.i.to_.length ≤ 500 ∧ x.i.parts.length ≤ 100 ∧ x.i.data ≤ 500) = sa at HS HM
        have HN := Lib.hid fun W (h : x.i.parts.length ≤ 100) (hb : Below w.heap.size w W) => law14_made x.i x.A5 x.c5 x.A6 x.c6 W (by omega) (q5.below hb)
        have HI := Lib.hid fun W (h : x.i.parts.length ≤ 100) (hb : Below w.heap.size w W) => ref_item_may x.i x.A5 x.c5 x.A6 x.c6 W (q5.below hb) (by omega) q2 q1 q4
        have HW0 := Lib.hid fun (A : Option Addr) (c : Nat) (p : Option Addr) (W : World) (hm : may x.i = false) (h : x.i.parts.length ≤ 100) (hr : Rd W A (pcs x.i.parts)) => event_write_no x.i x.A5 x.c5 A c p W hr (by omega) hm
        have HW1 := Lib.hid fun (A : Option Addr) (c : Nat) (g : Nat) (R : Nat → Prop) (l : List UInt8) (W : World) (hm : may x.i = true) (h : x.i.parts.length ≤ 100) (hl : l.length ≤ 131200) (hr : Rd W A (pcs x.i.parts)) hp hR hA => event_write x.i x.A5 x.c5 A c g R l W hr (by omega) hm hp hR hA (by omega)
        have HAP := Lib.hid fun (v : Value) (l : List IX) (W : World) (h : ORow W w.heap.size 61 7 IX.cs v l) (hl : l.length ≤ 41) (hB : w.heap.size ≤ W.heap.size) => append_struct (P := Try.prog) 83 61 _ 104 Try.underlying83 info_item rfl (by decide) IX.cs_length IX.cs_one W w.heap.size v l x h (by omega) (by omega) (by omega) hB x.cs.toArray rfl
        clear q1 q2 q3 q4 q5
        obtain ⟨⟨op, path, to_, off, size, data, ps⟩, A5, c5, A6, c6⟩ := x
        simp only [iv_eq] at *
        have HXX : Hid (∀ W, Below w.heap.size w W → W.cell? ⟨b, o6 + k * 7, none⟩ = some (.int .i64 op) ∧ W.cell? ⟨b, o6 + k * 7 + 1, none⟩ = some (.string ⟨path.toArray⟩) ∧ W.cell? ⟨b, o6 + k * 7 + 2, none⟩ = some (.string ⟨to_.toArray⟩) ∧ W.cell? ⟨b, o6 + k * 7 + 3, none⟩ = some (.int .i64 off) ∧ W.cell? ⟨b, o6 + k * 7 + 4, none⟩ = some (.int .i64 size) ∧ W.cell? ⟨b, o6 + k * 7 + 5, none⟩ = some (.slice A5 data c5) ∧ W.cell? ⟨b, o6 + k * 7 + 6, none⟩ = some (.slice A6 ps.length c6)) := fun W h => ⟨HXC.out W h 0 _ rfl, HXC.out W h 1 _ rfl, HXC.out W h 2 _ rfl, HXC.out W h 3 _ rfl, HXC.out W h 4 _ rfl, HXC.out W h 5 _ rfl, HXC.out W h 6 _ rfl⟩
        clear HXC
        obtain ⟨x0, x1, x2, x3, x4, x5, x6⟩ := HXX.out _ hb
        go_wp2_with fail
        clear x0 x1 x2 x3 x4 x5 x6
        (with_reducible refine (HS.out _).mono ?_)
        rintro e w3 ⟨rfl, hb3⟩
        have hbw3 := bn hb hb3
        cases sa
        · go_wp2
          go_ret
          exact ⟨rfl, hbw3⟩
        · have HL := Lib.hid (HM.out rfl)
          obtain ⟨x0, x1, x2, x3, x4, x5, x6⟩ := HXX.out _ hbw3
          go_wp2_with fail
          clear x0 x1 x2 x3 x4 x5 x6
          (with_reducible refine (HN.out _ HL.out hbw3).mono ?_)
          rintro e w4 ⟨Am, cm, rfl, hrm, ham, hb4⟩
          have hb14 := bn hb3 hb4
          have hbw4 := bn hbw3 hb4
          have hz3 := hb3.size
          have ho4 := ho.below hb14
          have hp4 := hp.typed.keep hb14
          have HKO : Hid (∀ j, (j = G ∨ (w.heap.size ≤ j ∧ j < wr.heap.size ∧ ∃ cs, Blk wr j 5 cs)) → ∀ cs, ¬ Blk w4 j 61 cs) := fun j hj cs hc => by
            rcases hj with rfl | ⟨_, _, cs', hc'⟩
            · obtain ⟨_, hP, _⟩ := hp4
              exact absurd (hP.type hc) (by decide)
            · exact absurd ((hc'.below hb14).type hc) (by decide)
          have HRG : Hid (∀ ad, Am = some ad → ¬ (ad.block = G ∨ (w.heap.size ≤ ad.block ∧ ad.block < wr.heap.size ∧ ∃ cs, Blk wr ad.block 5 cs))) := fun ad e h => by
            have h1 := (ham ad e).1
            have h2 := hp.lt
            rcases h with h | ⟨_, h, _⟩ <;> omega
          simp only [iv_eq]
          cases hma : may ⟨op, path, to_, off, size, data, ps⟩ with
          | false =>
            have HMA := Lib.hid hma
            have hp4' := hp.keep hb14
            have HSL : Hid (sel (xs.take (k + 1)) = sel (xs.take k)) := by rw [HTK.out]; exact sel_snoc_f _ _ hma
            clear hma HKO HRG hp4 hp ho
            go_wp2_with fail
            (with_reducible refine (HW0.out _ _ _ _ HMA.out HL.out hrm).mono ?_)
            rintro e w5 ⟨rfl, hb5⟩
            have hbw5 := bn hbw4 hb5
            obtain ⟨x0, x1, x2, x3, x4, x5, x6⟩ := HXX.out _ hbw5
            go_wp2_with fail
            clear x0 x1 x2 x3 x4 x5 x6
            (with_reducible refine (HI.out _ HL.out hbw5).mono ?_)
            rintro e w6 ⟨rfl, hb6⟩
            rw [HMA.out]
            have hb46 := bn hb5 hb6
            have ho6 := ho4.below hb46
            have hp6 := hp4'.keep hb46
            have hbw6 := bn hbw5 hb6
            rw [← HSL.out] at ho6 hp6
            have HF : Hid (∀ x ∈ xs.take (k + 1), x.i.parts.length ≤ 100) := fun y hy => by
              rw [HTK.out] at hy
              rcases List.mem_append.1 hy with h | h
              · exact hsm.out y h
              · rw [List.mem_singleton.1 h]; exact HL.out
            clear HS HM HN HI HW0 HW1 HAP HXX HTK HSL HMA hsm
            go_wp2
            go_roundw
            case rel => exact ⟨k + 1, by omega, by omega, by go_num, ho6, hp6, hbw6, HF⟩
            case measure => simp [intOf]; try omega
          | true =>
            have HMA := Lib.hid hma
            have HSL : Hid (sel (xs.take (k + 1)) = sel (xs.take k) ++ [⟨⟨op, path, to_, off, size, data, ps⟩, A5, c5, A6, c6⟩]) := by rw [HTK.out]; exact sel_snoc_t _ _ hma
            have HRR : Hid (∀ j, (w.heap.size ≤ j ∧ j < wr.heap.size ∧ ∃ cs, Blk wr j 5 cs) → j < w4.heap.size) := fun j h => by have := hb14.size; omega
            clear hma hp ho
            go_wp2_with fail
            (with_reducible refine (HW1.out _ _ _ _ _ _ HMA.out HL.out HLB.out.2 hrm hp4 HRR.out HRG.out).mono ?_)
            rintro e w5 ⟨rfl, h5⟩
            have ho5 := ho4.kpT h5.kp HKO.out
            have hz4 := hbw4.size
            have hbw5 : Below w.heap.size w w5 := hbw4.trans (h5.kp.below hz4 fun j hj => by
              rcases hj with rfl | ⟨h, _⟩
              · exact hz2
              · exact h)
            have hp5 := h5.pen.mono (R' := fun k => w.heap.size ≤ k) fun j _ hj => by
              rcases hj with ⟨h, _⟩ | ⟨h, _⟩
              · exact h
              · exact Nat.le_trans hz4 h
            rw [← encs_snoc (sel (xs.take k)) ⟨⟨op, path, to_, off, size, data, ps⟩, A5, c5, A6, c6⟩] at hp5
            clear h5 hp4 HKO HRR HRG ho4
            obtain ⟨x0, x1, x2, x3, x4, x5, x6⟩ := HXX.out _ hbw5
            go_wp2_with fail
            clear x0 x1 x2 x3 x4 x5 x6
            (with_reducible refine (HI.out _ HL.out hbw5).mono ?_)
            rintro e w6 ⟨rfl, hb6⟩
            rw [HMA.out]
            have ho6 := ho5.below hb6
            have hp6 := hp5.keep hb6
            have hbw6 := bn hbw5 hb6
            obtain ⟨v7, w7, hrun, ho7, hb7, hk7⟩ := HAP.out _ _ _ ho6 HLB.out.1 hbw6.size
            have HRN := Lib.hid hrun
            have hp7 := (hp6.typed.kp hk7 (fun h => by
              obtain ⟨_, cs, hc⟩ := ho6.blk _ h
              obtain ⟨_, hP, _⟩ := hp6
              exact absurd (hP.type hc) (by decide)) (fun j hj h => by
              obtain ⟨_, cs, hc⟩ := ho6.blk _ h
              obtain ⟨_, _, cs', hc'⟩ := hj
              exact absurd (hc'.type hc) (by decide))).mono (R' := fun k => w.heap.size ≤ k) fun _ _ h => h.1
            have hbw7 := hbw6.trans hb7
            rw [← HSL.out] at ho7 hp7
            have HF : Hid (∀ x ∈ xs.take (k + 1), x.i.parts.length ≤ 100) := fun y hy => by
              rw [HTK.out] at hy
              rcases List.mem_append.1 hy with h | h
              · exact hsm.out y h
              · rw [List.mem_singleton.1 h]; exact HL.out
            obtain ⟨x0, x1, x2, x3, x4, x5, x6⟩ := HXX.out _ hbw6
            clear hrun HS HM HN HI HW0 HW1 HAP HTK HSL HMA hsm
            go_wp2_with (at_builtin; refine wpList_append_run rfl _ _ 83 83 rfl _ _ _ _ rfl rfl HRN.out ?_)
            go_roundw
            case rel => exact ⟨k + 1, by omega, by omega, by go_num, ho7, hp7, hbw7, HF⟩
            case measure => simp [intOf]; try omega
    · obtain rfl : k = xs.length := by omega
      rw [List.take_length] at ho hp hsm
      have HLM : Hid (∀ y ∈ sel xs, may y.i = true ∧ y.i.parts.length ≤ 100 ∧ y.ok w) := fun y hy => ⟨(sel_mem hy).2, hsm.out y (sel_mem hy).1, HOK.out y (sel_mem hy).1⟩
      have hsl := sel_length xs
      have hel := encs_length (sel xs) fun y hy => ⟨(HLM.out y hy).1, (HLM.out y hy).2.1⟩
      have hL41 : (sel xs).length ≤ 41 := by omega
      have hE : (encs (sel xs)).length ≤ 131200 := by omega
      generalize sel xs = L at *
      clear hsl hel hsm HOK HRD hlt hk hk41 hnm
      obtain ⟨A9, c9, rfl, hc9, hr9, hA9⟩ := ho.read
      have hpa := hp.at_ (B := w.heap.size) fun _ h => h
      go_wp2_with fail
      (with_reducible refine (pen_bytes _ _ _ _ hpa (by omega)).mono ?_)
      rintro e w3 ⟨v3, rfl, ho3, hb3⟩
      obtain ⟨A3, c3, rfl, hc3, hr3⟩ := ho3.bytes
      go_wp2_with fail
      (with_reducible refine (eye_new A3 _ c3 _ _ rfl (by omega) hr3).mono ?_)
      rintro e w4 ⟨ge, rfl, hge, he4, hb4⟩
      have hb34 := bn hb3 hb4
      have ho4 := ho.below hb34
      have hbw4 := bn hb hb34
      have hgw : w.heap.size ≤ ge := by have := hb.size; have := hb3.size; omega
      clear hpa hb3 hb4 ho3 hr3 hr9 hA9 hb34 ho hp hb hge hc3
      go_wp2
      go_loopw [7] (fun i wr => ∃ m : Nat, m ≤ L.length ∧ i = .int .i64 (m : Int) ∧ ORow wr w.heap.size 61 7 IX.cs (.slice A9 L.length c9) L ∧ EyeAt wr ge (some (encs (L.drop m))) ∧ Below w.heap.size w wr) (fun i _ => L.length - (intOf i).toNat)
      case atStart => exact ⟨0, Nat.zero_le _, rfl, ho4, he4, hbw4⟩
      case round =>
        clear ho4 he4 hbw4
        obtain ⟨m, hm, rfl, ho, he, hb⟩ := hrel
        by_cases hlt : m < L.length
        · have hym := HLM.out _ (List.getElem_mem hlt)
          have hdrop : L.drop m = L[m] :: L.drop (m + 1) := List.drop_eq_getElem_cons hlt
          obtain ⟨A8, c8, e8, hc8, hr8, hA8⟩ := ho.read
          cases e8
          obtain ⟨b, o6, rfl, hx⟩ := flat_at IX.cs_length (by decide) hr8 m hlt
          have i0 : (0 : Int) ≤ (m : Int) := by omega
          have i1 : (m : Int) < (L.length : Int) := by omega
          have hR := event_read ge _ wr he (fun l e => by
            cases e
            have : (encs (L.drop m)).length ≤ (encs L).length := by
              have h1 : encs L = encs (L.take m) ++ encs (L.drop m) := by unfold encs; rw [← List.flatten_append, ← List.map_append, List.take_append_drop]
              rw [h1, List.length_append]; omega
            omega)
          have HR := Lib.hid hR
          rw [hdrop, encs_cons] at HR
          have hne : b ≠ ge := by
            intro e
            obtain ⟨_, cs, hc⟩ := ho.blk b rfl
            rw [e] at hc
            obtain ⟨cs', hc'⟩ := he.typed
            exact absurd (hc'.type hc) (by decide)
          clear hR hdrop he
          generalize L[m] = y at *
          obtain ⟨my, hp100, q1, q2, q3, q4, q5⟩ := hym
          obtain ⟨r1, r2⟩ := read_one (st := some (enc y.i ++ encs (L.drop (m + 1)))) my (by omega) rfl
          generalize some (enc y.i ++ encs (L.drop (m + 1))) = st at *
          go_wp2_with fail
          (with_reducible refine (HR.out).mono ?_)
          rintro e w5 ⟨it, ok, B5, d5, B6, d6, rfl, hok, hit, hrB, hB6, he5, hk5⟩
          have hok1 : ok = true := by rw [hok, r1, r2, my]; rfl
          clear hok
          subst hok1
          rw [r2, if_pos rfl] at hit
          subst hit
          rw [r1] at he5
          clear r1 r2 HR
          have hbw5 := hb.trans (hk5.below (B' := w.heap.size) hb.size hgw)
          have hrow5 := ho.kp hk5.kp fun k e f => hne (by cases e; exact f)
          have hbl : b < wr.heap.size := (hA8 _ rfl).2
          have HC5 : Hid (∀ k u, (y.cs)[k]? = some u → w5.cell? ⟨b, o6 + m * 7 + k, none⟩ = some u) := fun k u hu => by
            have h1 := hx k u hu
            have h2 := hk5.block b hbl hne
            unfold World.cell? at h1 ⊢
            rw [h2]
            exact h1
          have HQ := Lib.hid fun (W : World) (ha : Below w5.heap.size w5 W) => law14_same y.i y.i B5 d5 B6 d6 y.A5 y.c5 y.A6 y.c6 W (by omega) (by omega) q4 (hrB.below ha) (q5.below (bn hbw5 ha))
          have HD : Hid (y.i.data = 0) := ((may_iff _).1 my).1.2.2.2.2.1
          clear q1 q2 q3 q4 q5 hx my
          obtain ⟨⟨op, path, to_, off, size, data, ps⟩, A5, c5, A6, c6⟩ := y
          simp only [iv_eq] at *
          go_wp2
          have hBx := Blk.new w5 68 #[.int .i64 op, .string ⟨path.toArray⟩, .string ⟨to_.toArray⟩, .int .i64 off, .int .i64 size, .slice B5 data d5, .slice B6 ps.length d6]
          have hb56 : Below w5.heap.size w5 (w5.alloc (.cells #[.int .i64 op, .string ⟨path.toArray⟩, .string ⟨to_.toArray⟩, .int .i64 off, .int .i64 size, .slice B5 data d5, .slice B6 ps.length d6] 68)) := bal (Below.refl _ _) _
          generalize (w5.alloc (.cells #[.int .i64 op, .string ⟨path.toArray⟩, .string ⟨to_.toArray⟩, .int .i64 off, .int .i64 size, .slice B5 data d5, .slice B6 ps.length d6] 68)) = W6 at *
          have hb5 : b < w5.heap.size := by have := hk5.size; omega
          have HXX : Hid (∀ W, Below W6.heap.size W6 W → W.cell? ⟨b, o6 + m * 7, none⟩ = some (.int .i64 op) ∧ W.cell? ⟨b, o6 + m * 7 + 1, none⟩ = some (.string ⟨path.toArray⟩) ∧ W.cell? ⟨b, o6 + m * 7 + 2, none⟩ = some (.string ⟨to_.toArray⟩) ∧ W.cell? ⟨b, o6 + m * 7 + 3, none⟩ = some (.int .i64 off) ∧ W.cell? ⟨b, o6 + m * 7 + 4, none⟩ = some (.int .i64 size) ∧ W.cell? ⟨b, o6 + m * 7 + 5, none⟩ = some (.slice A5 data c5) ∧ W.cell? ⟨b, o6 + m * 7 + 6, none⟩ = some (.slice A6 ps.length c6)) := fun W h => by
            have hf : ∀ j u, w5.cell? ⟨b, o6 + m * 7 + j, none⟩ = some u → W.cell? ⟨b, o6 + m * 7 + j, none⟩ = some u := fun j u hu => ((bn hb56 h).cell (p := ⟨b, o6 + m * 7 + j, none⟩) hb5).trans hu
            exact ⟨hf 0 _ (HC5.out 0 _ rfl), hf 1 _ (HC5.out 1 _ rfl), hf 2 _ (HC5.out 2 _ rfl), hf 3 _ (HC5.out 3 _ rfl), hf 4 _ (HC5.out 4 _ rfl), hf 5 _ (HC5.out 5 _ rfl), hf 6 _ (HC5.out 6 _ rfl)⟩
          have HYY : Hid (∀ W, Below W6.heap.size W6 W → W.cell? ⟨w5.heap.size, 0, none⟩ = some (.int .i64 op) ∧ W.cell? ⟨w5.heap.size, 1, none⟩ = some (.string ⟨path.toArray⟩) ∧ W.cell? ⟨w5.heap.size, 2, none⟩ = some (.string ⟨to_.toArray⟩) ∧ W.cell? ⟨w5.heap.size, 3, none⟩ = some (.int .i64 off) ∧ W.cell? ⟨w5.heap.size, 4, none⟩ = some (.int .i64 size) ∧ W.cell? ⟨w5.heap.size, 5, none⟩ = some (.slice B5 data d5) ∧ W.cell? ⟨w5.heap.size, 6, none⟩ = some (.slice B6 ps.length d6)) := fun W h => ⟨(hBx.below h).cell 0, (hBx.below h).cell 1, (hBx.below h).cell 2, (hBx.below h).cell 3, (hBx.below h).cell 4, (hBx.below h).cell 5, (hBx.below h).cell 6⟩
          have HBW : Hid (∀ W, Below W6.heap.size W6 W → Below w5.heap.size w5 W) := fun W h => bn hb56 h
          have HEND : Hid (∀ W, Below W6.heap.size W6 W → ORow W w.heap.size 61 7 IX.cs (.slice (some ⟨b, o6, none⟩) L.length c9) L ∧ EyeAt W ge (some (encs (L.drop (m + 1)))) ∧ Below w.heap.size w W) := fun W h => ⟨hrow5.below (bn hb56 h), he5.keep (bn hb56 h), bn hbw5 (bn hb56 h)⟩
          have hk := bdr (Below.refl W6.heap.size W6)
          clear HC5 hBx hb56 hrow5 he5 hbw5 hk5 hb5 hbl hne ho hr8 hA8 hb hrB hB6
          go_region_held (fun W => Below W6.heap.size W6 W ∧ (W.cell? ⟨b, o6 + m * 7, none⟩ = some (.int .i64 op) ∧ W.cell? ⟨b, o6 + m * 7 + 1, none⟩ = some (.string ⟨path.toArray⟩) ∧ W.cell? ⟨b, o6 + m * 7 + 2, none⟩ = some (.string ⟨to_.toArray⟩) ∧ W.cell? ⟨b, o6 + m * 7 + 3, none⟩ = some (.int .i64 off) ∧ W.cell? ⟨b, o6 + m * 7 + 4, none⟩ = some (.int .i64 size) ∧ W.cell? ⟨b, o6 + m * 7 + 5, none⟩ = some (.slice A5 data c5) ∧ W.cell? ⟨b, o6 + m * 7 + 6, none⟩ = some (.slice A6 ps.length c6)) ∧ (W.cell? ⟨w5.heap.size, 0, none⟩ = some (.int .i64 op) ∧ W.cell? ⟨w5.heap.size, 1, none⟩ = some (.string ⟨path.toArray⟩) ∧ W.cell? ⟨w5.heap.size, 2, none⟩ = some (.string ⟨to_.toArray⟩) ∧ W.cell? ⟨w5.heap.size, 3, none⟩ = some (.int .i64 off) ∧ W.cell? ⟨w5.heap.size, 4, none⟩ = some (.int .i64 size) ∧ W.cell? ⟨w5.heap.size, 5, none⟩ = some (.slice B5 data d5) ∧ W.cell? ⟨w5.heap.size, 6, none⟩ = some (.slice B6 ps.length d6)))
            (exact ⟨hk, HXX.out _ hk, HYY.out _ hk⟩) (first | (go_at_call 46; (with_reducible refine (HQ.out _ (HBW.out _ hk)).mono ?_); rintro e w' ⟨r, rfl, hr, hb'⟩; replace hk := bn hk hb'; clear hb'; obtain rfl : r = true := hr.2 ⟨rfl, rfl, rfl, rfl, rfl, HD.out, rfl⟩; clear hr))
          obtain ⟨z1, z2, z3⟩ := HEND.out _ hk
          clear HXX HYY HBW HEND HQ hk
          go_wp2
          go_roundw
          case rel => exact ⟨m + 1, by omega, by go_num, z1, z2, z3⟩
          case measure => simp [intOf]; try omega
        · obtain rfl : m = L.length := by omega
          rw [List.drop_length] at he
          have HR := Lib.hid (event_read ge _ wr he (fun l e => by cases e; simp [encs]))
          go_wp2_with fail
          (with_reducible refine (HR.out).mono ?_)
          rintro e w5 ⟨it, ok, B5, d5, B6, d6, rfl, hok, hit, hrB, hB6, he5, hk5⟩
          have hok1 : ok = false := by rw [hok, show encs [] = [] from rfl, read_none]; rfl
          clear hok hit HR
          subst hok1
          have hbw5 := hb.trans (hk5.below (B' := w.heap.size) hb.size hgw)
          obtain ⟨op, path, to_, off, size, data, ps⟩ := it
          simp only [iv_eq] at *
          go_wp2
          go_ret
          exact ⟨rfl, bal hbw5 _⟩
end Go.Proofs.Ytlgkcpgbmobacaa
