/-
  What ChunkDrops calls and gives.
-/
import Derived.Test.YtpnfgnddlfkfaaaLawOnce
import Derived.Test.YtpnfgnddlfkfaaaChunkDrp
set_option linter.unusedSimpArgs false
set_option linter.unusedVariables false
namespace Go.Proofs.Ytpnfgnddlfkfaaa
open Go.RowKit Go.Maps

/-- Put at any text -/
theorem chunk_put2 (g : Nat) (P : Nat → Prop) (n : Nat) (s : CSt) (A : Option Addr) (m c : Nat) (b : List UInt8) (w : World) (hm : b.length = m) (hr : RB w A b) (hl : b.length ≤ 9223372036854775807) (hA : ∀ ad, A = some ad → 0 < b.length → ¬ P ad.block) (h : Chunks w g P n s) (ok : COk n s) (inv : CInv s) (hn : n < 100000) (hnx : s.next ≤ 4611686018427387904) :
    Calls Try.prog 16 #[.pointer (some ⟨g, 0, none⟩), .slice A m c] w (PutPost w g P n (putR s b)) := by
  by_cases hv : 1 ≤ b.length ∧ b.length ≤ 64
  · exact chunk_put g P n s A m c b w hm hr (by omega) (fun ad e => hA ad e hv.1) h ok inv hn hnx
  · refine (chunk_put_no g A m c w (by omega) (by omega)).mono ?_
    rintro e _ ⟨rfl, rfl⟩
    unfold putR
    rw [if_neg hv]
    exact ⟨rfl, Kp.refl _ _, h.grow (Below.refl _ _)⟩
/-- what always holds of a store that was made by Put, Set, Drop -/
structure CGood (n : Nat) (s : CSt) (m : List (Int × List UInt8)) : Prop where
  ok : COk n s
  inv : CInv s
  sto : Sto s m
theorem CGood.empty : CGood 0 CSt.empty [] := ⟨COk.empty, CInv.empty, Sto.empty⟩
theorem CGood.put {n : Nat} {s : CSt} {m : List (Int × List UInt8)} (h : CGood n s m) (hn : n < 100000) (hnx : s.next ≤ 4611686018427387904) (b : List UInt8) :
    ∃ m', CGood (n + 2) (putR s b).2.2.2 m' ∧ (putR s b).2.2.2.next ≤ s.next + 1 := by
  obtain ⟨a, c, d⟩ := putR_ok h.ok h.inv hn hnx b
  unfold putR at a c d ⊢
  split
  · rename_i hb
    rw [if_pos hb] at a c d
    cases hf : findId s b with
    | some id => rw [hf] at a c d; exact ⟨m, ⟨a, c, h.sto⟩, d⟩
    | none => rw [hf] at a c d; exact ⟨_, ⟨a, c, h.sto.set (h.inv.next_none (Int.le_refl _))⟩, d⟩
  · rename_i hb
    rw [if_neg hb] at a c d
    exact ⟨m, ⟨a, c, h.sto⟩, d⟩
theorem CGood.drop {n : Nat} {s : CSt} {m : List (Int × List UInt8)} (h : CGood n s m) {id : Int} {b : List UInt8} (hb : s.l id = some b) :
    ∃ k, ∃ hk : k < m.length, m[k] = (id, b) ∧ CGood n (dropSt s id b) (cutAt m k) := by
  obtain ⟨k, hk, e⟩ := List.mem_iff_getElem.1 ((h.sto.mem id b).1 hb)
  refine ⟨k, hk, e, h.ok.drop (h.sto.le_size hb), h.inv.drop hb, ?_⟩
  have := (h.sto.drop hk).1
  rw [e] at this
  exact this
theorem cutAt_len {α : Type} {m : List α} {k : Nat} (hk : k < m.length) : (cutAt m k).length + 1 = m.length := by
  unfold cutAt
  rw [List.length_append, List.length_take, List.length_drop]
  omega
/-- all that the law asks behind the puts -/
theorem drops_says {n : Nat} {s : CSt} {m : List (Int × List UInt8)} (h : CGood n s m) (hn : n < 1000) (hnx : s.next ≤ 1000) {id : Int} {b : List UInt8} (hb : s.l id = some b) :
    ∃ m', CGood n (dropSt s id b) (cutAt m m') ∧ (dropSt s id b).l id = none ∧ okLen b ∧ putR (dropSt s id b) b = (s.next, true, 0, setSt (dropSt s id b) s.next b) ∧ ∃ m2, CGood (n + 2) (setSt (dropSt s id b) s.next b) m2 ∧ m2.length = m.length := by
  obtain ⟨k, hk, e, hd⟩ := h.drop hb
  have hv := (h.inv.i4 id b hb).1
  have hfo : findId (dropSt s id b) b = none := by
    cases hf : findId (dropSt s id b) b with
    | none => rfl
    | some x =>
      have hx := (hd.inv.find hv.1 x).1 hf
      simp only [dropSt] at hx
      by_cases ex : x = id
      · rw [if_pos ex] at hx; cases hx
      · rw [if_neg ex] at hx
        exact absurd (h.inv.i3 x id b hx hb) ex
  have hp : putR (dropSt s id b) b = (s.next, true, 0, setSt (dropSt s id b) s.next b) := by
    unfold putR
    rw [if_pos hv, hfo]
    rfl
  have hnn : (dropSt s id b).l s.next = none := hd.inv.next_none (Int.le_refl _)
  have hn0 := h.ok.next0
  obtain ⟨a, c, _⟩ := putR_ok hd.ok hd.inv (by omega) (show (dropSt s id b).next ≤ 4611686018427387904 by simp only [dropSt]; omega) b
  rw [hp] at a c
  refine ⟨k, hd, by simp [dropSt], hv, hp, _, ⟨a, c, hd.sto.set hnn⟩, ?_⟩
  rw [List.length_append]
  exact cutAt_len hk

set_option maxRecDepth 100000 in
set_option maxHeartbeats 8000000 in
theorem drops_walk (A : Option Addr) (m cap : Nat) (vs : List Value) (ls : List (List UInt8)) (hm : ls.length = m) (x : UInt8) (w : World) (hmm : m ≤ 9223372036854775807) (hv : Rd w A vs) (hl : AreB w vs ls) (hlen : ∀ b ∈ ls, b.length ≤ 9223372036854775807) :
    Calls Try.prog 11 #[.slice A m cap, .int .u8 (x.toNat : Int)] w fun e w' => e = .returned (.bool true) ∧ Below w.heap.size w w' := by
  subst hm
  by_cases c60 : ls.length = 0 ∨ 60 < ls.length
  · rcases (show ls.length = 0 ∨ ls.length ≠ 0 ∧ 60 < ls.length by omega) with h | ⟨h, h'⟩
    · have q : ((ls.length : Int) == 0) = true := by rw [h]; rfl
      go_enter Try.func11, Try.ntmps11
      go_wp2_with fail
      (with_reducible refine (law10_awake _).mono ?_)
      rintro e w1 ⟨rfl, hb1⟩
      go_wp2
      go_ret
      exact ⟨rfl, hb1⟩
    · have q : ((ls.length : Int) == 0) = false := beq_eq_false_iff_ne.2 (by omega)
      clear c60
      go_enter Try.func11, Try.ntmps11
      go_wp2_with fail
      (with_reducible refine (law10_awake _).mono ?_)
      rintro e w1 ⟨rfl, hb1⟩
      go_wp2
      go_ret
      exact ⟨rfl, hb1⟩
  have q : ((ls.length : Int) == 0) = false := beq_eq_false_iff_ne.2 (by omega)
  have hl60 : ls.length ≤ 60 := by omega
  clear c60
  have HV := Lib.hid hv
  have HL := Lib.hid hl
  have HLEN := Lib.hid hlen
  clear hv hl hlen
  go_enter Try.func11, Try.ntmps11
  go_wp2_with fail
  (with_reducible refine (law10_awake _).mono ?_)
  rintro e w1 ⟨rfl, hb1⟩
  go_wp2_with fail
  (with_reducible refine (chunk_new _).mono ?_)
  rintro e w2 ⟨g, rfl, hc2, hb2⟩
  have hz1 := hb1.size
  have hb3 := bn hb1 hb2
  have hP2 : ∀ j, (w1.heap.size ≤ j ∧ j < w2.heap.size) → w.heap.size ≤ j := fun j hj => by omega
  have HP2 := Lib.hid hP2
  have HC2 := Lib.hid hc2
  have HB3 := Lib.hid hb3
  clear hP2 hb1 hb2 hc2 hb3 hz1 q
  go_wp2
  go_loopw [6] (fun i wr => ∃ (k : Nat) (s : CSt) (P : Nat → Prop), k ≤ ls.length ∧ i = .int .i64 (k : Int) ∧ Chunks wr g P (2 * k) s ∧ Hid (∀ j, P j → w.heap.size ≤ j) ∧ Hid (∃ ml, CGood (2 * k) s ml ∧ s.next ≤ (k : Int) + 1) ∧ Below w.heap.size w wr) (fun i _ => ls.length - (intOf i).toNat)
  case atStart => exact ⟨0, CSt.empty, _, Nat.zero_le _, rfl, HC2.out, HP2.out, ⟨[], CGood.empty, by decide⟩, HB3.out⟩
  case round =>
    clear HC2 HP2 HB3
    obtain ⟨k, s, P, hk, rfl, hc, hP, hgood, hb⟩ := hrel
    by_cases hlt : k < ls.length
    · obtain ⟨bb, ob, rfl, hbblt, HT0⟩ := texts_at HV.out HL.out (by omega)
      obtain ⟨Ai, ci, hAlt, hti⟩ := HT0 k hlt
      have hbl := HLEN.out (ls.getD k []) (by rw [List.getD_eq_getElem?_getD, List.getElem?_eq_getElem hlt]; exact List.getElem_mem hlt)
      obtain ⟨hcell, hrb⟩ := hti wr hb
      have i0 : (0 : Int) ≤ (k : Int) := by omega
      have i1 : (k : Int) < (ls.length : Int) := by omega
      generalize ls.getD k [] = bt at *
      obtain ⟨ml, hg, hnx⟩ := hgood.out
      have HPUT := Lib.hid (chunk_put2 g P (2 * k) s Ai bt.length ci bt wr rfl hrb hbl (fun ad e h0 f => by have := hAlt ad e h0; have := hP.out _ f; omega) hc hg.ok hg.inv (by omega) (by omega))
      have hg2 := hg.put (by omega) (by omega) bt
      have HG2 : Hid (∃ ml, CGood (2 * (k + 1)) (putR s bt).2.2.2 ml ∧ (putR s bt).2.2.2.next ≤ ((k + 1 : Nat) : Int) + 1) := Lib.hid (by
        obtain ⟨ml', h1, h2⟩ := hg2
        exact ⟨ml', h1, by omega⟩)
      clear HT0 hti hrb hg hnx hg2 hgood hAlt
      generalize putR s bt = pr at *
      obtain ⟨id, fresh, er, s4⟩ := pr
      go_wp2_with fail
      (with_reducible refine HPUT.out.mono ?_)
      rintro e w4 ⟨rfl, hk4, hc4⟩
      simp only at hc4
      have hb4 : Below w.heap.size w w4 := hb.trans (hk4.below hb.size fun j hj => hP.out j hj)
      have hzb := hb.size
      have hP4 : Hid (∀ j, (P j ∨ (wr.heap.size ≤ j ∧ j < w4.heap.size)) → w.heap.size ≤ j) := Lib.hid fun j hj => by
        rcases hj with hj | hj
        · exact hP.out j hj
        · omega
      clear hb hc hk4 hzb hcell
      go_wp2
      go_roundw
      case rel => exact ⟨k + 1, s4, _, by omega, by go_num, hc4, hP4, HG2, hb4⟩
      case measure => simp [intOf]; try omega
    · obtain rfl : k = ls.length := by omega
      obtain ⟨ml, hg, hnx⟩ := hgood.out
      have hlml := Lib.hid fun ks hr hm => hg.sto.ids_len hg.inv (by omega) (ks := ks) hr hm
      have hsl : ∀ id b, s.l id = some b → b.length ≤ 1000000 := fun id b h => by have := hg.ok.len id b h; omega
      have HGOOD := Lib.hid hg
      have HSL := Lib.hid hsl
      clear hsl hg hgood hlt hk
      go_wp2_with fail
      (with_reducible refine (chunk_ids g P (2 * ls.length) s wr hc (by omega)).mono ?_)
      rintro e w5 ⟨v5, ks, rfl, hv5, hri, hmem, hb5⟩
      have HKL := Lib.hid (hlml.out ks hri hmem)
      have hb5w : Below w.heap.size w w5 := bn hb hb5
      have hc5 := hc.below hb5
      have hP5 : Hid (∀ j, P j → w.heap.size ≤ j ∧ j < wr.heap.size) := Lib.hid fun j hj => ⟨hP.out j hj, hc.lt j hj⟩
      obtain ⟨A5, c5, rfl, hle5, hr5, hfr5⟩ := hv5.read
      rw [List.length_map] at hle5 ⊢
      have hzb := hb5.size
      clear hb hb5 hc hP hv5 hlml hfr5
      by_cases hk0 : ks.length = 0
      · have q : ((ks.length : Int) == 0) = true := by rw [hk0]; rfl
        go_wp2
        go_ret
        exact ⟨rfl, hb5w⟩
      have q : ((ks.length : Int) == 0) = false := beq_eq_false_iff_ne.2 (by omega)
      have hx256 := x.toNat_lt
      generalize x.toNat = x at *
      obtain ⟨kk, hkk⟩ : ∃ kk, kk = x % ks.length := ⟨_, rfl⟩
      have hkl : kk < ks.length := by rw [hkk]; exact Nat.mod_lt _ (by omega)
      have hrem : Int.tmod (x:Int) (ks.length:Int) = (kk : Int) := by rw [hkk]; exact (Int.ofNat_tmod ..).symm
      obtain ⟨b5, o5, rfl, hb5lt, hcell5⟩ := hr5.lit_of kk (by rw [List.length_map]; exact hkl)
      have hcell := hcell5 kk (by rw [List.length_map]; exact hkl)
      rw [List.getElem_map] at hcell
      obtain ⟨hid, hsome⟩ := (hmem ks[kk]).1 (List.getElem_mem hkl)
      obtain ⟨bt, hbt⟩ := Option.isSome_iff_exists.1 hsome
      have i0 : (0 : Int) ≤ (kk : Int) := by omega
      have i1 : (kk : Int) < (ks.length : Int) := by omega
      have hlp : (0 : Int) < (ks.length : Int) := by omega
      have hln : (ks.length : Int) ≠ 0 := by omega
      have hw0 : IntKind.i64.wrap (x : Int) = (x : Int) := IntWalk.i64_in _ (by omega)
      unfold okInt at hid
      obtain ⟨hid0, hid1⟩ := hid
      clear hcell5 hsome hkk hmem hri hr5
      generalize ks[kk] = id at *
      obtain ⟨m', hgd, hdn, hok, hput, m2, hg2, hm2⟩ := drops_says HGOOD.out (by omega) (by omega) hbt
      have HBT := Lib.hid hbt
      have HGET := Lib.hid fun W h => chunk_get g P (2 * ls.length) s id hid0 hid1 W h (HSL.out id)
      rw [hbt] at HGET
      simp only [Option.getD_some, Option.isSome_some] at HGET
      have hs0 := HGOOD.out.ok.size0
      have hs1 := HGOOD.out.ok.size1
      have hn0 := HGOOD.out.ok.next0
      have hble := HGOOD.out.sto.le_size hbt
      have hbl64 := hok.2
      have hbl1 := hok.1
      have HGD := Lib.hid hgd
      have HPUT := Lib.hid hput
      have HDN := Lib.hid hdn
      have HG2 := Lib.hid hg2
      have HM2 := Lib.hid (show m2.length = ks.length from hm2.trans HKL.out.symm)
      have HNX := Lib.hid hnx
      clear hgd hput hdn hg2 hm2 hok hbt
      go_wp2_with fail
      (with_reducible refine (HGET.out _ hc5).mono ?_)
      rintro e w6 ⟨v6, rfl, hv6, hb6⟩
      have hc6 := hc5.below hb6
      have hb6w := bn hb5w hb6
      have hz6 := hb6.size
      obtain ⟨A6, c6, rfl, hle6, hr6⟩ := Own.bytes hv6
      have hA6 : Hid (∀ ad, A6 = some ad → w5.heap.size ≤ ad.block ∧ ad.block < w6.heap.size) := Lib.hid fun ad e => ⟨(hv6.typed ad.block (by rw [e]; rfl)).1, (hv6.typed ad.block (by rw [e]; rfl)).2.1⟩
      clear hc5 hb6 hb5w hv6 hcell
      go_wp2_with fail
      (with_reducible refine (chunk_size g P (2 * ls.length) s w6 hc6).mono ?_)
      rintro e _ ⟨rfl, rfl⟩
      go_wp2_with fail
      (with_reducible refine (chunk_next g P (2 * ls.length) s w6 hc6).mono ?_)
      rintro e _ ⟨rfl, rfl⟩
      have HD1 := Lib.hid (chunk_drop g P (2 * ls.length) s id hid0 hid1 w6 hc6 HGOOD.out.ok HGOOD.out.inv (by omega))
      go_wp2_with fail
      (with_reducible refine HD1.out.mono ?_)
      rintro e w7 ⟨he7, hk7, hc7⟩
      rw [HBT.out] at he7
      obtain rfl := he7
      simp only [dropR, HBT.out] at hc7
      have hz7 := hk7.size
      have hb7 : Below w.heap.size w w7 := hb6w.trans (hk7.below hb6w.size fun j hj => (hP5.out j hj).1)
      have hP7 : Hid (∀ j, (P j ∨ (w6.heap.size ≤ j ∧ j < w7.heap.size)) → w.heap.size ≤ j ∧ (j < wr.heap.size ∨ w6.heap.size ≤ j)) := Lib.hid fun j hj => by
        have hzw := hb6w.size
        rcases hj with hj | hj
        · have := hP5.out j hj; omega
        · omega
      have hr7 : RB w7 A6 bt := hr6.kp hk7 fun ad e f => by have := hA6.out ad e; have := hP5.out _ f; omega
      have HS1 : Hid ((dropSt s id bt).size = s.size - (bt.length : Int) ∧ (dropSt s id bt).next = s.next) := Lib.hid ⟨rfl, rfl⟩
      have HS2 : Hid ((setSt (dropSt s id bt) s.next bt).size = s.size) := Lib.hid (by simp [setSt, dropSt])
      have hok7 := HGD.out.ok.mono (n' := 2 * ls.length + 2) (by omega) (by omega)
      have HOK7 := Lib.hid hok7
      have HLEN2 := Lib.hid fun b hb => Nat.le_trans (hok7.len id b hb) (show 64 ≤ 1000000 by omega)
      have HINV7 := Lib.hid HGD.out.inv
      have hnx7 : (dropSt s id bt).next ≤ 4611686018427387904 := by rw [HS1.out.2]; have := HNX.out; omega
      have hlm := Lib.hid fun ks hr hm => HG2.out.sto.ids_len HG2.out.inv HG2.out.ok.next1 (ks := ks) hr hm
      clear hc6 hk7 hr6 hb6w hok7 HGET HD1
      generalize setSt (dropSt s id bt) s.next bt = s2 at *
      generalize dropSt s id bt = s1 at *
      generalize hP7' : (fun j => P j ∨ (w6.heap.size ≤ j ∧ j < w7.heap.size)) = P7 at *
      have HP7 : Hid (∀ j, P7 j → w.heap.size ≤ j ∧ (j < wr.heap.size ∨ w6.heap.size ≤ j)) := Lib.hid fun j hj => hP7.out j (by rw [← hP7'] at hj; exact hj)
      clear hP7' hP7
      have HD2 := Lib.hid (chunk_drop g P7 (2 * ls.length + 2) s1 id hid0 hid1 w7 hc7 HOK7.out HINV7.out (by omega))
      go_wp2_with fail
      (with_reducible refine HD2.out.mono ?_)
      rintro e w8 ⟨he8, hk8, hc8⟩
      rw [HDN.out] at he8
      obtain rfl := he8
      simp only [dropR, HDN.out, Option.isSome_none] at hc8 ⊢
      have hz8 := hk8.size
      have hzw := hb7.size
      have hb8 : Below w.heap.size w w8 := hb7.trans (hk8.below hb7.size fun j hj => (HP7.out j hj).1)
      have hP8 : Hid (∀ j, (P7 j ∨ (w7.heap.size ≤ j ∧ j < w8.heap.size)) → w.heap.size ≤ j ∧ (j < wr.heap.size ∨ w6.heap.size ≤ j)) := Lib.hid fun j hj => by
        rcases hj with hj | hj
        · exact HP7.out j hj
        · omega
      have hr8 : RB w8 A6 bt := hr7.kp hk8 fun ad e f => by have := hA6.out ad e; have := HP7.out _ f; omega
      clear hk8 hr7 hb7 HD2 hc7
      generalize hP8' : (fun j => P7 j ∨ (w7.heap.size ≤ j ∧ j < w8.heap.size)) = P8 at *
      have HP8 : Hid (∀ j, P8 j → w.heap.size ≤ j ∧ (j < wr.heap.size ∨ w6.heap.size ≤ j)) := Lib.hid fun j hj => hP8.out j (by rw [← hP8'] at hj; exact hj)
      clear hP8' hP8
      go_wp2_with fail
      (with_reducible refine (chunk_size g P8 _ s1 w8 hc8).mono ?_)
      rintro e _ ⟨rfl, rfl⟩
      rw [HS1.out.1]
      go_wp2_with fail
      (with_reducible refine (chunk_next g P8 _ s1 w8 hc8).mono ?_)
      rintro e _ ⟨rfl, rfl⟩
      rw [HS1.out.2]
      have HGT := Lib.hid (chunk_get g P8 _ s1 id hid0 hid1 w8 hc8 HLEN2.out)
      rw [HDN.out] at HGT
      simp only [Option.getD_none, Option.isSome_none] at HGT
      go_wp2_with fail
      (with_reducible refine HGT.out.mono ?_)
      rintro e w9 ⟨v9, rfl, _, hb9⟩
      have hz9 := hb9.size
      have hc9 := hc8.below hb9
      have hb9w := bn hb8 hb9
      have hr9 := hr8.below hb9
      clear hc8 hb8 hb9 hr8 HGT
      have HPT := Lib.hid (chunk_put2 g P8 _ s1 A6 bt.length c6 bt w9 rfl hr9 (by omega) (fun ad e _ f => by have := hA6.out ad e; have := HP8.out _ f; omega) hc9 (HOK7.out.mono (n' := 2 * ls.length + 2 + 2) (by omega) (by omega)) HINV7.out (by omega) hnx7)
      rw [HPUT.out] at HPT
      go_wp2_with fail
      (with_reducible refine HPT.out.mono ?_)
      rintro e w10 ⟨rfl, hk10, hc10⟩
      simp only at hc10 ⊢
      have hb10 : Below w.heap.size w w10 := hb9w.trans (hk10.below hb9w.size fun j hj => (HP8.out j hj).1)
      clear hk10 hb9w hr9 HPT hc9
      go_wp2_with fail
      (with_reducible refine (chunk_ids g _ _ s2 w10 hc10 (by omega)).mono ?_)
      rintro e w11 ⟨v11, ks2, rfl, hv11, hri2, hmem2, hb11⟩
      have HKL2 := Lib.hid (hlm.out ks2 hri2 hmem2)
      obtain ⟨A11, c11, rfl, _, _, _⟩ := hv11.read
      have hc11 := hc10.below hb11
      have hb11w := bn hb10 hb11
      rw [List.length_map, HKL2.out, HM2.out]
      clear hv11 hb11 hb10 hc10 hri2 hmem2
      go_wp2_with fail
      (with_reducible refine (chunk_size g _ _ s2 w11 hc11).mono ?_)
      rintro e _ ⟨rfl, rfl⟩
      rw [HS2.out]
      go_wp2_with fail
      go_ret
      exact ⟨rfl, hb11w⟩
end Go.Proofs.Ytpnfgnddlfkfaaa
