/-
  What BodyKnown calls and gives. (printed by genbknown.py)
-/
import Derived.Test.YtpnfgnddlfkfaaaLawBRanges
set_option linter.unusedSimpArgs false
set_option linter.unusedVariables false
namespace Go.Proofs.Ytpnfgnddlfkfaaa
open Go.RowKit Go.Maps

theorem Rd.alloc' {w : World} {A : Option Addr} {cs : List Value} (h : Rd w A cs) (o : Obj) : Rd (w.alloc o) A cs := h.below (bal (Below.refl _ _) o)
theorem bk_a : writeR 0 ([] : List Part) 0 [⟨0, 10, 1, 0⟩] = (10, [⟨0, 10, 1, 0⟩], 0) := by kernel_rfl
theorem bk_b : writeR 10 [⟨0, 10, 1, 0⟩] 3 [⟨0, 4, 2, 5⟩] = (10, [⟨0, 3, 1, 0⟩, ⟨3, 4, 2, 5⟩, ⟨7, 3, 1, 7⟩], 0) := by kernel_rfl
theorem bk_c : truncR 10 [⟨0, 3, 1, 0⟩, ⟨3, 4, 2, 5⟩, ⟨7, 3, 1, 7⟩] 8 = (8, [⟨0, 3, 1, 0⟩, ⟨3, 4, 2, 5⟩, ⟨7, 1, 1, 7⟩], 0) := by kernel_rfl
theorem bk_n4 : writeR 10 [⟨0, 10, 1, 0⟩] (-1) ([] : List Part) = (0, ([] : List Part), 9) := by kernel_rfl
theorem bk_n5 : writeR 10 [⟨0, 10, 1, 0⟩] 1099511627767 [⟨0, 10, 1, 0⟩] = (0, ([] : List Part), 9) := by kernel_rfl
theorem bk_d : writeR 10 [⟨0, 10, 1, 0⟩] 1099511627766 [⟨0, 10, 1, 0⟩] = (1099511627776, [⟨0, 10, 1, 0⟩, ⟨1099511627766, 10, 1, 0⟩], 0) := by kernel_rfl
theorem bk_n7 : writeR 10 [⟨0, 10, 1, 0⟩] 0 [⟨0, 0, 1, 0⟩] = (0, ([] : List Part), 1) := by kernel_rfl
theorem bk_n8 : writeR 10 [⟨0, 10, 1, 0⟩] 0 [⟨0, 60, 1, 5⟩] = (0, ([] : List Part), 1) := by kernel_rfl
theorem bk_n9 : truncR 10 [⟨0, 10, 1, 0⟩] (-1) = (0, ([] : List Part), 9) := by kernel_rfl
theorem bk_f : writeR 10 [⟨0, 10, 1, 0⟩] 50 ([] : List Part) = (10, [⟨0, 10, 1, 0⟩], 0) := by kernel_rfl
def t10 : List UInt8 := [48, 49, 50, 51, 52, 53, 54, 55, 56, 57]
def t8 : List UInt8 := [49, 50, 51, 52, 53, 54, 55, 56]
def st1 : CSt := setSt CSt.empty 1 t10
def st2 : CSt := setSt st1 2 t8
theorem bk_put1 : putR CSt.empty t10 = (1, true, 0, st1) := put_first t10 (by decide)
theorem bk_inv1 : CInv st1 := CInv.empty.set (id := 1) (by decide) (by omega) rfl (find_empty t10)
theorem bk_ok1 : COk 2 st1 := COk.empty.set (id := 1) (by decide) ⟨by omega, by omega⟩ (by omega)
theorem bk_put2 : putR st1 t8 = (2, true, 0, st2) := by
  have hf : findId st1 t8 = none := by
    cases hf : findId st1 t8 with
    | none => rfl
    | some id =>
      have h1 := (bk_inv1.find (by decide) id).1 hf
      unfold st1 setSt CSt.empty at h1
      simp only at h1
      split at h1
      · cases h1
      · cases h1
  unfold putR
  rw [if_pos (by decide), hf]
  rfl
theorem bk_sl1 : ∀ id b, st1.l id = some b → b.length ≤ 1000 := fun id b h => by have := bk_ok1.len id b h; omega
theorem bk_sl2 : ∀ id b, st2.l id = some b → b.length ≤ 1000 := fun id b h => by have := (bk_ok1.set (id := 2) (b := t8) (by decide) ⟨by omega, by omega⟩ (by omega)).len id b h; omega
theorem bk_r2 : readR st1 10 [⟨0, 3, 1, 0⟩, ⟨3, 4, 2, 5⟩, ⟨7, 3, 1, 7⟩] 0 10 = ([], 13) := by decide +kernel
theorem bk_r3 : readR st1 10 [⟨0, 10, 1, 0⟩] 4 100 = ([52, 53, 54, 55, 56, 57], 0) := by decide +kernel
theorem bk_r4 : readR st1 10 [⟨0, 10, 1, 0⟩] 0 4097 = ([], 1) := by decide +kernel
theorem bk_r5 : readR st1 10 [⟨0, 10, 1, 0⟩] (-1) 1 = ([], 1) := by decide +kernel
theorem bk_r6 : readR st1 10 [⟨0, 10, 1, 0⟩] 10 5 = ([], 0) := by decide +kernel
theorem bk_r7 : readR st2 10 [⟨0, 3, 1, 0⟩, ⟨3, 4, 2, 5⟩, ⟨7, 3, 1, 7⟩] 0 10 = ([], 13) := by decide +kernel

set_option maxRecDepth 100000 in
set_option maxHeartbeats 8000000 in
theorem bknown_walk (w : World) :
    Calls Try.prog 7 #[] w fun e w' => e = .returned (.bool true) ∧ Below w.heap.size w w' := by
  have H_a := Lib.hid fun W A c Al (h : Rd W A (pcs ([] : List Part))) (h2 : Rd W Al (pcs [⟨0, 10, 1, 0⟩])) => body_write 0 A 0 c ([] : List Part) 0 Al 1 1 [⟨0, 10, 1, 0⟩] W rfl (by decide) h rfl (by decide) h2
  rw [bk_a] at H_a
  unfold bv at H_a
  have H_b := Lib.hid fun W A c Al (h : Rd W A (pcs [⟨0, 10, 1, 0⟩])) (h2 : Rd W Al (pcs [⟨0, 4, 2, 5⟩])) => body_write 10 A 1 c [⟨0, 10, 1, 0⟩] 3 Al 1 1 [⟨0, 4, 2, 5⟩] W rfl (by decide) h rfl (by decide) h2
  rw [bk_b] at H_b
  unfold bv at H_b
  have H_c := Lib.hid fun W A c (h : Rd W A (pcs [⟨0, 3, 1, 0⟩, ⟨3, 4, 2, 5⟩, ⟨7, 3, 1, 7⟩])) => body_trunc 10 A 3 c [⟨0, 3, 1, 0⟩, ⟨3, 4, 2, 5⟩, ⟨7, 3, 1, 7⟩] 8 W rfl (by decide) h
  rw [bk_c] at H_c
  unfold bv at H_c
  have H_n4 := Lib.hid fun W A c (h : Rd W A (pcs [⟨0, 10, 1, 0⟩]))  => body_write 10 A 1 c [⟨0, 10, 1, 0⟩] (-1) none 0 0 ([] : List Part) W rfl (by decide) h rfl (by decide) (Rd.nil _ _)
  rw [bk_n4] at H_n4
  unfold bv at H_n4
  have H_n5 := Lib.hid fun W A c Al (h : Rd W A (pcs [⟨0, 10, 1, 0⟩])) (h2 : Rd W Al (pcs [⟨0, 10, 1, 0⟩])) => body_write 10 A 1 c [⟨0, 10, 1, 0⟩] 1099511627767 Al 1 1 [⟨0, 10, 1, 0⟩] W rfl (by decide) h rfl (by decide) h2
  rw [bk_n5] at H_n5
  unfold bv at H_n5
  have H_d := Lib.hid fun W A c Al (h : Rd W A (pcs [⟨0, 10, 1, 0⟩])) (h2 : Rd W Al (pcs [⟨0, 10, 1, 0⟩])) => body_write 10 A 1 c [⟨0, 10, 1, 0⟩] 1099511627766 Al 1 1 [⟨0, 10, 1, 0⟩] W rfl (by decide) h rfl (by decide) h2
  rw [bk_d] at H_d
  unfold bv at H_d
  have H_n7 := Lib.hid fun W A c Al (h : Rd W A (pcs [⟨0, 10, 1, 0⟩])) (h2 : Rd W Al (pcs [⟨0, 0, 1, 0⟩])) => body_write 10 A 1 c [⟨0, 10, 1, 0⟩] 0 Al 1 1 [⟨0, 0, 1, 0⟩] W rfl (by decide) h rfl (by decide) h2
  rw [bk_n7] at H_n7
  unfold bv at H_n7
  have H_n8 := Lib.hid fun W A c Al (h : Rd W A (pcs [⟨0, 10, 1, 0⟩])) (h2 : Rd W Al (pcs [⟨0, 60, 1, 5⟩])) => body_write 10 A 1 c [⟨0, 10, 1, 0⟩] 0 Al 1 1 [⟨0, 60, 1, 5⟩] W rfl (by decide) h rfl (by decide) h2
  rw [bk_n8] at H_n8
  unfold bv at H_n8
  have H_n9 := Lib.hid fun W A c (h : Rd W A (pcs [⟨0, 10, 1, 0⟩])) => body_trunc 10 A 1 c [⟨0, 10, 1, 0⟩] (-1) W rfl (by decide) h
  rw [bk_n9] at H_n9
  unfold bv at H_n9
  have H_f := Lib.hid fun W A c (h : Rd W A (pcs [⟨0, 10, 1, 0⟩]))  => body_write 10 A 1 c [⟨0, 10, 1, 0⟩] 50 none 0 0 ([] : List Part) W rfl (by decide) h rfl (by decide) (Rd.nil _ _)
  rw [bk_f] at H_f
  unfold bv at H_f
  have H_r2 := Lib.hid fun W g P n A c (h : Rd W A (pcs [⟨0, 3, 1, 0⟩, ⟨3, 4, 2, 5⟩, ⟨7, 3, 1, 7⟩])) hc => body_readF g P n st1 10 A 3 c [⟨0, 3, 1, 0⟩, ⟨3, 4, 2, 5⟩, ⟨7, 3, 1, 7⟩] 0 10 W rfl (by decide) h hc bk_sl1 (by decide) (by decide) (by decide) (by decide)
  rw [bk_r2] at H_r2
  unfold bv at H_r2
  have H_r3 := Lib.hid fun W g P n A c (h : Rd W A (pcs [⟨0, 10, 1, 0⟩])) hc => body_readF g P n st1 10 A 1 c [⟨0, 10, 1, 0⟩] 4 100 W rfl (by decide) h hc bk_sl1 (by decide) (by decide) (by decide) (by decide)
  rw [bk_r3] at H_r3
  unfold bv at H_r3
  have H_r4 := Lib.hid fun W g P n A c (h : Rd W A (pcs [⟨0, 10, 1, 0⟩])) hc => body_readF g P n st1 10 A 1 c [⟨0, 10, 1, 0⟩] 0 4097 W rfl (by decide) h hc bk_sl1 (by decide) (by decide) (by decide) (by decide)
  rw [bk_r4] at H_r4
  unfold bv at H_r4
  have H_r5 := Lib.hid fun W g P n A c (h : Rd W A (pcs [⟨0, 10, 1, 0⟩])) hc => body_readF g P n st1 10 A 1 c [⟨0, 10, 1, 0⟩] (-1) 1 W rfl (by decide) h hc bk_sl1 (by decide) (by decide) (by decide) (by decide)
  rw [bk_r5] at H_r5
  unfold bv at H_r5
  have H_r6 := Lib.hid fun W g P n A c (h : Rd W A (pcs [⟨0, 10, 1, 0⟩])) hc => body_readF g P n st1 10 A 1 c [⟨0, 10, 1, 0⟩] 10 5 W rfl (by decide) h hc bk_sl1 (by decide) (by decide) (by decide) (by decide)
  rw [bk_r6] at H_r6
  unfold bv at H_r6
  have H_r7 := Lib.hid fun W g P n A c (h : Rd W A (pcs [⟨0, 3, 1, 0⟩, ⟨3, 4, 2, 5⟩, ⟨7, 3, 1, 7⟩])) hc => body_readF g P n st2 10 A 3 c [⟨0, 3, 1, 0⟩, ⟨3, 4, 2, 5⟩, ⟨7, 3, 1, 7⟩] 0 10 W rfl (by decide) h hc bk_sl2 (by decide) (by decide) (by decide) (by decide)
  rw [bk_r7] at H_r7
  unfold bv at H_r7
  have HP1 := Lib.hid fun (g : Nat) (P : Nat → Prop) (A : Option Addr) W (hr : RB W A t10) hA h => chunk_put g P 0 CSt.empty A 10 10 t10 W rfl hr (by decide) hA h COk.empty CInv.empty (by omega) (by decide)
  have HP2 := Lib.hid fun (g : Nat) (P : Nat → Prop) (A : Option Addr) W (hr : RB W A t8) hA h => chunk_put g P 2 st1 A 8 8 t8 W rfl hr (by decide) hA h bk_ok1 bk_inv1 (by omega) (by decide)
  rw [bk_put1] at HP1
  rw [bk_put2] at HP2
  have HLIT1 : Hid (∀ (W : World) fz, RB (W.alloc (.cells #[.int .u8 48, .int .u8 49, .int .u8 50, .int .u8 51, .int .u8 52, .int .u8 53, .int .u8 54, .int .u8 55, .int .u8 56, .int .u8 57] 5 fz)) (some ⟨W.heap.size, 0, none⟩) t10) := fun W fz => RB.lit W _ fz _ _ rfl
  have HLIT2 : Hid (∀ (W : World) fz, RB (W.alloc (.cells #[.int .u8 49, .int .u8 50, .int .u8 51, .int .u8 52, .int .u8 53, .int .u8 54, .int .u8 55, .int .u8 56] 5 fz)) (some ⟨W.heap.size, 0, none⟩) t8) := fun W fz => RB.lit W _ fz _ _ rfl
  have kc := fun (w : World) (C : Array Value) (n c : Nat) => Lib.run_convert_bytes_const (P := Try.prog) w 23 5 C n c Try.underlying23 Try.underlying5
  go_enter Try.func7, Try.ntmps7
  go_wp2_with fail
  (with_reducible refine (law12_awake _).mono ?_)
  rintro e v0 ⟨rfl, hb⟩
  have rone := lit_part v0 0 10 1 0
  replace hb := bal hb (.cells #[.int .i64 0, .int .i64 10, .int .i64 1, .int .i64 0] 50)
  go_wp2_with fail
  (with_reducible refine (H_a.out _ _ _ _ (Rd.nil _ _) rone).mono ?_)
  rintro e v1 ⟨Aa, ca, rfl, ra, hb1⟩
  simp only [bv, List.length_cons, List.length_nil, Nat.zero_add, Nat.reduceAdd] at *
  replace rone := ((rone).below hb1).alloc' (.cells #[.int .i64 10, .slice Aa 1 ca] 46)
  replace hb := bal (bn hb hb1) (.cells #[.int .i64 10, .slice Aa 1 ca] 46)
  have ka := Blk.new v1 46 #[.int .i64 10, .slice Aa 1 ca]
  replace ra := ra.alloc' (.cells #[.int .i64 10, .slice Aa 1 ca] 46)
  clear hb1
  have x0 : (v1.alloc (.cells #[.int .i64 10, .slice Aa 1 ca] 46)).cell? ⟨v1.heap.size, 0, none⟩ = some (.int .i64 10) := ka.cell 0
  have x1 : (v1.alloc (.cells #[.int .i64 10, .slice Aa 1 ca] 46)).cell? ⟨v1.heap.size, 1, none⟩ = some (.slice Aa 1 ca) := ka.cell 1
  have rl := lit_part' (v1.alloc (.cells #[.int .i64 10, .slice Aa 1 ca] 46)) 0 4 2 5 _ rfl
  rw [show (v1.alloc (.cells #[.int .i64 10, .slice Aa 1 ca] 46)).heap.size = (v1.alloc (.cells #[.int .i64 10, .slice Aa 1 ca] 46)).heap.size from rfl] at rl
  go_wp2_with fail
  clear x0 x1
  (with_reducible refine (H_b.out _ _ _ _ (ra.alloc' _) (by simpa using rl)).mono ?_)
  rintro e v2 ⟨Ab, cb, rfl, rb, hb2⟩
  simp only [bv, List.length_cons, List.length_nil, Nat.zero_add, Nat.reduceAdd] at *
  replace rone := ((rone.alloc' _).below hb2).alloc' (.cells #[.int .i64 10, .slice Ab 3 cb] 46)
  replace ka := ((ka.alloc _).below hb2).alloc (.cells #[.int .i64 10, .slice Ab 3 cb] 46)
  replace ra := ((ra.alloc' _).below hb2).alloc' (.cells #[.int .i64 10, .slice Ab 3 cb] 46)
  replace hb := bal (bn (bal hb _) hb2) (.cells #[.int .i64 10, .slice Ab 3 cb] 46)
  have kb := Blk.new v2 46 #[.int .i64 10, .slice Ab 3 cb]
  replace rb := rb.alloc' (.cells #[.int .i64 10, .slice Ab 3 cb] 46)
  clear hb2 rl
  have x0 : (v2.alloc (.cells #[.int .i64 10, .slice Ab 3 cb] 46)).cell? ⟨v2.heap.size, 0, none⟩ = some (.int .i64 10) := kb.cell 0
  have x1 : (v2.alloc (.cells #[.int .i64 10, .slice Ab 3 cb] 46)).cell? ⟨v2.heap.size, 1, none⟩ = some (.slice Ab 3 cb) := kb.cell 1
  go_wp2_with fail
  clear x0 x1
  (with_reducible refine (H_c.out _ _ _ rb).mono ?_)
  rintro e v3 ⟨Ac, cc, rfl, rc, hb3⟩
  simp only [bv, List.length_cons, List.length_nil, Nat.zero_add, Nat.reduceAdd] at *
  replace rone := ((rone).below hb3).alloc' (.cells #[.int .i64 8, .slice Ac 3 cc] 46)
  replace ka := ((ka).below hb3).alloc (.cells #[.int .i64 8, .slice Ac 3 cc] 46)
  replace ra := ((ra).below hb3).alloc' (.cells #[.int .i64 8, .slice Ac 3 cc] 46)
  replace kb := ((kb).below hb3).alloc (.cells #[.int .i64 8, .slice Ac 3 cc] 46)
  replace rb := ((rb).below hb3).alloc' (.cells #[.int .i64 8, .slice Ac 3 cc] 46)
  replace hb := bal (bn hb hb3) (.cells #[.int .i64 8, .slice Ac 3 cc] 46)
  have kc := Blk.new v3 46 #[.int .i64 8, .slice Ac 3 cc]
  replace rc := rc.alloc' (.cells #[.int .i64 8, .slice Ac 3 cc] 46)
  clear hb3
  have x0 : (v3.alloc (.cells #[.int .i64 8, .slice Ac 3 cc] 46)).cell? ⟨v1.heap.size, 0, none⟩ = some (.int .i64 10) := ka.cell 0
  have x1 : (v3.alloc (.cells #[.int .i64 8, .slice Ac 3 cc] 46)).cell? ⟨v1.heap.size, 1, none⟩ = some (.slice Aa 1 ca) := ka.cell 1
  go_wp2_with fail
  clear x0 x1
  (with_reducible refine (H_n4.out _ _ _ ra).mono ?_)
  rintro e v4 ⟨An4, cn4, rfl, rn4, hb4⟩
  simp only [bv, List.length_cons, List.length_nil, Nat.zero_add, Nat.reduceAdd] at *
  replace rone := ((rone).below hb4).alloc' (.cells #[.int .i64 0, .slice An4 0 cn4] 46)
  replace ka := ((ka).below hb4).alloc (.cells #[.int .i64 0, .slice An4 0 cn4] 46)
  replace ra := ((ra).below hb4).alloc' (.cells #[.int .i64 0, .slice An4 0 cn4] 46)
  replace kb := ((kb).below hb4).alloc (.cells #[.int .i64 0, .slice An4 0 cn4] 46)
  replace rb := ((rb).below hb4).alloc' (.cells #[.int .i64 0, .slice An4 0 cn4] 46)
  replace kc := ((kc).below hb4).alloc (.cells #[.int .i64 0, .slice An4 0 cn4] 46)
  replace rc := ((rc).below hb4).alloc' (.cells #[.int .i64 0, .slice An4 0 cn4] 46)
  replace hb := bal (bn hb hb4) (.cells #[.int .i64 0, .slice An4 0 cn4] 46)
  clear rn4
  clear hb4
  have x0 : (v4.alloc (.cells #[.int .i64 0, .slice An4 0 cn4] 46)).cell? ⟨v1.heap.size, 0, none⟩ = some (.int .i64 10) := ka.cell 0
  have x1 : (v4.alloc (.cells #[.int .i64 0, .slice An4 0 cn4] 46)).cell? ⟨v1.heap.size, 1, none⟩ = some (.slice Aa 1 ca) := ka.cell 1
  go_wp2_with fail
  clear x0 x1
  (with_reducible refine (H_n5.out _ _ _ _ ra rone).mono ?_)
  rintro e v5 ⟨An5, cn5, rfl, rn5, hb5⟩
  simp only [bv, List.length_cons, List.length_nil, Nat.zero_add, Nat.reduceAdd] at *
  replace rone := ((rone).below hb5).alloc' (.cells #[.int .i64 0, .slice An5 0 cn5] 46)
  replace ka := ((ka).below hb5).alloc (.cells #[.int .i64 0, .slice An5 0 cn5] 46)
  replace ra := ((ra).below hb5).alloc' (.cells #[.int .i64 0, .slice An5 0 cn5] 46)
  replace kb := ((kb).below hb5).alloc (.cells #[.int .i64 0, .slice An5 0 cn5] 46)
  replace rb := ((rb).below hb5).alloc' (.cells #[.int .i64 0, .slice An5 0 cn5] 46)
  replace kc := ((kc).below hb5).alloc (.cells #[.int .i64 0, .slice An5 0 cn5] 46)
  replace rc := ((rc).below hb5).alloc' (.cells #[.int .i64 0, .slice An5 0 cn5] 46)
  replace hb := bal (bn hb hb5) (.cells #[.int .i64 0, .slice An5 0 cn5] 46)
  clear rn5
  clear hb5
  have x0 : (v5.alloc (.cells #[.int .i64 0, .slice An5 0 cn5] 46)).cell? ⟨v1.heap.size, 0, none⟩ = some (.int .i64 10) := ka.cell 0
  have x1 : (v5.alloc (.cells #[.int .i64 0, .slice An5 0 cn5] 46)).cell? ⟨v1.heap.size, 1, none⟩ = some (.slice Aa 1 ca) := ka.cell 1
  go_wp2_with fail
  clear x0 x1
  (with_reducible refine (H_d.out _ _ _ _ ra rone).mono ?_)
  rintro e v6 ⟨Ad, cd, rfl, rd, hb6⟩
  simp only [bv, List.length_cons, List.length_nil, Nat.zero_add, Nat.reduceAdd] at *
  replace rone := ((rone).below hb6).alloc' (.cells #[.int .i64 1099511627776, .slice Ad 2 cd] 46)
  replace ka := ((ka).below hb6).alloc (.cells #[.int .i64 1099511627776, .slice Ad 2 cd] 46)
  replace ra := ((ra).below hb6).alloc' (.cells #[.int .i64 1099511627776, .slice Ad 2 cd] 46)
  replace kb := ((kb).below hb6).alloc (.cells #[.int .i64 1099511627776, .slice Ad 2 cd] 46)
  replace rb := ((rb).below hb6).alloc' (.cells #[.int .i64 1099511627776, .slice Ad 2 cd] 46)
  replace kc := ((kc).below hb6).alloc (.cells #[.int .i64 1099511627776, .slice Ad 2 cd] 46)
  replace rc := ((rc).below hb6).alloc' (.cells #[.int .i64 1099511627776, .slice Ad 2 cd] 46)
  replace hb := bal (bn hb hb6) (.cells #[.int .i64 1099511627776, .slice Ad 2 cd] 46)
  have kd := Blk.new v6 46 #[.int .i64 1099511627776, .slice Ad 2 cd]
  replace rd := rd.alloc' (.cells #[.int .i64 1099511627776, .slice Ad 2 cd] 46)
  clear hb6
  have x0 : (v6.alloc (.cells #[.int .i64 1099511627776, .slice Ad 2 cd] 46)).cell? ⟨v1.heap.size, 0, none⟩ = some (.int .i64 10) := ka.cell 0
  have x1 : (v6.alloc (.cells #[.int .i64 1099511627776, .slice Ad 2 cd] 46)).cell? ⟨v1.heap.size, 1, none⟩ = some (.slice Aa 1 ca) := ka.cell 1
  have rl := lit_part' (v6.alloc (.cells #[.int .i64 1099511627776, .slice Ad 2 cd] 46)) 0 0 1 0 _ rfl
  rw [show (v6.alloc (.cells #[.int .i64 1099511627776, .slice Ad 2 cd] 46)).heap.size = (v6.alloc (.cells #[.int .i64 1099511627776, .slice Ad 2 cd] 46)).heap.size from rfl] at rl
  go_wp2_with fail
  clear x0 x1
  (with_reducible refine (H_n7.out _ _ _ _ (ra.alloc' _) (by simpa using rl)).mono ?_)
  rintro e v7 ⟨An7, cn7, rfl, rn7, hb7⟩
  simp only [bv, List.length_cons, List.length_nil, Nat.zero_add, Nat.reduceAdd] at *
  replace rone := ((rone.alloc' _).below hb7).alloc' (.cells #[.int .i64 0, .slice An7 0 cn7] 46)
  replace ka := ((ka.alloc _).below hb7).alloc (.cells #[.int .i64 0, .slice An7 0 cn7] 46)
  replace ra := ((ra.alloc' _).below hb7).alloc' (.cells #[.int .i64 0, .slice An7 0 cn7] 46)
  replace kb := ((kb.alloc _).below hb7).alloc (.cells #[.int .i64 0, .slice An7 0 cn7] 46)
  replace rb := ((rb.alloc' _).below hb7).alloc' (.cells #[.int .i64 0, .slice An7 0 cn7] 46)
  replace kc := ((kc.alloc _).below hb7).alloc (.cells #[.int .i64 0, .slice An7 0 cn7] 46)
  replace rc := ((rc.alloc' _).below hb7).alloc' (.cells #[.int .i64 0, .slice An7 0 cn7] 46)
  replace kd := ((kd.alloc _).below hb7).alloc (.cells #[.int .i64 0, .slice An7 0 cn7] 46)
  replace rd := ((rd.alloc' _).below hb7).alloc' (.cells #[.int .i64 0, .slice An7 0 cn7] 46)
  replace hb := bal (bn (bal hb _) hb7) (.cells #[.int .i64 0, .slice An7 0 cn7] 46)
  clear rn7
  clear hb7 rl
  have x0 : (v7.alloc (.cells #[.int .i64 0, .slice An7 0 cn7] 46)).cell? ⟨v1.heap.size, 0, none⟩ = some (.int .i64 10) := ka.cell 0
  have x1 : (v7.alloc (.cells #[.int .i64 0, .slice An7 0 cn7] 46)).cell? ⟨v1.heap.size, 1, none⟩ = some (.slice Aa 1 ca) := ka.cell 1
  have rl := lit_part' (v7.alloc (.cells #[.int .i64 0, .slice An7 0 cn7] 46)) 0 60 1 5 _ rfl
  rw [show (v7.alloc (.cells #[.int .i64 0, .slice An7 0 cn7] 46)).heap.size = (v7.alloc (.cells #[.int .i64 0, .slice An7 0 cn7] 46)).heap.size from rfl] at rl
  go_wp2_with fail
  clear x0 x1
  (with_reducible refine (H_n8.out _ _ _ _ (ra.alloc' _) (by simpa using rl)).mono ?_)
  rintro e v8 ⟨An8, cn8, rfl, rn8, hb8⟩
  simp only [bv, List.length_cons, List.length_nil, Nat.zero_add, Nat.reduceAdd] at *
  replace rone := ((rone.alloc' _).below hb8).alloc' (.cells #[.int .i64 0, .slice An8 0 cn8] 46)
  replace ka := ((ka.alloc _).below hb8).alloc (.cells #[.int .i64 0, .slice An8 0 cn8] 46)
  replace ra := ((ra.alloc' _).below hb8).alloc' (.cells #[.int .i64 0, .slice An8 0 cn8] 46)
  replace kb := ((kb.alloc _).below hb8).alloc (.cells #[.int .i64 0, .slice An8 0 cn8] 46)
  replace rb := ((rb.alloc' _).below hb8).alloc' (.cells #[.int .i64 0, .slice An8 0 cn8] 46)
  replace kc := ((kc.alloc _).below hb8).alloc (.cells #[.int .i64 0, .slice An8 0 cn8] 46)
  replace rc := ((rc.alloc' _).below hb8).alloc' (.cells #[.int .i64 0, .slice An8 0 cn8] 46)
  replace kd := ((kd.alloc _).below hb8).alloc (.cells #[.int .i64 0, .slice An8 0 cn8] 46)
  replace rd := ((rd.alloc' _).below hb8).alloc' (.cells #[.int .i64 0, .slice An8 0 cn8] 46)
  replace hb := bal (bn (bal hb _) hb8) (.cells #[.int .i64 0, .slice An8 0 cn8] 46)
  clear rn8
  clear hb8 rl
  have x0 : (v8.alloc (.cells #[.int .i64 0, .slice An8 0 cn8] 46)).cell? ⟨v1.heap.size, 0, none⟩ = some (.int .i64 10) := ka.cell 0
  have x1 : (v8.alloc (.cells #[.int .i64 0, .slice An8 0 cn8] 46)).cell? ⟨v1.heap.size, 1, none⟩ = some (.slice Aa 1 ca) := ka.cell 1
  go_wp2_with fail
  clear x0 x1
  (with_reducible refine (H_n9.out _ _ _ ra).mono ?_)
  rintro e v9 ⟨An9, cn9, rfl, rn9, hb9⟩
  simp only [bv, List.length_cons, List.length_nil, Nat.zero_add, Nat.reduceAdd] at *
  replace rone := ((rone).below hb9).alloc' (.cells #[.int .i64 0, .slice An9 0 cn9] 46)
  replace ka := ((ka).below hb9).alloc (.cells #[.int .i64 0, .slice An9 0 cn9] 46)
  replace ra := ((ra).below hb9).alloc' (.cells #[.int .i64 0, .slice An9 0 cn9] 46)
  replace kb := ((kb).below hb9).alloc (.cells #[.int .i64 0, .slice An9 0 cn9] 46)
  replace rb := ((rb).below hb9).alloc' (.cells #[.int .i64 0, .slice An9 0 cn9] 46)
  replace kc := ((kc).below hb9).alloc (.cells #[.int .i64 0, .slice An9 0 cn9] 46)
  replace rc := ((rc).below hb9).alloc' (.cells #[.int .i64 0, .slice An9 0 cn9] 46)
  replace kd := ((kd).below hb9).alloc (.cells #[.int .i64 0, .slice An9 0 cn9] 46)
  replace rd := ((rd).below hb9).alloc' (.cells #[.int .i64 0, .slice An9 0 cn9] 46)
  replace hb := bal (bn hb hb9) (.cells #[.int .i64 0, .slice An9 0 cn9] 46)
  clear rn9
  clear hb9
  have x0 : (v9.alloc (.cells #[.int .i64 0, .slice An9 0 cn9] 46)).cell? ⟨v1.heap.size, 0, none⟩ = some (.int .i64 10) := ka.cell 0
  have x1 : (v9.alloc (.cells #[.int .i64 0, .slice An9 0 cn9] 46)).cell? ⟨v1.heap.size, 1, none⟩ = some (.slice Aa 1 ca) := ka.cell 1
  go_wp2_with fail
  clear x0 x1
  (with_reducible refine (H_f.out _ _ _ ra).mono ?_)
  rintro e v10 ⟨Af, cf, rfl, rf, hb10⟩
  simp only [bv, List.length_cons, List.length_nil, Nat.zero_add, Nat.reduceAdd] at *
  replace rone := ((rone).below hb10).alloc' (.cells #[.int .i64 10, .slice Af 1 cf] 46)
  replace ka := ((ka).below hb10).alloc (.cells #[.int .i64 10, .slice Af 1 cf] 46)
  replace ra := ((ra).below hb10).alloc' (.cells #[.int .i64 10, .slice Af 1 cf] 46)
  replace kb := ((kb).below hb10).alloc (.cells #[.int .i64 10, .slice Af 1 cf] 46)
  replace rb := ((rb).below hb10).alloc' (.cells #[.int .i64 10, .slice Af 1 cf] 46)
  replace kc := ((kc).below hb10).alloc (.cells #[.int .i64 10, .slice Af 1 cf] 46)
  replace rc := ((rc).below hb10).alloc' (.cells #[.int .i64 10, .slice Af 1 cf] 46)
  replace kd := ((kd).below hb10).alloc (.cells #[.int .i64 10, .slice Af 1 cf] 46)
  replace rd := ((rd).below hb10).alloc' (.cells #[.int .i64 10, .slice Af 1 cf] 46)
  replace hb := bal (bn hb hb10) (.cells #[.int .i64 10, .slice Af 1 cf] 46)
  have kf := Blk.new v10 46 #[.int .i64 10, .slice Af 1 cf]
  replace rf := rf.alloc' (.cells #[.int .i64 10, .slice Af 1 cf] 46)
  clear hb10
  go_wp2_with fail
  (with_reducible refine (chunk_new _).mono ?_)
  rintro e w1 ⟨g, rfl, hc1, hb1⟩
  have hz1 := hb1.size
  have HA1 : Hid (∀ ad, some (⟨w1.heap.size, 0, none⟩ : Addr) = some ad → ¬ ((v10.alloc (.cells #[.int .i64 10, .slice Af 1 cf] 46)).heap.size ≤ ad.block ∧ ad.block < w1.heap.size)) := fun ad e h => by cases e; simp only at h; omega
  go_wp2_with fail
  (with_reducible refine (HP1.out g _ _ _ (HLIT1.out w1 _) HA1.out (hc1.below (bal (Below.refl _ _) _))).mono ?_)
  rintro e w3 ⟨rfl, hk3, hc3⟩
  simp only at hc3
  have hz2 := hk3.size
  have hb3 : Below (v10.alloc (.cells #[.int .i64 10, .slice Af 1 cf] 46)).heap.size (v10.alloc (.cells #[.int .i64 10, .slice Af 1 cf] 46)) w3 := (bal hb1 _).trans (hk3.below (by simp at hz1 ⊢; omega) fun j hj => hj.1)
  obtain ⟨P3, hc3', hPL⟩ : ∃ P3 : Nat → Prop, Chunks w3 g P3 2 st1 ∧ ∀ j, P3 j → (v10.alloc (.cells #[.int .i64 10, .slice Af 1 cf] 46)).heap.size ≤ j ∧ j < w3.heap.size := ⟨_, hc3, fun j hj => by
    simp at hj hz1 hz2 ⊢
    omega⟩
  have HPL := Lib.hid hPL
  clear hc3 hPL hk3 HA1 hc1
  have lta := ka.lt
  have ala : Hid (∀ ad, Aa = some ad → ad.block < (v10.alloc (.cells #[.int .i64 10, .slice Af 1 cf] 46)).heap.size) := Lib.hid fun ad e => Rd.lt ra e (by simp [pcs, flat, pc])
  have ltb := kb.lt
  have alb : Hid (∀ ad, Ab = some ad → ad.block < (v10.alloc (.cells #[.int .i64 10, .slice Af 1 cf] 46)).heap.size) := Lib.hid fun ad e => Rd.lt rb e (by simp [pcs, flat, pc])
  have ltc := kc.lt
  have alc : Hid (∀ ad, Ac = some ad → ad.block < (v10.alloc (.cells #[.int .i64 10, .slice Af 1 cf] 46)).heap.size) := Lib.hid fun ad e => Rd.lt rc e (by simp [pcs, flat, pc])
  have ltd := kd.lt
  have ald : Hid (∀ ad, Ad = some ad → ad.block < (v10.alloc (.cells #[.int .i64 10, .slice Af 1 cf] 46)).heap.size) := Lib.hid fun ad e => Rd.lt rd e (by simp [pcs, flat, pc])
  have ltf := kf.lt
  have alf : Hid (∀ ad, Af = some ad → ad.block < (v10.alloc (.cells #[.int .i64 10, .slice Af 1 cf] 46)).heap.size) := Lib.hid fun ad e => Rd.lt rf e (by simp [pcs, flat, pc])
  replace ka := ka.below hb3
  replace ra := ra.below hb3
  replace kb := kb.below hb3
  replace rb := rb.below hb3
  replace kc := kc.below hb3
  replace rc := rc.below hb3
  replace kd := kd.below hb3
  replace rd := rd.below hb3
  replace kf := kf.below hb3
  replace rf := rf.below hb3
  have hwx := hb.size
  replace hb := bn hb hb3
  have hzc := hb3.size
  have hzw : w3.heap.size ≤ w3.heap.size := Nat.le_refl _
  clear hb3 hb1 hz1 hz2 rone
  have x0 : w3.cell? ⟨v2.heap.size, 0, none⟩ = some (.int .i64 10) := kb.cell 0
  have x1 : w3.cell? ⟨v2.heap.size, 1, none⟩ = some (.slice Ab 3 cb) := kb.cell 1
  go_wp2_with fail
  clear x0 x1
  (with_reducible refine (H_r2.out _ _ _ _ _ _ rb hc3').mono ?_)
  rintro e w4' ⟨Ar2, cr2, rfl, hrb, hfr, hb4⟩
  simp only [List.length_cons, List.length_nil, Nat.zero_add, Nat.reduceAdd] at *
  replace ka := ka.below hb4
  replace ra := ra.below hb4
  replace kb := kb.below hb4
  replace rb := rb.below hb4
  replace kc := kc.below hb4
  replace rc := rc.below hb4
  replace kd := kd.below hb4
  replace rd := rd.below hb4
  replace kf := kf.below hb4
  replace rf := rf.below hb4
  replace hc3' := hc3'.below hb4
  replace hb := bn hb hb4
  replace hzw := Nat.le_trans hzw hb4.size
  clear hrb hfr hb4
  have x0 : w4'.cell? ⟨v1.heap.size, 0, none⟩ = some (.int .i64 10) := ka.cell 0
  have x1 : w4'.cell? ⟨v1.heap.size, 1, none⟩ = some (.slice Aa 1 ca) := ka.cell 1
  go_wp2_with fail
  clear x0 x1
  (with_reducible refine (H_r3.out _ _ _ _ _ _ ra hc3').mono ?_)
  rintro e w5' ⟨Ar3, cr3, rfl, hrb, hfr, hb5⟩
  simp only [List.length_cons, List.length_nil, Nat.zero_add, Nat.reduceAdd] at *
  replace ka := ka.below hb5
  replace ra := ra.below hb5
  replace kb := kb.below hb5
  replace rb := rb.below hb5
  replace kc := kc.below hb5
  replace rc := rc.below hb5
  replace kd := kd.below hb5
  replace rd := rd.below hb5
  replace kf := kf.below hb5
  replace rf := rf.below hb5
  replace hc3' := hc3'.below hb5
  replace hb := bn hb hb5
  have hfr3 : Hid (∀ ad, Ar3 = some ad → w3.heap.size ≤ ad.block) := Lib.hid fun ad e => Nat.le_trans hzw (hfr ad e)
  have rb3 := hrb
  replace hzw := Nat.le_trans hzw hb5.size
  clear hrb hfr hb5
  have x0 : w5'.cell? ⟨v1.heap.size, 0, none⟩ = some (.int .i64 10) := ka.cell 0
  have x1 : w5'.cell? ⟨v1.heap.size, 1, none⟩ = some (.slice Aa 1 ca) := ka.cell 1
  go_wp2_with fail
  clear x0 x1
  (with_reducible refine (H_r4.out _ _ _ _ _ _ ra hc3').mono ?_)
  rintro e w6' ⟨Ar4, cr4, rfl, hrb, hfr, hb6⟩
  simp only [List.length_cons, List.length_nil, Nat.zero_add, Nat.reduceAdd] at *
  replace ka := ka.below hb6
  replace ra := ra.below hb6
  replace kb := kb.below hb6
  replace rb := rb.below hb6
  replace kc := kc.below hb6
  replace rc := rc.below hb6
  replace kd := kd.below hb6
  replace rd := rd.below hb6
  replace kf := kf.below hb6
  replace rf := rf.below hb6
  replace hc3' := hc3'.below hb6
  replace rb3 := RB.below rb3 hb6
  replace hb := bn hb hb6
  replace hzw := Nat.le_trans hzw hb6.size
  clear hrb hfr hb6
  have x0 : w6'.cell? ⟨v1.heap.size, 0, none⟩ = some (.int .i64 10) := ka.cell 0
  have x1 : w6'.cell? ⟨v1.heap.size, 1, none⟩ = some (.slice Aa 1 ca) := ka.cell 1
  go_wp2_with fail
  clear x0 x1
  (with_reducible refine (H_r5.out _ _ _ _ _ _ ra hc3').mono ?_)
  rintro e w7' ⟨Ar5, cr5, rfl, hrb, hfr, hb7⟩
  simp only [List.length_cons, List.length_nil, Nat.zero_add, Nat.reduceAdd] at *
  replace ka := ka.below hb7
  replace ra := ra.below hb7
  replace kb := kb.below hb7
  replace rb := rb.below hb7
  replace kc := kc.below hb7
  replace rc := rc.below hb7
  replace kd := kd.below hb7
  replace rd := rd.below hb7
  replace kf := kf.below hb7
  replace rf := rf.below hb7
  replace hc3' := hc3'.below hb7
  replace rb3 := RB.below rb3 hb7
  replace hb := bn hb hb7
  replace hzw := Nat.le_trans hzw hb7.size
  clear hrb hfr hb7
  have x0 : w7'.cell? ⟨v1.heap.size, 0, none⟩ = some (.int .i64 10) := ka.cell 0
  have x1 : w7'.cell? ⟨v1.heap.size, 1, none⟩ = some (.slice Aa 1 ca) := ka.cell 1
  go_wp2_with fail
  clear x0 x1
  (with_reducible refine (H_r6.out _ _ _ _ _ _ ra hc3').mono ?_)
  rintro e w8' ⟨Ar6, cr6, rfl, hrb, hfr, hb8⟩
  simp only [List.length_cons, List.length_nil, Nat.zero_add, Nat.reduceAdd] at *
  replace ka := ka.below hb8
  replace ra := ra.below hb8
  replace kb := kb.below hb8
  replace rb := rb.below hb8
  replace kc := kc.below hb8
  replace rc := rc.below hb8
  replace kd := kd.below hb8
  replace rd := rd.below hb8
  replace kf := kf.below hb8
  replace rf := rf.below hb8
  replace hc3' := hc3'.below hb8
  replace rb3 := RB.below rb3 hb8
  replace hb := bn hb hb8
  replace hzw := Nat.le_trans hzw hb8.size
  clear hrb hfr hb8
  have HA2 : Hid (∀ ad, some (⟨w8'.heap.size, 0, none⟩ : Addr) = some ad → ¬ P3 ad.block) := fun ad e h => by cases e; have := (HPL.out _ h).2; simp only at this; omega
  go_wp2_with fail
  (with_reducible refine (HP2.out g P3 _ _ (HLIT2.out w8' _) HA2.out (hc3'.below (bal (Below.refl _ _) _))).mono ?_)
  rintro e w20 ⟨rfl, hk20, hc20⟩
  simp only at hc20
  replace ka := (ka.alloc _).kp hk20 (fun h => by have := (HPL.out _ h).1; omega)
  replace ra := (ra.alloc' _).kp hk20 (fun ad e h => by have := (HPL.out _ h).1; have := ala.out ad e; omega)
  replace kb := (kb.alloc _).kp hk20 (fun h => by have := (HPL.out _ h).1; omega)
  replace rb := (rb.alloc' _).kp hk20 (fun ad e h => by have := (HPL.out _ h).1; have := alb.out ad e; omega)
  replace kc := (kc.alloc _).kp hk20 (fun h => by have := (HPL.out _ h).1; omega)
  replace rc := (rc.alloc' _).kp hk20 (fun ad e h => by have := (HPL.out _ h).1; have := alc.out ad e; omega)
  replace kd := (kd.alloc _).kp hk20 (fun h => by have := (HPL.out _ h).1; omega)
  replace rd := (rd.alloc' _).kp hk20 (fun ad e h => by have := (HPL.out _ h).1; have := ald.out ad e; omega)
  replace kf := (kf.alloc _).kp hk20 (fun h => by have := (HPL.out _ h).1; omega)
  replace rf := (rf.alloc' _).kp hk20 (fun ad e h => by have := (HPL.out _ h).1; have := alf.out ad e; omega)
  replace rb3 := (Rd.alloc' rb3 _).kp hk20 (fun ad e h => by have := (HPL.out _ h).2; have := hfr3.out ad e; omega)
  replace hb := (bal hb _).trans (hk20.below (by have := hb.size; simp; omega) fun j hj => Nat.le_trans hwx (HPL.out _ hj).1)
  clear hc3' hk20 HA2 hzw
  have x0 : w20.cell? ⟨v2.heap.size, 0, none⟩ = some (.int .i64 10) := kb.cell 0
  have x1 : w20.cell? ⟨v2.heap.size, 1, none⟩ = some (.slice Ab 3 cb) := kb.cell 1
  go_wp2_with fail
  clear x0 x1
  (with_reducible refine (H_r7.out _ _ _ _ _ _ rb hc20).mono ?_)
  rintro e w9' ⟨Ar7, cr7, rfl, hrb, hfr, hb9⟩
  simp only [List.length_cons, List.length_nil, Nat.zero_add, Nat.reduceAdd] at *
  replace ka := ka.below hb9
  replace ra := ra.below hb9
  replace kb := kb.below hb9
  replace rb := rb.below hb9
  replace kc := kc.below hb9
  replace rc := rc.below hb9
  replace kd := kd.below hb9
  replace rd := rd.below hb9
  replace kf := kf.below hb9
  replace rf := rf.below hb9
  replace rb3 := RB.below rb3 hb9
  replace hc20 := hc20.below hb9
  replace hb := bn hb hb9
  clear hrb hfr hb9
  have hcv := run_str_try w9' Ar3 cr3 6 [52, 53, 54, 55, 56, 57] rfl rb3
  obtain ⟨b0, o0, rfl, _, q0⟩ := part_at rb 0 (by decide)
  obtain ⟨b0', o0', e1, _, q1⟩ := part_at rb 1 (by decide)
  cases e1
  obtain ⟨b0', o0', e2, _, q2⟩ := part_at rb 2 (by decide)
  cases e2
  obtain ⟨b1, o1, rfl, _, s2⟩ := part_at rc 2 (by decide)
  obtain ⟨q00, q01, q02, q03⟩ := q0 _ (Below.refl _ _)
  obtain ⟨q10, q11, q12, q13⟩ := q1 _ (Below.refl _ _)
  obtain ⟨q20, q21, q22, q23⟩ := q2 _ (Below.refl _ _)
  obtain ⟨_, s21, _, _⟩ := s2 _ (Below.refl _ _)
  simp only [List.getElem_cons_zero, List.getElem_cons_succ, Nat.zero_mul, Nat.one_mul, Nat.add_zero, Nat.reduceMul] at q00 q01 q02 q03 q10 q11 q12 q13 q20 q21 q22 q23 s21
  have x0 : w9'.cell? ⟨v2.heap.size, 0, none⟩ = some (.int .i64 10) := kb.cell 0
  have x1 : w9'.cell? ⟨v2.heap.size, 1, none⟩ = some (.slice (some ⟨b0, o0, none⟩) 3 cb) := kb.cell 1
  have x2 : w9'.cell? ⟨v3.heap.size, 0, none⟩ = some (.int .i64 8) := kc.cell 0
  have x3 : w9'.cell? ⟨v3.heap.size, 1, none⟩ = some (.slice (some ⟨b1, o1, none⟩) 3 cc) := kc.cell 1
  have x4 : w9'.cell? ⟨v6.heap.size, 0, none⟩ = some (.int .i64 1099511627776) := kd.cell 0
  have x5 : w9'.cell? ⟨v10.heap.size, 0, none⟩ = some (.int .i64 10) := kf.cell 0
  clear q0 q1 q2 s2
  go_wp2_with fail
  go_ret
  exact ⟨rfl, hb⟩
end Go.Proofs.Ytpnfgnddlfkfaaa
