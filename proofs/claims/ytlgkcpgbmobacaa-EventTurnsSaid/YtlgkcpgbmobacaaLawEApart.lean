/-
  What EventApart calls and gives.
-/
import Derived.Test.YtlgkcpgbmobacaaLawEReads
import Derived.Test.YtlgkcpgbmobacaaLaw14S
set_option linter.unusedSimpArgs false
set_option linter.unusedVariables false
namespace Go.Proofs.Ytlgkcpgbmobacaa
open Go.RowKit

theorem str_list (a : List UInt8) : (⟨a.toArray⟩ : ByteArray).toList = a := by simp
def BytesPost (w : World) (i : Item) (e : Ending) (w' : World) : Prop :=
  ∃ (A : Option Addr) (n c : Nat) (k : Int), e = .returned (.tuple #[.slice A n c, .int .i64 k]) ∧ (may i = true → k = 0 ∧ n = (enc i).length ∧ RB w' A (enc i)) ∧ (may i = false → k = 1 ∧ n = 0 ∧ A = none) ∧ Below w.heap.size w w'
theorem event_bytes_any (i : Item) (A5 : Option Addr) (c5 : Nat) (A6 : Option Addr) (c6 : Nat) (w : World) (hr : Rd w A6 (pcs i.parts)) (hA6 : ∀ ad, A6 = some ad → ad.block < w.heap.size) (hl : i.parts.length ≤ 4000000000000) :
    Calls Try.prog 39 #[iv i A5 c5 A6 c6] w fun e w' => BytesPost w i e w' := by
  cases hm : may i with
  | true =>
    refine (event_bytes i A5 c5 A6 c6 w hr hA6 hl hm).mono ?_
    rintro e w3 ⟨v3, rfl, ho3, hb3⟩
    obtain ⟨A3, c3, rfl, k3, r3⟩ := ho3.bytes
    exact ⟨A3, _, c3, 0, rfl, (fun _ => ⟨rfl, rfl, r3⟩), (fun h => by rw [hm] at h; cases h), hb3⟩
  | false =>
    refine (event_bytes_no i A5 c5 A6 c6 w hr (by omega) hm).mono ?_
    rintro e w3 ⟨rfl, hb3⟩
    exact ⟨none, 0, 0, 1, rfl, (fun h => by rw [hm] at h; cases h), (fun _ => ⟨rfl, rfl, rfl⟩), hb3⟩
theorem apart_law {a b : Item} (ha : may a = true) (hb : may b = true) (hla : a.parts.length ≤ 4611686018427387904) (hlb : b.parts.length ≤ 4611686018427387904) {r : Bool} (h : r = true ↔ a.op = b.op ∧ a.path = b.path ∧ a.to_ = b.to_ ∧ a.off = b.off ∧ a.size = b.size ∧ a.data = 0 ∧ a.parts = b.parts) :
    ((⟨(enc a).toArray⟩ : ByteArray).toList == (⟨(enc b).toArray⟩ : ByteArray).toList) = r := by
  rw [str_list, str_list, Bool.eq_iff_iff, h, beq_iff_eq]
  have hda := ((may_iff a).1 ha).1.2.2.2.2.1
  have hdb := ((may_iff b).1 hb).1.2.2.2.2.1
  constructor
  · intro e2
    have := enc_inj ha hb hla hlb e2
    subst this
    exact ⟨rfl, rfl, rfl, rfl, rfl, hda, rfl⟩
  · rintro ⟨e1, e2, e3, e4, e5, e6, e7⟩
    have : a = b := by
      cases a; cases b
      simp only at *
      subst e1 e2 e3 e4 e5 e7
      rw [hda, hdb]
    rw [this]

set_option maxRecDepth 100000 in
set_option maxHeartbeats 1000000 in
theorem eapart_walk (a b : Item) (A5 : Option Addr) (c5 : Nat) (A6 : Option Addr) (c6 : Nat) (B5 : Option Addr) (d5 : Nat) (B6 : Option Addr) (d6 : Nat) (w : World) (ha1 : a.path.length ≤ 9223372036854775807) (ha2 : a.to_.length ≤ 9223372036854775807) (ha3 : a.parts.length ≤ 9223372036854775807) (ha4 : a.data ≤ 9223372036854775807)
    (hb1 : b.path.length ≤ 9223372036854775807) (hb2 : b.to_.length ≤ 9223372036854775807) (hb3 : b.parts.length ≤ 9223372036854775807) (hb4 : b.data ≤ 9223372036854775807) (hra : Rd w A6 (pcs a.parts)) (hrb : Rd w B6 (pcs b.parts)) :
    Calls Try.prog 12 #[iv a A5 c5 A6 c6, iv b B5 d5 B6 d6] w fun e w' => e = .returned (.bool true) ∧ Below w.heap.size w w' := by
  have HSa := Lib.hid fun W => law14_small a A5 c5 A6 c6 W ha1 ha2 ha3 ha4
  have HSb := Lib.hid fun W => law14_small b B5 d5 B6 d6 W hb1 hb2 hb3 hb4
  have HMa : Hid (decide (a.path.length ≤ 500 ∧ a.to_.length ≤ 500 ∧ a.parts.length ≤ 100 ∧ a.data ≤ 500) = true → a.parts.length ≤ 100) := fun h => (of_decide_eq_true h).2.2.1
  have HMb : Hid (decide (b.path.length ≤ 500 ∧ b.to_.length ≤ 500 ∧ b.parts.length ≤ 100 ∧ b.data ≤ 500) = true → b.parts.length ≤ 100) := fun h => (of_decide_eq_true h).2.2.1
  generalize decide (a.path.length ≤ 500 ∧ a.to_.length ≤ 500 ∧ a.parts.length ≤ 100 ∧ a.data ≤ 500) = sa at HSa HMa
  generalize decide (b.path.length ≤ 500 ∧ b.to_.length ≤ 500 ∧ b.parts.length ≤ 100 ∧ b.data ≤ 500) = sb at HSb HMb
  have HNa := Lib.hid fun W (h : a.parts.length ≤ 100) (hb : Below w.heap.size w W) => law14_made a A5 c5 A6 c6 W (by omega) (hra.below hb)
  have HNb := Lib.hid fun W (h : b.parts.length ≤ 100) (hb : Below w.heap.size w W) => law14_made b B5 d5 B6 d6 W (by omega) (hrb.below hb)
  have HPa := Lib.hid fun (A : Option Addr) (c : Nat) (W : World) (h : a.parts.length ≤ 100) (hr : Rd W A (pcs a.parts)) (hA : ∀ ad, A = some ad → ad.block < W.heap.size) => event_bytes_any a A5 c5 A c W hr hA (by omega)
  have HPb := Lib.hid fun (A : Option Addr) (c : Nat) (W : World) (h : b.parts.length ≤ 100) (hr : Rd W A (pcs b.parts)) (hA : ∀ ad, A = some ad → ad.block < W.heap.size) => event_bytes_any b B5 d5 A c W hr hA (by omega)
  have HQ := Lib.hid fun (A : Option Addr) (c : Nat) (W : World) (h : a.parts.length ≤ 100) (h2 : b.parts.length ≤ 100) (hr : Rd W A (pcs a.parts)) (hb : Below w.heap.size w W) => law14_same a b A5 c5 A c B5 d5 B6 d6 W (by omega) (by omega) (by omega) hr (hrb.below hb)
  have HL := Lib.hid fun (ha : may a = true) (hb : may b = true) (hla : a.parts.length ≤ 100) (hlb : b.parts.length ≤ 100) (r : Bool) h => apart_law (a := a) (b := b) ha hb (by omega) (by omega) (r := r) h
  clear hra hrb ha1 ha2 ha3 ha4 hb1 hb2 hb3 hb4
  obtain ⟨op, path, to_, off, size, data, ps⟩ := a
  obtain ⟨op2, path2, to2, off2, size2, data2, ps2⟩ := b
  simp only [iv_eq] at *
  have hBa := (Blk.new w 61 #[.int .i64 op, .string ⟨path.toArray⟩, .string ⟨to_.toArray⟩, .int .i64 off, .int .i64 size, .slice A5 data c5, .slice A6 ps.length c6]).alloc (.cells #[.int .i64 op2, .string ⟨path2.toArray⟩, .string ⟨to2.toArray⟩, .int .i64 off2, .int .i64 size2, .slice B5 data2 d5, .slice B6 ps2.length d6] 61)
  have hBb := Blk.new (w.alloc (.cells #[.int .i64 op, .string ⟨path.toArray⟩, .string ⟨to_.toArray⟩, .int .i64 off, .int .i64 size, .slice A5 data c5, .slice A6 ps.length c6] 61)) 61 #[.int .i64 op2, .string ⟨path2.toArray⟩, .string ⟨to2.toArray⟩, .int .i64 off2, .int .i64 size2, .slice B5 data2 d5, .slice B6 ps2.length d6]
  rw [size_more] at hBb
  have hb0 := bal (bal (Below.refl w.heap.size w) (.cells #[.int .i64 op, .string ⟨path.toArray⟩, .string ⟨to_.toArray⟩, .int .i64 off, .int .i64 size, .slice A5 data c5, .slice A6 ps.length c6] 61)) (.cells #[.int .i64 op2, .string ⟨path2.toArray⟩, .string ⟨to2.toArray⟩, .int .i64 off2, .int .i64 size2, .slice B5 data2 d5, .slice B6 ps2.length d6] 61)
  go_enter Try.func12, Try.ntmps12
  go_wp2_with fail
  generalize hW0 : ((w.alloc (.cells #[.int .i64 op, .string ⟨path.toArray⟩, .string ⟨to_.toArray⟩, .int .i64 off, .int .i64 size, .slice A5 data c5, .slice A6 ps.length c6] 61)).alloc (.cells #[.int .i64 op2, .string ⟨path2.toArray⟩, .string ⟨to2.toArray⟩, .int .i64 off2, .int .i64 size2, .slice B5 data2 d5, .slice B6 ps2.length d6] 61)) = W0 at *
  clear hW0
  have HKa : Hid (∀ W, Below W0.heap.size W0 W → W.cell? ⟨w.heap.size, 0, none⟩ = some (.int .i64 op) ∧ W.cell? ⟨w.heap.size, 1, none⟩ = some (.string ⟨path.toArray⟩) ∧ W.cell? ⟨w.heap.size, 2, none⟩ = some (.string ⟨to_.toArray⟩) ∧ W.cell? ⟨w.heap.size, 3, none⟩ = some (.int .i64 off) ∧ W.cell? ⟨w.heap.size, 4, none⟩ = some (.int .i64 size) ∧ W.cell? ⟨w.heap.size, 5, none⟩ = some (.slice A5 data c5) ∧ W.cell? ⟨w.heap.size, 6, none⟩ = some (.slice A6 ps.length c6)) := fun W h => ⟨(hBa.below h).cell 0, (hBa.below h).cell 1, (hBa.below h).cell 2, (hBa.below h).cell 3, (hBa.below h).cell 4, (hBa.below h).cell 5, (hBa.below h).cell 6⟩
  have HKb : Hid (∀ W, Below W0.heap.size W0 W → W.cell? ⟨w.heap.size + 1, 0, none⟩ = some (.int .i64 op2) ∧ W.cell? ⟨w.heap.size + 1, 1, none⟩ = some (.string ⟨path2.toArray⟩) ∧ W.cell? ⟨w.heap.size + 1, 2, none⟩ = some (.string ⟨to2.toArray⟩) ∧ W.cell? ⟨w.heap.size + 1, 3, none⟩ = some (.int .i64 off2) ∧ W.cell? ⟨w.heap.size + 1, 4, none⟩ = some (.int .i64 size2) ∧ W.cell? ⟨w.heap.size + 1, 5, none⟩ = some (.slice B5 data2 d5) ∧ W.cell? ⟨w.heap.size + 1, 6, none⟩ = some (.slice B6 ps2.length d6)) := fun W h => ⟨(hBb.below h).cell 0, (hBb.below h).cell 1, (hBb.below h).cell 2, (hBb.below h).cell 3, (hBb.below h).cell 4, (hBb.below h).cell 5, (hBb.below h).cell 6⟩
  have HB0 : Hid (∀ W, Below W0.heap.size W0 W → Below w.heap.size w W) := fun W h => hb0.trans (h.mono hb0.size)
  clear hBa hBb hb0
  refine (law14_awake _).mono ?_
  rintro e w1 ⟨rfl, hb1⟩
  obtain ⟨x0, x1, x2, x3, x4, x5, x6⟩ := HKa.out _ hb1
  go_wp2_with fail
  clear x0 x1 x2 x3 x4 x5 x6
  (with_reducible refine (HSa.out _).mono ?_)
  rintro e w2 ⟨rfl, hb2⟩
  have hb12 := bn hb1 hb2
  clear hb1 hb2
  cases sa
  · go_wp2
    go_ret
    exact ⟨rfl, HB0.out _ hb12⟩
  · have HHa := Lib.hid (HMa.out rfl)
    obtain ⟨x0, x1, x2, x3, x4, x5, x6⟩ := HKb.out _ hb12
    go_wp2_with fail
    clear x0 x1 x2 x3 x4 x5 x6
    (with_reducible refine (HSb.out _).mono ?_)
    rintro e w3 ⟨rfl, hb3⟩
    have hb13 := bn hb12 hb3
    clear hb12 hb3
    cases sb
    · go_wp2
      go_ret
      exact ⟨rfl, HB0.out _ hb13⟩
    · have HHb := Lib.hid (HMb.out rfl)
      obtain ⟨x0, x1, x2, x3, x4, x5, x6⟩ := HKa.out _ hb13
      go_wp2_with fail
      clear x0 x1 x2 x3 x4 x5 x6
      (with_reducible refine (HNa.out _ HHa.out (HB0.out _ hb13)).mono ?_)
      rintro e w4 ⟨Aa, ca, rfl, hra, haa, hb4⟩
      have hb14 := bn hb13 hb4
      clear hb13 hb4
      simp only [iv_eq]
      go_wp2_with fail
      (with_reducible refine (HPa.out _ _ _ HHa.out hra (fun ad e => (haa ad e).2)).mono ?_)
      rintro e w5 ⟨Ax, nx, cx, kx, rfl, hx1, hx2, hb5⟩
      have hb15 := bn hb14 hb5
      clear hb14 hb5 hra haa
      obtain ⟨x0, x1, x2, x3, x4, x5, x6⟩ := HKb.out _ hb15
      go_wp2_with fail
      clear x0 x1 x2 x3 x4 x5 x6
      (with_reducible refine (HNb.out _ HHb.out (HB0.out _ hb15)).mono ?_)
      rintro e w6 ⟨Ab, cb, rfl, hrb, hab, hb6⟩
      have hb16 := bn hb15 hb6
      have hb56 := hb6
      clear hb15 hb6
      simp only [iv_eq]
      go_wp2_with fail
      (with_reducible refine (HPb.out _ _ _ HHb.out hrb (fun ad e => (hab ad e).2)).mono ?_)
      rintro e w7 ⟨Ay, ny, cy, ky, rfl, hy1, hy2, hb7⟩
      have hb17 := bn hb16 hb7
      have hb57 := bn hb56 hb7
      clear hb16 hb7 hb56 hrb hab
      cases hma : may ⟨op, path, to_, off, size, data, ps⟩
      · obtain ⟨rfl, rfl, rfl⟩ := hx2 hma
        clear hx1 hx2 hy1 hy2 HSa HSb HMa HMb HNa HNb HPa HPb HL HKa HKb hma
        go_wp2
        go_quiet (fail)
        go_wp2
        go_ret
        exact ⟨rfl, HB0.out _ (below_drewN hb17 _)⟩
      · obtain ⟨rfl, rfl, hrx⟩ := hx1 hma
        cases hmb : may ⟨op2, path2, to2, off2, size2, data2, ps2⟩
        · obtain ⟨rfl, rfl, rfl⟩ := hy2 hmb
          clear hx1 hx2 hy1 hy2 HSa HSb HMa HMb HNa HNb HPa HPb HL HKa HKb hma
          go_wp2
          go_quiet (fail)
          go_wp2
          go_ret
          exact ⟨rfl, HB0.out _ (below_drewN hb17 _)⟩
        · obtain ⟨rfl, rfl, hry⟩ := hy1 hmb
          have HLL := Lib.hid (HL.out hma hmb HHa.out HHb.out)
          clear hx1 hx2 hy1 hy2 HSa HSb HMa HMb HNb HPa HPb HL hma hmb
          have hk := bdr (Below.refl w7.heap.size w7)
          have hrx7 := hrx.below hb57
          clear hrx
          generalize enc ⟨op, path, to_, off, size, data, ps⟩ = la at *
          generalize enc ⟨op2, path2, to2, off2, size2, data2, ps2⟩ = lb at *
          have HX : Hid (∀ W, Below w7.heap.size w7 W → (convert 24 9 (.slice Ax la.length cx)).run Try.prog W = .ok (.string ⟨la.toArray⟩) W ∧ (convert 24 9 (.slice Ay lb.length cy)).run Try.prog W = .ok (.string ⟨lb.toArray⟩) W) := fun W h => ⟨run_str_try W Ax cx _ la rfl (hrx7.below h), run_str_try W Ay cy _ lb rfl (hry.below h)⟩
          have HKW := Lib.hid fun W (h : Below w7.heap.size w7 W) => (⟨HKa.out W (bn hb17 h), HKb.out W (bn hb17 h)⟩ : _ ∧ _)
          have HB7 : Hid (∀ W, Below w7.heap.size w7 W → Below w.heap.size w W) := fun W h => HB0.out _ (bn hb17 h)
          clear hrx7 hry hb57 HKa HKb HB0 hb17
          generalize hsA : (⟨la.toArray⟩ : ByteArray) = sA at *
          generalize hsB : (⟨lb.toArray⟩ : ByteArray) = sB at *
          go_wp2
          go_region_held (fun W => Below w7.heap.size w7 W ∧ ((convert 24 9 (.slice Ax la.length cx)).run Try.prog W = .ok (.string sA) W ∧ (convert 24 9 (.slice Ay lb.length cy)).run Try.prog W = .ok (.string sB) W) ∧ (W.cell? ⟨w.heap.size, 0, none⟩ = some (.int .i64 op) ∧ W.cell? ⟨w.heap.size, 1, none⟩ = some (.string ⟨path.toArray⟩) ∧ W.cell? ⟨w.heap.size, 2, none⟩ = some (.string ⟨to_.toArray⟩) ∧ W.cell? ⟨w.heap.size, 3, none⟩ = some (.int .i64 off) ∧ W.cell? ⟨w.heap.size, 4, none⟩ = some (.int .i64 size) ∧ W.cell? ⟨w.heap.size, 5, none⟩ = some (.slice A5 data c5) ∧ W.cell? ⟨w.heap.size, 6, none⟩ = some (.slice A6 ps.length c6)) ∧ (W.cell? ⟨w.heap.size + 1, 0, none⟩ = some (.int .i64 op2) ∧ W.cell? ⟨w.heap.size + 1, 1, none⟩ = some (.string ⟨path2.toArray⟩) ∧ W.cell? ⟨w.heap.size + 1, 2, none⟩ = some (.string ⟨to2.toArray⟩) ∧ W.cell? ⟨w.heap.size + 1, 3, none⟩ = some (.int .i64 off2) ∧ W.cell? ⟨w.heap.size + 1, 4, none⟩ = some (.int .i64 size2) ∧ W.cell? ⟨w.heap.size + 1, 5, none⟩ = some (.slice B5 data2 d5) ∧ W.cell? ⟨w.heap.size + 1, 6, none⟩ = some (.slice B6 ps2.length d6)))
            (exact ⟨hk, HX.out _ hk, HKW.out _ hk⟩) (first
            | (go_at_call 40; (with_reducible refine (HNa.out _ HHa.out (HB7.out _ hk)).mono ?_); rintro e w' ⟨Am, cm, rfl, hrm, ham, hb'⟩; simp only [iv_eq]; replace hk := bn hk hb'; clear hb' ham)
            | (go_at_call 46; (with_reducible refine (HQ.out _ _ _ HHa.out HHb.out (by assumption) (HB7.out _ hk)).mono ?_); rintro e w' ⟨r, rfl, hr, hb'⟩; replace hk := bn hk hb'; clear hb'))
          clear HX HKW HNa HQ
          all_goals go_wp2
          all_goals go_ret
          all_goals exact ⟨ret_bool (by rw [HLL.out r hr]; simp), HB7.out _ hk⟩
end Go.Proofs.Ytlgkcpgbmobacaa
