/-
  Bodies: May.
-/
import Derived.Test.YtpnfgnddlfkfaaaParts
set_option linter.unusedSimpArgs false
set_option linter.unusedVariables false
namespace Go.Proofs.Ytpnfgnddlfkfaaa
open Go.RowKit

def bv (size : Int) (A : Option Addr) (n c : Nat) : Value := .agg #[.int .i64 size, .slice A n c]
def partsOk (size : Int) : Int → List Part → Bool
  | _, [] => true
  | x, p :: ps => fits p && decide (x ≤ p.off) && decide (p.off ≤ size - p.len) && partsOk size (p.off + p.len) ps
theorem partsOk_cons (size x : Int) (p : Part) (ps : List Part) : partsOk size x (p :: ps) = (fits p && decide (x ≤ p.off) && decide (p.off ≤ size - p.len) && partsOk size (p.off + p.len) ps) := rfl
def bodyMay (size : Int) (ps : List Part) : Bool := decide (0 ≤ size ∧ size ≤ 1099511627776) && partsOk size 0 ps

set_option maxRecDepth 100000 in
set_option maxHeartbeats 2000000 in
theorem body_may (size : Int) (A : Option Addr) (n c : Nat) (ps : List Part) (w : World) (hn : ps.length = n) (hl : n ≤ 9223372036854775807) (hr : Rd w A (pcs ps)) :
    Calls Try.prog 32 #[bv size A n c] w fun e w' => e = .returned (.bool (bodyMay size ps)) ∧ Below w.heap.size w w' := by
  subst hn
  unfold bv
  have HR := Lib.hid hr
  clear hr
  by_cases hs : size < 0
  · have he : bodyMay size ps = false := by unfold bodyMay; rw [decide_eq_false (by omega)]; rfl
    rw [he]
    go_enter Try.func32, Try.ntmps32
    go_wp2
    go_ret
    exact ⟨rfl, bal (Below.refl _ _) _⟩
  by_cases hs2 : 1099511627776 < size
  · have he : bodyMay size ps = false := by unfold bodyMay; rw [decide_eq_false (by omega)]; rfl
    rw [he]
    have hs3 : 0 ≤ size := by omega
    go_enter Try.func32, Try.ntmps32
    go_wp2
    go_ret
    exact ⟨rfl, bal (Below.refl _ _) _⟩
  have hs3 : 0 ≤ size := by omega
  have hs4 : size ≤ 1099511627776 := by omega
  have HE : Hid (bodyMay size ps = partsOk size 0 ps) := Lib.hid (by unfold bodyMay; rw [decide_eq_true ⟨hs3, hs4⟩]; rfl)
  have hB1 := Blk.new w 46 #[.int .i64 size, .slice A ps.length c]
  have hb1 := bal (Below.refl w.heap.size w) (.cells #[.int .i64 size, .slice A ps.length c] 46)
  go_enter Try.func32, Try.ntmps32
  go_wp2
  generalize (w.alloc (.cells #[.int .i64 size, .slice A ps.length c] 46)) = W1 at *
  have HC0 : Hid (∀ W, Below W1.heap.size W1 W → W.cell? ⟨w.heap.size, 0, none⟩ = some (.int .i64 size)) := fun W h => (hB1.below h).cell 0
  clear hB1
  have HB1 := Lib.hid hb1
  clear hb1 hs hs2
  go_loopw [3, 17] (fun a i wr => ∃ (k : Nat) (x : Int), k ≤ ps.length ∧ i = .int .i64 (k : Int) ∧ a = .int .i64 x ∧ 0 ≤ x ∧ x ≤ 1099511627776 ∧ Hid (partsOk size 0 ps = partsOk size x (ps.drop k)) ∧ Below W1.heap.size W1 wr) (fun _ i _ => ps.length - (intOf i).toNat)
  case atStart => exact ⟨0, 0, Nat.zero_le _, rfl, rfl, by omega, by omega, rfl, Below.refl _ _⟩
  case round =>
    obtain ⟨k, x, hk, rfl, rfl, hx0, hx1, hP, hb⟩ := hrel
    by_cases hlt : k < ps.length
    · obtain ⟨b, o, rfl, hblt, hcell⟩ := part_at HR.out k hlt
      obtain ⟨q0, q1, q2, q3⟩ := hcell wr (bn HB1.out hb)
      have hdr : ps.drop k = ps[k] :: ps.drop (k + 1) := List.drop_eq_getElem_cons hlt
      have hP2 := hP.out
      rw [hdr, partsOk_cons] at hP2
      have HP2 := Lib.hid hP2
      clear hP2 hdr hP hcell
      generalize ps[k] = p at *
      obtain ⟨po, pl, pch, pat⟩ := p
      simp only at q0 q1 q2 q3 HP2
      have i0 : (0 : Int) ≤ (k : Int) := by omega
      have i1 : (k : Int) < (ps.length : Int) := by omega
      have hW2 := bal hb (.cells #[.int .i64 po, .int .i64 pl, .int .i64 pch, .int .i64 pat] 50)
      have hBp := Blk.new wr 50 #[.int .i64 po, .int .i64 pl, .int .i64 pch, .int .i64 pat]
      have x0 := HC0.out _ hW2
      have HF := fun W => part_fits ⟨po, pl, pch, pat⟩ W
      have HEN := fun W => part_end ⟨po, pl, pch, pat⟩ W
      rw [pv_mk] at HF HEN
      replace HF := Lib.hid HF
      replace HEN := Lib.hid HEN
      cases hf : fits ⟨po, pl, pch, pat⟩ with
      | false =>
        have HFF := Lib.hid hf
        clear hf
        go_wp2_with fail
        (with_reducible refine (HF.out _).mono ?_)
        rintro e w5 ⟨rfl, hb5⟩
        rw [HFF.out]
        go_wp2
        go_ret
        exact ⟨by rw [HE.out, HP2.out, HFF.out]; rfl, bn HB1.out (bn hW2 hb5)⟩
      | true =>
        have hf2 := (fits_iff _).1 hf
        simp only at hf2
        obtain ⟨f1, f2, f3, f4, f5, f6⟩ := hf2
        have HFF := Lib.hid hf
        rw [HFF.out] at HP2
        clear hf
        go_wp2_with fail
        (with_reducible refine (HF.out _).mono ?_)
        rintro e w5 ⟨rfl, hb5⟩
        rw [HFF.out]
        have hBp5 := hBp.below hb5
        have hb6 := bn hW2 hb5
        have y0 : w5.cell? ⟨wr.heap.size, 0, none⟩ = some (.int .i64 po) := hBp5.cell 0
        have y1 : w5.cell? ⟨wr.heap.size, 1, none⟩ = some (.int .i64 pl) := hBp5.cell 1
        have y2 : w5.cell? ⟨wr.heap.size, 2, none⟩ = some (.int .i64 pch) := hBp5.cell 2
        have y3 : w5.cell? ⟨wr.heap.size, 3, none⟩ = some (.int .i64 pat) := hBp5.cell 3
        have y4 := HC0.out _ hb6
        clear x0 q0 q1 q2 q3 hBp hBp5 HF
        by_cases c1 : po < x
        · have HZ : Hid (partsOk size 0 ps = false) := Lib.hid (by rw [HP2.out, decide_eq_false (by omega : ¬ x ≤ po)]; rfl)
          clear HP2
          go_wp2
          go_ret
          exact ⟨by rw [HE.out, HZ.out]; rfl, bn HB1.out hb6⟩
        · have c1' : x ≤ po := by omega
          by_cases c2 : size - pl < po
          · have HZ : Hid (partsOk size 0 ps = false) := Lib.hid (by rw [HP2.out, decide_eq_false (by omega : ¬ po ≤ size - pl)]; simp)
            clear HP2
            go_wp2
            go_ret
            exact ⟨by rw [HE.out, HZ.out]; rfl, bn HB1.out hb6⟩
          · have c2' : po ≤ size - pl := by omega
            have HZ : Hid (partsOk size 0 ps = partsOk size (po + pl) (ps.drop (k + 1))) := Lib.hid (by rw [HP2.out, decide_eq_true c1', decide_eq_true c2']; rfl)
            have hnear : near ⟨po, pl, pch, pat⟩ := ⟨by simp only; omega, by simp only; omega, f1, f2, f5, by simp only; omega⟩
            have HN := Lib.hid hnear
            clear HP2 hnear
            go_wp2_with fail
            (with_reducible refine (HEN.out _ HN.out).mono ?_)
            rintro e w6 ⟨rfl, hb7⟩
            have hb8 := bn hb6 hb7
            clear y0 y1 y2 y3 y4 hb6 hb5 hW2 hb7
            go_wp2
            go_roundw
            case rel => exact ⟨k + 1, po + pl, by omega, by go_num, rfl, by omega, by omega, HZ, hb8⟩
            case measure => simp [intOf]; try omega
    · obtain rfl : k = ps.length := by omega
      have HZ : Hid (partsOk size 0 ps = true) := Lib.hid (by rw [hP.out, List.drop_length]; rfl)
      go_wp2
      go_ret
      exact ⟨by rw [HE.out, HZ.out]; rfl, bn HB1.out hb⟩
end Go.Proofs.Ytpnfgnddlfkfaaa
