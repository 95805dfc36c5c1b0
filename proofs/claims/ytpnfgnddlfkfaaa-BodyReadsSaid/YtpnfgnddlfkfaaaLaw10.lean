/-
  Layer 10: awake; rows that are read.
-/
import Derived.Test.YtpnfgnddlfkfaaaChunkPut
set_option linter.unusedSimpArgs false
set_option linter.unusedVariables false
namespace Go.Proofs.Ytpnfgnddlfkfaaa
open Go.RowKit Go.Maps

/-- a row that is read, its address taken apart -/
theorem Rd.lit_of {w : World} {A : Option Addr} {cs : List Value} (h : Rd w A cs) (i : Nat) (hi : i < cs.length) : ∃ b off, A = some ⟨b, off, none⟩ ∧ b < w.heap.size ∧ ∀ j (hj : j < cs.length), w.cell? ⟨b, off + j, none⟩ = some cs[j] := by
  obtain ⟨ad, e, hc⟩ := h 0 (cs[0]'(by omega)) (by simp)
  obtain ⟨b, off, spot⟩ := ad
  have hs : spot = none := by simpa [Addr.add] using World.cell?_spot hc
  subst hs
  have hlt := block_lt_of_cell hc
  refine ⟨b, off, e, by simpa [Addr.add] using hlt, fun j hj => ?_⟩
  obtain ⟨ad2, e2, hc2⟩ := h j cs[j] (by simp [hj])
  rw [e] at e2
  cases e2
  have e1 : (⟨b, off, none⟩ : Addr).add j = ⟨b, off + j, none⟩ := by unfold Addr.add; split <;> simp_all
  rwa [e1] at hc2
theorem find_empty (b : List UInt8) : findId CSt.empty b = none := rfl
theorem put_first (b : List UInt8) (h : 1 ≤ b.length ∧ b.length ≤ 64) : putR CSt.empty b = (1, true, 0, setSt CSt.empty 1 b) := by unfold putR; rw [if_pos h, find_empty]; rfl
theorem find_second (b : List UInt8) : findId (setSt CSt.empty 1 b) b = some 1 := by simp [findId, setSt, CSt.empty]
theorem put_second (b : List UInt8) (h : 1 ≤ b.length ∧ b.length ≤ 64) : putR (setSt CSt.empty 1 b) b = (1, false, 0, setSt CSt.empty 1 b) := by unfold putR; rw [if_pos h, find_second]

/-- what Put leaves, for whoever counts from B on -/
theorem PutPost.below {w w' : World} {g n : Nat} {P : Nat → Prop} {r : Int × Bool × Int × CSt} {e : Ending} (h : PutPost w g P n r e w') {B : Nat} (hB : B ≤ w.heap.size) (hP : ∀ j, P j → B ≤ j) : Below B w w' := h.2.1.below hB hP

set_option maxRecDepth 100000 in
set_option maxHeartbeats 2000000 in
theorem law10_awake (w : World) :
    Calls Try.prog 14 #[] w fun e w' => e = .returned (.bool true) ∧ Below w.heap.size w w' := by
  obtain ⟨ab, hab, hlen⟩ : ∃ ab : List UInt8, ab = [97, 98] ∧ ab.length = 2 := ⟨_, rfl, rfl⟩
  have hv : 1 ≤ ab.length ∧ ab.length ≤ 64 := by omega
  have ok1 := COk.empty.set (id := 1) hv ⟨by omega, by omega⟩ (by omega)
  have inv1 := CInv.empty.set (id := 1) hv (by omega) rfl (find_empty ab)
  have HP1 := Lib.hid fun (g : Nat) (P : Nat → Prop) (A : Option Addr) W (hr : RB W A ab) hA h => chunk_put g P 0 CSt.empty A 2 2 ab W hlen hr (by omega) hA h COk.empty CInv.empty (by omega) (by decide)
  have HP2 := Lib.hid fun (g : Nat) (P : Nat → Prop) (A : Option Addr) W (hr : RB W A ab) hA h => chunk_put g P 2 (setSt CSt.empty 1 ab) A 2 2 ab W hlen hr (by omega) hA h ok1 inv1 (by omega) (by simp [setSt, CSt.empty])
  rw [put_first ab hv] at HP1
  rw [put_second ab hv] at HP2
  have hsz : (setSt CSt.empty 1 ab).size = 2 := by simp [setSt, CSt.empty, hlen]
  have hnx : (setSt CSt.empty 1 ab).next = 2 := by simp [setSt, CSt.empty]
  have HSZ := Lib.hid hsz
  have HNX := Lib.hid hnx
  have HLIT : Hid (∀ (W : World) fz, RB (W.alloc (.cells #[.int .u8 97, .int .u8 98] 5 fz)) (some ⟨W.heap.size, 0, none⟩) ab) := fun W fz => by rw [hab]; exact RB.lit W _ fz _ _ rfl
  have kc := fun (w : World) (C : Array Value) (n c : Nat) => Lib.run_convert_bytes_const (P := Try.prog) w 23 5 C n c Try.underlying23 Try.underlying5
  clear hsz hnx hab hlen hv ok1 inv1
  generalize setSt CSt.empty 1 ab = s1 at *
  go_enter Try.func14, Try.ntmps14
  go_wp2_with fail
  (with_reducible refine (chunk_new w).mono ?_)
  rintro e w1 ⟨g, rfl, hc1, hb1⟩
  have hz1 := hb1.size
  have HA1 : Hid (∀ ad, some (⟨w1.heap.size, 0, none⟩ : Addr) = some ad → ¬ (w.heap.size ≤ ad.block ∧ ad.block < w1.heap.size)) := fun ad e h => by cases e; simp only at h; omega
  go_wp2_with fail
  (with_reducible refine (HP1.out g _ _ _ (HLIT.out w1 _) HA1.out (hc1.below (bal (Below.refl _ _) _))).mono ?_)
  rintro e w3 ⟨rfl, hk3, hc3⟩
  simp only at hc3
  have hz2 := hk3.size
  have hb3 : Below w.heap.size w w3 := (bal hb1 _).trans (hk3.below (by simp; omega) fun j hj => hj.1)
  have HA3 : Hid (∀ ad, some (⟨w3.heap.size, 0, none⟩ : Addr) = some ad → ¬ ((w.heap.size ≤ ad.block ∧ ad.block < w1.heap.size) ∨ ((w1.alloc (.cells #[.int .u8 97, .int .u8 98] 5 (2, 3))).heap.size ≤ ad.block ∧ ad.block < w3.heap.size))) := fun ad e h => by cases e; simp at h hz2; omega
  go_wp2_with fail
  (with_reducible refine (HP2.out g _ _ _ (HLIT.out w3 _) HA3.out (hc3.below (bal (Below.refl _ _) _))).mono ?_)
  rintro e w5 ⟨rfl, hk5, hc5⟩
  simp only at hc5
  have hb5 : Below w.heap.size w w5 := (bal hb3 _).trans (hk5.below (by have := hb3.size; simp; omega) fun j hj => by simp at hj; omega)
  clear hk3 hk5 hc3 hc1 HA1 HA3
  go_wp2_with (first | (go_at_call 18; refine (chunk_size _ _ _ _ _ hc5).mono ?_; rintro e _ ⟨rfl, rfl⟩; rw [HSZ.out]) | (go_at_call 36; refine (chunk_next _ _ _ _ _ hc5).mono ?_; rintro e _ ⟨rfl, rfl⟩; rw [HNX.out]))
  go_ret
  exact ⟨rfl, hb5⟩
end Go.Proofs.Ytpnfgnddlfkfaaa
