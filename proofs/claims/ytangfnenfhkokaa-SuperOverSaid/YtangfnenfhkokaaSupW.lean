/-
  super.Write.
-/
import Derived.Test.YtangfnenfhkokaaSupMath
import Derived.Test.YtangfnenfhkokaaLive
set_option linter.unusedSimpArgs false
set_option linter.unusedVariables false
namespace Go.Proofs.Ytangfnenfhkokaa
open Go.RowKit Go.Maps

/-- the first k sectors written -/
def wrK (s : DSt) (slot : Int) (b : List UInt8) : Nat → Int × DSt
  | 0 => (0, s)
  | k + 1 => if (wrK s slot b k).1 = 0 then writeD (wrK s slot b k).2 (slot * 4 + (k : Int)) ((b.drop (k * 64)).take 64) else wrK s slot b k
theorem wrK_succ {s : DSt} {slot : Int} {b : List UInt8} {k : Nat} (h : (wrK s slot b k).1 = 0) : wrK s slot b (k + 1) = writeD (wrK s slot b k).2 (slot * 4 + (k : Int)) ((b.drop (k * 64)).take 64) := by
  rw [wrK, if_pos h]
theorem wrK_stop {s : DSt} {slot : Int} {b : List UInt8} {k : Nat} (h : (wrK s slot b k).1 ≠ 0) : ∀ m, k ≤ m → wrK s slot b m = wrK s slot b k
  | 0, hm => by obtain rfl : k = 0 := by omega
                rfl
  | m + 1, hm => by
    by_cases e : k = m + 1
    · rw [e]
    · have h2 := wrK_stop h m (by omega)
      rw [wrK, if_neg (by rw [h2]; exact h), h2]
theorem writeD_ops (s : DSt) (k : Int) (b : List UInt8) : (writeD s k b).2.ops ≤ s.ops + 1 := by
  unfold writeD
  split
  · simp; omega
  · split
    · split
      · unfold burnD; split <;> (try split) <;> simp <;> omega
      · unfold putD burnD; split <;> (try split) <;> simp <;> omega
    · simp; omega
theorem wrK_ops (s : DSt) (slot : Int) (b : List UInt8) : ∀ k, (wrK s slot b k).2.ops ≤ s.ops + (k : Int)
  | 0 => by simp [wrK]
  | k + 1 => by
    have h := wrK_ops s slot b k
    rw [wrK]
    split
    · have := writeD_ops (wrK s slot b k).2 (slot * 4 + (k : Int)) ((b.drop (k * 64)).take 64)
      omega
    · omega
theorem Live.mono {w0 w : World} {g n n' : Nat} {P P' : Nat → Prop} {s : DSt} (h : Live w0 w g P n s) (hP : ∀ j, P j → P' j) (hl : ∀ j, P' j → w0.heap.size ≤ j ∧ j < w.heap.size) (hn : n ≤ n') : Live w0 w g P' n' s := by
  obtain ⟨L, M, fv, fc, hd⟩ := h.disk
  exact ⟨⟨L, M, fv, fc, hd.mono hP (fun j hj => (hl j hj).2) hn⟩, fun j hj => (hl j hj).1, h.bel, h.ok⟩
theorem Live.lt {w0 w : World} {g n : Nat} {P : Nat → Prop} {s : DSt} (h : Live w0 w g P n s) (j : Nat) (hj : P j) : w0.heap.size ≤ j ∧ j < w.heap.size := ⟨h.frm j hj, h.disk.lt j hj⟩
def SupWPost (w0 : World) (g n : Nat) (P : Nat → Prop) (r : Int × DSt) (w : World) (e : Ending) (w' : World) : Prop :=
  e = .returned (.int .i64 r.1) ∧ Live w0 w' g (Grow P w w') (n + 4) r.2 ∧ Kp P w w'
set_option maxRecDepth 100000 in
set_option maxHeartbeats 4000000 in
theorem super_write (w0 : World) (g n : Nat) (P : Nat → Prop) (d : DSt) (slot : Nat) (s : Sup) (A : Option Addr) (c : Nat) (A2 : Option Addr) (c2 : Nat) (w : World) (hL : Live w0 w g P n d) (hn : n < 100000000) (ho : d.ops < 100000000) (hslot : slot ≤ 1) (h1 : Rd w A (s.jour.segs.map ei)) (h2 : Rd w A2 (s.chunks.segs.map ei)) (hw1 : ∀ x ∈ s.jour.segs, wide x) (hw2 : ∀ x ∈ s.chunks.segs, wide x)
    (hA : ∀ ad, A = some ad → ad.block < w.heap.size) (hA2 : ∀ ad, A2 = some ad → ad.block < w.heap.size) (hm : supMay s 96 = true) :
    Calls Try.prog 32 #[.pointer (some ⟨g, 0, none⟩), .int .i64 (slot : Int), supV s A c A2 c2] w (SupWPost w0 g n P (wrK d (slot : Int) (bytesB s) 4) w) := by
  have F := mayF s hm
  have hB := fun (W : World) (hb : Below w.heap.size w W) => super_bytes s A c A2 c2 W (h1.below hb) (h2.below hb) hw1 hw2 (fun ad e => by have := hA ad e; have := hb.size; omega) (fun ad e => by have := hA2 ad e; have := hb.size; omega) (by have := F.n; omega) (by have := F.n; omega) (by have := F.jl; have := F.n; unfold wide; omega) (by have := F.cl; have := F.n; unfold wide; omega) hm F.len
  have HB := Lib.hid hB
  have hbl := bytesB_len s F.len
  unfold BytesPost at HB
  unfold SupWPost
  generalize bytesB s = b at *
  have HBL := Lib.hid hbl
  clear hB F h1 h2 hw1 hw2 hA hA2 hm hbl
  obtain ⟨nu, bo, ⟨l1, n1, s1⟩, ⟨l2, n2, s2⟩⟩ := s
  unfold supV at *
  simp only at HB ⊢
  have b1 := bal (Below.refl w.heap.size w) (.cells #[.int .i64 nu, .int .i64 bo, .slice A l1.length c, .int .i64 n1, .int .u32 (s1.toNat : Int), .slice A2 l2.length c2, .int .i64 n2, .int .u32 (s2.toNat : Int)] 68)
  go_enter Try.func32, Try.ntmps32
  go_wp2_with fail
  (with_reducible refine (HB.out _ b1).mono ?_)
  rintro e w2 ⟨v2, rfl, ho2, hb2⟩
  obtain ⟨Ab, cb, rfl, hcb, rb⟩ := ho2.bytes
  rw [HBL.out] at hcb ⊢
  have b2 := bn b1 hb2
  have hL2 := hL.below b2
  have hAb : ∀ ad, Ab = some ad → w.heap.size ≤ ad.block := fun ad e => by
    obtain ⟨A', c', e', -, -, h'⟩ := ho2.read
    injection e' with e1 _ _
    subst e1
    have := h' ad e
    simp at this
    omega
  have hAc : ∀ ad, Ab = some ad → ad.block < w2.heap.size := fun ad e => Rd.lt rb e (by intro e; have := congrArg List.length e; rw [List.length_map, HBL.out] at this; cases this)
  have hEnd : Hid (∀ wr r m, Live w0 wr g (Grow P w2 wr) m r → Kp P w2 wr → m ≤ n + 4 → Live w0 wr g (Grow P w wr) (n + 4) r ∧ Kp P w wr) := Lib.hid fun wr r m h1 h2 h3 => ⟨h1.mono (fun j hj => by
      rcases hj with hj | hj
      · exact .inl hj
      · exact .inr ⟨by have := b2.size; omega, hj.2⟩) (fun j hj => by
      have := hL.bel.size
      have := b2.size
      have := h2.size
      rcases hj with hj | hj
      · have := hL.lt j hj; omega
      · omega) h3, (kp_of b2).trans h2 fun j _ h => h⟩
  clear ho2 hb2 b1
  go_wp2_with fail
  go_loopw [26] (fun i wr => ∃ k : Nat, k ≤ 4 ∧ i = .int .i64 (k : Int) ∧ Hid ((wrK d (slot : Int) b k).1 = 0) ∧ Live w0 wr g (Grow P w2 wr) (n + k) (wrK d (slot : Int) b k).2 ∧ Kp P w2 wr ∧ RB wr Ab b) (fun i _ => 4 - (intOf i).toNat)
  case atStart => exact ⟨0, by omega, rfl, Lib.hid rfl, hL2.mono (fun j hj => .inl hj) (fun j hj => by
    rcases hj with hj | hj
    · exact hL2.lt j hj
    · omega) (by omega), Kp.refl _ _, rb⟩
  case round =>
    obtain ⟨k, hk, rfl, hz, hLk, hKk, rk⟩ := hrel
    by_cases hlt : k < 4
    · have hst := wrK_succ hz.out
      have hops := wrK_ops d (slot : Int) b k
      obtain ⟨A', hcm, hcr, -⟩ := cut_mid (P := Try.prog) 42 5 Try.underlying42 size_u8 Ab 256 cb ((k : Int) * 64) (((k : Int) + 1) * 64) (by omega) (by omega) (by omega)
      rw [show (((k : Int) + 1) * 64).toNat - ((k : Int) * 64).toNat = 64 by omega, show ((k : Int) * 64).toNat = k * 64 by omega] at hcm
      rw [show ((k : Int) * 64).toNat = k * 64 by omega] at hcr
      have rc := hcr wr _ (by rw [List.length_map, HBL.out]; exact hcb) rk
      rw [← List.map_drop] at rc
      have rc2 : RB wr A' ((b.drop (k * 64)).take 64) := RB.take rc 64
      have hl64 : ((b.drop (k * 64)).take 64).length = 64 := by rw [List.length_take, List.length_drop, HBL.out]; omega
      obtain ⟨r, hr⟩ : ∃ r, wrK d (slot : Int) b (k + 1) = r := ⟨_, rfl⟩
      rw [hr] at hst
      have hw := live_write hLk ((slot : Int) * 4 + (k : Int)) A' 64 (cb - k * 64) _ hl64 rc2 (by omega) (by omega) (by omega) hst.symm
      have HW := Lib.hid hw
      have HST := Lib.hid hst
      have HR := Lib.hid hr
      clear hw hcr rc rc2 hst hr hl64 hops
      go_wp2_with fail
      (with_reducible refine HW.out.mono ?_)
      rintro e w4 ⟨rfl, hL4, hk4⟩
      have hLm : Live w0 w4 g (Grow P w2 w4) (n + k + 1) r.2 := hL4.mono (fun j hj => by
        rcases hj with (hj | hj) | hj
        · exact .inl hj
        · exact .inr ⟨hj.1, by have := hk4.size; omega⟩
        · exact .inr ⟨by have := hKk.size; omega, hj.2⟩) (fun j hj => by
        rcases hj with hj | hj
        · have := hL2.lt j hj; have := hKk.size; have := hk4.size; exact ⟨by omega, by omega⟩
        · have := hL2.bel.size; omega) (Nat.le_refl _)
      have hKm : Kp P w2 w4 := hKk.trans hk4 fun j hj hG => by
        rcases hG with hG | hG
        · exact hG
        · omega
      have rk4 : RB w4 Ab b := rk.kp hk4 fun ad e hG => by
        have h1 := hAb ad e
        have h2 := hAc ad e
        rcases hG with hG | hG
        · have := hL.disk.lt _ hG; omega
        · omega
      clear hL4 hk4 hLk hKk rk
      by_cases hr0 : r.1 = 0
      · have t0 : (r.1 != 0) = false := by rw [hr0]; rfl
        go_wp2
        go_roundw
        case rel => exact ⟨k + 1, by omega, by go_num, Lib.hid (by rw [HR.out]; exact hr0), by rw [HR.out]; exact hLm, hKm, rk4⟩
        case measure => simp [intOf]; try omega
      · have t0 : (r.1 != 0) = true := by rw [bne_iff_ne]; exact hr0
        have hstop := wrK_stop (s := d) (slot := (slot : Int)) (b := b) (k := k + 1) (by rw [HR.out]; exact hr0) 4 (by omega)
        rw [HR.out] at hstop
        have HS := Lib.hid hstop
        clear hstop
        go_wp2
        go_ret
        exact ⟨ret_int (by rw [HS.out]), by rw [HS.out]; exact hEnd.out _ _ _ hLm hKm (by omega)⟩
    · obtain rfl : k = 4 := by omega
      go_wp2
      go_ret
      exact ⟨ret_int hz.out.symm, hEnd.out _ _ _ hLk hKk (by omega)⟩
set_option maxRecDepth 100000 in
set_option maxHeartbeats 4000000 in
theorem super_write_out (P : Option Addr) (slot : Int) (s : Sup) (A : Option Addr) (c : Nat) (A2 : Option Addr) (c2 : Nat) (w : World) (hslot : slot < 0 ∨ 1 < slot) (h1 : Rd w A (s.jour.segs.map ei)) (h2 : Rd w A2 (s.chunks.segs.map ei)) (hw1 : ∀ x ∈ s.jour.segs, wide x) (hw2 : ∀ x ∈ s.chunks.segs, wide x)
    (hA : ∀ ad, A = some ad → ad.block < w.heap.size) (hA2 : ∀ ad, A2 = some ad → ad.block < w.heap.size) (hm : supMay s 96 = true) :
    Calls Try.prog 32 #[.pointer P, .int .i64 slot, supV s A c A2 c2] w fun e w' => e = .returned (.int .i64 1) ∧ Below w.heap.size w w' := by
  have F := mayF s hm
  have hB := fun (W : World) (hb : Below w.heap.size w W) => super_bytes s A c A2 c2 W (h1.below hb) (h2.below hb) hw1 hw2 (fun ad e => by have := hA ad e; have := hb.size; omega) (fun ad e => by have := hA2 ad e; have := hb.size; omega) (by have := F.n; omega) (by have := F.n; omega) (by have := F.jl; have := F.n; unfold wide; omega) (by have := F.cl; have := F.n; unfold wide; omega) hm F.len
  have HB := Lib.hid hB
  unfold BytesPost at HB
  generalize bytesB s = b at *
  clear hB F h1 h2 hw1 hw2 hA hA2 hm
  obtain ⟨nu, bo, ⟨l1, n1, s1⟩, ⟨l2, n2, s2⟩⟩ := s
  unfold supV at *
  simp only at HB ⊢
  have b1 := bal (Below.refl w.heap.size w) (.cells #[.int .i64 nu, .int .i64 bo, .slice A l1.length c, .int .i64 n1, .int .u32 (s1.toNat : Int), .slice A2 l2.length c2, .int .i64 n2, .int .u32 (s2.toNat : Int)] 68)
  go_enter Try.func32, Try.ntmps32
  go_wp2_with fail
  (with_reducible refine (HB.out _ b1).mono ?_)
  rintro e w2 ⟨v2, rfl, -, hb2⟩
  have b2 := bn b1 hb2
  rcases hslot with hs | hs
  · go_wp2
    go_ret
    exact ⟨rfl, b2⟩
  · go_wp2
    go_ret
    exact ⟨rfl, b2⟩
end Go.Proofs.Ytangfnenfhkokaa
