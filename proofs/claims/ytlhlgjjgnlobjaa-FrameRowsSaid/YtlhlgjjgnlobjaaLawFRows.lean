/-
  What FrameRows calls and gives.
-/
import Derived.Test.YtlhlgjjgnlobjaaLaw7
import Derived.Test.YtlhlgjjgnlobjaaFrameRows
set_option linter.unusedSimpArgs false
set_option linter.unusedVariables false
namespace Go.Proofs.Ytlhlgjjgnlobjaa
open Go.RowKit

/-- rows of two element types are two rows -/
theorem Own.apart {w : World} {B B' : Nat} {e e' : TypeId} {v v' : Value} {xs ys : List Value} (h : Own w B e v xs) (h' : Own w B' e' v' ys) (hne : e ≠ e') : v.ownBlock = none ∨ v.ownBlock ≠ v'.ownBlock := by
  rcases h.2 with ⟨rfl, _⟩ | ⟨g, cap, cur, rfl, _, hh, _⟩
  · exact .inl rfl
  · right
    rcases h'.2 with ⟨rfl, _⟩ | ⟨g', cap', cur', rfl, _, hh', _⟩
    · exact fun e => by cases e
    · intro e
      simp [Value.ownBlock] at e
      subst e
      rw [hh] at hh'
      cases hh'
      exact hne rfl
theorem Own.kept {w w' : World} {B : Nat} {e : TypeId} {v : Value} {xs : List Value} (h : Own w B e v xs) {row : Option Nat} (hg : w.grownBy w' row) (hne : v.ownBlock = none ∨ v.ownBlock ≠ row) : Own w' B e v xs := World.ownsRow.kept h hg hne
theorem add_zero' (ad : Addr) : ad.add 0 = ad := by simp [Addr.add]
theorem cell_keep {w w' : World} (hb : Below w.heap.size w w') {ad : Addr} {v : Value} (h : w.cell? ad = some v) : w'.cell? ad = some v := by
  have h1 : Rd w (some ad) [v] := by
    intro i u hi
    cases i with
    | zero => simp at hi; subst hi; exact ⟨ad, rfl, by rw [add_zero']; exact h⟩
    | succ i => simp at hi
  have h2 := (h1.below hb).at_ 0 (by simp)
  rw [add_zero'] at h2
  exact h2
theorem size_quiet (n : Int) (h1 : 1 ≤ n) (h2 : n ≤ 16384) (w : World) : Calls Try.prog 23 #[.int .i64 n] w fun e w' => e = .returned (.int .i64 (n + 16)) ∧ w' = w :=
  (frame_size n (by omega) (by omega) w).mono fun e w' ⟨h, hw⟩ => ⟨by rw [h, Frame.size_ok n h1 h2], hw.symm⟩
theorem info_u32 : (Try.prog.info? 24).map (fun i => (i.zero, i.size, i.bytes)) = some (some (.int .u32 0), 1, 4) := by kernel_rfl

set_option maxRecDepth 100000 in
set_option maxHeartbeats 2000000 in
theorem frows_walk (A : Option Addr) (m cap : Nat) (vs : List Value) (ls : List (List UInt8)) (hm : ls.length = m) (b : UInt8) (w : World) (hc : m ≤ cap) (hcm : cap ≤ maxLen) (hv : Rd w A vs) (hl : AreB w vs ls) :
    Calls Try.prog 11 #[.slice A m cap, .int .u8 (b.toNat : Int)] w fun e w' => e = .returned (.bool true) ∧ Below w.heap.size w w' := by
  subst hm
  have hb8 := b.toNat_lt
  unfold maxLen at hcm
  have hvl := hl.1
  obtain ⟨boot, hboot, hb31⟩ : ∃ boot : Crc.W, (b.toNat : Int) = (boot.toNat : Int) ∧ boot.toNat < 2147483648 := ⟨BitVec.ofNat 32 b.toNat, by rw [BitVec.toNat_ofNat]; omega, by rw [BitVec.toNat_ofNat]; omega⟩
  generalize (b.toNat : Int) = bi at *
  subst hboot
  go_enter Try.func11, Try.ntmps11
  go_wp2_with fail
  refine (law7_awake _).mono ?_
  rintro e w1 ⟨rfl, hb1⟩
  go_wp2
  go_loopw [5, 6, 7, 8] (fun v z u i wr => ∃ (k : Nat) (us : List Value), k ≤ ls.length ∧ k ≤ 41 ∧ i = .int .i64 k ∧ z = .int .u32 ((Frame.lastOf 0#32 (ls.take k)).toNat : Int) ∧ Hid (∀ x ∈ ls.take k, 1 ≤ x.length ∧ x.length ≤ 500) ∧ Own wr w1.heap.size 5 v ((Frame.frames 0#32 boot (ls.take k)).map eb) ∧ Own wr w1.heap.size 24 u us ∧ Hid (us.length = k) ∧ Below w1.heap.size w1 wr) (fun _ _ _ i _ => ls.length - (intOf i).toNat)
  case atStart => exact ⟨0, [], by omega, by omega, rfl, rfl, by intro x hx; simp at hx, Own.nil _ _ _, Own.nil _ _ _, rfl, Below.refl _ _⟩
  case round =>
    obtain ⟨k, us, hk, hk41, rfl, rfl, hok, ho, hou, hus, hb⟩ := hrel
    have hb0 := bn hb1 hb
    by_cases hlt : k < ls.length
    · by_cases h40 : (40 : Int) < (k : Int)
      · go_wp2
        go_ret
        exact ⟨rfl, hb0⟩
      · have hkv : k < vs.length := by rw [hvl]; exact hlt
        have qA := hv.below hb0
        obtain ⟨ad, rfl⟩ := qA.some_of (by intro e; rw [e] at hkv; simp at hkv)
        have hc1 := qA.at_ k hkv
        obtain ⟨Ak, ck, ek, hck, rk⟩ := (hl.below hb0).2 k hkv hlt
        rw [ek] at hc1
        have hst := Frame.take_snoc ls k hlt
        have hlast := Frame.lastOf_snoc 0#32 (ls.take k) ls[k]
        have hfr := Frame.frames_snoc boot ls[k] (ls.take k) 0#32
        have hfl := Frame.frames_length boot (ls.take k) 0#32 (fun x hx => (hok.out x hx).2)
        rw [List.length_take] at hfl
        generalize hx : ls[k] = x at *
        clear ek hx qA
        have i0 : (0 : Int) ≤ (k : Int) := by omega
        have i1 : (k : Int) < (ls.length : Int) := by omega
        by_cases hx1 : (x.length : Int) < 1
        · clear hst hlast hfr hfl
          go_wp2
          go_ret
          exact ⟨rfl, hb0⟩
        · by_cases hx5 : (500 : Int) < (x.length : Int)
          · clear hst hlast hfr hfl
            go_wp2
            go_ret
            exact ⟨rfl, hb0⟩
          · have HST := Lib.hid hst
            have HLA := Lib.hid hlast
            have HFR := Lib.hid hfr
            have HFL := Lib.hid hfl
            clear hst hlast hfr hfl
            generalize Frame.lastOf 0#32 (ls.take k) = la at *
            go_wp2_with fail
            refine (frame_make_ok la _ rfl boot _ rfl hb31 Ak x.length ck x _ rfl (by omega) (by omega) rk).mono ?_
            rintro e w2 ⟨v2, rfl, ho2, hb2⟩
            obtain ⟨A2, c2, rfl, k2, r2⟩ := ho2.bytes
            have h2z := hb2.size
            have hwz := hb.size
            have hou2 := (hou.below hb2).below (bal (Below.refl _ w2) (.cells #[.int .u32 (la.toNat : Int)] 24))
            have ho22 := (ho.below hb2).below (bal (Below.refl _ w2) (.cells #[.int .u32 (la.toNat : Int)] 24))
            have hus' := hus.out
            obtain ⟨v4, w4, hrun4, ho4, hg4, hb4⟩ := append_run (P := Try.prog) (w2.alloc (.cells #[.int .u32 (la.toNat : Int)] 24)) w1.heap.size 46 46 24 (.int .u32 0) 4 Try.underlying46 info_u32 rfl _ us hou2 (some ⟨w2.heap.size, 0, none⟩) 1 1 [.int .u32 (la.toNat : Int)] rfl (Rd.lit w2 24 (0, 0) [.int .u32 (la.toNat : Int)]) (by simp; rfl) (by rw [hus']; simp [maxLen]; omega) (by rw [hus']; simp; omega) (by simp; omega)
            have ho24 := ho22.kept hg4 (ho22.apart hou2 (by decide))
            have ho2a := (ho2.below (bal (Below.refl _ w2) (.cells #[.int .u32 (la.toNat : Int)] 24)))
            have r24 := (ho2a.kept hg4 (ho2a.apart hou2 (by decide))).bytes_at
            have hml := Frame.mk_length la boot x
            obtain ⟨v5, w5, HR5, ho5, hb5, hg5⟩ := append_bytes w4 w1.heap.size _ _ ho24 A2 (Frame.mk la boot x).length c2 (Frame.mk la boot x) rfl r24 (by have := HFL.out; rw [hml]; omega) (by have := hb4.size; simp at this; omega)
            have ho45 := ho4.kept hg5 (ho4.apart ho24 (by decide))
            have HR4 := Lib.hid hrun4
            have hb25 := ((bal (Below.refl _ w2) (.cells #[.int .u32 (la.toNat : Int)] 24)).mono (by omega : w1.heap.size ≤ w2.heap.size)).trans (hb4.trans hb5)
            have hb15 := (hb.trans (hb2.mono hwz)).trans hb25
            rw [← HFR.out] at ho5
            have hcnt : (us ++ [Value.int .u32 (la.toNat : Int)]).length = k + 1 := by simp [hus']
            have HCNT := Lib.hid hcnt
            rw [hml] at HR5 ⊢
            clear hrun4 hcnt hml hus' hou2 ho22 ho2a r24 hg4 hg5 hb4 hb5 hb25 ho24 ho4 ho2 r2
            go_wp2_with (first | (at_builtin; refine wpList_append_run rfl _ _ 46 46 rfl _ _ _ _ rfl rfl HR4.out ?_) | (at_builtin; refine wpList_append_run rfl _ _ 22 22 rfl _ _ _ _ rfl rfl HR5.out ?_))
            go_roundw
            case rel => exact ⟨k + 1, us ++ [Value.int .u32 (la.toNat : Int)], by omega, by omega, by go_num, by rw [HST.out, HLA.out], by
                show ∀ y ∈ ls.take (k + 1), _
                rw [HST.out]
                intro y hy
                rcases List.mem_append.1 hy with h | h
                · exact hok.out y h
                · rw [List.mem_singleton.1 h]; omega, by rw [HST.out]; exact ho5, ho45, HCNT, hb15⟩
            case measure => simp [intOf]; try omega
    · obtain rfl : k = ls.length := by omega
      rw [List.take_length] at *
      obtain ⟨AU, cU, rfl, _, _, _⟩ := hou.read
      rw [hus.out]
      obtain ⟨AB, cB, eB, hcB, hrB⟩ := ho.isB
      have hfl := Frame.frames_length boot ls 0#32 (fun x hx => (hok.out x hx).2)
      have HFL := Lib.hid hfl
      clear hfl ho hou hlt hk
      go_wp2
      go_loopw [5, 12, 13] (fun v z i wq => ∃ (k : Nat) (A2 : Option Addr) (n2 c2 : Nat), k ≤ ls.length ∧ i = .int .i64 k ∧ z = .int .u32 ((Frame.lastOf 0#32 (ls.take k)).toNat : Int) ∧ v = .slice A2 n2 c2 ∧ Hid ((Frame.frames (Frame.lastOf 0#32 (ls.take k)) boot (ls.drop k)).length = n2) ∧ n2 ≤ c2 ∧ n2 ≤ 21156 ∧ RB wq A2 (Frame.frames (Frame.lastOf 0#32 (ls.take k)) boot (ls.drop k)) ∧ Below wr.heap.size wr wq) (fun _ _ i _ => ls.length - (intOf i).toNat)
      case atStart => exact ⟨0, AB, _, cB, by omega, rfl, rfl, eB, rfl, hcB, by have := HFL.out; omega, hrB, Below.refl _ _⟩
      case round =>
        obtain ⟨k, A2, n2, c2, hk, rfl, rfl, rfl, hn2, hnc, hn21, hr2, hbq⟩ := hrel
        have hb0q := bn hb0 hbq
        by_cases hlt : k < ls.length
        · have hkv : k < vs.length := by rw [hvl]; exact hlt
          have hst := Frame.take_snoc ls k hlt
          have hlast := Frame.lastOf_snoc 0#32 (ls.take k) ls[k]
          have hdc := Frame.drop_cons ls k hlt
          have hxok := hok.out ls[k] (List.getElem_mem hlt)
          obtain ⟨Ak, ck, ek, hck, rk⟩ := (hl.below hb0q).2 k hkv hlt
          have qA := hv.below hb0q
          obtain ⟨ad, rfl⟩ := qA.some_of (by intro e; rw [e] at hkv; simp at hkv)
          have hc1 := qA.at_ k hkv
          rw [ek] at hc1
          rw [hdc] at hr2 hn2
          have hxl := hn2.out
          simp only [Frame.frames] at hr2 hxl
          generalize hx : ls[k] = x at *
          obtain ⟨hx1, hx5⟩ := hxok
          have HLA := Lib.hid hlast
          have HST := Lib.hid hst
          clear ek hx qA hst hlast hdc hn2
          generalize hla : Frame.lastOf 0#32 (ls.take k) = la at *
          have hmore : ∃ more, more = Frame.frames (Crc.next la x) boot (ls.drop (k + 1)) := ⟨_, rfl⟩
          obtain ⟨more, hmore⟩ := hmore
          rw [← hmore] at hr2 hxl
          have HMORE := Lib.hid hmore
          clear hmore hla
          have hml := Frame.mk_length la boot x
          have hmd : (Frame.mk la boot x ++ more).drop (x.length + 16) = more := by rw [← hml]; exact List.drop_left' rfl
          have hxl2 : n2 = x.length + 16 + more.length := by rw [← hxl, List.length_append, hml]
          have hrd := Frame.read_mk la boot hb31 x more hx1 (by omega)
          have hone : ∀ y : Crc.W, y ≠ y + 1#32 := by
            intro y h
            have := congrArg BitVec.toNat h
            rw [BitVec.toNat_add] at this
            have := y.isLt
            simp at *
          have hoth := Frame.read_other la (la + 1#32) boot (hone _) x more hx1 (by omega)
          have hinc : (((la.toNat : Int) + 1) % 4294967296) = ((la + 1#32).toNat : Int) := by rw [BitVec.toNat_add]; simp
          have hsz := Frame.size_ok (x.length : Int) (by omega) (by omega)
          have HRD := Lib.hid hrd
          have HOTH := Lib.hid hoth
          have HINC := Lib.hid hinc
          have HSZ := Lib.hid hsz
          have HMD := Lib.hid hmd
          have HXL := Lib.hid hxl
          clear hrd hoth hinc hsz hone hml hmd hxl
          generalize Frame.mk la boot x ++ more = fr at *
          obtain ⟨A3, hcut, hdr, _⟩ := cut_from (P := Try.prog) 22 5 Try.underlying22 size_u8 A2 n2 c2 ((x.length : Int) + 16) (by omega) (by omega)
          rw [show ((x.length : Int) + 16).toNat = x.length + 16 by omega] at hcut
          rw [show n2 - (x.length + 16) = more.length by omega] at hcut
          have hdrB : ∀ W, RB W A2 fr → RB W A3 more := by
            intro W h
            have h2 := hdr W _ (by rw [List.length_map, HXL.out]; exact hnc) h
            rw [show ((x.length : Int) + 16).toNat = x.length + 16 by omega, ← List.map_drop, HMD.out] at h2
            exact h2
          have i0 : (0 : Int) ≤ (k : Int) := by omega
          have i1 : (k : Int) < (ls.length : Int) := by omega
          have hge : x.length + 16 ≤ n2 := by omega
          clear hdr hxl2
          have hb32 := boot.isLt
          go_wp2_with fail
          refine (frame_read la _ rfl A2 n2 c2 fr _ HXL.out (by rw [HXL.out]; omega) (by rw [HXL.out]; exact hnc) hr2).mono ?_
          intro e w5 hp
          obtain ⟨A5, c5, rfl, k5, r5, hb5⟩ := hp.get_some HRD.out
          have hb5q := bn hbq hb5
          have hc5 : w5.cell? (ad.add k) = some (.slice Ak x.length ck) := (cell_keep hb5 hc1)
          have v1 : ∀ nq, (convert 22 9 (.slice A5 x.length c5)).run Try.prog (w5.drewN nq) = .ok (.string ⟨x.toArray⟩) (w5.drewN nq) := fun nq => run_str_try _ A5 c5 _ x rfl (r5.below (below_drewN (Below.refl _ _) _))
          have v2 : ∀ nq, (convert 22 9 (.slice Ak x.length ck)).run Try.prog (w5.drewN nq) = .ok (.string ⟨x.toArray⟩) (w5.drewN nq) := fun nq => run_str_try _ Ak ck _ x rfl ((rk.below hb5).below (below_drewN (Below.refl _ _) _))
          have q5 := hr2.below hb5
          clear hp hr2 rk r5 hc1
          go_wp2
          go_quiet (fail)
          have hb6 : Below w5.heap.size w5 (w5.drewN nq) := below_drewN (Below.refl _ _) _
          have q6 := q5.below hb6
          have hb6q := bn hb5q hb6
          clear v1 v2 q5 hc5 hb6
          generalize w5.drewN nq = w6 at *
          go_wp2_with fail
          refine (frame_read (la + 1#32) _ HINC.out A2 n2 c2 fr _ HXL.out (by rw [HXL.out]; omega) (by rw [HXL.out]; exact hnc) q6).mono ?_
          intro e w7 hp
          obtain ⟨rfl, hb7⟩ := hp.get_none HOTH.out
          have hb7q := bn hb6q hb7
          have q7 := hdrB _ (q6.below hb7)
          have hlen2 : more.length ≤ c2 - (x.length + 16) := by have := congrArg List.length HMD.out; rw [List.length_drop, HXL.out] at this; omega
          have hlen3 : more.length ≤ 21156 := by have := congrArg List.length HMD.out; rw [List.length_drop, HXL.out] at this; omega
          clear hp hdrB q6
          have hx1' : (1 : Int) ≤ (x.length : Int) := by omega
          have hx5' : (x.length : Int) ≤ 16384 := by omega
          have j0 : (0 : Int) ≤ (x.length : Int) + 16 := by omega
          have j1 : (x.length : Int) + 16 ≤ (n2 : Int) := by omega
          go_wp2
          go_quiet ((go_at_call 23; with_reducible exact Calls.quiet_of_same (size_quiet (x.length : Int) hx1' hx5' _)))
          have hb8 : Below w7.heap.size w7 (w7.drewN nq) := below_drewN (Below.refl _ _) _
          have hb8q := bn hb7q hb8
          have q8 := q7.below hb8
          clear hb8 q7
          generalize w7.drewN nq = w8 at *
          go_wp2
          go_roundw
          case rel => exact ⟨k + 1, A3, more.length, c2 - (x.length + 16), by omega, by go_num, by rw [HST.out, HLA.out], rfl, by rw [HST.out, HLA.out, ← HMORE.out]; exact rfl, hlen2, hlen3, by rw [HST.out, HLA.out, ← HMORE.out]; exact q8, hb8q⟩
          case measure => simp [intOf]; try omega
        · obtain rfl : k = ls.length := by omega
          rw [List.drop_length] at hn2
          rw [List.take_length]
          have hz : n2 = 0 := by have := hn2.out; simpa [Frame.frames] using this.symm
          subst hz
          clear hr2 hn2
          generalize Frame.lastOf 0#32 ls = la at *
          go_wp2
          go_ret
          exact ⟨rfl, hb0q⟩
end Go.Proofs.Ytlhlgjjgnlobjaa
