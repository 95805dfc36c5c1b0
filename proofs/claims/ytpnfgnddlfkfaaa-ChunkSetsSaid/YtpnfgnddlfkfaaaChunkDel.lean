/-
  The store: the closure of Drop, slices.IndexFunc and slices.DeleteFunc at it.
-/
import Derived.Test.YtpnfgnddlfkfaaaChunkIds
import Derived.Test.YtpnfgnddlfkfaaaLaw10
set_option linter.unusedSimpArgs false
set_option linter.unusedVariables false
namespace Go.Proofs.Ytpnfgnddlfkfaaa
open Go.RowKit Go.Maps

theorem take_while_at {α : Type} {p : α → Bool} {l : List α} {k : Nat} (h : ∀ a ∈ l.take k, p a = true) (he : l.length ≤ k ∨ ∃ h : k < l.length, p l[k] = false) : l.takeWhile p = l.take k := by
  induction l generalizing k with
  | nil => simp
  | cons a l ih =>
    cases k with
    | zero =>
      rcases he with he | ⟨_, he⟩
      · simp at he
      · have he' : p a = false := he
        simp [List.takeWhile_cons, he']
    | succ k =>
      have ha : p a = true := h a (by simp)
      rw [List.takeWhile_cons, if_pos ha, List.take_succ_cons]
      rw [ih (fun b hb => h b (by rw [List.take_succ_cons]; exact List.mem_cons_of_mem _ hb))]
      rcases he with he | ⟨h1, he⟩
      · exact .inl (by simpa using he)
      · exact .inr ⟨by simpa using h1, by simpa using he⟩
set_option maxHeartbeats 600000 in
theorem drop_is (x id : Int) (B : Nat) (w : World) (h : w.cell? ⟨B, 0, none⟩ = some (.int .i64 id)) :
    Calls Try.prog 62 #[.int .i64 x, .pointer (some ⟨B, 0, none⟩)] w fun e w' => e = .returned (.bool (x == id)) ∧ w = w' := by
  go_enter Try.func62, Try.ntmps62
  go_wp2
  go_ret
  exact ⟨rfl, rfl⟩
/-- where a number first stands -/
def posOf (l : List Int) (id : Int) : Int := if id ∈ l then ((l.takeWhile fun x => x != id).length : Int) else -1
set_option maxRecDepth 100000 in
set_option maxHeartbeats 1000000 in
theorem index_is (A : Option Addr) (n c : Nat) (l : List Int) (id : Int) (B : Nat) (w : World) (hn : l.length = n) (hl : n ≤ 1000000) (hr : Rd w A (l.map (Value.int .i64))) (h : w.cell? ⟨B, 0, none⟩ = some (.int .i64 id)) :
    Calls Try.prog 74 #[.slice A n c, .func (.func 62) #[] #[.pointer (some ⟨B, 0, none⟩)]] w fun e w' => e = .returned (.int .i64 (posOf l id)) ∧ w = w' := by
  subst hn
  have HR := Lib.hid hr
  have HD := Lib.hid fun x => drop_is x id B w h
  clear hr h
  go_enter Try.func74, Try.ntmps74
  go_wp2
  go_loop [8] (fun i => ∃ k : Nat, k ≤ l.length ∧ i = .int .i64 (k : Int) ∧ Hid (∀ x ∈ l.take k, x ≠ id)) (fun i => l.length - (intOf i).toNat)
  case atStart => exact ⟨0, Nat.zero_le _, rfl, Lib.hid (by simp)⟩
  case round =>
    obtain ⟨k, hk, rfl, hlow⟩ := hrel
    by_cases hlt : k < l.length
    · obtain ⟨b, o, rfl, _, hcell⟩ := Rd.lit_of HR.out k (by rw [List.length_map]; exact hlt)
      have q := hcell k (by rw [List.length_map]; exact hlt)
      rw [List.getElem_map] at q
      have i0 : (0 : Int) ≤ (k : Int) := by omega
      have i1 : (k : Int) < (l.length : Int) := by omega
      clear hcell
      by_cases he : l[k] = id
      · have hpos : posOf l id = (k : Int) := by
          unfold posOf
          rw [if_pos (he ▸ List.getElem_mem hlt)]
          have := take_while_at (p := fun x => x != id) (l := l) (k := k) (fun a ha => by simpa using hlow.out a ha) (.inr ⟨hlt, by simpa using he⟩)
          rw [this, List.length_take]
          omega
        have HP := Lib.hid hpos
        clear hpos hlow
        rw [he] at q
        go_wp2_with fail
        (with_reducible refine (HD.out _).mono ?_)
        rintro e _ ⟨rfl, rfl⟩
        rw [beq_self_eq_true]
        go_wp2
        go_ret
        exact ⟨ret_int HP.out.symm, rfl⟩
      · have HLOW : Hid (∀ x ∈ l.take (k + 1), x ≠ id) := Lib.hid fun x hx => by
          rw [List.take_succ_eq_append_getElem hlt, List.mem_append, List.mem_singleton] at hx
          rcases hx with hx | rfl
          · exact hlow.out x hx
          · exact he
        have hb : (l[k] == id) = false := by simpa using he
        have HB := Lib.hid hb
        clear hlow hb he
        generalize l[k] = y at *
        go_wp2_with fail
        (with_reducible refine (HD.out _).mono ?_)
        rintro e _ ⟨rfl, rfl⟩
        rw [HB.out]
        go_wp2
        go_round
        case rel => exact ⟨k + 1, by omega, by go_num, HLOW⟩
        case measure => simp [intOf]; try omega
    · obtain rfl : k = l.length := by omega
      have hpos : posOf l id = -1 := by
        unfold posOf
        rw [if_neg fun h => by have := hlow.out id (by rw [List.take_length]; exact h); exact this rfl]
      have HP := Lib.hid hpos
      clear hpos
      go_wp2
      go_ret
      exact ⟨ret_int HP.out.symm, rfl⟩
end Go.Proofs.Ytpnfgnddlfkfaaa
