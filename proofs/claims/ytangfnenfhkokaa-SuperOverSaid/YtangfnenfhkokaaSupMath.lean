/-
  A slot's bytes, parsed, are the slot.
-/
import Derived.Test.YtangfnenfhkokaaSupB
import Derived.Test.YtangfnenfhkokaaSupR
import Derived.Test.YtangfnenfhkokaaPenTurn
set_option linter.unusedSimpArgs false
set_option linter.unusedVariables false
namespace Go.Proofs.Ytangfnenfhkokaa
open Go.RowKit Go.Maps

theorem chunk_flat {α : Type} (k : Nat) : ∀ (bs : List (List α)) (h : ∀ x ∈ bs, x.length = k) (i : Nat) (hi : i < bs.length), (bs.flatten.drop (i * k)).take k = bs[i]
  | [], _, i, hi => by simp at hi
  | x :: bs, h, 0, _ => by
    rw [Nat.zero_mul, List.drop_zero, List.flatten_cons, List.take_append_of_le_length (by rw [h x (by simp)]; omega), List.take_of_length_le (by rw [h x (by simp)]; omega)]
    rfl
  | x :: bs, h, i + 1, hi => by
    have hx := h x (by simp)
    have e : x.drop k = [] := List.drop_of_length_le (by omega)
    rw [List.flatten_cons, Nat.succ_mul, Nat.add_comm, ← List.drop_drop, List.drop_append_of_le_length (by omega), e, List.nil_append]
    exact chunk_flat k bs (fun y hy => h y (List.mem_cons_of_mem _ hy)) i (by simpa using hi)
theorem cuts_join {α : Type} (k : Nat) (L : List α) : ∀ n, ((List.range n).map fun i => (L.drop (i * k)).take k).flatten = L.take (n * k)
  | 0 => by simp
  | n + 1 => by rw [List.range_succ, List.map_append, List.flatten_append, cuts_join k L n, Nat.succ_mul, List.take_add]; simp
/-- what lies between the ends of the sectors -/
def inB (b : List UInt8) (os : List Nat) : List UInt8 := os.flatMap fun o => (((b.drop o).take 64).drop 4).take 56
theorem inB_snoc (b : List UInt8) (os : List Nat) (o : Nat) : inB b (os ++ [o]) = inB b os ++ (((b.drop o).take 64).drop 4).take 56 := by unfold inB; simp
theorem inB_sect (E L : List UInt8) (hE : E.length = 4) (hL : L.length = 224) : inB (sect 56 E L (cutsOf 56 4)) (cutsOf 64 4) = L := by
  have h1 : ∀ i, i < 4 → ((sect 56 E L (cutsOf 56 4)).drop (i * 64)).take 64 = E ++ (L.drop (i * 56)).take 56 ++ E := fun i hi => by
    have := chunk_flat 64 ((cutsOf 56 4).map fun o => E ++ (L.drop o).take 56 ++ E) (fun x hx => by
      obtain ⟨o, ho, rfl⟩ := List.mem_map.1 hx
      obtain ⟨j, hj, rfl⟩ := List.mem_map.1 ho
      have := List.mem_range.1 hj
      simp only [List.length_append, List.length_take, List.length_drop, hE, hL]
      omega) i (by simp [cutsOf]; exact hi)
    unfold sect
    rw [List.flatMap_def, this]
    simp [cutsOf]
  have h2 : ∀ i, i < 4 → (((sect 56 E L (cutsOf 56 4)).drop (i * 64)).take 64 |>.drop 4 |>.take 56) = (L.drop (i * 56)).take 56 := fun i hi => by
    rw [h1 i hi, List.append_assoc, List.drop_append_of_le_length (by omega), List.drop_of_length_le (by omega), List.nil_append, List.take_append_of_le_length (by simp only [List.length_take, List.length_drop, hL]; omega), List.take_of_length_le (by simp only [List.length_take, List.length_drop, hL]; omega)]
  have h3 := cuts_join 56 L 4
  rw [List.take_of_length_le (by omega)] at h3
  refine Eq.trans ?_ h3
  unfold inB
  rw [List.flatMap_def, show cutsOf 64 4 = (List.range 4).map (· * 64) from rfl, List.map_map]
  congr 1
  apply List.map_congr_left
  intro i hi
  exact h2 i (List.mem_range.1 hi)
theorem eBytes_pre : ∀ (n : Nat) (l rest : List UInt8), l.length = n → eBytes n (some (l ++ rest)) = (l, some rest)
  | 0, l, rest, h => by
    have : l = [] := List.eq_nil_of_length_eq_zero h
    subst this; rfl
  | n + 1, l, rest, h => by
    have h1 := List.take_append_drop n l
    obtain ⟨x, hx⟩ : ∃ x, l.drop n = [x] := List.length_eq_one_iff.1 (by rw [List.length_drop]; omega)
    rw [hx] at h1
    rw [← h1, eBytes, List.append_assoc, eBytes_pre n (l.take n) ([x] ++ rest) (by rw [List.length_take]; omega)]
    rfl
theorem word_four (c : Crc.W) : BitVec.ofNat 32 (wordN (four c)) = c := by
  apply BitVec.eq_of_toNat_eq
  rw [BitVec.toNat_ofNat]
  have hc := c.isLt
  have e : wordN (four c) = c.toNat := by
    simp only [wordN, four, Crc.four, UInt8.toNat_ofNat']
    omega
  rw [e]
  omega
theorem pigeon : ∀ (n : Nat) (l : List Int), l.Nodup → (∀ x ∈ l, 0 ≤ x ∧ x < (n : Int)) → l.length ≤ n
  | 0, l, _, h => by
    cases l with
    | nil => simp
    | cons x l => have := h x (by simp); omega
  | n + 1, l, hd, h => by
    have h1 := pigeon n (l.erase (n : Int)) (hd.erase _) fun x hx => by
      obtain ⟨h1, h2⟩ := (hd.mem_erase_iff).1 hx
      have := h x h2
      omega
    have h2 := List.length_erase (a := (n : Int)) (l := l)
    split at h2 <;> omega
theorem segsOk_all (segs : Int) : ∀ (l had : List Int), segsOk segs had l = true → (∀ x ∈ l, 0 ≤ x ∧ x < segs) ∧ (had.Nodup → (had ++ l).Nodup)
  | [], had, _ => ⟨fun x h => by simp at h, fun h => by simpa using h⟩
  | s :: l, had, h => by
    rw [segsOk, Bool.and_eq_true, Bool.and_eq_true] at h
    obtain ⟨⟨h1, h2⟩, h3⟩ := h
    have h1 := of_decide_eq_true h1
    obtain ⟨h4, h5⟩ := segsOk_all segs l (had ++ [s]) h3
    refine ⟨fun x hx => ?_, fun hn => ?_⟩
    · rcases List.mem_cons.1 hx with rfl | hx
      · exact h1
      · exact h4 x hx
    · have hs : s ∉ had := by simpa using h2
      have := h5 (by
        rw [List.nodup_append]
        refine ⟨hn, by simp, fun a ha b hb => ?_⟩
        rw [List.mem_singleton.1 hb]
        intro e
        subst e
        exact hs ha)
      simpa using this
theorem segsOk_mono (segs segs' : Int) (hle : segs ≤ segs') : ∀ (l had : List Int), segsOk segs had l = true → segsOk segs' had l = true
  | [], _, _ => rfl
  | s :: l, had, h => by
    rw [segsOk, Bool.and_eq_true, Bool.and_eq_true] at h ⊢
    obtain ⟨⟨h1, h2⟩, h3⟩ := h
    have h1 := of_decide_eq_true h1
    exact ⟨⟨decide_eq_true ⟨h1.1, by omega⟩, h2⟩, segsOk_mono segs segs' hle l _ h3⟩
theorem supMay_mono (s : Sup) (segs segs' : Int) (hle : segs ≤ segs') (h : supMay s segs = true) : supMay s segs' = true := by
  unfold supMay fitsL at *
  simp only [Bool.and_eq_true] at *
  exact ⟨h.1, ⟨segsOk_mono _ _ hle _ _ h.2.1.1, h.2.1.2⟩, ⟨segsOk_mono _ _ hle _ _ h.2.2.1, h.2.2.2⟩⟩
structure MayF (s : Sup) : Prop where
  number : 0 ≤ s.number ∧ s.number ≤ 2147483647
  boot : 0 ≤ s.boot ∧ s.boot ≤ 2147483647
  j : ∀ x ∈ s.jour.segs, 0 ≤ x ∧ x < 96
  c : ∀ x ∈ s.chunks.segs, 0 ≤ x ∧ x < 96
  jl : 0 ≤ s.jour.len ∧ s.jour.len ≤ 8 * (s.jour.segs.length : Int)
  cl : 0 ≤ s.chunks.len ∧ s.chunks.len ≤ 8 * (s.chunks.segs.length : Int)
  n : s.jour.segs.length + s.chunks.segs.length ≤ 96
  len : (penB s).length ≤ 220
theorem num_len1 (n k : Nat) (hk : 0 < k) (h : n < 128 ^ k) : (num n).length ≤ k := num_length n k hk h
theorem mayF (s : Sup) (h : supMay s 96 = true) : MayF s := by
  unfold supMay fitsL lenOk at h
  simp only [Bool.and_eq_true] at h
  obtain ⟨h1, ⟨h2, h3⟩, ⟨h4, h5⟩⟩ := h
  have h1 := of_decide_eq_true h1
  have h3 := of_decide_eq_true h3
  have h5 := of_decide_eq_true h5
  obtain ⟨a1, a2⟩ := segsOk_all 96 _ _ h2
  obtain ⟨b1, b2⟩ := segsOk_all 96 _ _ h4
  have hn : (s.jour.segs ++ s.chunks.segs).length ≤ 96 := pigeon 96 _ (b2 (by simpa using a2 (by simp))) fun x hx => by
    rcases List.mem_append.1 hx with hx | hx
    · exact a1 x hx
    · exact b1 x hx
  rw [List.length_append] at hn
  refine ⟨⟨h1.1, h1.2.1⟩, ⟨h1.2.2.1, h1.2.2.2⟩, a1, b1, h3, h5, hn, ?_⟩
  unfold penB logB
  simp only [List.length_append, List.length_map, four_len, List.length_cons, List.length_nil]
  have e1 := num_len1 s.number.toNat 5 (by omega) (by rw [show (128 : Nat) ^ 5 = 34359738368 from rfl]; omega)
  have e2 := num_len1 s.boot.toNat 5 (by omega) (by rw [show (128 : Nat) ^ 5 = 34359738368 from rfl]; omega)
  have e3 := num_len1 s.jour.segs.length 1 (by omega) (by omega)
  have e4 := num_len1 s.chunks.segs.length 1 (by omega) (by omega)
  have e5 := num_len1 s.jour.len.toNat 2 (by omega) (by rw [show (128 : Nat) ^ 2 = 16384 from rfl]; omega)
  have e6 := num_len1 s.chunks.len.toNat 2 (by omega) (by rw [show (128 : Nat) ^ 2 = 16384 from rfl]; omega)
  omega
theorem segs_back : ∀ (l : List Int), (∀ x ∈ l, 0 ≤ x ∧ x < 96) → (l.map sb).map bi = l
  | [], _ => rfl
  | x :: l, h => by
    rw [List.map_cons, List.map_cons, segs_back l fun y hy => h y (List.mem_cons_of_mem _ hy)]
    have := h x (by simp)
    have e : bi (sb x) = x := by unfold bi; rw [sb_nat]; omega
    rw [e]
theorem readL_logB (l : SLog) (rest : List UInt8) (h : ∀ x ∈ l.segs, 0 ≤ x ∧ x < 96) (hn : l.segs.length ≤ 96) (hl : 0 ≤ l.len ∧ l.len ≤ 768) : readL (some (logB l ++ rest)) = (l, some rest) := by
  unfold readL logB
  simp only [List.append_assoc]
  rw [eNum_num _ (by omega)]
  simp only [cap96, if_neg (show ¬ 96 < l.segs.length by omega)]
  rw [eBytes_pre l.segs.length (l.segs.map sb) _ (by rw [List.length_map])]
  simp only []
  rw [eNum_num _ (by omega)]
  simp only []
  rw [eBytes_pre 4 (four l.last) rest (four_len _)]
  simp only [word_four, segs_back l.segs h]
  obtain ⟨a, b, c⟩ := l
  simp only at hl
  have : ((b.toNat : Nat) : Int) = b := by omega
  rw [this]
def parseS (b : List UInt8) : Sup × St :=
  let a := eNum (some ((inB b (cutsOf 64 4)).drop 2))
  let c := eNum a.2
  let j := readL c.2
  let k := readL j.2
  (⟨(a.1 : Int), (c.1 : Int), j.1, k.1⟩, k.2)
def parseB (b : List UInt8) (segs : Int) : Option Sup :=
  if b.length = 256 ∧ (parseS b).2 ≠ none ∧ supMay (parseS b).1 96 = true ∧ bytesB (parseS b).1 = b ∧ supMay (parseS b).1 (min segs 96) = true then some (parseS b).1 else none
theorem bytesB_len (s : Sup) (h : (penB s).length ≤ 220) : (bytesB s).length = 256 := by
  have hp := plainB_len s h
  unfold bytesB sect cutsOf
  simp [List.range_succ, four_len, hp]
theorem parseS_bytes (s : Sup) (h : supMay s 96 = true) : ∃ rest, parseS (bytesB s) = (s, some rest) := by
  have F := mayF s h
  unfold parseS bytesB
  rw [inB_sect _ _ (four_len _) (plainB_len s F.len)]
  unfold plainB midB penB
  simp only [List.append_assoc]
  rw [show ([84, 82] : List UInt8) = [84] ++ [82] from rfl]
  simp only [List.cons_append, List.nil_append, List.drop_succ_cons, List.drop_zero]
  have f1 := F.number
  have f2 := F.boot
  have f3 := F.n
  have f4 := F.jl
  have f5 := F.cl
  rw [eNum_num _ (by omega)]
  simp only []
  rw [eNum_num _ (by omega)]
  simp only []
  rw [readL_logB _ _ F.j (by omega) (by omega)]
  simp only []
  rw [readL_logB _ _ F.c (by omega) (by omega)]
  obtain ⟨nu, bo, J, C⟩ := s
  simp only at f1 f2 ⊢
  have e1 : ((nu.toNat : Nat) : Int) = nu := by omega
  have e2 : ((bo.toNat : Nat) : Int) = bo := by omega
  rw [e1, e2]
  exact ⟨_, rfl⟩
theorem parseB_iff (b : List UInt8) (segs : Int) (s : Sup) : parseB b segs = some s ↔ supMay s (min segs 96) = true ∧ bytesB s = b := by
  unfold parseB
  constructor
  · intro h
    split at h
    · rename_i hc
      obtain ⟨c1, c2, c3, c4, c5⟩ := hc
      cases h
      exact ⟨c5, c4⟩
    · cases h
  · rintro ⟨h1, rfl⟩
    have h2 := supMay_mono s _ 96 (by omega) h1
    obtain ⟨rest, hr⟩ := parseS_bytes s h2
    rw [hr, if_pos ⟨bytesB_len s (mayF s h2).len, by simp, h2, rfl, h1⟩]
end Go.Proofs.Ytangfnenfhkokaa
