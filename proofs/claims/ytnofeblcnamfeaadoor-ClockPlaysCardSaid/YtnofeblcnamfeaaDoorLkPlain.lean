/- Plain laws: what is printed is read; what is written as numbers is taken as numbers. -/
import Derived.Test.YtnofeblcnamfeaaDoorLkOpn2
import Derived.Lib.AtoiTie
import Derived.Lib.IndexBytes
namespace Go.Proofs.YtnofeblcnamfeaaDoor
open Go.RowKit Go.Proofs

/-! numbers in bytes -/
theorem foldl_shift : ∀ (l : List UInt8) (n : Nat), l.foldl (fun n c => 256 * n + c.toNat) n = n * 256 ^ l.length + valM l
  | [], n => by simp [valM]
  | c :: l, n => by
    have h1 := foldl_shift l (256 * n + c.toNat)
    have h2 := foldl_shift l (256 * 0 + c.toNat)
    unfold valM
    simp only [List.foldl_cons, List.length_cons]
    rw [h1, h2, Nat.pow_succ]
    simp only [Nat.mul_zero, Nat.zero_add, Nat.add_mul]
    rw [Nat.mul_comm 256 n, Nat.mul_assoc, Nat.mul_comm 256]
    omega
theorem valM_cons (c : UInt8) (l : List UInt8) : valM (c :: l) = c.toNat * 256 ^ l.length + valM l := by
  have := foldl_shift l (256 * 0 + c.toNat)
  unfold valM at this ⊢
  simp only [List.foldl_cons]
  rw [this]
  simp
theorem valM_be (n : Nat) : ∀ k, valM (be k n) = n % 256 ^ k
  | 0 => by simp [be, valM, Nat.mod_one]
  | k + 1 => by
    rw [be, valM_cons, be_length, valM_be n k]
    have h1 : (UInt8.ofNat (n / 256 ^ k % 256)).toNat = n / 256 ^ k % 256 := by simp
    rw [h1, Nat.pow_succ, Nat.mod_mul, Nat.mul_comm]
    omega

/-! a printed sector is read -/
theorem cutL_mid (a b c : List UInt8) (i j : Nat) (h1 : a.length = i) (h2 : i + b.length = j) : cutL (a ++ b ++ c) i j = b := by
  subst h1
  subst h2
  unfold cutL
  rw [show a ++ b ++ c = (a ++ b) ++ c from rfl, List.take_append_of_le_length (by simp), List.take_of_length_le (by simp)]
  simp
theorem trimB_zeros (n : Nat) : Lib.trimB (List.replicate n 0) 0 = [] := by
  unfold Lib.trimB Lib.trimLeftB Lib.trimRightB
  have h : (List.replicate n (0 : UInt8)).reverse.dropWhile (· == 0) = [] := by
    rw [List.reverse_replicate]
    induction n with
    | zero => rfl
    | succ n ih => simp [List.replicate_succ]
  rw [h]
  rfl
theorem readsM_printM (st ge no ix tt : Nat) (d : List UInt8) (hst : st < 18446744073709551616) (h : rightM ⟨st, ge, no, ix, tt, d⟩ = true) : readsM (printM ⟨st, ge, no, ix, tt, d⟩) = some ⟨st, ge, no, ix, tt, d⟩ := by
  have h' := h
  simp only [rightM, withinB, Bool.and_eq_true, decide_eq_true_eq] at h
  obtain ⟨⟨⟨⟨⟨_, g1⟩, _, n1⟩, _, t1⟩, _, i1⟩, hd⟩ := h
  have e : printM ⟨st, ge, no, ix, tt, d⟩ = be 8 st ++ be 4 ge ++ be 2 no ++ be 2 ix ++ be 2 tt ++ [UInt8.ofNat d.length] ++ d ++ List.replicate (37 - d.length) 0 ++ be 8 st := rfl
  obtain ⟨L, hL⟩ : ∃ L, printM ⟨st, ge, no, ix, tt, d⟩ = L := ⟨_, rfl⟩
  have hl64 : L.length = 64 := by rw [← hL]; exact printM_length _ hd
  rw [hL] at e ⊢
  have l1 := be_length st 8
  have l2 := be_length ge 4
  have l3 := be_length no 2
  have l4 := be_length ix 2
  have l5 := be_length tt 2
  have c1 : cutL L 0 8 = be 8 st := by rw [e]; simp only [List.append_assoc]; exact cutL_mid [] (be 8 st) _ 0 8 rfl (by omega)
  have c2 : cutL L 8 12 = be 4 ge := by rw [e]; simp only [List.append_assoc]; rw [← List.append_assoc]; exact cutL_mid _ _ _ 8 12 l1 (by omega)
  have c3 : cutL L 12 14 = be 2 no := by rw [e]; have := cutL_mid (be 8 st ++ be 4 ge) (be 2 no) (be 2 ix ++ be 2 tt ++ [UInt8.ofNat d.length] ++ d ++ List.replicate (37 - d.length) 0 ++ be 8 st) 12 14 (by simp; omega) (by omega); simpa only [List.append_assoc] using this
  have c4 : cutL L 14 16 = be 2 ix := by rw [e]; have := cutL_mid (be 8 st ++ be 4 ge ++ be 2 no) (be 2 ix) (be 2 tt ++ [UInt8.ofNat d.length] ++ d ++ List.replicate (37 - d.length) 0 ++ be 8 st) 14 16 (by simp; omega) (by omega); simpa only [List.append_assoc] using this
  have c5 : cutL L 16 18 = be 2 tt := by rw [e]; have := cutL_mid (be 8 st ++ be 4 ge ++ be 2 no ++ be 2 ix) (be 2 tt) ([UInt8.ofNat d.length] ++ d ++ List.replicate (37 - d.length) 0 ++ be 8 st) 16 18 (by simp; omega) (by omega); simpa only [List.append_assoc] using this
  have c6 : L[18]? = some (UInt8.ofNat d.length) := by
    rw [e]
    have hl : (be 8 st ++ be 4 ge ++ be 2 no ++ be 2 ix ++ be 2 tt).length = 18 := by simp; omega
    simp only [List.append_assoc] at hl ⊢
    rw [← List.append_assoc, ← List.append_assoc, ← List.append_assoc, ← List.append_assoc, List.getElem?_append_right (by simp only [List.length_append] at hl ⊢; omega)]
    simp only [List.length_append] at hl ⊢
    rw [show 18 - ((((be 8 st).length + (be 4 ge).length) + (be 2 no).length) + (be 2 ix).length + (be 2 tt).length) = 0 by omega]
    rfl
  have hn : lenOf L = d.length := by
    unfold lenOf
    rw [c6]
    simp
    omega
  have c7 : cutL L 19 (19 + d.length) = d := by rw [e]; have := cutL_mid (be 8 st ++ be 4 ge ++ be 2 no ++ be 2 ix ++ be 2 tt ++ [UInt8.ofNat d.length]) d (List.replicate (37 - d.length) 0 ++ be 8 st) 19 (19 + d.length) (by simp; omega) rfl; simpa only [List.append_assoc] using this
  have c8 : cutL L (19 + d.length) 56 = List.replicate (37 - d.length) 0 := by rw [e]; have := cutL_mid (be 8 st ++ be 4 ge ++ be 2 no ++ be 2 ix ++ be 2 tt ++ [UInt8.ofNat d.length] ++ d) (List.replicate (37 - d.length) 0) (be 8 st) (19 + d.length) 56 (by simp; omega) (by simp; omega); simpa only [List.append_assoc] using this
  have c9 : cutL L 56 64 = be 8 st := by rw [e]; have := cutL_mid (be 8 st ++ be 4 ge ++ be 2 no ++ be 2 ix ++ be 2 tt ++ [UInt8.ofNat d.length] ++ d ++ List.replicate (37 - d.length) 0) (be 8 st) [] 56 64 (by simp; omega) (by omega); simpa only [List.append_assoc, List.append_nil] using this
  have hp : pieceOf L = ⟨st, ge, no, ix, tt, d⟩ := by
    unfold pieceOf
    rw [c1, c2, c3, c4, c5, hn, c7, valM_be, valM_be, valM_be, valM_be, valM_be]
    rw [Nat.mod_eq_of_lt (by omega), Nat.mod_eq_of_lt (by omega), Nat.mod_eq_of_lt (by omega), Nat.mod_eq_of_lt (by omega), Nat.mod_eq_of_lt (by omega)]
  unfold readsM
  rw [if_pos ⟨hl64, by rw [c1, c9], by omega, by rw [hp]; exact h', by rw [hn, c8]; exact trimB_zeros _⟩, hp]

/-! numbers as numerals -/
theorem decFrom_append : ∀ (a b : List UInt8) (n : Nat), Lib.decFrom n (a ++ b) = (Lib.decFrom n a).bind fun m => Lib.decFrom m b
  | [], b, n => rfl
  | c :: a, b, n => by
    simp only [List.cons_append, Lib.decFrom]
    cases Lib.digitVal c with
    | none => rfl
    | some d => exact decFrom_append a b _
theorem digit_toNat (u : Nat) (h : u < 10) : (UInt8.ofNat (48 + u)).toNat = 48 + u := by simp; omega
theorem digitVal_ofNat (u : Nat) (h : u < 10) : Lib.digitVal (UInt8.ofNat (48 + u)) = some u := by
  unfold Lib.digitVal
  rw [digit_toNat u h, if_pos (by omega)]
  simp
theorem decFrom_decDigits (u : Nat) : Lib.decFrom 0 (Lib.decDigits u) = some u := by
  induction u using Nat.strongRecOn with
  | _ u ih =>
    by_cases h : u < 10
    · rw [Lib.decDigits, dif_pos h]
      simp only [Lib.decFrom, digitVal_ofNat u h]
      simp
    · rw [Lib.decDigits, dif_neg h, decFrom_append, ih (u / 10) (by omega)]
      simp only [Option.bind_some, Lib.decFrom, digitVal_ofNat (u % 10) (by omega)]
      congr 1
      omega
theorem decDigits_mem (u : Nat) : ∀ c ∈ Lib.decDigits u, 48 ≤ c.toNat ∧ c.toNat ≤ 57 := by
  induction u using Nat.strongRecOn with
  | _ u ih =>
    intro c hc
    by_cases h : u < 10
    · rw [Lib.decDigits, dif_pos h] at hc
      simp only [List.mem_singleton] at hc
      rw [hc, digit_toNat u h]
      omega
    · rw [Lib.decDigits, dif_neg h] at hc
      rcases List.mem_append.1 hc with hc | hc
      · exact ih (u / 10) (by omega) c hc
      · simp only [List.mem_singleton] at hc
        rw [hc, digit_toNat (u % 10) (by omega)]
        omega
theorem decDigits_ne (u : Nat) : Lib.decDigits u ≠ [] := by
  rw [Lib.decDigits]
  split <;> simp
theorem decDigits_len : ∀ (k u : Nat), u < 10 ^ (k + 1) → (Lib.decDigits u).length ≤ k + 1
  | 0, u, h => by rw [Lib.decDigits_one (by simpa using h)]; simp
  | k + 1, u, h => by
    by_cases h10 : u < 10
    · rw [Lib.decDigits_one h10]; simp
    · rw [Lib.decDigits, dif_neg h10, List.length_append]
      have := decDigits_len k (u / 10) (by rw [Nat.pow_succ] at h; omega)
      simp
      omega
theorem atoiM_itoa (u : Nat) (h : u < 1000000000000000000) : atoiM (Lib.itoa u) = some (u : Int) := by
  have e : Lib.itoa (u : Int) = Lib.decDigits u := by unfold Lib.itoa; rw [if_neg (by omega)]; simp
  unfold atoiM
  rw [e, Lib.atoiAll_short _ (decDigits_len 17 u (by simpa using h))]
  have hm := decDigits_mem u
  have hd := decFrom_decDigits u
  have hne := decDigits_ne u
  cases hl : Lib.decDigits u with
  | nil => exact absurd hl hne
  | cons c r =>
    rw [hl] at hm hd
    have hc := hm c (by simp)
    have h45 : (c == 45) = false := by
      rw [beq_eq_false_iff_ne]
      rintro rfl
      simp at hc
    have h43 : (c == 43) = false := by
      rw [beq_eq_false_iff_ne]
      rintro rfl
      simp at hc
    simp [Lib.atoi, h45, h43, Lib.decNat, hd, Lib.NumEnd.ofOption]
theorem index_sep : ∀ (a tl : List UInt8) (c : UInt8), c ∉ a → Lib.indexByte (a ++ c :: tl) c = a.length
  | [], tl, c, _ => by simp [Lib.indexByte]
  | b :: a, tl, c, h => by
    have h1 := index_sep a tl c (fun hm => h (List.mem_cons_of_mem _ hm))
    have hb : (b == c) = false := by
      rw [beq_eq_false_iff_ne]
      rintro rfl
      exact h (by simp)
    simp only [List.cons_append, Lib.indexByte, hb, h1]
    rw [if_neg (by simp), if_neg (by simp)]
    simp
theorem cut_sep (a tl : List UInt8) (c : UInt8) (h : c ∉ a) : Lib.cut (a ++ c :: tl) [c] = (a, tl, true) := by
  have h1 : Lib.index (a ++ c :: tl) [c] = a.length := by rw [Lib.index_one]; exact index_sep a tl c h
  unfold Lib.cut
  rw [h1, if_pos (by omega)]
  simp
/-- A number that was written is taken. -/
theorem intM_intsW (u : Nat) (l : List Int) (lo hi : Int) (h : u < 1000000000000000000) (h0 : lo ≤ u) (h1 : (u : Int) ≤ hi) : intM (intsW ((u : Int) :: l)) false lo hi = ((u : Int), intsW l, false) := by
  have e : Lib.itoa (u : Int) = Lib.decDigits u := by unfold Lib.itoa; rw [if_neg (by omega)]; simp
  have hc : Lib.cut (intsW ((u : Int) :: l)) [44] = (Lib.itoa u, intsW l, true) := by
    have : intsW ((u : Int) :: l) = Lib.itoa u ++ 44 :: intsW l := by simp [intsW]
    rw [this]
    refine cut_sep _ _ _ (fun hm => ?_)
    rw [e] at hm
    have := decDigits_mem u 44 hm
    simp at this
  unfold intM
  rw [hc]
  simp only [Bool.false_eq_true, if_false, if_true, atoiM_itoa u h]
  rw [if_pos ⟨trivial, h0, h1⟩]
theorem dataM_intsW (t b : Nat) (ht : t ≤ 1000) (hb : b ≤ 2147483648) : dataM (intsW [(t : Int), (b : Int)]) = some ((t : Int), (b : Int)) := by
  unfold dataM
  rw [intM_intsW t [(b : Int)] 0 1000 (by omega) (by omega) (by omega)]
  simp only
  rw [intM_intsW b [] 0 2147483648 (by omega) (by omega) (by omega)]
  simp [intsW]
theorem intsW_len (t b : Nat) (ht : t ≤ 9999) (hb : b < 10000000000) : (intsW [(t : Int), (b : Int)]).length ≤ 37 := by
  have e : ∀ u : Nat, Lib.itoa (u : Int) = Lib.decDigits u := fun u => by unfold Lib.itoa; rw [if_neg (by omega)]; simp
  have h1 := decDigits_len 3 t (by simpa using Nat.lt_succ_of_le ht)
  have h2 := decDigits_len 9 b (by simpa using hb)
  simp [intsW, e]
  omega
end Go.Proofs.YtnofeblcnamfeaaDoor
