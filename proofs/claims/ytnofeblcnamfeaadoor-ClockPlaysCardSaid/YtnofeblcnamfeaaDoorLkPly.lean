/- Plain laws of the clock: a disk that may fail at each write. -/
import Derived.Test.YtnofeblcnamfeaaDoorLkAwk
namespace Go.Proofs.YtnofeblcnamfeaaDoor
open Go.RowKit Go.Proofs

/-- The last eight bytes are a stamp of at most n. -/
def EndOk (s : List UInt8) (n : Nat) : Prop := s.length = 64 ∧ ∃ m, m ≤ n ∧ cutL s 56 64 = be 8 m
def Here (s : List UInt8) (n t b : Nat) : Prop := (n = 0 ∧ t = 0 ∧ b = 0 ∧ readsM s = none) ∨ ∃ m, n = m + 1 ∧ s = clkSector m t b
def Old (s : List UInt8) (n : Nat) : Prop := readsM s = none ∨ ∃ m t b : Nat, m + 1 < n ∧ (m + 1) % 2 = (n + 1) % 2 ∧ t ≤ 1000 ∧ b ≤ 2147483648 ∧ s = clkSector m t b
/-- What two sectors keep: n writes, a time, a boot. -/
structure KIn (K : List (List UInt8)) (n t b : Nat) : Prop where
  len : K.length = 2
  here : Here (K.getD (n % 2) []) n t b
  old : Old (K.getD ((n + 1) % 2) []) n
  e0 : EndOk (K.getD (n % 2) []) n
  e1 : EndOk (K.getD ((n + 1) % 2) []) n

theorem printM_tail (p : PieceM) (h : p.data.length ≤ 37) : cutL (printM p) 56 64 = be 8 p.stamp.toNat := by
  have hl := printM_length p h
  have e : printM p = (be 8 p.stamp.toNat ++ be 4 p.gen.toNat ++ be 2 p.no.toNat ++ be 2 p.index.toNat ++ be 2 p.total.toNat ++ [UInt8.ofNat p.data.length] ++ p.data ++ List.replicate (37 - p.data.length) 0) ++ be 8 p.stamp.toNat := rfl
  unfold cutL
  rw [List.take_of_length_le (by omega), e]
  refine List.drop_left' ?_
  simp only [List.length_append, be_length, List.length_cons, List.length_nil, List.length_replicate]
  omega
theorem printM_head (p : PieceM) : (printM p).take 8 = be 8 p.stamp.toNat := by
  have e : printM p = be 8 p.stamp.toNat ++ (be 4 p.gen.toNat ++ be 2 p.no.toNat ++ be 2 p.index.toNat ++ be 2 p.total.toNat ++ [UInt8.ofNat p.data.length] ++ p.data ++ List.replicate (37 - p.data.length) 0 ++ be 8 p.stamp.toNat) := by
    simp only [printM, List.append_assoc]
  rw [e]
  exact List.take_left' (be_length _ _)
theorem clk_len (n t b : Nat) (ht : t ≤ 9999) (hb : b < 10000000000) : (clkSector n t b).length = 64 := printM_length _ (intsW_len t b ht hb)
theorem clk_tail (n t b : Nat) (ht : t ≤ 9999) (hb : b < 10000000000) : cutL (clkSector n t b) 56 64 = be 8 (n + 1) := by
  have := printM_tail (clkPiece n t b) (intsW_len t b ht hb)
  exact this
theorem clk_head (n : Nat) (t b : Int) : (clkSector n t b).take 8 = be 8 (n + 1) := printM_head (clkPiece n t b)
theorem be_inj (a b : Nat) (ha : a < 18446744073709551616) (hb : b < 18446744073709551616) (h : be 8 a = be 8 b) : a = b := by
  have h1 := valM_be a 8
  have h2 := valM_be b 8
  rw [h] at h1
  rw [h1] at h2
  simp at h2
  omega
theorem readsM_torn (s : List UInt8) (h : cutL s 0 8 ≠ cutL s 56 64) : readsM s = none := by
  unfold readsM
  rw [if_neg (fun hc => h hc.2.1)]

theorem getD_set_same {α : Type} (K : List α) (i : Nat) (x d : α) (h : i < K.length) : (K.set i x).getD i d = x := by simp [List.getD, h]
theorem getD_set_other {α : Type} (K : List α) (i j : Nat) (x d : α) (h : i ≠ j) : (K.set i x).getD j d = K.getD j d := by simp [List.getD, h]
theorem set_getD {α : Type} (K : List α) (i : Nat) (d : α) (h : i < K.length) : K.set i (K.getD i d) = K := by simp [List.getD, h]

/-- A whole write. -/
theorem kin_full {K : List (List UInt8)} {n t b : Nat} (h : KIn K n t b) (ht : t ≤ 1000) (hb : b ≤ 2147483648) (t' b' : Nat) (ht' : t' ≤ 9999) (hb' : b' < 10000000000) : KIn (K.set ((n + 1) % 2) (clkSector n t' b')) (n + 1) t' b' := by
  have hl := h.len
  have hi : (n + 1) % 2 < K.length := by omega
  have hne : (n + 1) % 2 ≠ (n + 1 + 1) % 2 := by omega
  have he : (n + 1 + 1) % 2 = n % 2 := by omega
  refine ⟨by simpa using hl, ?_, ?_, ?_, ?_⟩
  · rw [getD_set_same _ _ _ _ hi]; exact Or.inr ⟨n, rfl, rfl⟩
  · rw [getD_set_other _ _ _ _ _ hne, he]
    rcases h.here with ⟨_, _, _, h0⟩ | ⟨m, rfl, h0⟩
    · exact Or.inl h0
    · exact Or.inr ⟨m, t, b, by omega, by omega, ht, hb, h0⟩
  · rw [getD_set_same _ _ _ _ hi]; exact ⟨clk_len n t' b' ht' hb', n + 1, Nat.le_refl _, clk_tail n t' b' ht' hb'⟩
  · rw [getD_set_other _ _ _ _ _ hne, he]
    obtain ⟨h1, m, h2, h3⟩ := h.e0
    exact ⟨h1, m, by omega, h3⟩
/-- A write that was cut short: it is as if there had been none, or as if it had been whole. -/
theorem kin_torn {K : List (List UInt8)} {n t b : Nat} (h : KIn K n t b) (hn : n < 4611686018427387904) (ht : t ≤ 1000) (hb : b ≤ 2147483648) (t' b' : Nat) (ht' : t' ≤ 9999) (hb' : b' < 10000000000) (f : Nat) (hf : f = 0 ∨ f = 64 ∨ (8 ≤ f ∧ f ≤ 56)) :
    KIn (K.set ((n + 1) % 2) ((clkSector n t' b').take f ++ (K.getD ((n + 1) % 2) []).drop f)) n t b ∨ KIn (K.set ((n + 1) % 2) ((clkSector n t' b').take f ++ (K.getD ((n + 1) % 2) []).drop f)) (n + 1) t' b' := by
  have hl := h.len
  have hi : (n + 1) % 2 < K.length := by omega
  have hne : (n + 1) % 2 ≠ n % 2 := by omega
  have c64 := clk_len n t' b' ht' hb'
  obtain ⟨o64, m, hm, ho⟩ := h.e1
  rcases hf with rfl | rfl | ⟨hf1, hf2⟩
  · left
    rw [List.take_zero, List.drop_zero, List.nil_append, set_getD _ _ _ hi]
    exact h
  · right
    rw [List.take_of_length_le (by omega), List.drop_of_length_le (by omega), List.append_nil]
    exact kin_full h ht hb t' b' ht' hb'
  · left
    obtain ⟨o, ho'⟩ : ∃ o, K.getD ((n + 1) % 2) [] = o := ⟨_, rfl⟩
    rw [ho'] at o64 ho ⊢
    have hlen : ((clkSector n t' b').take f ++ o.drop f).length = 64 := by simp; omega
    have htail : cutL ((clkSector n t' b').take f ++ o.drop f) 56 64 = be 8 m := by
      rw [← ho]
      unfold cutL
      have hlf : ((clkSector n t' b').take f).length = f := by rw [List.length_take]; omega
      rw [List.take_of_length_le (Nat.le_of_eq hlen), List.take_of_length_le (Nat.le_of_eq o64), List.drop_append, List.drop_of_length_le (by rw [hlf]; omega), List.nil_append, List.drop_drop, hlf]
      congr 1
      omega
    have hhead : cutL ((clkSector n t' b').take f ++ o.drop f) 0 8 = be 8 (n + 1) := by
      unfold cutL
      rw [List.drop_zero, List.take_append_of_le_length (by rw [List.length_take]; omega), List.take_take, show min 8 f = 8 by omega]
      exact clk_head n t' b'
    have htorn : readsM ((clkSector n t' b').take f ++ o.drop f) = none := by
      refine readsM_torn _ ?_
      rw [htail, hhead]
      intro he
      have := be_inj _ _ (by omega) (by omega) he
      omega
    refine ⟨by simpa using hl, ?_, ?_, ?_, ?_⟩
    · rw [getD_set_other _ _ _ _ _ hne]; exact h.here
    · rw [getD_set_same _ _ _ _ hi]; exact Or.inl htorn
    · rw [getD_set_other _ _ _ _ _ hne]; exact h.e0
    · rw [getD_set_same _ _ _ _ hi]; exact ⟨hlen, m, hm, htail⟩

/-- What is loaded of them. -/
theorem kin_loads {K : List (List UInt8)} {n t b : Nat} (h : KIn K n t b) (hn : n < 4611686018427387904) (ht : t ≤ 1000) (hb : b ≤ 2147483648) (bits : Int) :
    loadsM (qD K bits) (newClk 0) 2 = ⟨0, t, b, n⟩ ∧ LoadOk (qD K bits) (newClk 0) 0 ∧ LoadOk (qD K bits) (loadsM (qD K bits) (newClk 0) 1) 1 := by
  suffices hs : ∃ C1, (loadM (qD K bits) (newClk 0) 0 = C1 ∧ LoadOk (qD K bits) (newClk 0) 0) ∧ (loadM (qD K bits) C1 1 = ⟨0, t, b, n⟩ ∧ LoadOk (qD K bits) C1 1) by
    obtain ⟨C1, h0, h1⟩ := hs
    have := loads2 K bits 0 C1 ⟨0, t, b, n⟩ h0 h1
    exact ⟨this.2.1, this.2.2.1, this.2.2.2⟩
  rcases Nat.mod_two_eq_zero_or_one n with hp | hp
  · have hp1 : (n + 1) % 2 = 1 := by omega
    have hh := h.here
    have hol := h.old
    rw [hp] at hh
    rw [hp1] at hol
    refine ⟨⟨0, t, b, n⟩, ?_, ?_⟩
    · rcases hh with ⟨rfl, rfl, rfl, h0⟩ | ⟨m, rfl, h0⟩
      · exact loadM_none K bits (newClk 0) 0 h0
      · exact loadM_new K bits (newClk 0) 0 m t b h0 (by omega) ht hb (by simp [newClk]) hp
    · rcases hol with h0 | ⟨m, t2, b2, h2, h3, ht2, hb2, h0⟩
      · exact loadM_none K bits ⟨0, t, b, n⟩ 1 h0
      · exact loadM_old K bits ⟨0, t, b, n⟩ 1 m t2 b2 h0 (by omega) ht2 hb2 (by simp; omega)
  · have hp1 : (n + 1) % 2 = 0 := by omega
    have hh := h.here
    have hol := h.old
    rw [hp] at hh
    rw [hp1] at hol
    rcases hh with ⟨h1, _⟩ | ⟨k, rfl, h1⟩
    · omega
    rcases hol with h0 | ⟨m, t2, b2, h2, h3, ht2, hb2, h0⟩
    · exact ⟨newClk 0, loadM_none K bits (newClk 0) 0 h0, loadM_new K bits (newClk 0) 1 k t b h1 (by omega) ht hb (by simp [newClk]) hp⟩
    · exact ⟨⟨0, t2, b2, m + 1⟩, loadM_new K bits (newClk 0) 0 m t2 b2 h0 (by omega) ht2 hb2 (by simp [newClk]) (by omega), loadM_new K bits ⟨0, t2, b2, m + 1⟩ 1 k t b h1 (by omega) ht hb (by simp; omega) hp⟩

/-- A disk that is on, with nothing cached; perhaps a cut is armed. -/
def aD (K : List (List UInt8)) (a bits : Int) : DiskM := ⟨K, [], false, a, bits⟩
theorem loadsM_aD (K : List (List UInt8)) (a bits : Int) (C : ClkM) : loadsM (aD K a bits) C 2 = loadsM (qD K bits) C 2 := rfl
theorem loadsM_aD1 (K : List (List UInt8)) (a bits : Int) (C : ClkM) : loadsM (aD K a bits) C 1 = loadsM (qD K bits) C 1 := rfl
theorem loadOk_aD (K : List (List UInt8)) (a bits : Int) (C : ClkM) (p : Nat) : LoadOk (aD K a bits) C p = LoadOk (qD K bits) C p := rfl
theorem fateM_cases (bits i : Int) : (fateM bits i).toNat = 0 ∨ (fateM bits i).toNat = 64 ∨ (8 ≤ (fateM bits i).toNat ∧ (fateM bits i).toNat ≤ 56) := by
  unfold fateM
  split
  · left; rfl
  · dsimp only
    split
    · left; rfl
    · split
      · right; left; rfl
      · right; right; omega
/-- What becomes of a save, where a cut may be armed. -/
theorem save_cases {K : List (List UInt8)} {n t b : Nat} (h : KIn K n t b) (hn : n < 4611686018427387904) (ht : t ≤ 1000) (hb : b ≤ 2147483648) (t' b' : Nat) (ht' : t' ≤ 9999) (hb' : b' < 10000000000) (a bits : Int) (tt bb : Int) (ha : 0 ≤ a) :
    (∃ K' bits', saveM (aD K a bits) ⟨0, tt, bb, n⟩ t' b' = (5, ⟨K', [], true, 0, bits'⟩, ⟨0, tt, bb, n⟩) ∧ (KIn K' n t b ∨ KIn K' (n + 1) t' b')) ∨
    (∃ K' a', saveM (aD K a bits) ⟨0, tt, bb, n⟩ t' b' = (0, aD K' a' bits, ⟨0, t', b', n + 1⟩) ∧ KIn K' (n + 1) t' b') := by
  by_cases h0 : a = 0
  · right
    refine ⟨K.set ((n + 1) % 2) (clkSector n t' b'), a, ?_, kin_full h ht hb t' b' ht' hb'⟩
    subst h0
    simp only [saveM, writeM, aD, if_true, Nat.zero_add]
    rfl
  · by_cases h1 : 1 < a
    · right
      refine ⟨K.set ((n + 1) % 2) (clkSector n t' b'), a - 1, ?_, kin_full h ht hb t' b' ht' hb'⟩
      simp only [saveM, writeM, aD, if_neg h0, if_pos h1, if_true, Nat.zero_add]
      rfl
    · left
      refine ⟨K.set ((n + 1) % 2) ((clkSector n t' b').take (fateM bits 0).toNat ++ (K.getD ((n + 1) % 2) []).drop (fateM bits 0).toNat), bits, ?_, kin_torn h hn ht hb t' b' ht' hb' _ (fateM_cases bits 0)⟩
      simp only [saveM, writeM, aD, if_neg h0, if_neg h1, Nat.zero_add]
      rfl
end Go.Proofs.YtnofeblcnamfeaaDoor
