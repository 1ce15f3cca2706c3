/- Plain laws of the clock: a quiet disk. -/
import Derived.Test.YtnofeblcnamfeaaDoorLkPlain
namespace Go.Proofs.YtnofeblcnamfeaaDoor
open Go.RowKit Go.Proofs

/-- A disk whose power is on, with nothing cached and no cut armed. -/
def qD (K : List (List UInt8)) (bits : Int) : DiskM := ⟨K, [], false, 0, bits⟩
theorem readM_q (K : List (List UInt8)) (bits : Int) (i : Nat) : readM (qD K bits) i = K.getD i [] := rfl
theorem saveM_q (K : List (List UInt8)) (bits : Int) (C : ClkM) (t b : Int) :
    saveM (qD K bits) C t b = (0, qD (K.set (C.base + (C.n + 1) % 2) (clkSector C.n t b)) bits, ⟨C.base, t, b, C.n + 1⟩) := rfl
theorem readsM_clk (n t b : Nat) (hn : n < 4611686018427387904) (ht : t ≤ 9999) (hb : b < 10000000000) : readsM (clkSector n t b) = some (clkPiece n t b) := by
  have hl := intsW_len t b ht hb
  exact readsM_printM (n + 1) 0 0 0 1 _ (by omega) (clkPiece_right n t b hl)
theorem takesM_clk (n t b m place : Nat) (hn : n < 4611686018427387904) (h : m < n + 1) (hp : (n + 1) % 2 = place) : takesM (clkPiece n t b) m place = true := by
  simp only [takesM, Bool.and_eq_true, decide_eq_true_eq]
  refine ⟨⟨⟨⟨⟨⟨rfl, rfl⟩, rfl⟩, rfl⟩, ?_⟩, ?_⟩, ?_⟩
  · show (m : Int) < (n : Int) + 1; omega
  · show (n : Int) + 1 ≤ 4611686018427387904; omega
  · show ((n : Int) + 1) % 2 = (place : Int); omega
/-- A newer sector is taken. -/
theorem loadM_new (K : List (List UInt8)) (bits : Int) (C : ClkM) (place n t b : Nat) (hk : K.getD (C.base + place) [] = clkSector n t b) (hn : n < 4611686018427387904) (ht : t ≤ 1000) (hb : b ≤ 2147483648) (h : C.n < n + 1) (hp : (n + 1) % 2 = place) :
    loadM (qD K bits) C place = ⟨C.base, t, b, n + 1⟩ ∧ LoadOk (qD K bits) C place := by
  have h1 := readsM_clk n t b hn (by omega) (by omega)
  have h2 := takesM_clk n t b C.n place hn h hp
  constructor
  · unfold loadM
    rw [readM_q, hk, h1]
    simp only [h2, if_true]
    have h3 : dataM (clkPiece n t b).data = some ((t : Int), (b : Int)) := dataM_intsW t b ht hb
    rw [h3]
    simp [clkPiece]
  · refine Or.inr (Or.inr ⟨_, ?_, h2⟩)
    rw [readM_q, hk]
    exact h1
/-- An older one is not. -/
theorem loadM_old (K : List (List UInt8)) (bits : Int) (C : ClkM) (place n t b : Nat) (hk : K.getD (C.base + place) [] = clkSector n t b) (hn : n < 4611686018427387904) (ht : t ≤ 1000) (hb : b ≤ 2147483648) (h : n + 1 ≤ C.n) :
    loadM (qD K bits) C place = C ∧ LoadOk (qD K bits) C place := by
  have h1 := readsM_clk n t b hn (by omega) (by omega)
  have h2 : takesM (clkPiece n t b) C.n place = false := by
    rw [Bool.eq_false_iff]
    intro h'
    simp only [takesM, Bool.and_eq_true, decide_eq_true_eq] at h'
    have h3 : (C.n : Int) < (n : Int) + 1 := h'.1.1.2
    omega
  constructor
  · unfold loadM
    rw [readM_q, hk, h1]
    simp [h2]
  · refine Or.inr (Or.inl ⟨n + 1, intsW [(t : Int), (b : Int)], ?_, h⟩)
    rw [readM_q, hk]
    exact h1
/-- What is none is not. -/
theorem loadM_none (K : List (List UInt8)) (bits : Int) (C : ClkM) (place : Nat) (hk : readsM (K.getD (C.base + place) []) = none) :
    loadM (qD K bits) C place = C ∧ LoadOk (qD K bits) C place := by
  constructor
  · unfold loadM
    rw [readM_q, hk]
  · exact Or.inl hk
theorem readsM_zero : readsM (List.replicate 64 0) = none := by kernel_rfl
theorem saveOk_q (K : List (List UInt8)) (bits : Int) (C : ClkM) (t b : Nat) (hb : C.base + 2 ≤ K.length) (hn : C.n < 4611686018427387904) (ht : t ≤ 9999) (hbo : b < 10000000000) : SaveOk (qD K bits) C t b :=
  ⟨rfl, by simp [qD], hb, hn, ⟨by omega, by omega⟩, ⟨by omega, by omega⟩, intsW_len t b ht hbo⟩
theorem newM_q (n : Nat) : newM n = qD (List.replicate n (List.replicate 64 0)) 0 := rfl
end Go.Proofs.YtnofeblcnamfeaaDoor
