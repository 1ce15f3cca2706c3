/- What the statement's fixed part computes. -/
import Derived.Test.YtnofeblcnamfeaaDoorLkPlain2
import Derived.Test.YtnofeblcnamfeaaDoorLkRef2
namespace Go.Proofs.YtnofeblcnamfeaaDoor
open Go.RowKit Go.Proofs

def zS : List UInt8 := List.replicate 64 0
def aK0 : List (List UInt8) := [zS, zS, zS]
def aK1 : List (List UInt8) := [zS, zS, clkSector 0 0 1]
def aK2 : List (List UInt8) := [zS, clkSector 1 1 1, clkSector 0 0 1]
def aK3 : List (List UInt8) := [zS, clkSector 1 1 1, clkSector 2 2 1]
def aK4 : List (List UInt8) := [zS, clkSector 3 2 2, clkSector 2 2 1]
theorem loads2 (K : List (List UInt8)) (bits : Int) (base : Nat) (C1 C2 : ClkM) (h0 : loadM (qD K bits) (newClk base) 0 = C1 ∧ LoadOk (qD K bits) (newClk base) 0) (h1 : loadM (qD K bits) C1 1 = C2 ∧ LoadOk (qD K bits) C1 1) :
    loadsM (qD K bits) (newClk base) 1 = C1 ∧ loadsM (qD K bits) (newClk base) 2 = C2 ∧ LoadOk (qD K bits) (newClk base) 0 ∧ LoadOk (qD K bits) (loadsM (qD K bits) (newClk base) 1) 1 := by
  have e1 : loadsM (qD K bits) (newClk base) 1 = C1 := h0.1
  have e2 : loadsM (qD K bits) (newClk base) 2 = C2 := by
    show loadM _ (loadsM (qD K bits) (newClk base) 1) 1 = C2
    rw [e1]; exact h1.1
  exact ⟨e1, e2, h0.2, by rw [e1]; exact h1.2⟩
theorem awk1 : loadsM (qD aK0 0) (newClk 1) 1 = newClk 1 ∧ loadsM (qD aK0 0) (newClk 1) 2 = newClk 1 ∧ LoadOk (qD aK0 0) (newClk 1) 0 ∧ LoadOk (qD aK0 0) (loadsM (qD aK0 0) (newClk 1) 1) 1 := loads2 aK0 0 1 (newClk 1) (newClk 1) (loadM_none aK0 0 (newClk 1) 0 readsM_zero) (loadM_none aK0 0 (newClk 1) 1 readsM_zero)
theorem awk1_open : openM (qD aK0 0) 1 = (0, qD aK1 0, ⟨1, 0, 1, 1⟩) := by
  unfold openM
  rw [awk1.2.1]
  rfl
theorem awk_tick1 : saveM (qD aK1 0) ⟨1, 0, 1, 1⟩ (0 + 1) 1 = (0, qD aK2 0, ⟨1, 1, 1, 2⟩) := rfl
theorem awk_tick2 : saveM (qD aK2 0) ⟨1, 1, 1, 2⟩ (1 + 1) 1 = (0, qD aK3 0, ⟨1, 2, 1, 3⟩) := rfl
theorem awk2 : loadsM (qD aK3 0) (newClk 1) 1 = ⟨1, 1, 1, 2⟩ ∧ loadsM (qD aK3 0) (newClk 1) 2 = ⟨1, 2, 1, 3⟩ ∧ LoadOk (qD aK3 0) (newClk 1) 0 ∧ LoadOk (qD aK3 0) (loadsM (qD aK3 0) (newClk 1) 1) 1 := loads2 aK3 0 1 ⟨1, 1, 1, 2⟩ ⟨1, 2, 1, 3⟩ (loadM_new aK3 0 (newClk 1) 0 1 1 1 rfl (by decide) (by decide) (by decide) (by decide) rfl) (loadM_new aK3 0 ⟨1, 1, 1, 2⟩ 1 2 2 1 rfl (by decide) (by decide) (by decide) (by decide) rfl)
theorem awk2_open : openM (qD aK3 0) 1 = (0, qD aK4 0, ⟨1, 2, 2, 4⟩) := by
  unfold openM
  rw [awk2.2.1]
  rfl
theorem intsW22 : intsW [2, 2] = [50, 44, 50, 44] := by
  have h : Lib.itoa 2 = [50] := by
    have : Lib.itoa 2 = Lib.decDigits 2 := rfl
    rw [this, Lib.decDigits_one (by decide)]
    rfl
  simp [intsW, h]
theorem ref_eq : refPrint 4 0 0 0 1 [50, 44, 50, 44] = clkSector 3 2 2 := by
  unfold clkSector clkPiece
  rw [intsW22]
  rfl

/-- The fixed part, its sectors as letters. -/
theorem awk_all : ∃ K1 K2 K3 K4 : List (List UInt8), ∃ S : List UInt8,
    (openM (qD aK0 0) 1 = (0, qD K1 0, ⟨1, 0, 1, 1⟩) ∧ K1.length = 3) ∧
    (saveM (qD K1 0) ⟨1, 0, 1, 1⟩ 1 1 = (0, qD K2 0, ⟨1, 1, 1, 2⟩) ∧ K2.length = 3) ∧
    (saveM (qD K2 0) ⟨1, 1, 1, 2⟩ 2 1 = (0, qD K3 0, ⟨1, 2, 1, 3⟩) ∧ K3.length = 3) ∧
    (loadsM (qD K3 0) (newClk 1) 2 = ⟨1, 2, 1, 3⟩ ∧ LoadOk (qD K3 0) (newClk 1) 0 ∧ LoadOk (qD K3 0) (loadsM (qD K3 0) (newClk 1) 1) 1) ∧
    (openM (qD K3 0) 1 = (0, qD K4 0, ⟨1, 2, 2, 4⟩) ∧ K4.length = 3) ∧ K4.getD 1 [] = S ∧ refPrint 4 0 0 0 1 [50, 44, 50, 44] = S :=
  ⟨aK1, aK2, aK3, aK4, clkSector 3 2 2, ⟨awk1_open, rfl⟩, ⟨awk_tick1, rfl⟩, ⟨awk_tick2, rfl⟩, ⟨awk2.2.1, awk2.2.2.1, awk2.2.2.2⟩, ⟨awk2_open, rfl⟩, rfl, ref_eq⟩
end Go.Proofs.YtnofeblcnamfeaaDoor
