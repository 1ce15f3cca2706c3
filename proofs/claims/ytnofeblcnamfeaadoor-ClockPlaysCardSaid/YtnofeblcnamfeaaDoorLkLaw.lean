/- The statement's fixed part, walked. -/
import Derived.Test.YtnofeblcnamfeaaDoorProg
import Derived.Test.YtnofeblcnamfeaaDoorLkAwk
namespace Go.Proofs.YtnofeblcnamfeaaDoor
open Go.RowKit Go.Proofs

theorem clkL_kept {B : Nat} {w w' : World} (f : Fr B (47 :: diskL) w w') : Below B w w' := f.below

set_option maxRecDepth 100000 in
set_option maxHeartbeats 4000000 in
theorem law_awake (B0 : Nat) (w : World) (hE : Env B0 w) (hB : B0 ≤ w.heap.size) :
    Calls Tryd.prog 8 #[] w fun e w' => e = .returned (.bool true) ∧ Below w.heap.size w w' := by
  obtain ⟨K1, K2, K3, K4, S, ⟨a1, k1⟩, ⟨a2, k2⟩, ⟨a3, k3⟩, ⟨a4, a5, a6⟩, ⟨a7, k4⟩, a8, a9⟩ := awk_all
  have A1 := Lib.hid a1
  have A2 := Lib.hid a2
  have A3 := Lib.hid a3
  have A4 := Lib.hid a4
  have A5 := Lib.hid a5
  have A6 := Lib.hid a6
  have A7 := Lib.hid a7
  have A8 := Lib.hid a8
  have A9 := Lib.hid a9
  clear a1 a2 a3 a4 a5 a6 a7 a8 a9
  have HN := Lib.hid (disk_new 3 w (by decide) (by decide))
  rw [show newM 3 = qD aK0 0 from rfl] at HN
  have HE := Lib.hid hE
  obtain ⟨B, hBB⟩ : ∃ B, w.heap.size = B := ⟨_, rfl⟩
  rw [hBB] at HN hB
  have HBB := Lib.hid hBB
  clear hE hBB
  go_enter Tryd.func8, Tryd.ntmps8
  go_wp2_with fail
  refine HN.out.mono ?_
  rintro e w1 ⟨db, rfl, hD1, hb1⟩
  have z1 : B ≤ w1.heap.size := by have := hb1.size; rw [HBB.out] at this; exact this
  have hE1 : Env B0 w1 := HE.out.below (hb1.mono hB)
  have HO1 := Lib.hid (clk_open B0 B db (qD aK0 0) 1 w1 hE1 hB z1 hD1 rfl (by decide) awk1.2.2.1 awk1.2.2.2 (by rw [awk1.2.1]; exact saveOk_q aK0 0 (newClk 1) 0 1 (by decide) (by decide) (by decide) (by decide)))
  go_wp2_with fail
  refine HO1.out.mono ?_
  rintro e w2 ⟨c, he, hc1, hD2, hC2, hf2⟩
  rw [A1.out] at he hD2 hC2
  simp only at he hD2 hC2
  simp only [if_true] at he
  subst he
  have z2 : B ≤ w2.heap.size := by have := hf2.size; omega
  have hBc : B ≤ c := by omega
  have HO2 := Lib.hid (clk_open_arg B db (qD K1 0) 2 w2 hD2 (by right; show ((K1.length : Int) - 2 < 2); omega) (by decide) (by decide))
  go_wp2_with fail
  refine HO2.out.mono ?_
  rintro e w' ⟨rfl, rfl⟩
  go_wp2_with fail
  refine (clk_open_nil 0 _).mono ?_
  rintro e w' ⟨rfl, rfl⟩
  go_wp2_with fail
  have hE2 : Env B0 w2 := hE1.below (hf2.below.mono hB)
  have HT1 := Lib.hid (clk_tick B0 B db c (qD K1 0) ⟨1, 0, 1, 1⟩ w2 hE2 hB z2 hBc hD2 hC2 (saveOk_q K1 0 ⟨1, 0, 1, 1⟩ 1 1 (by simp only; omega) (by decide) (by decide) (by decide)) (by decide) (by decide))
  rw [show saveM (qD K1 0) ⟨1, 0, 1, 1⟩ ((⟨1, 0, 1, 1⟩ : ClkM).time + 1) (⟨1, 0, 1, 1⟩ : ClkM).boot = (0, qD K2 0, ⟨1, 1, 1, 2⟩) from A2.out] at HT1
  refine HT1.out.mono ?_
  rintro e w3 ⟨rfl, hD3, hC3, hf3, hk3⟩
  have z3 : B ≤ w3.heap.size := by have := hf3.size; omega
  have hE3 : Env B0 w3 := hE2.below (hf3.below.mono hB)
  have HT2 := Lib.hid (clk_tick B0 B db c (qD K2 0) ⟨1, 1, 1, 2⟩ w3 hE3 hB z3 hBc hD3 hC3 (saveOk_q K2 0 ⟨1, 1, 1, 2⟩ 2 1 (by simp only; omega) (by decide) (by decide) (by decide)) (by decide) (by decide))
  rw [show saveM (qD K2 0) ⟨1, 1, 1, 2⟩ ((⟨1, 1, 1, 2⟩ : ClkM).time + 1) (⟨1, 1, 1, 2⟩ : ClkM).boot = (0, qD K3 0, ⟨1, 2, 1, 3⟩) from A3.out] at HT2
  go_wp2_with fail
  refine HT2.out.mono ?_
  rintro e w4 ⟨rfl, hD4, hC4, hf4, hk4⟩
  have z4 : B ≤ w4.heap.size := by have := hf4.size; omega
  have hE4 : Env B0 w4 := hE3.below (hf4.below.mono hB)
  have HO4 := Lib.hid (clk_open B0 B db (qD K3 0) 1 w4 hE4 hB z4 hD4 rfl (by show 1 + 2 ≤ K3.length; omega) A5.out A6.out (by rw [A4.out]; exact saveOk_q K3 0 ⟨1, 2, 1, 3⟩ 2 2 (by simp only; omega) (by decide) (by decide) (by decide)))
  go_wp2_with fail
  refine HO4.out.mono ?_
  rintro e w5 ⟨x, he, hx5, hD5, hX5, hf5⟩
  rw [A7.out] at he hD5 hX5
  simp only at he hD5 hX5
  simp only [if_true] at he
  subst he
  have hC5 : ClkAt w5 c db ⟨1, 2, 1, 3⟩ := hf5.blk hC4 (by decide)
  have z5 : B ≤ w5.heap.size := by have := hf5.size; omega
  have L5 : Below B w w5 := (((hb1.trans hf2.below).trans hf3.below).trans hf4.below).trans hf5.below
  have HK := Lib.hid (disk_kept hD5 1 (by show 1 < K4.length; omega))
  have HX := Lib.hid hX5
  have HC := Lib.hid hC5
  have HR := Lib.hid (fun W => ref_print 4 0 0 0 1 [50, 44, 50, 44] W (by decide) (by decide) (by decide) (by decide) (by decide) (by decide))
  rw [A9.out] at HR
  rw [show (qD K4 0).kept.getD 1 [] = S from A8.out] at HK
  have hsb : ((str S).toList == (str S).toList) = true := beq_self_eq_true _
  go_wp2_with fail
  refine (clk_now x db ⟨1, 2, 2, 4⟩ _ HX.out).mono ?_
  rintro e w' ⟨rfl, rfl⟩
  go_wp2_with fail
  refine (clk_boot x db ⟨1, 2, 2, 4⟩ _ HX.out (by decide) (by decide)).mono ?_
  rintro e w' ⟨rfl, rfl⟩
  go_wp2_with fail
  refine (clk_boot c db ⟨1, 2, 1, 3⟩ _ HC.out (by decide) (by decide)).mono ?_
  rintro e w' ⟨rfl, rfl⟩
  go_wp2_with fail
  refine HK.out.mono ?_
  rintro e w' ⟨rfl, rfl⟩
  go_wp2_with fail
  refine (HR.out _).mono ?_
  rintro e w6 ⟨rfl, hb6⟩
  go_wp2_with fail
  go_ret
  exact ⟨rfl, by rw [HBB.out]; exact L5.trans (hb6.mono z5)⟩
end Go.Proofs.YtnofeblcnamfeaaDoor
