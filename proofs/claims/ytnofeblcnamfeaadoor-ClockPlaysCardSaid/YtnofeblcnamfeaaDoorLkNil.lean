/- Layer 17: a clock that is none. -/
import Derived.Test.YtnofeblcnamfeaaDoorProg
import Derived.Test.YtnofeblcnamfeaaDoorLkLaw
namespace Go.Proofs.YtnofeblcnamfeaaDoor
open Go.RowKit Go.Proofs

def nK0 : List (List UInt8) := [zS, zS, zS, zS]
theorem crash_q (K : List (List UInt8)) (bits b : Int) : crashM (qD K bits) b = ⟨K, [], true, 0, bits⟩ := rfl
theorem nk_all (m : Nat) (hm : m ≤ 2) : ∃ K C, openM (qD nK0 0) m = (0, qD K 0, C) ∧ K.length = 4 ∧ loadsM (qD nK0 0) (newClk m) 2 = newClk m ∧ LoadOk (qD nK0 0) (newClk m) 0 ∧ LoadOk (qD nK0 0) (loadsM (qD nK0 0) (newClk m) 1) 1 := by
  have hz : ∀ i, i < 4 → nK0.getD i [] = zS := by
    intro i hi
    match i, hi with
    | 0, _ => rfl
    | 1, _ => rfl
    | 2, _ => rfl
    | 3, _ => rfl
  have h := loads2 nK0 0 m (newClk m) (newClk m) (loadM_none nK0 0 (newClk m) 0 (by rw [show (newClk m).base + 0 = m from rfl, hz m (by omega)]; exact readsM_zero)) (loadM_none nK0 0 (newClk m) 1 (by rw [show (newClk m).base + 1 = m + 1 from rfl, hz (m + 1) (by omega)]; exact readsM_zero))
  refine ⟨nK0.set (m + 1) (clkSector 0 0 1), ⟨m, 0, 1, 1⟩, ?_, ?_, h.2.1, h.2.2.1, h.2.2.2⟩
  · unfold openM
    rw [h.2.1]
    rfl
  · simp [nK0]

set_option maxRecDepth 100000 in
set_option maxHeartbeats 4000000 in
theorem nil_neg (B0 : Nat) (base : Int) (hi0 : -9223372036854775808 ≤ base) (hi1 : base ≤ 9223372036854775807) (hneg : base < 0) (w : World) (hE : Env B0 w) (hB : B0 ≤ w.heap.size) :
    Calls Tryd.prog 3 #[.int .i64 base] w fun e w' => e = .returned (.bool true) ∧ Below w.heap.size w w' := by
  have HN := Lib.hid (disk_new 4 w (by decide) (by decide))
  rw [show newM 4 = qD nK0 0 from rfl] at HN
  have HE := Lib.hid hE
  obtain ⟨B, hBB⟩ : ∃ B, w.heap.size = B := ⟨_, rfl⟩
  rw [hBB] at HN hB
  have HBB := Lib.hid hBB
  clear hE hBB
  go_enter Tryd.func3, Tryd.ntmps3
  go_wp2_with fail
  refine HN.out.mono ?_
  rintro e w1 ⟨db, rfl, hD1, hb1⟩
  have z1 : B ≤ w1.heap.size := by have := hb1.size; rw [HBB.out] at this; exact this
  have HO := Lib.hid (clk_open_arg B db (qD nK0 0) base w1 hD1 (Or.inl hneg) hi1 hi0)
  go_wp2_with fail
  refine HO.out.mono ?_
  rintro e w' ⟨rfl, rfl⟩
  obtain ⟨K, hK, hK4⟩ : ∃ K, nK0 = K ∧ K.length = 4 := ⟨_, rfl, rfl⟩
  rw [hK] at hD1
  have hD2 := hD1
  have L2 : Below B w w1 := hb1
  have hcr := crash_q K 0 0
  clear hK
  have z2 : B ≤ w1.heap.size := by have := L2.size; rw [HBB.out] at this; exact this
  have HCR := Lib.hid (disk_crash hD2 0 (by decide) (by decide) z1)
  rw [hcr] at HCR
  go_wp2_with fail
  refine HCR.out.mono ?_
  rintro e w3 ⟨rfl, hD3, hf3⟩
  have L3 : Below B w w3 := L2.trans hf3.below
  have z3 : B ≤ w3.heap.size := by have := hf3.size; omega
  have HDN := Lib.hid (clk_open_down B db _ 0 w3 hD3 (by show 0 + 2 ≤ K.length; omega) rfl)
  go_wp2_with fail
  refine HDN.out.mono ?_
  rintro e w' ⟨rfl, rfl⟩
  have HAW := Lib.hid (law_awake B0 w3 (HE.out.below (L3.mono hB)) (by omega))
  go_wp2_with fail
  refine HAW.out.mono ?_
  rintro e w4 ⟨rfl, hb4⟩
  go_wp2_with (first
    | (go_at_call 9; refine (clk_now_nil _).mono ?_; rintro e w' ⟨rfl, rfl⟩)
    | (go_at_call 10; refine (clk_boot_nil _).mono ?_; rintro e w' ⟨rfl, rfl⟩)
    | (go_at_call 11; refine (clk_tick_nil _).mono ?_; rintro e w' ⟨rfl, rfl⟩))
  all_goals
    go_ret
    exact ⟨ret_bool (by first | rfl | (simp; omega)), by rw [HBB.out]; exact L3.trans (hb4.mono z3)⟩

set_option maxRecDepth 100000 in
set_option maxHeartbeats 4000000 in
theorem nil_big (B0 : Nat) (base : Int) (hi0 : -9223372036854775808 ≤ base) (hi1 : base ≤ 9223372036854775807) (hpos : 0 ≤ base) (hbig : 2 < base) (w : World) (hE : Env B0 w) (hB : B0 ≤ w.heap.size) :
    Calls Tryd.prog 3 #[.int .i64 base] w fun e w' => e = .returned (.bool true) ∧ Below w.heap.size w w' := by
  have HN := Lib.hid (disk_new 4 w (by decide) (by decide))
  rw [show newM 4 = qD nK0 0 from rfl] at HN
  have HE := Lib.hid hE
  obtain ⟨B, hBB⟩ : ∃ B, w.heap.size = B := ⟨_, rfl⟩
  rw [hBB] at HN hB
  have HBB := Lib.hid hBB
  clear hE hBB
  go_enter Tryd.func3, Tryd.ntmps3
  go_wp2_with fail
  refine HN.out.mono ?_
  rintro e w1 ⟨db, rfl, hD1, hb1⟩
  have z1 : B ≤ w1.heap.size := by have := hb1.size; rw [HBB.out] at this; exact this
  have HO := Lib.hid (clk_open_arg B db (qD nK0 0) base w1 hD1 (by right; show ((4 : Nat) : Int) - 2 < base; omega) hi1 hi0)
  go_wp2_with fail
  refine HO.out.mono ?_
  rintro e w' ⟨rfl, rfl⟩
  obtain ⟨K, hK, hK4⟩ : ∃ K, nK0 = K ∧ K.length = 4 := ⟨_, rfl, rfl⟩
  rw [hK] at hD1
  have hD2 := hD1
  have L2 : Below B w w1 := hb1
  have hcr := crash_q K 0 0
  clear hK
  have z2 : B ≤ w1.heap.size := by have := L2.size; rw [HBB.out] at this; exact this
  have HCR := Lib.hid (disk_crash hD2 0 (by decide) (by decide) z1)
  rw [hcr] at HCR
  go_wp2_with fail
  refine HCR.out.mono ?_
  rintro e w3 ⟨rfl, hD3, hf3⟩
  have L3 : Below B w w3 := L2.trans hf3.below
  have z3 : B ≤ w3.heap.size := by have := hf3.size; omega
  have HDN := Lib.hid (clk_open_down B db _ 0 w3 hD3 (by show 0 + 2 ≤ K.length; omega) rfl)
  go_wp2_with fail
  refine HDN.out.mono ?_
  rintro e w' ⟨rfl, rfl⟩
  have HAW := Lib.hid (law_awake B0 w3 (HE.out.below (L3.mono hB)) (by omega))
  go_wp2_with fail
  refine HAW.out.mono ?_
  rintro e w4 ⟨rfl, hb4⟩
  go_wp2_with (first
    | (go_at_call 9; refine (clk_now_nil _).mono ?_; rintro e w' ⟨rfl, rfl⟩)
    | (go_at_call 10; refine (clk_boot_nil _).mono ?_; rintro e w' ⟨rfl, rfl⟩)
    | (go_at_call 11; refine (clk_tick_nil _).mono ?_; rintro e w' ⟨rfl, rfl⟩))
  all_goals
    go_ret
    exact ⟨ret_bool (by first | rfl | (simp; omega)), by rw [HBB.out]; exact L3.trans (hb4.mono z3)⟩

set_option maxRecDepth 100000 in
set_option maxHeartbeats 4000000 in
theorem nil_in (B0 : Nat) (m : Nat) (hm : m ≤ 2) (w : World) (hE : Env B0 w) (hB : B0 ≤ w.heap.size) :
    Calls Tryd.prog 3 #[.int .i64 m] w fun e w' => e = .returned (.bool true) ∧ Below w.heap.size w w' := by
  obtain ⟨K, C, a1, k1, a2, a3, a4⟩ := nk_all m hm
  have A1 := Lib.hid a1
  have A2 := Lib.hid a2
  have A3 := Lib.hid a3
  have A4 := Lib.hid a4
  clear a1 a2 a3 a4
  have HN := Lib.hid (disk_new 4 w (by decide) (by decide))
  rw [show newM 4 = qD nK0 0 from rfl] at HN
  have HE := Lib.hid hE
  obtain ⟨B, hBB⟩ : ∃ B, w.heap.size = B := ⟨_, rfl⟩
  rw [hBB] at HN hB
  have HBB := Lib.hid hBB
  clear hE hBB
  go_enter Tryd.func3, Tryd.ntmps3
  go_wp2_with fail
  refine HN.out.mono ?_
  rintro e w1 ⟨db, rfl, hD1, hb1⟩
  have z1 : B ≤ w1.heap.size := by have := hb1.size; rw [HBB.out] at this; exact this
  have HO := Lib.hid (clk_open B0 B db (qD nK0 0) m w1 (HE.out.below (hb1.mono hB)) hB z1 hD1 rfl (by show m + 2 ≤ 4; omega) A3.out A4.out (by rw [A2.out]; exact saveOk_q nK0 0 (newClk m) 0 1 (by show m + 2 ≤ 4; omega) (by show 0 < 4611686018427387904; decide) (by decide) (by decide)))
  have hm0 : (0 : Int) ≤ (m : Int) := by omega
  have hm2 : (m : Int) ≤ 2 := by omega
  go_wp2_with fail
  refine HO.out.mono ?_
  rintro e w2 ⟨c, he, hc1, hD2, hC2, hf2⟩
  rw [A1.out] at he hD2 hC2
  simp only at he hD2 hC2
  simp only [if_true] at he
  subst he
  have L2 : Below B w w2 := hb1.trans hf2.below
  have hcr := crash_q K 0 0
  have z2 : B ≤ w2.heap.size := by have := L2.size; rw [HBB.out] at this; exact this
  have HCR := Lib.hid (disk_crash hD2 0 (by decide) (by decide) z2)
  rw [hcr] at HCR
  go_wp2_with fail
  refine HCR.out.mono ?_
  rintro e w3 ⟨rfl, hD3, hf3⟩
  have L3 : Below B w w3 := L2.trans hf3.below
  have z3 : B ≤ w3.heap.size := by have := hf3.size; omega
  have HDN := Lib.hid (clk_open_down B db _ 0 w3 hD3 (by show 0 + 2 ≤ K.length; omega) rfl)
  go_wp2_with fail
  refine HDN.out.mono ?_
  rintro e w' ⟨rfl, rfl⟩
  have HAW := Lib.hid (law_awake B0 w3 (HE.out.below (L3.mono hB)) (by omega))
  go_wp2_with fail
  refine HAW.out.mono ?_
  rintro e w4 ⟨rfl, hb4⟩
  go_wp2_with (first
    | (go_at_call 9; refine (clk_now_nil _).mono ?_; rintro e w' ⟨rfl, rfl⟩)
    | (go_at_call 10; refine (clk_boot_nil _).mono ?_; rintro e w' ⟨rfl, rfl⟩)
    | (go_at_call 11; refine (clk_tick_nil _).mono ?_; rintro e w' ⟨rfl, rfl⟩))
  go_ret
  exact ⟨rfl, by rw [HBB.out]; exact L3.trans (hb4.mono z3)⟩

theorem law_clocknil (B0 : Nat) (base : Int) (hb0 : -9223372036854775808 ≤ base) (hb1 : base ≤ 9223372036854775807) (w : World) (hE : Env B0 w) (hB : B0 ≤ w.heap.size) :
    Calls Tryd.prog 3 #[.int .i64 base] w fun e w' => e = .returned (.bool true) ∧ Below w.heap.size w w' := by
  by_cases h : base < 0
  · exact nil_neg B0 base hb0 hb1 h w hE hB
  by_cases h2 : 2 < base
  · exact nil_big B0 base hb0 hb1 (by omega) h2 w hE hB
  · obtain ⟨m, rfl⟩ := Int.eq_ofNat_of_zero_le (show 0 ≤ base by omega)
    exact nil_in B0 m (by omega) w hE hB
end Go.Proofs.YtnofeblcnamfeaaDoor
