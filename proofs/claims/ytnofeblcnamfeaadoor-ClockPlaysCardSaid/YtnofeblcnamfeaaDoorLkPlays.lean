/- ClockPlays, walked. -/
import Derived.Test.YtnofeblcnamfeaaDoorProg
import Derived.Test.YtnofeblcnamfeaaDoorLkLaw
import Derived.Test.YtnofeblcnamfeaaDoorLkPly
namespace Go.Proofs.YtnofeblcnamfeaaDoor
open Go.RowKit Go.Proofs

/-- The cuts of a slice: so many, each an int and a word. -/
def CutsAt (w : World) (a : Addr) (n : Nat) (f g : Nat → Int) : Prop :=
  ∀ i, i < n → w.cell? (a.add (i * 2)) = some (.int .i64 (f i)) ∧ w.cell? (a.add (i * 2 + 1)) = some (.int .u64 (g i)) ∧ f i ≤ 9223372036854775807 ∧ 0 ≤ g i ∧ g i ≤ 18446744073709551615

theorem saveOk_a (K : List (List UInt8)) (a bits : Int) (C : ClkM) (t b : Nat) (hb : C.base + 2 ≤ K.length) (hn : C.n < 4611686018427387904) (ht : t ≤ 9999) (hbo : b < 10000000000) : SaveOk (aD K a bits) C t b :=
  ⟨rfl, by simp [aD], hb, hn, ⟨by omega, by omega⟩, ⟨by omega, by omega⟩, intsW_len t b ht hbo⟩
theorem open_cases {K : List (List UInt8)} {n t b : Nat} (h : KIn K n t b) (hn : n < 4611686018427387904) (ht : t ≤ 1000) (hb : b ≤ 2147483647) (a bits : Int) (ha : 0 ≤ a) :
    (∃ K' bits' C, openM (aD K a bits) 0 = (5, ⟨K', [], true, 0, bits'⟩, C) ∧ (KIn K' n t b ∨ KIn K' (n + 1) t (b + 1))) ∨
    (∃ K' a', openM (aD K a bits) 0 = (0, aD K' a' bits, ⟨0, t, (b + 1 : Nat), n + 1⟩) ∧ KIn K' (n + 1) t (b + 1)) := by
  have hl := (kin_loads h hn ht (by omega) bits).1
  have e : openM (aD K a bits) 0 = saveM (aD K a bits) ⟨0, t, b, n⟩ t (b + 1 : Nat) := by
    unfold openM
    rw [loadsM_aD, hl]
    rfl
  rw [e]
  rcases save_cases h hn ht (by omega) t (b + 1) (by omega) (by omega) a bits t b ha with ⟨K', b', h1, h2⟩ | ⟨K', a', h1, h2⟩
  · exact .inl ⟨K', b', _, h1, h2⟩
  · exact .inr ⟨K', a', h1, h2⟩

theorem cell_lt {w : World} {a : Addr} {v : Value} (h : w.cell? a = some v) : a.block < w.heap.size := by
  rcases Nat.lt_or_ge a.block w.heap.size with hlt | hge
  · exact hlt
  · unfold World.cell? at h; rw [Array.getElem?_eq_none hge] at h; cases h
/-- What holds at the head of each round. -/
def PRel (B db k : Nat) (c time boot mb : Value) (wr : World) : Prop :=
  ∃ (K : List (List UInt8)) (bits : Int) (n t b : Nat), KIn K n t b ∧ n ≤ k ∧ t ≤ k ∧ b ≤ k ∧ DiskRep B wr db (aD K 0 bits) ∧
    ((∃ (tm bt : Nat) (m : Bool), c = .pointer none ∧ time = .int .i64 tm ∧ boot = .int .u32 bt ∧ mb = .bool m ∧ (t = tm ∨ (m = true ∧ t = tm + 1)) ∧ bt ≤ b) ∨
     (∃ (cb : Nat) (m : Bool), c = .pointer (some ⟨cb, 0, none⟩) ∧ time = .int .i64 t ∧ boot = .int .u32 b ∧ mb = .bool m ∧ B ≤ cb ∧ ClkAt wr cb db ⟨0, t, b, n⟩))

theorem kin_zero : KIn [zS, zS] 0 0 0 := by
  refine ⟨rfl, Or.inl ⟨rfl, rfl, rfl, readsM_zero⟩, Or.inl readsM_zero, ⟨rfl, 0, Nat.le_refl _, rfl⟩, ⟨rfl, 0, Nat.le_refl _, rfl⟩⟩

theorem DiskRep.mono {B B' : Nat} {w : World} {db : Nat} {D : DiskM} (h : DiskRep B w db D) (hB : B' ≤ B) : DiskRep B' w db D := by
  obtain ⟨kb, cv, wr, h1, h2, h3, h4, h5, h6⟩ := h
  refine ⟨kb, cv, wr, by omega, by omega, h3, h4, ⟨h5.1, ?_⟩, h6⟩
  rcases h5.2 with hn | ⟨g, cap, cur, rfl, hb, rest⟩
  · exact .inl hn
  · exact .inr ⟨g, cap, cur, rfl, by omega, rest⟩

set_option maxRecDepth 100000 in
set_option maxHeartbeats 4000000 in
theorem plays_loop (B0 : Nat) (a : Addr) (len cap : Nat) (f g : Nat → Int) (hlen : len ≤ 200) (w : World) (hE : Env B0 w) (hB : B0 ≤ w.heap.size) (hC : CutsAt w a len f g) :
    Calls Tryd.prog 4 #[.slice (some a) len cap] w fun e w' => e = .returned (.bool true) ∧ Below w.heap.size w w' := by
  have HE := Lib.hid hE
  have HC := Lib.hid hC
  obtain ⟨B, hBB⟩ : ∃ B, w.heap.size = B := ⟨_, rfl⟩
  rw [hBB] at hB
  have HBB := Lib.hid hBB
  have HA := Lib.hid (law_awake B0 w hE (by rw [hBB]; exact hB))
  clear hE hC hBB
  go_enter Tryd.func4, Tryd.ntmps4
  go_wp2_with fail
  refine HA.out.mono ?_
  rintro e w0 ⟨rfl, hb0⟩
  have L0 : Below B w w0 := by rw [HBB.out] at hb0; exact hb0
  have z0 : B ≤ w0.heap.size := by have := L0.size; rw [HBB.out] at this; exact this
  have HN := Lib.hid (disk_new 2 w0 (by decide) (by decide))
  rw [show newM 2 = aD [zS, zS] 0 0 from rfl] at HN
  go_wp2_with fail
  refine HN.out.mono ?_
  rintro e w1 ⟨db, rfl, hD1, hb1⟩
  have L1 : Below B w w1 := L0.trans (hb1.mono z0)
  have HD1 := Lib.hid (hD1.mono z0)
  clear hD1 HN HA hb0 hb1
  go_wp2_with fail
  go_loopw [5, 6, 7, 8, 28] (fun c tm bo mb i wr => ∃ k : Nat, k ≤ len ∧ i = .int .i64 k ∧ PRel B db k c tm bo mb wr ∧ Below B w wr) (fun _ _ _ _ i _ => len - (intOf i).toNat)
  case atStart => exact ⟨0, by omega, rfl, ⟨[zS, zS], 0, 0, 0, 0, kin_zero, by omega, by omega, by omega, HD1.out, .inl ⟨0, 0, false, rfl, rfl, rfl, rfl, .inl rfl, by omega⟩⟩, L1⟩
  case round =>
    obtain ⟨k, hk, rfl, hP, hL⟩ := hrel
    by_cases hlt : k < len
    · have zr : B ≤ wr.heap.size := by have := hL.size; rw [HBB.out] at this; exact this
      obtain ⟨c0, c1, fk, g0, g1⟩ := HC.out k hlt
      have c0' : wr.cell? (a.add (k * 2)) = some (.int .i64 (f k)) := by rw [← c0]; exact hL.cell (by rw [← HBB.out]; exact cell_lt c0)
      have c1' : wr.cell? (a.add (k * 2 + 1)) = some (.int .u64 (g k)) := by rw [← c1]; exact hL.cell (by rw [← HBB.out]; exact cell_lt c1)
      obtain ⟨F, hF⟩ : ∃ F, f k = F := ⟨_, rfl⟩
      obtain ⟨G, hG⟩ : ∃ G, g k = G := ⟨_, rfl⟩
      rw [hF] at c0' fk
      rw [hG] at c1' g0 g1
      rw [← Go.Deep.add_add, show ∀ x : Addr, x.add 1 = ⟨x.block, x.off + 1, none⟩ from fun _ => rfl] at c1'
      obtain ⟨K, bits, n, t, b, hK, hn, ht, hb, hD, hcase⟩ := hP
      clear c0 c1 hF hG
      have hDa : DiskRep B (wr.alloc (.cells #[.int .i64 F, .int .u64 G] 39)) db (aD K 0 bits) := hD.below ((Below.refl _ _).alloc (Nat.le_refl _) _)
      have La : Below B w (wr.alloc (.cells #[.int .i64 F, .int .u64 G] 39)) := hL.alloc zr _
      have za : B ≤ (wr.alloc (.cells #[.int .i64 F, .int .u64 G] 39)).heap.size := by simp; omega
      have HAR := Lib.hid (disk_arm hDa F G fk g0 g1)
      obtain ⟨A, hA⟩ : ∃ A, (if F < 0 then 0 else F) = A := ⟨_, rfl⟩
      have hA0 : 0 ≤ A := by rw [← hA]; split <;> omega
      rw [show armM (aD K 0 bits) F G = aD K (if F < 0 then 0 else F) G from rfl, hA] at HAR
      have HK := Lib.hid hK
      clear hA hK hD hDa
      rcases hcase with ⟨tm, bt, m, rfl, rfl, rfl, rfl, htm, hbt⟩ | ⟨cb, m, rfl, rfl, rfl, rfl, hcb, hck⟩
      · go_wp2_with fail
        refine HAR.out.mono ?_
        rintro e w2 ⟨rfl, hD2, hf2⟩
        have L2 : Below B w w2 := La.trans hf2.below
        have z2 : B ≤ w2.heap.size := by have := hf2.size; omega
        have hl := kin_loads HK.out (by omega) (by omega) (by omega) G
        have hk2 : K.length = 2 := HK.out.len
        have HO := Lib.hid (clk_open B0 B db (aD K A G) 0 w2 (HE.out.below (L2.mono hB)) hB z2 hD2 rfl (by show 0 + 2 ≤ K.length; omega) hl.2.1 hl.2.2 (by rw [loadsM_aD, hl.1]; exact saveOk_a K A G ⟨0, t, b, n⟩ t (b + 1) (by show 0 + 2 ≤ K.length; omega) (by show n < _; omega) (by omega) (by omega)))
        have HOC := Lib.hid (open_cases HK.out (by omega) (by omega) (by omega) A G hA0)
        have HTM := Lib.hid htm
        clear hD2 hl hk2 HAR htm c0' c1'
        go_wp2_with fail
        refine HO.out.mono ?_
        rintro e w3 ⟨x, he, hx, hD3, hX3, hf3⟩
        have L3 : Below B w w3 := L2.trans hf3.below
        have z3 : B ≤ w3.heap.size := by have := hf3.size; omega
        rcases HOC.out with ⟨K', b', C, ho, hkk⟩ | ⟨K', a', ho, hkk⟩
        · rw [ho] at he hD3
          simp only at he hD3
          rw [if_neg (by decide)] at he
          subst he
          have HKK := Lib.hid hkk
          have HST := Lib.hid (disk_start hD3)
          clear ho hkk hD3 hX3 HO HOC
          go_wp2_with fail
          refine HST.out.mono ?_
          rintro e w4 ⟨rfl, hD4, hf4⟩
          have HD4 := Lib.hid hD4
          have L4 : Below B w w4 := L3.trans hf4.below
          clear hD4
          go_wp2
          go_roundw
          case rel =>
            refine ⟨k + 1, by omega, by go_num, ?_, L4⟩
            rcases HKK.out with h1 | h1
            · exact ⟨K', b', n, t, b, h1, by omega, by omega, by omega, HD4.out, .inl ⟨tm, bt, m, rfl, rfl, rfl, rfl, HTM.out, hbt⟩⟩
            · exact ⟨K', b', n + 1, t, b + 1, h1, by omega, by omega, by omega, HD4.out, .inl ⟨tm, bt, m, rfl, rfl, rfl, rfl, HTM.out, by omega⟩⟩
          case measure => simp [intOf]; omega
        · rw [ho] at he hD3 hX3
          simp only at he hD3 hX3
          simp only [if_true] at he
          subst he
          have HKK := Lib.hid hkk
          have HA2 := Lib.hid (disk_arm hD3 0 0 (by decide) (by decide) (by decide))
          rw [show armM (aD K' a' G) 0 0 = aD K' 0 0 from rfl] at HA2
          have hxB : B ≤ x := by omega
          have HX3 := Lib.hid hX3
          clear ho hkk hD3 hX3 HO HOC
          go_wp2_with fail
          refine HA2.out.mono ?_
          rintro e w4 ⟨rfl, hD4, hf4⟩
          have HD4 := Lib.hid hD4
          have hX4 := hf4.blk HX3.out (by decide)
          have HX4 : Hid (ClkAt w4 x db ⟨0, t, (b + 1 : Nat), n + 1⟩) := Lib.hid hX4
          have L4 : Below B w w4 := L3.trans hf4.below
          have HNW := Lib.hid (clk_now x db _ w4 HX4.out)
          have HBT := Lib.hid (clk_boot x db _ w4 HX4.out (by show (0 : Int) ≤ ((b + 1 : Nat) : Int); omega) (by show ((b + 1 : Nat) : Int) < 4294967296; omega))
          clear hD4 hX4 HX3 HA2
          rcases HTM.out with rfl | ⟨rfl, rfl⟩
          · clear HTM
            go_wp2_with (first
              | (go_at_call 9; refine HNW.out.mono ?_; rintro e w' ⟨rfl, rfl⟩)
              | (go_at_call 10; refine HBT.out.mono ?_; rintro e w' ⟨rfl, rfl⟩))
            go_roundw
            case rel => exact ⟨k + 1, by omega, by go_num, ⟨K', 0, n + 1, t, b + 1, HKK.out, by omega, by omega, by omega, HD4.out, .inr ⟨x, false, rfl, rfl, rfl, rfl, hxB, HX4.out⟩⟩, L4⟩
            case measure => simp [intOf]; omega
          · clear HTM
            go_wp2_with (first
              | (go_at_call 9; refine HNW.out.mono ?_; rintro e w' ⟨rfl, rfl⟩)
              | (go_at_call 10; refine HBT.out.mono ?_; rintro e w' ⟨rfl, rfl⟩))
            go_roundw
            case rel => exact ⟨k + 1, by omega, by go_num, ⟨K', 0, n + 1, tm + 1, b + 1, HKK.out, by omega, by omega, by omega, HD4.out, .inr ⟨x, false, rfl, rfl, rfl, rfl, hxB, HX4.out⟩⟩, L4⟩
            case measure => simp [intOf]; omega
      · go_wp2_with fail
        refine HAR.out.mono ?_
        rintro e w2 ⟨rfl, hD2, hf2⟩
        have L2 : Below B w w2 := La.trans hf2.below
        have z2 : B ≤ w2.heap.size := by have := hf2.size; omega
        have hk2 : K.length = 2 := HK.out.len
        have hc2 : ClkAt w2 cb db ⟨0, t, b, n⟩ := hf2.blk (hck.alloc _) (by decide)
        have HT := Lib.hid (clk_tick B0 B db cb (aD K A G) ⟨0, t, b, n⟩ w2 (HE.out.below (L2.mono hB)) hB z2 hcb hD2 hc2 (saveOk_a K A G ⟨0, t, b, n⟩ (t + 1) b (by show 0 + 2 ≤ K.length; omega) (by show n < _; omega) (by omega) (by omega)) (by show (t : Int) < 1000; omega) (by show (0 : Int) ≤ t; omega))
        have HOC := Lib.hid (save_cases HK.out (by omega) (by omega) (by omega) (t + 1) b (by omega) (by omega) A G t b hA0)
        clear hD2 hc2 hk2 HAR hck c0' c1'
        go_wp2_with fail
        refine HT.out.mono ?_
        rintro e w3 ⟨he, hD3, hX3, hf3, _⟩
        have L3 : Below B w w3 := L2.trans hf3.below
        have z3 : B ≤ w3.heap.size := by have := hf3.size; omega
        rcases HOC.out with ⟨K', b', ho, hkk⟩ | ⟨K', a', ho, hkk⟩
        · have ho' : saveM (aD K A G) ⟨0, t, b, n⟩ ((t : Int) + 1) b = (5, ⟨K', [], true, 0, b'⟩, ⟨0, t, b, n⟩) := ho
          rw [ho'] at he hD3
          simp only at he hD3
          subst he
          have HKK := Lib.hid hkk
          have HST := Lib.hid (disk_start hD3)
          clear ho ho' hkk hD3 hX3 HT HOC
          go_wp2_with fail
          refine HST.out.mono ?_
          rintro e w4 ⟨rfl, hD4, hf4⟩
          have HD4 := Lib.hid hD4
          have L4 : Below B w w4 := L3.trans hf4.below
          clear hD4
          go_wp2
          go_roundw
          case rel =>
            refine ⟨k + 1, by omega, by go_num, ?_, L4⟩
            rcases HKK.out with h1 | h1
            · exact ⟨K', b', n, t, b, h1, by omega, by omega, by omega, HD4.out, .inl ⟨t, b, true, rfl, rfl, rfl, rfl, .inl rfl, by omega⟩⟩
            · exact ⟨K', b', n + 1, t + 1, b, h1, by omega, by omega, by omega, HD4.out, .inl ⟨t, b, true, rfl, rfl, rfl, rfl, .inr ⟨rfl, rfl⟩, by omega⟩⟩
          case measure => simp [intOf]; omega
        · have ho' : saveM (aD K A G) ⟨0, t, b, n⟩ ((t : Int) + 1) b = (0, aD K' a' G, ⟨0, (t + 1 : Nat), b, n + 1⟩) := ho
          rw [ho'] at he hD3 hX3
          simp only at he hD3 hX3
          subst he
          have HKK := Lib.hid hkk
          have HA2 := Lib.hid (disk_arm hD3 0 0 (by decide) (by decide) (by decide))
          rw [show armM (aD K' a' G) 0 0 = aD K' 0 0 from rfl] at HA2
          have HX3 := Lib.hid hX3
          clear ho ho' hkk hD3 hX3 HT HOC
          go_wp2_with fail
          refine HA2.out.mono ?_
          rintro e w4 ⟨rfl, hD4, hf4⟩
          have HD4 := Lib.hid hD4
          have hX4 := hf4.blk HX3.out (by decide)
          have HX4 : Hid (ClkAt w4 cb db ⟨0, (t + 1 : Nat), b, n + 1⟩) := Lib.hid hX4
          have L4 : Below B w w4 := L3.trans hf4.below
          have HNW := Lib.hid (clk_now cb db _ w4 HX4.out)
          have HBT := Lib.hid (clk_boot cb db _ w4 HX4.out (by show (0 : Int) ≤ (b : Int); omega) (by show (b : Int) < 4294967296; omega))
          clear hD4 hX4 HX3 HA2
          go_wp2_with (first
            | (go_at_call 9; refine HNW.out.mono ?_; rintro e w' ⟨rfl, rfl⟩)
            | (go_at_call 10; refine HBT.out.mono ?_; rintro e w' ⟨rfl, rfl⟩))
          go_roundw
          case rel => exact ⟨k + 1, by omega, by go_num, ⟨K', 0, n + 1, t + 1, b, HKK.out, by omega, by omega, by omega, HD4.out, .inr ⟨cb, m, rfl, rfl, rfl, rfl, hcb, HX4.out⟩⟩, L4⟩
          case measure => simp [intOf]; omega
    · go_wp2
      go_ret
      exact ⟨rfl, by rw [HBB.out]; exact hL⟩
end Go.Proofs.YtnofeblcnamfeaaDoor
