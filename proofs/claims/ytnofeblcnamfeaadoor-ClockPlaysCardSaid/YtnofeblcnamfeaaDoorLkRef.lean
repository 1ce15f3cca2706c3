/- The document's sector, by definition. -/
import Derived.Test.YtnofeblcnamfeaaDoorProg
import Derived.Test.YtnofeblcnamfeaaDoorLkSec
import Derived.Lib.Strings
import Derived.Lib.Slices
import Derived.Lib.Walk
import Derived.Lib.AppendStr
namespace Go.Proofs.YtnofeblcnamfeaaDoor
open Go.RowKit Go.Proofs

theorem be_get (n : Nat) : ∀ (k j : Nat), j < k → (be k n)[j]? = some (UInt8.ofNat (n / 256 ^ (k - 1 - j) % 256))
  | 0, j, h => by omega
  | k + 1, 0, _ => by simp [be]
  | k + 1, j + 1, h => by
    rw [be, List.getElem?_cons_succ, be_get n k j (by omega), show k + 1 - 1 - (j + 1) = k - 1 - j by omega]
theorem info_u8r : (Tryd.prog.info? 5).map (fun i => (i.zero, i.size, i.bytes)) = some (some (.int .u8 0), 1, 1) := by kernel_rfl
theorem und_bytesr : Tryd.prog.underlying 54 = some (.slice 5) := by kernel_rfl

set_option maxRecDepth 100000 in
set_option maxHeartbeats 2000000 in
theorem ref_number (n k : Nat) (w : World) (hn : n < 18446744073709551616) (hk : k ≤ 8) (hk0 : 0 < k) :
    Calls Tryd.prog 31 #[.int .u64 n, .int .i64 k] w fun e w' => e = .returned (.string (str (be k n))) ∧ Below w.heap.size w w' := by
  obtain ⟨i0, hi, hz0, hz1, hz2⟩ := info_parts info_u8r
  obtain ⟨B, hB⟩ : ∃ B, w.heap.size = B := ⟨_, rfl⟩
  have HB := Lib.hid hB
  go_enter Tryd.func31, Tryd.ntmps31
  go_wp2
  go_loopw [5, 6] (fun v i wr => ∃ (j : Nat) (y : Value), j ≤ k ∧ y = v ∧ i = .int .i64 ((k : Int) - 1 - j) ∧ wr.ownsRow B 5 1 y j (u8s ((be k n).take j)) ∧ Below B w wr) (fun _ i _ => (intOf i + 1).toNat)
  case atStart =>
    refine ⟨0, _, Nat.zero_le _, rfl, by simp, ?_, ?_⟩
    · refine ⟨by simp [u8s], Or.inr ⟨B, 0, #[], rfl, Nat.le_refl _, ?_, Nat.le_refl _, by simp [maxLen], by simp, by simp [u8s]⟩⟩
      rw [← HB.out]
      exact Blk.new w _ _
    · rw [← HB.out]; exact (Below.refl _ _).alloc (Nat.le_refl _) _
  case round =>
    obtain ⟨j, v, hj, rfl, rfl, hown, hbel⟩ := hrel
    by_cases hlt : j < k
    · obtain ⟨q, hq⟩ : ∃ q, k - 1 - j = q := ⟨_, rfl⟩
      have hqi : (k : Int) - 1 - j = (q : Int) := by omega
      rw [hqi]
      have hq7 : q ≤ 7 := by omega
      have hsz : B ≤ wr.heap.size := by have := hbel.size; rw [HB.out] at this; exact this
      have hval : (n : Int) / 2 ^ (8 * q) % 256 = ((UInt8.ofNat (n / 256 ^ q % 256)).toNat : Int) := by
        have h1 : (2 : Int) ^ (8 * q) = ((256 ^ q : Nat) : Int) := by
          rw [Int.pow_mul]
          norm_cast
        rw [h1, ← Int.natCast_ediv]
        simp
      obtain ⟨c, hc⟩ : ∃ c : UInt8, UInt8.ofNat (n / 256 ^ q % 256) = c := ⟨_, rfl⟩
      rw [hc] at hval
      have hnx : (be k n).take (j + 1) = (be k n).take j ++ [c] := by
        rw [List.take_add_one, be_get n k j hlt, hq, hc]
        rfl
      have HNX := Lib.hid hnx
      have HV := Lib.hid hval
      have HO := Lib.hid hown
      clear hnx hc hval hown hB
      go_wp2_with (at_builtin; refine wpList_append_own _ rfl _ _ 54 rfl B 5 i0 (.int .u8 0) 1 1 und_bytesr hi hz0 hz1 hz2 rfl (by decide) _ _ _ rfl (HO.out.alloc _) ⟨wr.heap.size, 0, none⟩ 1 1 [.int .u8 ((n : Int) / 2 ^ (8 * q) % 256)] rfl rfl ?c1 ?c2 ?c3 ?c4 ?c5 ?_)
      case c1 =>
        intro x u hx
        match x, hx with
        | 0, hx => simp at hx; subst hx; simp [Addr.add]
      case c2 => intro u hu; simp at hu; subst hu; rfl
      case c3 => unfold maxLen; omega
      case c4 => omega
      case c5 => simp; omega
      intro v' w2 hown' hgrow _
      have hfin : w2.ownsRow B 5 1 v' (j + 1) (u8s ((be k n).take (j + 1))) := by
        rw [HNX.out]
        rw [HV.out] at hown'
        simpa [u8s] using hown'
      have hbf : Below B w w2 := (hbel.alloc hsz _).grown hgrow (by simp; omega) (fun k hk => (HO.out.lt k hk).1)
      have HF := Lib.hid hfin
      clear hown' hfin
      obtain ⟨ao, n', cap, rfl⟩ : ∃ ao n' cap, v' = .slice ao n' cap := by
        rcases HF.out.2 with ⟨hv, _⟩ | ⟨g, cap, cur, hv, _⟩
        · exact ⟨_, _, _, hv⟩
        · exact ⟨_, _, _, hv⟩
      go_wp2
      go_roundw
      case rel => exact ⟨j + 1, _, by omega, rfl, congrArg _ (by omega), HF.out, hbf⟩
      case measure => simp [intOf]
    · obtain rfl : j = k := by omega
      have e : (j : Int) - 1 - j = -1 := by omega
      rw [e]
      rw [List.take_of_length_le (by rw [be_length]; exact Nat.le_refl _)] at hown
      obtain ⟨g, cap, cur, rfl, hbg, hg, hnc, hcm, hcs, htake⟩ : ∃ g cap cur, v = .slice (some ⟨g, 0, none⟩) j cap ∧ B ≤ g ∧ wr.heap[g]? = some (.cells cur 5 (0, 0)) ∧ j ≤ cap ∧ cap ≤ maxLen ∧ cur.size = cap * 1 ∧ cur.toList.take (j * 1) = u8s (be j n) := by
        rcases hown.2 with ⟨_, hz⟩ | ⟨g, cap, cur, hv, r⟩
        · omega
        · exact ⟨g, cap, cur, hv, r⟩
      have hcv := run_bytes_str (P := Tryd.prog) (w := wr) 54 9 5 (by kernel_rfl) (by kernel_rfl) (by kernel_rfl) g 0 j cap (be j n) (be_length _ _) (fun x c hc => by
        rw [Nat.zero_add]
        have := hown.cells (g := g) rfl x (.int .u8 c.toNat) (by simp [u8s, hc])
        rw [add_at, Nat.zero_add] at this
        exact this)
      clear hown hg htake hcs
      go_wp2
      go_ret
      exact ⟨rfl, by rw [HB.out]; exact hbel⟩
end Go.Proofs.YtnofeblcnamfeaaDoor
