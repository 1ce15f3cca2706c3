/- ClockPlays at any slice of cuts. -/
import Derived.Test.YtnofeblcnamfeaaDoorLkPlays
import Derived.Deep.Slices
import Derived.Deep.Fields
import Derived.ChangeSame
namespace Go.Proofs.YtnofeblcnamfeaaDoor
open Go.RowKit Go.Proofs Go.ChangeShapes Go.WideShapes Go.Deep

set_option maxRecDepth 100000 in
set_option maxHeartbeats 1000000 in
theorem plays_nil (B0 : Nat) (w : World) (hE : Env B0 w) (hB : B0 ≤ w.heap.size) :
    Calls Tryd.prog 4 #[.slice none 0 0] w fun e w' => e = .returned (.bool true) ∧ Below w.heap.size w w' := by
  have HA := Lib.hid (law_awake B0 w hE hB)
  obtain ⟨B, hBB⟩ : ∃ B, w.heap.size = B := ⟨_, rfl⟩
  have HBB := Lib.hid hBB
  clear hE hBB hB
  go_enter Tryd.func4, Tryd.ntmps4
  go_wp2_with fail
  refine HA.out.mono ?_
  rintro e w0 ⟨rfl, hb0⟩
  have HL0 := Lib.hid hb0
  have z0 : B ≤ w0.heap.size := by have := hb0.size; rw [HBB.out] at this; exact this
  have HN := Lib.hid (disk_new 2 w0 (by decide) (by decide))
  clear hb0
  go_wp2_with fail
  refine HN.out.mono ?_
  rintro e w1 ⟨db, rfl, hD1, hb1⟩
  have HL1 : Hid (Below w.heap.size w w1) := Lib.hid (HL0.out.trans (hb1.mono (by rw [HBB.out]; exact z0)))
  clear hD1 HN HA hb1
  go_wp2_with fail
  go_loopw [28] (fun i wr => i = .int .i64 0 ∧ wr = w1) (fun _ _ => 0)
  case atStart => exact ⟨rfl, rfl⟩
  case round =>
    obtain ⟨rfl, rfl⟩ := hrel
    go_wp2
    go_ret
    exact ⟨rfl, HL1.out⟩

set_option maxRecDepth 100000 in
set_option maxHeartbeats 1000000 in
theorem plays_long (B0 : Nat) (a : Option Addr) (len cap : Nat) (hlen : 200 < len) (w : World) (hE : Env B0 w) (hB : B0 ≤ w.heap.size) :
    Calls Tryd.prog 4 #[.slice a len cap] w fun e w' => e = .returned (.bool true) ∧ Below w.heap.size w w' := by
  have HA := Lib.hid (law_awake B0 w hE hB)
  have HA2 := Lib.hid (fun w0 (hb : Below w.heap.size w w0) => law_awake B0 w0 (hE.below (hb.mono hB)) (Nat.le_trans hB hb.size))
  clear hE
  go_enter Tryd.func4, Tryd.ntmps4
  go_wp2_with fail
  refine HA.out.mono ?_
  rintro e w0 ⟨rfl, hb0⟩
  have HA3 := Lib.hid (HA2.out w0 hb0)
  have HL0 := Lib.hid hb0
  clear hb0 HA HA2
  go_wp2_with fail
  refine HA3.out.mono ?_
  rintro e w1 ⟨rfl, hb1⟩
  have HL1 : Hid (Below w.heap.size w w1) := Lib.hid (HL0.out.trans (hb1.mono HL0.out.size))
  clear hb1
  go_wp2
  go_ret
  exact ⟨rfl, HL1.out⟩

theorem law_clockplays (B0 : Nat) (v : Value) (w : World) (hE : Env B0 w) (hB : B0 ≤ w.heap.size)
    (hv : v = .slice none 0 0 ∨ ∃ (a : Addr) (len cap : Nat) (f g : Nat → Int), v = .slice (some a) len cap ∧ CutsAt w a len f g) :
    Calls Tryd.prog 4 #[v] w fun e w' => e = .returned (.bool true) ∧ Below w.heap.size w w' := by
  rcases hv with rfl | ⟨a, len, cap, f, g, rfl, h⟩
  · exact plays_nil B0 w hE hB
  · by_cases hl : len ≤ 200
    · exact plays_loop B0 a len cap f g hl w hE hB h
    · exact plays_long B0 (some a) len cap (by omega) w hE hB
end Go.Proofs.YtnofeblcnamfeaaDoor
