/- The statement 'a clock that is none stands still; where the power is off none is opened' answers true at every int. (Under way.) -/
import Derived.Test.YtnofeblcnamfeaaDoorLkShelf
import Derived.Test.YtnofeblcnamfeaaDoorCards
import Derived.Test.YtnofeblcnamfeaaDoorTie
import Derived.Test.YtnofeblcnamfeaaDoorLkNil
import Derived.WalkKit
import Derived.ProofKit
import Derived.OpenShut
import Derived.Deep.DeepHandedRow
import Derived.Deep.DeepWitnessRowRef
import Derived.Lib.LaidTab
import Derived.Lib.LaidIn
import Derived.Stop.LaidErr
import Derived.Lib.LaidU8
namespace Go.Proofs.YtnofeblcnamfeaaDoor
open Go.ChangeShapes Go.WideShapes Go.ChangeAt Go.RowKit

theorem own_ : ownKnob Tryd.prog.godebug = none := by kernel_rfl
/-- A world for the witness: the settled one, the variables holding what their initialisers lay. -/
noncomputable def laidWorld (os : Os) : World :=
  let N := (World.settled Tryd.prog os).heap.size
  let w0 := World.holding Tryd.prog os ⟨#[.cells #[.string ⟨#[105, 110, 118, 97, 108, 105, 100, 32, 115, 121, 110, 116, 97, 120]⟩] 142, .cells #[.string ⟨#[118, 97, 108, 117, 101, 32, 111, 117, 116, 32, 111, 102, 32, 114, 97, 110, 103, 101]⟩] 142], #[], []⟩
  let put (h : Array Obj) (g : Nat) (cs : Array Value) : Array Obj := h.modify g fun
    | .cells _ t frozen => .cells cs t frozen
    | o => o
  let h0 := put (put w0.heap 1 #[.iface 140 (.pointer (some ⟨N, 0, none⟩))]) 2 #[.iface 140 (.pointer (some ⟨N + 1, 0, none⟩))]
  let h1 := put h0 3 (Lib.firstTab.map fun z => Value.int .u8 z).toArray
  let h2 := put h1 4 #[.int .u8 128, .int .u8 191, .int .u8 160, .int .u8 191, .int .u8 128, .int .u8 159, .int .u8 144, .int .u8 191, .int .u8 128, .int .u8 143, .int .u8 0, .int .u8 0, .int .u8 0, .int .u8 0, .int .u8 0, .int .u8 0, .int .u8 0, .int .u8 0, .int .u8 0, .int .u8 0, .int .u8 0, .int .u8 0, .int .u8 0, .int .u8 0, .int .u8 0, .int .u8 0, .int .u8 0, .int .u8 0, .int .u8 0, .int .u8 0, .int .u8 0, .int .u8 0]
  let h3 := put h2 5 #[.int .u64 1, .int .u64 10, .int .u64 100, .int .u64 1000, .int .u64 10000, .int .u64 100000, .int .u64 1000000, .int .u64 10000000, .int .u64 100000000, .int .u64 1000000000, .int .u64 10000000000, .int .u64 100000000000, .int .u64 1000000000000, .int .u64 10000000000000, .int .u64 100000000000000, .int .u64 1000000000000000, .int .u64 10000000000000000, .int .u64 100000000000000000, .int .u64 1000000000000000000, .int .u64 10000000000000000000]
  let h4 := put h3 6 #[.int .u8 0, .int .u8 1, .int .u8 28, .int .u8 2, .int .u8 29, .int .u8 14, .int .u8 24, .int .u8 3, .int .u8 30, .int .u8 22, .int .u8 20, .int .u8 15, .int .u8 25, .int .u8 17, .int .u8 4, .int .u8 8, .int .u8 31, .int .u8 27, .int .u8 13, .int .u8 23, .int .u8 21, .int .u8 19, .int .u8 16, .int .u8 7, .int .u8 26, .int .u8 12, .int .u8 18, .int .u8 6, .int .u8 11, .int .u8 5, .int .u8 10, .int .u8 9]
  let h5 := put h4 7 #[.int .u8 0, .int .u8 1, .int .u8 56, .int .u8 2, .int .u8 57, .int .u8 49, .int .u8 28, .int .u8 3, .int .u8 61, .int .u8 58, .int .u8 42, .int .u8 50, .int .u8 38, .int .u8 29, .int .u8 17, .int .u8 4, .int .u8 62, .int .u8 47, .int .u8 59, .int .u8 36, .int .u8 45, .int .u8 43, .int .u8 51, .int .u8 22, .int .u8 53, .int .u8 39, .int .u8 33, .int .u8 30, .int .u8 24, .int .u8 18, .int .u8 12, .int .u8 5, .int .u8 63, .int .u8 55, .int .u8 48, .int .u8 27, .int .u8 60, .int .u8 41, .int .u8 37, .int .u8 16, .int .u8 46, .int .u8 35, .int .u8 44, .int .u8 21, .int .u8 52, .int .u8 32, .int .u8 23, .int .u8 11, .int .u8 54, .int .u8 26, .int .u8 40, .int .u8 15, .int .u8 34, .int .u8 20, .int .u8 31, .int .u8 10, .int .u8 25, .int .u8 14, .int .u8 19, .int .u8 9, .int .u8 13, .int .u8 8, .int .u8 7, .int .u8 6]
  { w0 with heap := h5 }
noncomputable abbrev N0 : Nat := (World.settled Tryd.prog default).heap.size
set_option maxRecDepth 1000000 in
theorem laid_met (os : Os) (args : Array Value) : laidMet Tryd.prog Rows.clockNilRow.laid ((laidWorld os).forCall (fun _ _ => 0) ⟨#[], args, []⟩).memory :=
  (LaidIn.of_run [6, 7, 5, 4, 2, N0 + 1, 1, N0, 3] 8 (by kernel_rfl) (by kernel_rfl) (by kernel_rfl) (by kernel_rfl)).met

theorem star_ : "*" ++ "errors.errorString" = "*errors.errorString" := by decide
theorem rowErr (u : TypeId) (h : Tryd.prog.typeName? 3 u = some "*errors.errorString") : u = 140 :=
  typeName_ptr_named (nm := "errors.errorString") (by rw [star_]; kernel_rfl) (by kernel_rfl) (by decide) u (by rw [star_]; exact h)
theorem last_global : (((begin Tryd.prog (fun _ _ => 0) default).world.heap[Tryd.prog.globals.size - 1]?).bind Obj.row?).isSome = true := by kernel_rfl
theorem some_global : Tryd.prog.globals.size - 1 < Tryd.prog.globals.size := of_decide_eq_true (by kernel_rfl)
theorem shaped_size {w : World} (h : w.ShapedOpen Tryd.prog) : Tryd.prog.globals.size ≤ w.heap.size := by
  obtain ⟨⟨z, t⟩, hz⟩ := Option.isSome_iff_exists.1 last_global
  obtain ⟨cs, ho, _⟩ := h.1 _ z t some_global hz
  have := lt_of_heap ho
  omega
theorem env_of {W : World} (hL : laidMet Tryd.prog Rows.clockNilRow.laid W) (hsh : W.ShapedOpen Tryd.prog) : Env W.heap.size W := by
  have hL1 := hL.tail.tail
  obtain ⟨a0, t0, hv0, _, _, _⟩ := laid_sentinel (g := 2) hL.tail.tail.tail.tail (by kernel_rfl) (by kernel_rfl) Tryd.underlying88 rowErr Tryd.underlying140 Tryd.underlying142 rfl rfl Tryd.underlying9 (by kernel_rfl) (by kernel_rfl)
  obtain ⟨a1, t1, hv1, _, _, _⟩ := laid_sentinel (g := 1) hL.tail.tail.tail.tail.tail (by kernel_rfl) (by kernel_rfl) Tryd.underlying88 rowErr Tryd.underlying140 Tryd.underlying142 rfl rfl Tryd.underlying9 (by kernel_rfl) (by kernel_rfl)
  refine ⟨shaped_size hsh, ?_, ?_, ⟨_, _, hv1⟩, ⟨_, _, hv0⟩⟩
  · exact Lib.tabIs_of_head (g := 5) (t := 144) (e := 30) (n := 20) (by kernel_rfl) (by kernel_rfl) (by kernel_rfl) (by kernel_rfl) (by kernel_rfl) (by kernel_rfl) hL1
  · exact Tryd.laysM145.s1_3 W hsh
end Go.Proofs.YtnofeblcnamfeaaDoor
