/- Layer 6: the reader of numbers. -/
import Derived.Test.YtnofeblcnamfeaaDoorProg
import Derived.Test.YtnofeblcnamfeaaDoorLkEnv
import Derived.BigQuiet
namespace Go.Proofs.YtnofeblcnamfeaaDoor
open Go.RowKit Go.Proofs

/-- Of what was there, nothing but block g has turned. -/
structure But (g : Nat) (w w' : World) : Prop where
  os : w'.os = w.os
  tape : w'.tape = w.tape
  output : w'.output = w.output
  size : w.heap.size ≤ w'.heap.size
  block : ∀ k, k < w.heap.size → k ≠ g → w'.heap[k]? = w.heap[k]?
section
variable {w w' w'' : World} {g : Nat}
theorem But.refl (g : Nat) (w : World) : But g w w := ⟨rfl, rfl, rfl, Nat.le_refl _, fun _ _ _ => rfl⟩
theorem But.trans (h : But g w w') (k : But g w' w'') : But g w w'' :=
  ⟨k.os.trans h.os, k.tape.trans h.tape, k.output.trans h.output, Nat.le_trans h.size k.size, fun b hb hne => (k.block b (Nat.lt_of_lt_of_le hb h.size) hne).trans (h.block b hb hne)⟩
theorem But.of_below (h : Below w.heap.size w w') : But g w w' := ⟨h.os, h.tape, h.output, h.size, fun b hb _ => h.block b hb⟩
theorem But.of_only (h : Only g w w') : But g w w' := ⟨h.os, h.tape, h.output, by rw [h.size]; exact Nat.le_refl _, fun b _ hne => h.block b hne⟩
theorem But.set_ (h : But g w w') (i : Nat) (u : Value) : But g w (w'.setCell ⟨g, i, none⟩ u) := h.trans (But.of_only ((Only.refl g w').set_ i u))
theorem But.drew (h : But g w w') : But g w w'.drew := ⟨h.os, h.tape, h.output, h.size, h.block⟩
theorem But.drewN (h : But g w w') (n : Nat) : But g w (w'.drewN n) := ⟨h.os, h.tape, h.output, h.size, h.block⟩
theorem But.below (h : But g w w') {B : Nat} (hB : B ≤ g) (hw : B ≤ w.heap.size) : Below B w w' := ⟨h.os, h.tape, h.output, h.size, fun b hb => h.block b (by omega) (by omega)⟩
theorem But.blk (h : But g w w') {k : Nat} {t : TypeId} {cs : Array Value} (hk : Blk w k t cs) (hne : k ≠ g) : Blk w' k t cs := (h.block k hk.lt hne).trans hk
end

/-- A reader's block: what is left, and whether something was wrong. -/
def RdrAt (w : World) (r : Nat) (s : List UInt8) (bad : Bool) : Prop := Blk w r 84 #[.string (str s), .bool bad]
theorem RdrAt.blk {w : World} {r : Nat} {s : List UInt8} {bad : Bool} (h : RdrAt w r s bad) : Blk w r 84 #[.string (str s), .bool bad] := h
theorem RdrAt.lt {w : World} {r : Nat} {s : List UInt8} {bad : Bool} (h : RdrAt w r s bad) : r < w.heap.size := h.blk.lt

set_option maxHeartbeats 400000 in
theorem cod_new (s : List UInt8) (w : World) :
    Calls Tryd.prog 23 #[.string (str s)] w fun e w' => e = .returned (.pointer (some ⟨w.heap.size, 0, none⟩)) ∧ RdrAt w' w.heap.size s false ∧ Below w.heap.size w w' := by
  go_enter Tryd.func23, Tryd.ntmps23
  go_wp2
  go_ret
  exact ⟨rfl, Blk.new _ _ _, (Below.refl _ _).alloc (Nat.le_refl _) _⟩

set_option maxHeartbeats 400000 in
theorem cod_fail (r : Nat) (s : List UInt8) (bad : Bool) (w : World) (h : RdrAt w r s bad) :
    Calls Tryd.prog 37 #[.pointer (some ⟨r, 0, none⟩)] w fun e w' => e = .returned (.int .i64 0) ∧ RdrAt w' r s true ∧ But r w w' := by
  have c1 := h.blk.cell 1
  have f1 := h.blk.frozen 1
  simp at c1
  go_enter Tryd.func37, Tryd.ntmps37
  go_wp2
  go_ret
  exact ⟨rfl, h.blk.set_ 1 _, (But.refl _ _).set_ _ _⟩

set_option maxHeartbeats 400000 in
theorem cod_ok (r : Nat) (s : List UInt8) (bad : Bool) (w : World) (h : RdrAt w r s bad) :
    Calls Tryd.prog 40 #[.pointer (some ⟨r, 0, none⟩)] w fun e w' => e = .returned (.bool (!bad)) ∧ w = w' := by
  have c1 := h.blk.cell 1
  simp at c1
  go_enter Tryd.func40, Tryd.ntmps40
  go_wp2
  go_ret
  exact ⟨rfl, rfl⟩

theorem isEmpty_str (s : List UInt8) : (str s).toList.isEmpty = s.isEmpty := by rw [ByteArray.toList_eq, str_list]

set_option maxHeartbeats 400000 in
theorem cod_done (r : Nat) (s : List UInt8) (bad : Bool) (w : World) (h : RdrAt w r s bad) :
    Calls Tryd.prog 25 #[.pointer (some ⟨r, 0, none⟩)] w fun e w' => e = .returned (.bool (!bad && s.isEmpty)) ∧ w = w' := by
  have c0 := h.blk.cell 0
  simp at c0
  have H := Lib.hid h
  have he := isEmpty_str s
  clear h
  cases bad with
  | true =>
    go_enter Tryd.func25, Tryd.ntmps25
    go_wp2_with (go_at_call 40; refine (cod_ok r s true _ H.out).mono ?_; rintro e w' ⟨rfl, rfl⟩)
    go_ret
    exact ⟨rfl, rfl⟩
  | false =>
    go_enter Tryd.func25, Tryd.ntmps25
    go_wp2_with (go_at_call 40; refine (cod_ok r s false _ H.out).mono ?_; rintro e w' ⟨rfl, rfl⟩)
    go_ret
    exact ⟨rfl, rfl⟩

/-- What Int takes: the number, what is left, whether something was wrong. -/
def intM (s : List UInt8) (bad : Bool) (lo hi : Int) : Int × List UInt8 × Bool :=
  if bad then (0, s, true) else
  if (Lib.cut s [44]).2.2 then
    match atoiM (Lib.cut s [44]).1 with
    | some v => if Lib.itoa v = (Lib.cut s [44]).1 ∧ lo ≤ v ∧ v ≤ hi then (v, (Lib.cut s [44]).2.1, false) else (0, s, true)
    | none => (0, s, true)
  else (0, s, true)
end Go.Proofs.YtnofeblcnamfeaaDoor
