/- What the program's variables hold, and the library's functions that the program calls, at this program's numbers. -/
import Derived.Test.YtnofeblcnamfeaaDoorLkShelf
import Derived.Test.YtnofeblcnamfeaaDoorProg
import Derived.Test.YtnofeblcnamfeaaDoorLk1
import Derived.Lib.SmallJoins
import Derived.Lib.ItoaLen
namespace Go.Proofs.YtnofeblcnamfeaaDoor
open Go.RowKit Go.Proofs Go.Shelf Go.Sort Go.Lib Go.Joins

/-- What the variables of the library hold, below block B. -/
structure Env (B : Nat) (w : World) : Prop where
  hB : Tryd.prog.globals.size ≤ B
  tab : Lib.TabIs Tryd.prog w "internal/strconv.uint64pow10" .u64 Lib.pow10Tab
  maxlen : ∃ m, w.cell? ⟨0, 0, none⟩ = some (.int .i64 m)
  syn : ∃ tp p, w.var? Tryd.prog "strconv.ErrSyntax" = some #[.iface tp p]
  ran : ∃ tp p, w.var? Tryd.prog "strconv.ErrRange" = some #[.iface tp p]

theorem var_below {B g : Nat} {w w' : World} {name : String} (hn : Tryd.prog.globalNamed name = some g) (hg : g < B) (h : Below B w w') : w'.var? Tryd.prog name = w.var? Tryd.prog name := by
  unfold World.var?
  rw [hn]
  simp only [Option.bind_some, h.block g hg]
theorem cell_below {B g i : Nat} {w w' : World} (hg : g < B) (h : Below B w w') : w'.cell? ⟨g, i, none⟩ = w.cell? ⟨g, i, none⟩ := by
  unfold World.cell?
  simp only [h.block g hg]
theorem name_tab : Tryd.prog.globalNamed "internal/strconv.uint64pow10" = some 5 := by kernel_rfl
theorem name_syn : Tryd.prog.globalNamed "strconv.ErrSyntax" = some 1 := by kernel_rfl
theorem name_ran : Tryd.prog.globalNamed "strconv.ErrRange" = some 2 := by kernel_rfl
theorem lt_tab : 5 < Tryd.prog.globals.size := of_decide_eq_true (by kernel_rfl)
theorem lt_syn : 1 < Tryd.prog.globals.size := of_decide_eq_true (by kernel_rfl)
theorem lt_ran : 2 < Tryd.prog.globals.size := of_decide_eq_true (by kernel_rfl)
theorem lt_max : 0 < Tryd.prog.globals.size := of_decide_eq_true (by kernel_rfl)
theorem Env.below {B : Nat} {w w' : World} (h : Env B w) (b : Below B w w') : Env B w' := by
  have hB := h.hB
  refine ⟨hB, ?_, ?_, ?_, ?_⟩
  · have := h.tab
    unfold Lib.TabIs at this ⊢
    rw [var_below name_tab (Nat.lt_of_lt_of_le lt_tab hB) b]
    exact this
  · obtain ⟨m, hm⟩ := h.maxlen
    exact ⟨m, by rw [cell_below (Nat.lt_of_lt_of_le lt_max hB) b]; exact hm⟩
  · obtain ⟨t, p, hm⟩ := h.syn
    exact ⟨t, p, by rw [var_below name_syn (Nat.lt_of_lt_of_le lt_syn hB) b]; exact hm⟩
  · obtain ⟨t, p, hm⟩ := h.ran
    exact ⟨t, p, by rw [var_below name_ran (Nat.lt_of_lt_of_le lt_ran hB) b]; exact hm⟩

theorem below_grow (w : World) (k : Nat) (os : Array Obj) : Below w.heap.size w (grow (w.drewN k) os) :=
  ⟨rfl, rfl, rfl, by simp [grow, World.drewN], fun b hb => by simp [grow, World.drewN, Array.getElem?_append_left hb]⟩

theorem std_Itoa (n : Int) (h0 : -9223372036854775808 ≤ n) (h1 : n ≤ 9223372036854775807) (B : Nat) (w : World) (he : Env B w) (hB : B ≤ w.heap.size) :
    Calls Tryd.prog 39 #[.int .i64 n] w fun e w' => e = .returned (.string (str (Lib.itoa n))) ∧ Below w.heap.size w w' :=
  (Any.strconv_Itoa Tryd.laysM171 n h0 h1 w he.tab).mono fun e w' ⟨h1, k, os, h2⟩ => ⟨h1, by rw [h2]; exact below_grow _ _ _⟩

/-- strconv.Atoi's first result, and whether its error is nil. -/
def atoiM (l : List UInt8) : Option Int := match Lib.atoiAll l with | .ok v => some v | _ => none
theorem std_Atoi (l : List UInt8) (hl : l.length ≤ 281474976710656) (B : Nat) (w : World) (he : Env B w) (hB : B ≤ w.heap.size) :
    Calls Tryd.prog 38 #[.string (str l)] w fun e w' => (match atoiM l with
      | some v => e = .returned (.tuple #[.int .i64 v, .nilIface])
      | none => ∃ v tp N, e = .returned (.tuple #[.int .i64 v, .iface tp (.pointer (some ⟨N, 0, none⟩))])) ∧ Below w.heap.size w w' := by
  have hsz : (str l).size = l.length := str_size l
  unfold atoiM
  cases h : Lib.atoiAll l
  · rename_i v
    refine (Any.strconv_Atoi_ok Tryd.laysC172 (str l) (by omega) v (by rw [str_list]; exact h) w).mono ?_
    rintro e w' ⟨h1, h2⟩
    refine ⟨h1, ?_⟩
    rcases h2 with rfl | ⟨t, rfl⟩
    · exact Below.refl _ _
    · exact below_bytesWorld _ _ _ _ (Nat.le_refl _)
  · obtain ⟨tp, p, hv⟩ := he.syn
    refine (Any.strconv_Atoi_syntax_var Tryd.laysC172 (str l) (by omega) (by rw [str_list]; exact h) tp p w hv).mono ?_
    rintro e w' ⟨N, h1, _, _, h2⟩
    exact ⟨⟨_, _, N, h1⟩, h2⟩
  · obtain ⟨tp, p, hv⟩ := he.ran
    refine (Any.strconv_Atoi_range_var Tryd.laysC172 (str l) (by omega) (by rw [str_list]; exact h) tp p w hv).mono ?_
    rintro e w' ⟨N, h1, _, _, h2⟩
    exact ⟨⟨_, _, N, h1⟩, h2⟩

theorem std_Cut (l m : List UInt8) (hl : l.length < 4294967281) (B : Nat) (w : World) (he : Env B w) :
    Calls Tryd.prog 36 #[.string (str l), .string (str m)] w fun e w' => e = .returned (.tuple #[.string (str (Lib.cut l m).1), .string (str (Lib.cut l m).2.1), .bool (Lib.cut l m).2.2]) ∧ ∃ n, w' = w.drewN n := by
  obtain ⟨x, hx⟩ := he.maxlen
  have h := Any.strings_Cut Tryd.lays145 (str l) (str m) x w (by rw [str_size]; exact hl) hx
  rw [str_list, str_list] at h
  exact h
end Go.Proofs.YtnofeblcnamfeaaDoor
