/- Layer 6: numbers written, and all told as a text. -/
import Derived.Test.YtnofeblcnamfeaaDoorProg
import Derived.Test.YtnofeblcnamfeaaDoorLkWr
namespace Go.Proofs.YtnofeblcnamfeaaDoor
open Go.RowKit Go.Proofs

/-- Numbers as the writer writes them. -/
def intsW (l : List Int) : List UInt8 := l.flatMap fun n => Lib.itoa n ++ [44]
theorem intsW_snoc (l : List Int) (n : Int) : intsW (l ++ [n]) = intsW l ++ (Lib.itoa n ++ [44]) := by simp [intsW]
def inInt (n : Int) : Prop := -9223372036854775808 ≤ n ∧ n ≤ 9223372036854775807
theorem intsW_length : ∀ (l : List Int), (∀ n ∈ l, inInt n) → (intsW l).length ≤ 22 * l.length
  | [], _ => by simp [intsW]
  | n :: l, h => by
    have h1 := intsW_length l (fun m hm => h m (List.mem_cons_of_mem _ hm))
    have h2 := Lib.itoa_length_le n (h n (by simp)).1 (h n (by simp)).2
    simp only [intsW, List.flatMap_cons, List.length_append, List.length_cons, List.length_nil] at h1 ⊢
    omega
theorem str_cat (a b : List UInt8) : str a ++ str b = str (a ++ b) := by
  apply ByteArray.ext
  simp [str, ByteArray.data_append]
theorem byteCells_cat (a b : List UInt8) : Lib.byteCells a ++ Lib.byteCells b = Lib.byteCells (a ++ b) := (Lib.byteCells_append a b).symm

theorem builder_below {T e : TypeId} {B b : Nat} {p : Value} {bs : List Value} {w w' : World} (h : Lib.BuilderAt T e B b p bs w) (hb : Below w.heap.size w w') : Lib.BuilderAt T e B b p bs w' := by
  have hlt := h.lt
  obtain ⟨hB, v, hk, hown, hne⟩ := h
  refine ⟨hB, v, (hb.block b hlt).trans hk, ?_, hne⟩
  exact hown.kept (row := none) ⟨hb.os, hb.tape, hb.output, hb.size, fun k hk _ => hb.block k hk⟩ (Classical.em _)
theorem isBuilder_below {T e : TypeId} {B b : Nat} {bs : List Value} {w w' : World} (h : Lib.IsBuilder T e B b bs w) (hb : Below w.heap.size w w') : Lib.IsBuilder T e B b bs w' :=
  h.imp (fun h => builder_below h hb) (fun h => builder_below h hb)

set_option maxRecDepth 100000 in
set_option maxHeartbeats 2000000 in
theorem wr_int (B0 B b lb : Nat) (bs : List UInt8) (l : List Int) (w : World) (hE : Env B0 w) (hB0 : B0 ≤ B) (hBw : B ≤ w.heap.size) (hlb : Blk w lb 3 (l.map fun n => Value.int .i64 n).toArray) (hr : ∀ n ∈ l, inInt n)
    (h : Lib.IsBuilder 73 5 B b (Lib.byteCells bs) w) (hlen : bs.length + 22 * l.length ≤ 1000000000) :
    Calls Tryd.prog 26 #[.pointer (some ⟨b, 0, none⟩), .slice (some ⟨lb, 0, none⟩) l.length l.length] w fun e w' => e = .returned (.tuple #[]) ∧ Lib.IsBuilder 73 5 B b (Lib.byteCells (bs ++ intsW l)) w' ∧ Fr B wrL w w' := by
  have HE := Lib.hid hE
  have HL := Lib.hid hlb
  have HR := Lib.hid hr
  have H := Lib.hid h
  clear hE hlb hr h
  go_enter Tryd.func26, Tryd.ntmps26
  go_wp2
  go_loopw [10] (fun i wr => ∃ k : Nat, k ≤ l.length ∧ i = .int .i64 k ∧ Lib.IsBuilder 73 5 B b (Lib.byteCells (bs ++ intsW (l.take k))) wr ∧ Fr B wrL w wr) (fun i wr => l.length - (intOf i).toNat)
  case atStart => exact ⟨0, Nat.zero_le _, rfl, by simpa [intsW] using H.out, Fr.refl _ _ _⟩
  case round =>
    obtain ⟨k, hk, rfl, hb, hf⟩ := hrel
    by_cases hlt : k < l.length
    · obtain ⟨n, hn⟩ : ∃ n, l[k]? = some n := ⟨_, List.getElem?_eq_getElem hlt⟩
      have hmem : n ∈ l := List.mem_of_getElem? hn
      have hL2 : Blk wr lb 3 (l.map fun n => Value.int .i64 n).toArray := hf.blk HL.out (by decide)
      have hcell : wr.cell? ⟨lb, k, none⟩ = some (.int .i64 n) := by rw [hL2.cell]; simp [hn]
      have hsn : intsW (l.take (k + 1)) = intsW (l.take k) ++ (Lib.itoa n ++ [44]) := by
        rw [List.take_add_one, hn]
        exact intsW_snoc _ _
      have HSN := Lib.hid hsn
      have hcat : str (Lib.itoa n) ++ ⟨#[44]⟩ = str (Lib.itoa n ++ [44]) := str_cat _ [44]
      have HI := Lib.hid (std_Itoa n (HR.out n hmem).1 (HR.out n hmem).2 B0 wr.drew ((HE.out.below (hf.below.mono hB0)).below (Below.refl _ _).drew) (Nat.le_trans hB0 (Nat.le_trans hBw hf.size)))
      have hl1 : (intsW (l.take k)).length ≤ 22 * k := by
        have := intsW_length (l.take k) (fun m hm => HR.out m (List.mem_of_mem_take hm))
        rw [List.length_take] at this
        omega
      have hl2 := Lib.itoa_length_le n (HR.out n hmem).1 (HR.out n hmem).2
      have hsz : (str (Lib.itoa n ++ [44])).size = (Lib.itoa n).length + 1 := by rw [str_size]; simp
      have hsz0 : (str (Lib.itoa n)).size ≤ 9223372036854775806 := by rw [str_size]; omega
      have HB := Lib.hid hb
      clear hsn hb hn hL2
      go_wp2
      refine wp_any (by kernel_rfl) ?_
      refine any_take 0 14 (.pointer (some ⟨b, 0, none⟩)) rfl (by kernel_rfl) (by kernel_rfl) (by kernel_rfl) (fun _ _ _ h => h) (fun _ => rfl) ?_
      simp only [Act.put, List.setIfInBounds_toArray, List.set_cons_succ, List.set_cons_zero]
      refine any_take 1 15 (.pointer (some ⟨b, 0, none⟩)) rfl (by kernel_rfl) (by kernel_rfl) (by kernel_rfl) (fun _ _ _ h => h) (fun _ => by go_simp) ?_
      simp only [Act.put, List.setIfInBounds_toArray, List.set_cons_succ, List.set_cons_zero]
      refine any_take 2 16 (.pointer (some ⟨b, 0, none⟩)) rfl (by kernel_rfl) (by kernel_rfl) (by kernel_rfl) (fun _ _ _ h => h) (fun _ => by go_simp) ?_
      simp only [Act.put, List.setIfInBounds_toArray, List.set_cons_succ, List.set_cons_zero]
      refine any_take 3 17 (.int .i64 n) rfl (by kernel_rfl) (by kernel_rfl) (by kernel_rfl) (fun _ _ _ h => h) (fun _ => rfl) ?_
      simp only [Act.put, List.setIfInBounds_toArray, List.set_cons_succ, List.set_cons_zero]
      refine any1 4 (by kernel_rfl) (op_call 18 rfl (f := 39) (args := #[.int .i64 n]) (by go_simp) (HI.out.mono ?_))
      rintro e w1 ⟨rfl, hb1⟩
      refine ⟨_, rfl, ?_⟩
      simp only [Act.put, List.setIfInBounds_toArray, List.set_cons_succ, List.set_cons_zero]
      refine any_take 5 19 (.string (str (Lib.itoa n ++ [44]))) rfl (by kernel_rfl) (by kernel_rfl) (by kernel_rfl) (fun _ _ _ h => h) (fun _ => by go_simp) ?_
      simp only [Act.put, List.setIfInBounds_toArray, List.set_cons_succ, List.set_cons_zero]
      have HB1 : Hid (Lib.IsBuilder 73 5 B b (Lib.byteCells (bs ++ intsW (l.take k))) w1) := Lib.hid (isBuilder_below (w := wr.drew) HB.out hb1)
      have hF1 : Fr B wrL w w1 := hf.drew.trans (Fr.of_below hb1 (Nat.le_trans hBw hf.size))
      refine any1 6 (by kernel_rfl) (op_call 20 rfl (f := 41) (args := #[.pointer (some ⟨b, 0, none⟩), .string (str (Lib.itoa n ++ [44]))]) (by go_simp) ((wr_write B b _ (str (Lib.itoa n ++ [44])) w1 HB1.out (by simp [Lib.byteCells]; omega) (Nat.le_trans hBw hF1.size)).mono ?_))
      rintro e w2 ⟨rfl, hb2, hf2⟩
      refine ⟨_, rfl, ?_⟩
      simp only [Act.put, List.setIfInBounds_toArray, List.set_cons_succ, List.set_cons_zero]
      refine wpAny_done (by kernel_rfl) ?_ _
      have hfin : Lib.IsBuilder 73 5 B b (Lib.byteCells (bs ++ intsW (l.take (k + 1)))) w2 := by
        rw [HSN.out, ← List.append_assoc, Lib.byteCells_append]
        exact Or.inr hb2
      have HFIN := Lib.hid hfin
      clear hfin hb2 hcat hcell
      go_wp2
      go_roundw
      case rel => exact ⟨k + 1, by omega, by go_num, HFIN.out, hF1.trans hf2⟩
      case measure => simp [intOf]; omega
    · obtain rfl : k = l.length := by omega
      rw [List.take_length] at hb
      go_wp2
      go_end0
      exact ⟨rfl, hb, hf⟩

theorem und_ptru8 : Tryd.prog.underlying 103 = some (.pointer 5) := by kernel_rfl
theorem cells_u8w : Tryd.prog.cellsOf 5 = 1 := by kernel_rfl

set_option maxRecDepth 100000 in
set_option maxHeartbeats 1000000 in
theorem wr_text (B b : Nat) (l : List UInt8) (w : World) (h : Lib.IsBuilder 73 5 B b (Lib.byteCells l) w) (h0 : l ≠ []) :
    Calls Tryd.prog 43 #[.pointer (some ⟨b, 0, none⟩)] w fun e w' => e = .returned (.string (str l)) ∧ Below B w w' := by
  obtain ⟨p, hB, v, hbk, hown, hne⟩ : ∃ p, Lib.BuilderAt 73 5 B b p (Lib.byteCells l) w := by
    rcases h with h | h
    · exact ⟨_, h⟩
    · exact ⟨_, h⟩
  have hl0 : l.length ≠ 0 := by simpa using h0
  rw [Lib.byteCells_length] at hown
  obtain ⟨g, cap, cur, rfl, hbg, hg, hnc, hcm, hcs, htake⟩ : ∃ g cap cur, v = .slice (some ⟨g, 0, none⟩) l.length cap ∧ B ≤ g ∧ w.heap[g]? = some (.cells cur 5 (0, 0)) ∧ l.length ≤ cap ∧ cap ≤ maxLen ∧ cur.size = cap * 1 ∧ cur.toList.take (l.length * 1) = Lib.byteCells l := by
    rcases hown.2 with ⟨_, hz⟩ | ⟨g, cap, cur, hv, r⟩
    · exact absurd hz hl0
    · exact ⟨g, cap, cur, hv, r⟩
  have c1 : w.drew.cell? ⟨b, 1, none⟩ = some (.slice (some ⟨g, 0, none⟩) l.length cap) := by
    have : w.drew.heap[b]? = some (.cells #[p, .slice (some ⟨g, 0, none⟩) l.length cap] 73 (0, 0)) := hbk
    rw [Lib.cell_of_heap this]; rfl
  have hSD : (Builtin.unsafeSliceData_ #[54] 103 #[.slice (some ⟨g, 0, none⟩) l.length cap]).run Tryd.prog w.drew = .ok (.pointer (some ⟨g, 0, none⟩)) w.drew :=
    Lib.run_unsafeSliceData_row _ _ _ _ _ _ (by omega)
  have hUS : (Builtin.unsafeString_ #[103, 3] 9 #[.pointer (some ⟨g, 0, none⟩), .int .i64 l.length]).run Tryd.prog w.drew = .ok (.string ⟨l.toArray⟩) (w.drew.freeze ⟨g, 0, none⟩ l.length) := by
    refine Lib.run_unsafeString_row w.drew 103 3 9 5 und_ptru8 cells_u8w g cur.size (by have hg' : w.drew.heap[g]? = some (.cells cur 5 (0, 0)) := hg; simp [World.shape?, hg']) l h0 (by omega) (by unfold maxLen at hcm; omega) ?_
    intro j x hx
    have := hown.cells (g := g) rfl j (.int .u8 x.toNat) (by simp [Lib.byteCells, hx])
    exact this
  clear h hown htake hcs hg hbk
  go_enter Tryd.func43, Tryd.ntmps43
  go_wp2
  go_region
  all_goals (go_wp2; go_ret; exact ⟨rfl, Lib.below_freeze (Below.drew (Below.refl B w)) (p := ⟨g, 0, none⟩) hbg _⟩)

set_option maxHeartbeats 1000000 in
theorem wr_string (B b : Nat) (l : List UInt8) (w : World) (h : Lib.IsBuilder 73 5 B b (Lib.byteCells l) w) (h0 : l ≠ []) :
    Calls Tryd.prog 28 #[.pointer (some ⟨b, 0, none⟩)] w fun e w' => e = .returned (.string (str l)) ∧ Below B w w' := by
  have H := Lib.hid (wr_text B b l w h h0)
  clear h h0
  go_enter Tryd.func28, Tryd.ntmps28
  go_wp2_with (go_at_call 43; refine H.out.mono ?_; rintro e w' ⟨rfl, hb⟩)
  go_ret
  exact ⟨rfl, hb⟩
end Go.Proofs.YtnofeblcnamfeaaDoor
