/- Layer 3, on: New, Kept. -/
import Derived.Test.YtnofeblcnamfeaaDoorLkDisk
import Derived.Test.YtnofeblcnamfeaaDoorLk1
namespace Go.Proofs.YtnofeblcnamfeaaDoor
open Go.RowKit Go.Proofs

section
variable {B : Nat} {w : World} {db : Nat} {D : DiskM}

set_option maxHeartbeats 400000 in
theorem disk_new_bad (n : Int) (w : World) (h : n < 1 ∨ 4096 < n) :
    Calls Tryd.prog 5 #[.int .i64 n] w fun e w' => e = .returned (.tuple #[.pointer none, .int .i64 1]) ∧ w = w' := by
  by_cases h1 : n < 1
  · clear h
    go_enter Tryd.func5, Tryd.ntmps5
    go_wp2
    go_ret2
    exact ⟨rfl, rfl⟩
  · have h2 : 4096 < n := by omega
    clear h
    go_enter Tryd.func5, Tryd.ntmps5
    go_wp2
    go_ret2
    exact ⟨rfl, rfl⟩

def newM (n : Nat) : DiskM := { kept := List.replicate n (List.replicate 64 0), cache := [], off := false, armed := 0, bits := 0 }

/-- 64 noughts. -/
def zero64 : Array Value := Array.replicate 64 (.int .u8 0)
theorem zero64_size : zero64.size = 64 := by simp [zero64]
theorem info_sector : (Tryd.prog.info? 51).map (fun i => (i.zero, i.size, i.bytes)) = some (some (.agg zero64), 64, 64) := by kernel_rfl
theorem und_sectors : Tryd.prog.underlying 42 = some (.slice 51) := by kernel_rfl
theorem flat_zero (n : Nat) : u8s (List.replicate n (List.replicate 64 (0 : UInt8))).flatten = List.replicate (n * 64) (.int .u8 0) := by
  rw [List.flatten_replicate_replicate]
  simp [u8s]

set_option maxRecDepth 100000 in
set_option maxHeartbeats 400000 in
theorem disk_new (n : Nat) (w : World) (h1 : 1 ≤ n) (h2 : n ≤ 4096) :
    Calls Tryd.prog 5 #[.int .i64 n] w fun e w' => ∃ db, e = .returned (.tuple #[.pointer (some ⟨db, 0, none⟩), .int .i64 0]) ∧ DiskRep w.heap.size w' db (newM n) ∧ Below w.heap.size w w' := by
  go_enter Tryd.func5, Tryd.ntmps5
  go_wp2_with (refine wpList_run rfl (exec_make 42 51 (.tmp 10) (.tmp 10) rfl und_sectors (.agg zero64) 64 64 info_sector n rfl rfl (by omega) (by omega) (Array.replicate (n * 64) (.int .u8 0)) (madeCells_rep 64 n _ (by decide))) ?_)
  go_ret2
  refine ⟨_, rfl, ⟨w.heap.size, .slice none 0 0, 0, ?_⟩, ((Below.refl _ _).alloc (Nat.le_refl _) _).alloc (by simp) _⟩
  have hl : (newM n).kept.length = n := by simp [newM]
  refine ⟨by omega, by omega, ?_, ?_, ?_, ?_⟩
  · have := Blk.new (w.alloc (Obj.cells (Array.replicate (n * 64) (Value.int IntKind.u8 0)) 51)) 45 #[Value.slice (some { block := w.heap.size, off := 0 }) n n, Value.slice none 0 0, Value.bool false, Value.int IntKind.i64 0, Value.int IntKind.u64 0, Value.int IntKind.i64 0]
    simp only [hl]
    simpa [newM] using this
  · have e : (u8s (newM n).kept.flatten).toArray = Array.replicate (n * 64) (Value.int IntKind.u8 0) := by simp only [newM, flat_zero]; simp
    rw [e]
    exact (Blk.new w _ _).alloc _
  · exact World.ownsRow_nil _ _ _ _
  · exact ⟨by omega, by omega, by intro s hs; simp [newM] at hs; simp [hs.2], by simp [newM], by simp [newM], by simp [newM], by simp [newM], by simp [newM], by simp [newM], by simp [newM]⟩

theorem DiskIn.sec_cell {kb : Nat} {cv : Value} {wr : Int} (h : DiskIn B w db kb cv wr D) (i : Nat) (hi : i < D.kept.length) (j : Nat) (c : UInt8) (hc : (D.kept.getD i [])[j]? = some c) :
    (u8s D.kept.flatten).toArray[i * 64 + j]? = some (.int .u8 c.toNat) := by
  have hl : (D.kept.getD i []).length = 64 := h.ok.secs _ (by simp [List.getD, hi])
  have hj : j < 64 := by
    rcases Nat.lt_or_ge j 64 with h1 | h1
    · exact h1
    · rw [List.getElem?_eq_none (by omega)] at hc; cases hc
  have := flat_get 64 D.kept h.ok.secs i j hj
  rw [List.getElem?_eq_getElem hi] at this
  have e : D.kept.getD i [] = D.kept[i] := by simp [List.getD, hi]
  rw [e] at hc
  simp only [Option.bind_some, hc] at this
  simp [u8s_get, this]
theorem DiskIn.sec_str {kb : Nat} {cv : Value} {wr : Int} (h : DiskIn B w db kb cv wr D) (i : Nat) (hi : i < D.kept.length) :
    (convert 54 9 (.slice (some ⟨kb, i * 64, none⟩) 64 64)).run Tryd.prog w = .ok (.string (str (D.kept.getD i []))) w := by
  refine run_bytes_str _ _ 5 (by kernel_rfl) (by kernel_rfl) (by kernel_rfl) _ _ _ _ _ (h.ok.secs _ (by simp [List.getD, hi])) (fun j c hc => ?_)
  rw [h.kept.cell]
  exact h.sec_cell i hi j c hc

set_option maxHeartbeats 400000 in
theorem disk_kept_bad (h : DiskRep B w db D) (at_ : Int) (ha : at_ < 0 ∨ D.kept.length ≤ at_) :
    Calls Tryd.prog 19 #[.pointer (some ⟨db, 0, none⟩), .int .i64 at_] w fun e w' => e = .returned (.string (str [])) ∧ w = w' := by
  have H := disk_len h
  clear h
  by_cases h1 : at_ < 0
  · clear ha
    go_enter Tryd.func19, Tryd.ntmps19
    go_wp2
    go_ret
    exact ⟨rfl, rfl⟩
  · have h2 : (D.kept.length : Int) ≤ at_ := by omega
    clear ha
    go_enter Tryd.func19, Tryd.ntmps19
    go_wp2_with (go_at_call 14; refine H.mono ?_; rintro e w' ⟨rfl, rfl⟩)
    go_ret
    exact ⟨rfl, rfl⟩

set_option maxRecDepth 100000 in
set_option maxHeartbeats 400000 in
theorem disk_kept (h : DiskRep B w db D) (i : Nat) (hi : i < D.kept.length) :
    Calls Tryd.prog 19 #[.pointer (some ⟨db, 0, none⟩), .int .i64 i] w fun e w' => e = .returned (.string (str (D.kept.getD i []))) ∧ w = w' := by
  have H := disk_len h
  obtain ⟨kb, cv, wr, h⟩ := h
  have h0 := h.disk.cell 0
  simp at h0
  have hf := h.ok.few
  have hcv := h.sec_str i hi
  clear h
  go_enter Tryd.func19, Tryd.ntmps19
  go_wp2_with (go_at_call 14; refine H.mono ?_; rintro e w' ⟨rfl, rfl⟩)
  go_ret
  exact ⟨ret_str (by simp [List.getD, hi]), rfl⟩
end
attribute [irreducible] zero64
end Go.Proofs.YtnofeblcnamfeaaDoor
