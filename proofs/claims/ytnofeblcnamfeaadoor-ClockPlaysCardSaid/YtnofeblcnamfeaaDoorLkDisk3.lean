/- Layer 3, on: Read. -/
import Derived.Test.YtnofeblcnamfeaaDoorLkDisk2
namespace Go.Proofs.YtnofeblcnamfeaaDoor
open Go.RowKit Go.Proofs

/-- The sector as it was written last. -/
def readM (D : DiskM) (i : Nat) : List UInt8 := D.cache.foldl (fun s x => if x.1 = i then x.2 else s) (D.kept.getD i [])
def readTo (D : DiskM) (i k : Nat) : List UInt8 := (D.cache.take k).foldl (fun s x => if x.1 = i then x.2 else s) (D.kept.getD i [])
theorem readTo_succ (D : DiskM) (i k : Nat) (x : Nat × List UInt8) (h : D.cache[k]? = some x) : readTo D i (k + 1) = if x.1 = i then x.2 else readTo D i k := by
  unfold readTo
  rw [List.take_add_one, h]
  simp [List.foldl_append]
theorem readTo_len (D : DiskM) (hD : D.Ok) (i : Nat) (hi : i < D.kept.length) : ∀ k, (readTo D i k).length = 64
  | 0 => by simp only [readTo, List.take_zero, List.foldl_nil]; exact hD.secs _ (by simp [List.getD, hi])
  | k + 1 => by
    cases h : D.cache[k]? with
    | none =>
      have : readTo D i (k + 1) = readTo D i k := by
        unfold readTo
        rw [List.take_add_one, h]; simp
      rw [this]; exact readTo_len D hD i hi k
    | some x =>
      rw [readTo_succ D i k x h]
      split
      · exact hD.lens x (List.mem_of_getElem? h)
      · exact readTo_len D hD i hi k
theorem readTo_all (D : DiskM) (i : Nat) : readTo D i D.cache.length = readM D i := by simp [readTo, readM]

def zero65 : Array Value := (.int .i64 0 :: List.replicate 64 (.int .u8 0)).toArray
theorem info_write : (Tryd.prog.info? 53).map (fun i => (i.zero, i.size, i.bytes)) = some (some (.agg zero65), 65, 72) := by kernel_rfl
theorem infoz_write : (Tryd.prog.info? 53).bind (·.zero) = some (.agg zero65) := by kernel_rfl
theorem infos_write : (Tryd.prog.info? 53).map (·.size) = some 65 := by kernel_rfl
theorem infoz_sector : (Tryd.prog.info? 51).bind (·.zero) = some (.agg zero64) := by kernel_rfl
theorem infos_sector : (Tryd.prog.info? 51).map (·.size) = some 64 := by kernel_rfl
theorem wcells_length (x : Nat × List UInt8) (h : x.2.length = 64) : (wcells x).length = 65 := by simp [wcells, u8s_length, h]
theorem wcells_one (x : Nat × List UInt8) : ∀ v ∈ wcells x, v.oneCell' = true := by
  intro v hv
  rcases List.mem_cons.1 hv with rfl | h
  · rfl
  · exact u8s_one _ _ h

theorem zero65_size : zero65.size = 65 := by simp [zero65]
theorem cells_agg (cs : Array Value) : (Value.agg cs).cells = cs := rfl
attribute [irreducible] zero65
section
variable {o : Oper} {a : Act} {w : World}
theorem exec_alloc_sector (ho : o.op = .alloc 51) : (execOp a.eval o).run Tryd.prog w = .ok (.value (.pointer (some ⟨w.heap.size, 0, none⟩))) (w.alloc (.cells zero64 51)) :=
  exec_alloc _ ho _ zero64 infoz_sector (cells_agg _)
theorem exec_alloc_write (ho : o.op = .alloc 53) : (execOp a.eval o).run Tryd.prog w = .ok (.value (.pointer (some ⟨w.heap.size, 0, none⟩))) (w.alloc (.cells zero65 53)) :=
  exec_alloc _ ho _ zero65 infoz_write (cells_agg _)
theorem exec_store_sector (x y : Operand) (w0 : World) (ho : o.op = .store 51 x y) (hw : w = w0.alloc (.cells zero64 51)) (hx : a.eval x = .pointer (some ⟨w0.heap.size, 0, none⟩)) (s : List UInt8) (hs : s.length = 64) (hy : a.eval y = .agg (u8s s).toArray) :
    (execOp a.eval o).run Tryd.prog w = .ok .skip (w0.alloc (.cells (u8s s).toArray 51)) :=
  exec_store_new _ x y ho w0 zero64 _ hw hx (u8s s) hy (by rw [u8s_length, hs]; exact infos_sector) (by rw [u8s_length, hs, zero64_size]) (u8s_one _)
theorem exec_store_write (x y : Operand) (w0 : World) (ho : o.op = .store 53 x y) (hw : w = w0.alloc (.cells zero65 53)) (hx : a.eval x = .pointer (some ⟨w0.heap.size, 0, none⟩)) (s : List Value) (hs : s.length = 65) (h1 : ∀ v ∈ s, v.oneCell' = true) (hy : a.eval y = .agg s.toArray) :
    (execOp a.eval o).run Tryd.prog w = .ok .skip (w0.alloc (.cells s.toArray 53)) :=
  exec_store_new _ x y ho w0 zero65 _ hw hx s hy (by rw [hs]; exact infos_write) (by rw [hs, zero65_size]) h1
end
theorem agg_sector (w : World) : (isAgg 51).run Tryd.prog w = .ok true w := by kernel_rfl
theorem agg_write (w : World) : (isAgg 53).run Tryd.prog w = .ok true w := by kernel_rfl

section
variable {B : Nat} {w : World} {db : Nat} {D : DiskM}

theorem flatMap_get {α β : Type} (f : α → List β) (k : Nat) (L : List α) (h : ∀ x ∈ L, (f x).length = k) (i j : Nat) (hj : j < k) (x : α) (hx : L[i]? = some x) : (L.flatMap f)[i * k + j]? = (f x)[j]? := by
  rw [List.flatMap_def, flat_get k (L.map f) (by intro s hs; obtain ⟨y, hy, rfl⟩ := List.mem_map.1 hs; exact h y hy) i j hj]
  simp [hx]

/-- The cache as a slice. -/
theorem DiskIn.cform {kb : Nat} {cv : Value} {wr : Int} (h : DiskIn B w db kb cv wr D) : ∃ A cap, cv = .slice A D.cache.length cap ∧ D.cache.length ≤ cap ∧ cap ≤ 9223372036854775807 ∧
    ∀ i x, D.cache[i]? = some x → ∃ g cur, A = some ⟨g, 0, none⟩ ∧ Blk w g 53 cur ∧ ∀ (j : Nat) (v : Value), (wcells x)[j]? = some v → cur[i * 65 + j]? = some v := by
  rcases h.cache.2 with ⟨rfl, h0⟩ | ⟨g, cap, cur, rfl, hg, hh, hc1, hc2, hs, ht⟩
  · refine ⟨none, 0, by rw [h0], by omega, by omega, fun i x hx => ?_⟩
    have : D.cache = [] := List.eq_nil_of_length_eq_zero h0
    rw [this] at hx; simp at hx
  · refine ⟨_, cap, rfl, hc1, by simp only [maxLen] at hc2; omega, fun i x hx => ⟨g, cur, rfl, hh, fun j v hv => ?_⟩⟩
    have hxm := List.mem_of_getElem? hx
    have hlx := wcells_length x (h.ok.lens x hxm)
    have hj : j < 65 := by
      rcases Nat.lt_or_ge j 65 with h1 | h1
      · exact h1
      · rw [List.getElem?_eq_none (by omega)] at hv; cases hv
    have hi : i < D.cache.length := by
      rcases Nat.lt_or_ge i D.cache.length with h1 | h1
      · exact h1
      · rw [List.getElem?_eq_none (by omega)] at hx; cases hx
    have e := flatMap_get wcells 65 D.cache (fun y hy => wcells_length y (h.ok.lens y hy)) i j hj x hx
    rw [hv, ← ht, List.getElem?_take, if_pos (by omega)] at e
    simpa using e

theorem DiskRep.below {w' : World} (h : DiskRep B w db D) (hb : Below w.heap.size w w') : DiskRep B w' db D :=
  h.frame (Fr.of_below (B := w.heap.size) (L := []) hb (Nat.le_refl _)) (by decide) (by decide) (by decide)

set_option maxRecDepth 100000 in
set_option maxHeartbeats 1000000 in
theorem disk_read (h : DiskRep B w db D) (i : Nat) (hi : i < D.kept.length) (hoff : D.off = false) :
    Calls Tryd.prog 21 #[.pointer (some ⟨db, 0, none⟩), .int .i64 i] w fun e w' => e = .returned (.tuple #[.string (str (readM D i)), .int .i64 0]) ∧ Below w.heap.size w w' := by
  have H := disk_check h i
  have hck : checkM D i = 0 := by simp only [checkM, hoff]; rw [if_neg (by simp), if_neg (by omega)]
  rw [hck] at H
  obtain ⟨kb, cv, wr0, h⟩ := h
  obtain ⟨A, cap, rfl, hc1, hc2, hcc⟩ := h.cform
  have h0 := h.disk.cell 0
  have h1 := h.disk.cell 1
  simp at h0 h1
  have hf := h.ok.few
  have hcf := h.ok.cfew
  have hkb := h.kept
  have hsec := h.sec_cell i hi
  have hl := readTo_len D h.ok i hi
  have hlens := h.ok.lens
  have hdb := h.disk.lt
  have Hl := Lib.hid hl
  have hsec' : ∀ (j : Nat) (v : Value), (u8s (D.kept.getD i []))[j]? = some v → (u8s D.kept.flatten).toArray[i * 64 + j]? = some v := by
    intro j v hv
    rw [u8s_get] at hv
    cases hc : (D.kept.getD i [])[j]? with
    | none => rw [hc] at hv; cases hv
    | some c =>
      rw [hc] at hv
      simp at hv
      subst hv
      exact hsec j c hc
  have Hs := Lib.hid hsec'
  have Hcc := Lib.hid hcc
  have Hle := Lib.hid hlens
  have l0 : (D.kept.getD i []).length = 64 := hl 0
  have Hl0 := Lib.hid l0
  clear h hl hsec hsec' hcc hlens hck l0
  obtain ⟨s0, hs0⟩ : ∃ s0, D.kept.getD i [] = s0 := ⟨_, rfl⟩
  rw [hs0] at Hs Hl0
  have Hs0 := Lib.hid hs0
  have hlen : (u8s s0).length = 64 := by rw [u8s_length]; exact Hl0.out
  have Hlen := Lib.hid hlen
  clear hs0 hlen
  go_enter Tryd.func21, Tryd.ntmps21
  go_wp2_with (first
    | (go_at_call 32; refine H.mono ?_; rintro e w' ⟨rfl, rfl⟩)
    | ((with_reducible refine wpList_is ⟨some 22, .load 51 (.tmp 21), _, _, _, _⟩ ?_); refine wpList_run rfl (exec_load_agg _ _ rfl kb (i * 64) 64 rfl _ _ _ hkb agg_sector infos_sector (u8s s0) Hlen.out Hs.out) ?_)
    | ((with_reducible refine wpList_is ⟨some 7, .alloc 51, _, _, _, _⟩ ?_); refine wpList_run rfl (exec_alloc_sector rfl) ?_)
    | ((with_reducible refine wpList_is ⟨none, .store 51 (.tmp 7) (.tmp 22), _, _, _, _⟩ ?_); refine wpList_runu rfl (exec_store_sector _ _ w rfl rfl rfl s0 Hl0.out rfl) ?_))
  go_loopw [28] (fun i2 wr => ∃ k : Nat, k ≤ D.cache.length ∧ i2 = .int .i64 k ∧ Blk wr w.heap.size 51 (u8s (readTo D i k)).toArray ∧ Below w.heap.size w wr) (fun i2 wr => D.cache.length - (intOf i2).toNat)
  case atStart => exact ⟨0, Nat.zero_le _, rfl, by simp only [readTo, List.take_zero, List.foldl_nil, Hs0.out]; exact Blk.new _ _ _, (Below.refl _ _).alloc (Nat.le_refl _) _⟩
  case round =>
    obtain ⟨k, hk, rfl, hblk, hbel⟩ := hrel
    by_cases hlt : k < D.cache.length
    · obtain ⟨x, hx⟩ : ∃ x, D.cache[k]? = some x := ⟨_, List.getElem?_eq_getElem hlt⟩
      obtain ⟨g, cur, rfl, hg, hcur⟩ := Hcc.out k x hx
      have hl2 : x.2.length = 64 := Hle.out x (List.mem_of_getElem? hx)
      have hgr : Blk wr g 53 cur := hg.below hbel hg.lt
      obtain ⟨x1, x2⟩ := x
      have Hx := Lib.hid hx
      have Hcur := Lib.hid hcur
      have Hl2 := Lib.hid hl2
      have hwl : (wcells (x1, x2)).length = 65 := wcells_length _ hl2
      have Hwl := Lib.hid hwl
      have hsz := hbel.size
      have hs0 := hblk.lt
      clear hx hcur hl2 hwl
      have hW := (Blk.new wr 53 (wcells (x1, x2)).toArray)
      have hc0 : (wr.alloc (.cells (wcells (x1, x2)).toArray 53)).cell? ⟨wr.heap.size, 0, none⟩ = some (.int .i64 x1) := hW.cell 0
      have hb2 := hblk.alloc (.cells (wcells (x1, x2)).toArray 53)
      have hcells : ∀ (j : Nat) (v : Value), (u8s x2)[j]? = some v → (wcells (x1, x2)).toArray[1 + j]? = some v := by
        intro j v hv
        simp only [wcells, List.getElem?_toArray]
        rw [Nat.add_comm, List.getElem?_cons_succ]
        exact hv
      have Hcells := Lib.hid hcells
      have hu2 : (u8s x2).length = 64 := by rw [u8s_length]; exact Hl2.out
      have Hu2 := Lib.hid hu2
      have hcur : (u8s (readTo D i k)).length = 64 := by rw [u8s_length]; exact Hl.out k
      have Hcur2 := Lib.hid hcur
      have HW := Lib.hid hW
      have Hb2 := Lib.hid hb2
      have Hsucc := Lib.hid (readTo_succ D i k (x1, x2) Hx.out)
      clear hcells hu2 hcur hW hb2
      have hb3 : Below w.heap.size w (wr.alloc (.cells (wcells (x1, x2)).toArray 53)) := hbel.alloc hbel.size _
      by_cases he : x1 = i
      · subst he
        have hfin : Blk ((wr.alloc (.cells (wcells (x1, x2)).toArray 53)).setRow w.heap.size (splice (u8s (readTo D x1 k)) 0 (u8s x2)).toArray) w.heap.size 51 (u8s (readTo D x1 (k + 1))).toArray := by
          have := Hb2.out.row (splice (u8s (readTo D x1 k)) 0 (u8s x2)).toArray
          rw [splice_whole _ _ (by rw [Hu2.out, Hcur2.out])] at this ⊢
          rw [Hsucc.out]
          simpa using this
        have Hfin := Lib.hid hfin
        clear hfin
        go_wp2_with (first
          | ((with_reducible refine wpList_is ⟨some 31, .load 53 (.tmp 30), _, _, _, _⟩ ?_); refine wpList_run rfl (exec_load_agg _ _ rfl g (k * 65) 65 rfl _ _ _ hgr agg_write infos_write (wcells (x1, x2)) Hwl.out Hcur.out) ?_)
          | ((with_reducible refine wpList_is ⟨some 9, .alloc 53, _, _, _, _⟩ ?_); refine wpList_run rfl (exec_alloc_write rfl) ?_)
          | ((with_reducible refine wpList_is ⟨none, .store 53 (.tmp 9) (.tmp 31), _, _, _, _⟩ ?_); refine wpList_runu rfl (exec_store_write _ _ wr rfl rfl rfl (wcells (x1, x2)) Hwl.out (wcells_one _) rfl) ?_)
          | ((with_reducible refine wpList_is ⟨some 37, .load 51 (.tmp 36), _, _, _, _⟩ ?_); refine wpList_run rfl (exec_load_agg _ _ rfl wr.heap.size 1 64 rfl _ _ _ HW.out agg_sector infos_sector (u8s x2) Hu2.out Hcells.out) ?_)
          | ((with_reducible refine wpList_is ⟨none, .store 51 (.tmp 7) (.tmp 37), _, _, _, _⟩ ?_); refine wpList_runu rfl (exec_store_agg _ _ _ rfl w.heap.size 0 rfl (u8s x2) rfl _ _ Hb2.out (by rw [Hu2.out]; exact infos_sector) (by rw [Hu2.out]; simp [Hcur2.out]) (u8s_one _)) ?_))
        go_roundw
        case rel => exact ⟨k + 1, by omega, by go_num, Hfin.out, below_setRow hb3 (Nat.le_refl _) _⟩
        case measure => simp [intOf]; omega
      · have hne : ((x1 : Int) == (i : Int)) = false := by simp; omega
        have hfin : Blk (wr.alloc (.cells (wcells (x1, x2)).toArray 53)) w.heap.size 51 (u8s (readTo D i (k + 1))).toArray := by
          rw [Hsucc.out, if_neg he]; exact Hb2.out
        have Hfin := Lib.hid hfin
        clear hfin
        go_wp2_with (first
          | ((with_reducible refine wpList_is ⟨some 31, .load 53 (.tmp 30), _, _, _, _⟩ ?_); refine wpList_run rfl (exec_load_agg _ _ rfl g (k * 65) 65 rfl _ _ _ hgr agg_write infos_write (wcells (x1, x2)) Hwl.out Hcur.out) ?_)
          | ((with_reducible refine wpList_is ⟨some 9, .alloc 53, _, _, _, _⟩ ?_); refine wpList_run rfl (exec_alloc_write rfl) ?_)
          | ((with_reducible refine wpList_is ⟨none, .store 53 (.tmp 9) (.tmp 31), _, _, _, _⟩ ?_); refine wpList_runu rfl (exec_store_write _ _ wr rfl rfl rfl (wcells (x1, x2)) Hwl.out (wcells_one _) rfl) ?_))
        go_roundw
        case rel => exact ⟨k + 1, by omega, by go_num, Hfin.out, hb3⟩
        case measure => simp [intOf]; omega
    · obtain rfl : k = D.cache.length := by omega
      have hcv : (convert 54 9 (.slice (some ⟨w.heap.size, 0, none⟩) 64 64)).run Tryd.prog wr = .ok (.string (str (readM D i))) wr := by
        refine run_bytes_str _ _ 5 (by kernel_rfl) (by kernel_rfl) (by kernel_rfl) _ _ _ _ _ (by rw [← readTo_all]; exact Hl.out _) (fun j c hc => ?_)
        rw [hblk.cell, readTo_all]
        simp [u8s_get, hc]
      go_wp2
      go_ret2
      exact ⟨rfl, hbel⟩
end
end Go.Proofs.YtnofeblcnamfeaaDoor
