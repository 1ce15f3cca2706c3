/- Layer 3, on: Crash, Flush, Write. -/
import Derived.Test.YtnofeblcnamfeaaDoorLkDisk3
namespace Go.Proofs.YtnofeblcnamfeaaDoor
open Go.RowKit Go.Proofs

theorem flat_splice {α : Type} (k : Nat) (l : List α) (hl : l.length ≤ k) : ∀ (L : List (List α)) (_ : ∀ s ∈ L, s.length = k) (i : Nat), i < L.length →
    splice L.flatten (i * k) l = (L.set i (l ++ (L.getD i []).drop l.length)).flatten
  | [], _, i, hi => by simp at hi
  | s :: L, h, 0, _ => by
    have hs := h s (by simp)
    simp only [splice, Nat.zero_mul, List.take_zero, List.nil_append, Nat.zero_add, List.flatten_cons, List.set_cons_zero, List.getD_cons_zero, List.append_assoc]
    rw [List.drop_append_of_le_length (by omega)]
  | s :: L, h, i + 1, hi => by
    have hs := h s (by simp)
    have ih := flat_splice k l hl L (fun s' h' => h s' (by simp [h'])) i (by simpa using hi)
    simp only [List.set_cons_succ, List.flatten_cons, List.getD_cons_succ]
    rw [← ih]
    simp only [splice]
    rw [List.take_append, List.drop_append, show List.take ((i + 1) * k) s = s by rw [List.take_of_length_le]; rw [hs, Nat.add_mul]; omega,
      show List.drop ((i + 1) * k + l.length) s = [] by rw [List.drop_eq_nil_of_le]; rw [hs, Nat.add_mul]; omega, hs,
      show (i + 1) * k - k = i * k by rw [Nat.add_mul]; omega, show (i + 1) * k + l.length - k = i * k + l.length by rw [Nat.add_mul]; omega]
    simp

/-- What is kept when the first k writes have been dealt with. -/
def keptTo (D : DiskM) (bits : Int) : Nat → List (List UInt8)
  | 0 => D.kept
  | k + 1 => match D.cache[k]? with
    | none => keptTo D bits k
    | some x => (keptTo D bits k).set x.1 (x.2.take (fateM bits k).toNat ++ ((keptTo D bits k).getD x.1 []).drop (fateM bits k).toNat)
def crashM (D : DiskM) (bits : Int) : DiskM := if D.off then D else { D with kept := keptTo D bits D.cache.length, cache := [], off := true }

theorem fateM_range (bits i : Int) : 0 ≤ fateM bits i ∧ fateM bits i ≤ 64 := by
  unfold fateM
  split
  · omega
  · dsimp only
    split
    · omega
    · split <;> omega

theorem keptTo_ok (D : DiskM) (h : D.Ok) (bits : Int) : ∀ k, (keptTo D bits k).length = D.kept.length ∧ ∀ s ∈ keptTo D bits k, s.length = 64
  | 0 => ⟨rfl, h.secs⟩
  | k + 1 => by
    have ih := keptTo_ok D h bits k
    cases hx : D.cache[k]? with
    | none => simp only [keptTo, hx]; exact ih
    | some x =>
      simp only [keptTo, hx]
      refine ⟨by simp [ih.1], fun s hs => ?_⟩
      rcases List.mem_or_eq_of_mem_set hs with h1 | rfl
      · exact ih.2 s h1
      · have hm := List.mem_of_getElem? hx
        have ha := h.ats x hm
        have hl := h.lens x hm
        have hf := fateM_range bits k
        have hg : ((keptTo D bits k).getD x.1 []).length = 64 := ih.2 _ (by simp [List.getD, ih.1, ha])
        simp only [List.length_append, List.length_take, List.length_drop, hl, hg]
        omega

theorem crashM_ok (D : DiskM) (h : D.Ok) (bits : Int) : (crashM D bits).Ok := by
  unfold crashM
  split
  · exact h
  · have k := keptTo_ok D h bits D.cache.length
    exact ⟨by show 0 < (keptTo D bits D.cache.length).length; rw [k.1]; exact h.pos, by show (keptTo D bits D.cache.length).length ≤ _; rw [k.1]; exact h.few, k.2, by simp, by simp, by simp, h.ar0, h.ar1, h.b0, h.b1⟩

section
variable {B : Nat} {w : World} {db : Nat} {D : DiskM}

set_option maxRecDepth 100000 in
set_option maxHeartbeats 1000000 in
theorem disk_crash (h : DiskRep B w db D) (bits : Int) (b0 : 0 ≤ bits) (b1 : bits ≤ 18446744073709551615) (hBw : B ≤ w.heap.size) :
    Calls Tryd.prog 7 #[.pointer (some ⟨db, 0, none⟩), .int .u64 bits] w fun e w' => e = .returned (.tuple #[]) ∧ DiskRep B w' db (crashM D bits) ∧ Fr B diskL w w' := by
  cases hoff : D.off
  · obtain ⟨kb, cv, wr0, h⟩ := h
    obtain ⟨A, cap, rfl, hc1, hc2, hcc⟩ := h.cform
    have h0 := h.disk.cell 0
    have h1 := h.disk.cell 1
    have h2 := h.disk.cell 2
    simp only [hoff] at h2
    simp at h0 h1 h2
    have hok := h.ok
    have hf := h.ok.few
    have hcf := h.ok.cfew
    have hkok := keptTo_ok D h.ok bits
    have Hkok := Lib.hid hkok
    have Hok := Lib.hid hok
    have Hcc := Lib.hid hcc
    have HD := Lib.hid h.disk
    have hin := Lib.hid h
    have hkd : kb ≠ db := fun e => Blk.ne_ h.kept h.disk (by decide) e
    have hdlt := h.disk.lt
    have hklt := h.kept.lt
    have hdB := h.hdb
    have hkB := h.hkb
    have hK0 := Lib.hid h.kept
    clear h hkok hok hcc
    go_enter Tryd.func7, Tryd.ntmps7
    go_wp2
    go_loopw [19] (fun i2 wr => ∃ k : Nat, k ≤ D.cache.length ∧ i2 = .int .i64 k ∧ Blk wr kb 51 (u8s (keptTo D bits k).flatten).toArray ∧ Fr B [51] w wr) (fun i2 wr => D.cache.length - (intOf i2).toNat)
    case atStart => exact ⟨0, Nat.zero_le _, rfl, hK0.out, Fr.refl _ _ _⟩
    case round =>
      obtain ⟨k, hk, rfl, hblk, hfr⟩ := hrel
      have HF := Lib.hid hfr
      have hsz := hfr.size
      have HB := Lib.hid hblk
      have hkr := hblk.lt
      have hD1 : Blk wr db 45 #[.slice (some ⟨kb, 0, none⟩) D.kept.length D.kept.length, .slice A D.cache.length cap, .bool D.off, .int .i64 D.armed, .int .u64 D.bits, .int .i64 wr0] := hfr.blk HD.out (by decide)
      have g0 := hD1.cell 0
      have g1 := hD1.cell 1
      have g2 := hD1.cell 2
      have gf1 := hD1.frozen 1
      have gf2 := hD1.frozen 2
      simp at g0 g1 g2
      have HD1 := Lib.hid hD1
      have hdr := hD1.lt
      clear hD1 hfr
      by_cases hlt : k < D.cache.length
      · obtain ⟨x, hx⟩ : ∃ x, D.cache[k]? = some x := ⟨_, List.getElem?_eq_getElem hlt⟩
        obtain ⟨g, cur, rfl, hg, hcur⟩ := Hcc.out k x hx
        have hm := List.mem_of_getElem? hx
        have hl2 : x.2.length = 64 := Hok.out.lens x hm
        have hat : x.1 < D.kept.length := Hok.out.ats x hm
        have hgr : Blk wr g 53 cur := HF.out.blk hg (by decide)
        obtain ⟨x1, x2⟩ := x
        have Hx := Lib.hid hx
        have Hcur := Lib.hid hcur
        have Hl2 := Lib.hid hl2
        have Hwl := Lib.hid (wcells_length (x1, x2) hl2)
        dsimp only at hat
        have hW := (Blk.new wr 53 (wcells (x1, x2)).toArray)
        have hc0 : (wr.alloc (.cells (wcells (x1, x2)).toArray 53)).cell? ⟨wr.heap.size, 0, none⟩ = some (.int .i64 x1) := hW.cell 0
        have HW := Lib.hid hW
        have hf2 := fateM_range bits k
        obtain ⟨f, hfe⟩ : ∃ f : Nat, fateM bits k = f := ⟨(fateM bits k).toNat, by omega⟩
        have HFate := Lib.hid (disk_fate bits k (wr.alloc (.cells (wcells (x1, x2)).toArray 53)).drew b0 b1 (by omega))
        rw [hfe] at HFate hf2
        have Hfe := Lib.hid hfe
        have hkl := Hkok.out k
        have Hkl := Lib.hid hkl
        clear hx hcur hl2 hW hfe hkl hm
        go_wp2_with (first
          | ((with_reducible refine wpList_is ⟨some 23, .load 53 (.tmp 22), _, _, _, _⟩ ?_); refine wpList_run rfl (exec_load_agg _ _ rfl g (k * 65) 65 rfl _ _ _ hgr agg_write infos_write (wcells (x1, x2)) Hwl.out Hcur.out) ?_)
          | ((with_reducible refine wpList_is ⟨some 5, .alloc 53, _, _, _, _⟩ ?_); refine wpList_run rfl (exec_alloc_write rfl) ?_)
          | ((with_reducible refine wpList_is ⟨none, .store 53 (.tmp 5) (.tmp 23), _, _, _, _⟩ ?_); refine wpList_runu rfl (exec_store_write _ _ wr rfl rfl rfl (wcells (x1, x2)) Hwl.out (wcells_one _) rfl) ?_))
        refine wp_still_tail 13 (by kernel_rfl) (by kernel_rfl) ?_
        simp only [List.take_succ_cons, List.take_zero, List.drop_succ_cons, List.drop_zero]
        repeat still_step
        still_call (still_calls HFate.out)
        repeat still_step
        refine wpStill_nil ?_
        have hs1 : ((u8s x2).take f).length = f := by rw [List.length_take, u8s_length, Hl2.out]; omega
        have hsm : f = Nat.min 64 f := (Nat.min_eq_right (by omega)).symm
        have hcells : ∀ (j : Nat) (v : Value), ((u8s x2).take f)[j]? = some v → (wcells (x1, x2)).toArray[1 + j]? = some v := by
          intro j v hv
          have hv' : (u8s x2)[j]? = some v := by
            rw [List.getElem?_take] at hv
            split at hv
            · exact hv
            · cases hv
          simp only [wcells, List.getElem?_toArray]
          rw [Nat.add_comm, List.getElem?_cons_succ]
          exact hv'
        have hfit : x1 * 64 + ((u8s x2).take f).length ≤ (u8s (keptTo D bits k).flatten).length := by
          rw [hs1, u8s_length, flat_length 64 _ Hkl.out.2, Hkl.out.1]
          omega
        refine wpList_run rfl (exec_copy_blk _ _ 54 54 5 rfl (by kernel_rfl) (by kernel_rfl) kb (x1 * 64) f 64 wr.heap.size 1 64 64 rfl rfl ((u8s x2).take f) (hs1.trans hsm) 53 _ HW.out.drew hcells (fun v hv => u8s_one _ v (List.mem_of_mem_take hv)) _ _ (HB.out.alloc _).drew hfit) ?_
        have hnew : Blk ((wr.alloc (.cells (wcells (x1, x2)).toArray 53)).drew.setRow kb (splice (u8s (keptTo D bits k).flatten) (x1 * 64) ((u8s x2).take f)).toArray) kb 51 (u8s (keptTo D bits (k + 1)).flatten).toArray := by
          have e : splice (u8s (keptTo D bits k).flatten) (x1 * 64) ((u8s x2).take f) = u8s (keptTo D bits (k + 1)).flatten := by
            have e1 : (u8s x2).take f = u8s (x2.take f) := by simp [u8s]
            have e2 : (x2.take f).length = f := by rw [List.length_take, Hl2.out]; omega
            rw [e1, ← u8s_splice, flat_splice 64 (x2.take f) (by omega) _ Hkl.out.2 x1 (by rw [Hkl.out.1]; exact hat), e2]
            simp only [keptTo, Hx.out, Hfe.out, Int.toNat_natCast]
          rw [← e]
          exact (HB.out.alloc _).drew.row _
        have hfr2 : Fr B [51] w ((wr.alloc (.cells (wcells (x1, x2)).toArray 53)).drew.setRow kb (splice (u8s (keptTo D bits k).flatten) (x1 * 64) ((u8s x2).take f)).toArray) :=
          (HF.out.alloc (by omega) _).drew.row (HB.out.alloc _).drew (by simp) hkB _
        have Hnew := Lib.hid hnew
        have Hfr2 := Lib.hid hfr2
        clear hnew hfr2 hcells hfit hs1 hsm
        go_wp2
        go_roundw
        case rel => exact ⟨k + 1, by omega, by go_num, Hnew.out, Hfr2.out⟩
        case measure => simp [intOf]; omega
      · obtain rfl : k = D.cache.length := by omega
        have fin : DiskRep B ((wr.setCell ⟨db, 1, none⟩ (.slice none 0 0)).setCell ⟨db, 2, none⟩ (.bool true)) db (crashM D bits) ∧ Fr B diskL w ((wr.setCell ⟨db, 1, none⟩ (.slice none 0 0)).setCell ⟨db, 2, none⟩ (.bool true)) := by
          have d1 := (HD1.out.set_ 1 (.slice none 0 0)).set_ 2 (.bool true)
          have hkl := Hkok.out D.cache.length
          have f1 := ((HF.out.mono (Nat.le_refl _) (L' := diskL) (by decide)).set_ HD1.out (by decide) hdB 1 (.slice none 0 0)).set_ (HD1.out.set_ 1 _) (by decide) hdB 2 (.bool true)
          have hok := crashM_ok D Hok.out bits
          have hcr : crashM D bits = { D with kept := keptTo D bits D.cache.length, cache := [], off := true } := by simp [crashM, hoff]
          rw [hcr] at hok ⊢
          refine ⟨⟨kb, .slice none 0 0, wr0, hdB, hkB, ?_, ?_, ?_, hok⟩, f1⟩
          · dsimp only
            rw [hkl.1]
            simpa using d1
          · exact (HB.out.far hkd _).far hkd _
          · exact World.ownsRow_nil _ _ _ _
        have Fin := Lib.hid fin
        clear fin
        go_wp2
        go_end0
        exact ⟨rfl, Fin.out⟩
  · have hc : crashM D bits = D := by simp [crashM, hoff]
    rw [hc]
    clear hc
    have Hrep := Lib.hid h
    obtain ⟨kb, cv, wr0, h⟩ := h
    have h2 := h.disk.cell 2
    simp only [hoff] at h2
    simp at h2
    clear h
    go_enter Tryd.func7, Tryd.ntmps7
    go_wp2
    exact bodyPost_ret (v := .tuple #[]) (by simp [results, Tryd.results7, go_sem]) rfl ⟨rfl, Hrep.out, Fr.refl _ _ _⟩

def flushTo (D : DiskM) : Nat → List (List UInt8)
  | 0 => D.kept
  | k + 1 => match D.cache[k]? with
    | none => flushTo D k
    | some x => (flushTo D k).set x.1 x.2
def flushM (D : DiskM) : DiskM := { D with kept := flushTo D D.cache.length, cache := [] }
theorem flushTo_ok (D : DiskM) (h : D.Ok) : ∀ k, (flushTo D k).length = D.kept.length ∧ ∀ s ∈ flushTo D k, s.length = 64
  | 0 => ⟨rfl, h.secs⟩
  | k + 1 => by
    have ih := flushTo_ok D h k
    cases hx : D.cache[k]? with
    | none => simp only [flushTo, hx]; exact ih
    | some x =>
      simp only [flushTo, hx]
      refine ⟨by simp [ih.1], fun s hs => ?_⟩
      rcases List.mem_or_eq_of_mem_set hs with h1 | rfl
      · exact ih.2 s h1
      · exact h.lens x (List.mem_of_getElem? hx)
theorem flushM_ok (D : DiskM) (h : D.Ok) : (flushM D).Ok := by
  have k := flushTo_ok D h D.cache.length
  exact ⟨by show 0 < (flushTo D D.cache.length).length; rw [k.1]; exact h.pos, by show (flushTo D D.cache.length).length ≤ _; rw [k.1]; exact h.few, k.2, by simp [flushM], by simp [flushM], by simp [flushM], h.ar0, h.ar1, h.b0, h.b1⟩

set_option maxRecDepth 100000 in
set_option maxHeartbeats 1000000 in
theorem disk_flush (h : DiskRep B w db D) (hoff : D.off = false) (hBw : B ≤ w.heap.size) :
    Calls Tryd.prog 30 #[.pointer (some ⟨db, 0, none⟩)] w fun e w' => e = .returned (.int .i64 0) ∧ DiskRep B w' db (flushM D) ∧ Fr B diskL w w' := by
  have H := disk_check h 0
  have hck : checkM D 0 = 0 := by
    obtain ⟨_, _, _, h⟩ := h
    have := h.ok.pos
    simp only [checkM, hoff]; rw [if_neg (by simp), if_neg (by omega)]
  rw [hck] at H
  clear hck
  obtain ⟨kb, cv, wr0, h⟩ := h
  obtain ⟨A, cap, rfl, hc1, hc2, hcc⟩ := h.cform
  have h0 := h.disk.cell 0
  have h1 := h.disk.cell 1
  simp at h0 h1
  have hok := h.ok
  have hf := h.ok.few
  have hcf := h.ok.cfew
  have Hkok := Lib.hid (flushTo_ok D h.ok)
  have Hok := Lib.hid hok
  have Hcc := Lib.hid hcc
  have HD := Lib.hid h.disk
  have hkd : kb ≠ db := fun e => Blk.ne_ h.kept h.disk (by decide) e
  have hdlt := h.disk.lt
  have hklt := h.kept.lt
  have hdB := h.hdb
  have hkB := h.hkb
  have hK0 := Lib.hid h.kept
  clear h hok hcc
  go_enter Tryd.func30, Tryd.ntmps30
  go_wp2_with (go_at_call 32; refine H.mono ?_; rintro e w' ⟨rfl, rfl⟩)
  go_loopw [16] (fun i2 wr => ∃ k : Nat, k ≤ D.cache.length ∧ i2 = .int .i64 k ∧ Blk wr kb 51 (u8s (flushTo D k).flatten).toArray ∧ Fr B [51] w wr) (fun i2 wr => D.cache.length - (intOf i2).toNat)
  case atStart => exact ⟨0, Nat.zero_le _, rfl, hK0.out, Fr.refl _ _ _⟩
  case round =>
    obtain ⟨k, hk, rfl, hblk, hfr⟩ := hrel
    have HF := Lib.hid hfr
    have hsz := hfr.size
    have HB := Lib.hid hblk
    have hkr := hblk.lt
    have hD1 : Blk wr db 45 #[.slice (some ⟨kb, 0, none⟩) D.kept.length D.kept.length, .slice A D.cache.length cap, .bool D.off, .int .i64 D.armed, .int .u64 D.bits, .int .i64 wr0] := hfr.blk HD.out (by decide)
    have g0 := hD1.cell 0
    have g1 := hD1.cell 1
    have gf1 := hD1.frozen 1
    simp at g0 g1
    have HD1 := Lib.hid hD1
    have hdr := hD1.lt
    clear hD1 hfr
    by_cases hlt : k < D.cache.length
    · obtain ⟨x, hx⟩ : ∃ x, D.cache[k]? = some x := ⟨_, List.getElem?_eq_getElem hlt⟩
      obtain ⟨g, cur, rfl, hg, hcur⟩ := Hcc.out k x hx
      have hm := List.mem_of_getElem? hx
      have hl2 : x.2.length = 64 := Hok.out.lens x hm
      have hat : x.1 < D.kept.length := Hok.out.ats x hm
      have hgr : Blk wr g 53 cur := HF.out.blk hg (by decide)
      obtain ⟨x1, x2⟩ := x
      have Hx := Lib.hid hx
      have Hcur := Lib.hid hcur
      have Hl2 := Lib.hid hl2
      have Hwl := Lib.hid (wcells_length (x1, x2) hl2)
      dsimp only at hat
      have hW := (Blk.new wr 53 (wcells (x1, x2)).toArray)
      have hc0 : (wr.alloc (.cells (wcells (x1, x2)).toArray 53)).cell? ⟨wr.heap.size, 0, none⟩ = some (.int .i64 x1) := hW.cell 0
      have HW := Lib.hid hW
      have hcells : ∀ (j : Nat) (v : Value), (u8s x2)[j]? = some v → (wcells (x1, x2)).toArray[1 + j]? = some v := by
        intro j v hv
        simp only [wcells, List.getElem?_toArray]
        rw [Nat.add_comm, List.getElem?_cons_succ]
        exact hv
      have Hcells := Lib.hid hcells
      have hu2 : (u8s x2).length = 64 := by rw [u8s_length]; exact hl2
      have Hu2 := Lib.hid hu2
      have Hkl := Lib.hid (Hkok.out k)
      clear hx hcur hl2 hW hm hcells hu2
      go_wp2_with (first
        | ((with_reducible refine wpList_is ⟨some 19, .load 53 (.tmp 18), _, _, _, _⟩ ?_); refine wpList_run rfl (exec_load_agg _ _ rfl g (k * 65) 65 rfl _ _ _ hgr agg_write infos_write (wcells (x1, x2)) Hwl.out Hcur.out) ?_)
        | ((with_reducible refine wpList_is ⟨some 5, .alloc 53, _, _, _, _⟩ ?_); refine wpList_run rfl (exec_alloc_write rfl) ?_)
        | ((with_reducible refine wpList_is ⟨none, .store 53 (.tmp 5) (.tmp 19), _, _, _, _⟩ ?_); refine wpList_runu rfl (exec_store_write _ _ wr rfl rfl rfl (wcells (x1, x2)) Hwl.out (wcells_one _) rfl) ?_))
      refine wp_still_tail 9 (by kernel_rfl) (by kernel_rfl) ?_
      simp only [List.take_succ_cons, List.take_zero, List.drop_succ_cons, List.drop_zero]
      iterate 7 still_step
      refine wpStill_step (fun K hK => ?_)
      refine still_run rfl (exec_load_agg _ _ rfl wr.heap.size 1 64 rfl _ _ _ HW.out.drew agg_sector infos_sector (u8s x2) Hu2.out Hcells.out) ?_
      refine hK _ ?_
      clear hK K
      still_step
      refine wpStill_nil ?_
      have hfit : x1 * 64 + (u8s x2).length ≤ (u8s (flushTo D k).flatten).toArray.size := by
        rw [Hu2.out, List.size_toArray, u8s_length, flat_length 64 _ Hkl.out.2, Hkl.out.1]
        omega
      refine wpList_runu rfl (exec_store_agg _ _ _ rfl kb (x1 * 64) rfl (u8s x2) rfl _ _ (HB.out.alloc _).drew (by rw [Hu2.out]; exact infos_sector) hfit (u8s_one _)) ?_
      have hnew : Blk ((wr.alloc (.cells (wcells (x1, x2)).toArray 53)).drew.setRow kb (splice (u8s (flushTo D k).flatten).toArray.toList (x1 * 64) (u8s x2)).toArray) kb 51 (u8s (flushTo D (k + 1)).flatten).toArray := by
        have e : splice (u8s (flushTo D k).flatten) (x1 * 64) (u8s x2) = u8s (flushTo D (k + 1)).flatten := by
          rw [← u8s_splice, flat_splice 64 x2 (by rw [Hl2.out]; omega) _ Hkl.out.2 x1 (by rw [Hkl.out.1]; exact hat)]
          simp only [flushTo, Hx.out]
          congr 2
          have : ((flushTo D k).getD x1 []).length = 64 := Hkl.out.2 _ (by simp [List.getD, Hkl.out.1, hat])
          rw [List.drop_eq_nil_of_le (by rw [this, Hl2.out]; exact Nat.le_refl _), List.append_nil]
        rw [← e]
        exact (HB.out.alloc _).drew.row _
      have hfr2 : Fr B [51] w ((wr.alloc (.cells (wcells (x1, x2)).toArray 53)).drew.setRow kb (splice (u8s (flushTo D k).flatten).toArray.toList (x1 * 64) (u8s x2)).toArray) :=
        (HF.out.alloc (by omega) _).drew.row (HB.out.alloc _).drew (by simp) hkB _
      have Hnew := Lib.hid hnew
      have Hfr2 := Lib.hid hfr2
      clear hnew hfr2 hfit
      go_wp2
      go_roundw
      case rel => exact ⟨k + 1, by omega, by go_num, Hnew.out, Hfr2.out⟩
      case measure => simp [intOf]; omega
    · obtain rfl : k = D.cache.length := by omega
      have fin : DiskRep B (wr.setCell ⟨db, 1, none⟩ (.slice none 0 0)) db (flushM D) ∧ Fr B diskL w (wr.setCell ⟨db, 1, none⟩ (.slice none 0 0)) := by
        have d1 := HD1.out.set_ 1 (.slice none 0 0)
        have hkl := Hkok.out D.cache.length
        have f1 := (HF.out.mono (Nat.le_refl _) (L' := diskL) (by decide)).set_ HD1.out (by decide) hdB 1 (.slice none 0 0)
        refine ⟨⟨kb, .slice none 0 0, wr0, hdB, hkB, ?_, HB.out.far hkd _, World.ownsRow_nil _ _ _ _, flushM_ok D Hok.out⟩, f1⟩
        simp only [flushM]
        rw [hkl.1]
        simpa using d1
      have Fin := Lib.hid fin
      clear fin
      go_wp2
      go_ret
      exact ⟨rfl, Fin.out⟩
end
end Go.Proofs.YtnofeblcnamfeaaDoor
