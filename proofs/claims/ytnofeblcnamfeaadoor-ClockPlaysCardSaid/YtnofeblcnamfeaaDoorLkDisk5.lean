/- Layer 3, on: Write. -/
import Derived.Test.YtnofeblcnamfeaaDoorLkDisk4
namespace Go.Proofs.YtnofeblcnamfeaaDoor
open Go.RowKit Go.Proofs

def putM (D : DiskM) (i : Nat) (s : List UInt8) : DiskM := { D with cache := D.cache ++ [(i, s)] }
def writeM (D : DiskM) (i : Nat) (s : List UInt8) : Int × DiskM :=
  if D.armed = 0 then (0, putM D i s) else if 1 < D.armed then (0, { putM D i s with armed := D.armed - 1 }) else (5, crashM { putM D i s with armed := 0 } D.bits)
theorem putM_ok (D : DiskM) (h : D.Ok) (i : Nat) (s : List UInt8) (hi : i < D.kept.length) (hs : s.length = 64) (hc : D.cache.length < 1000) : (putM D i s).Ok := by
  refine ⟨h.pos, h.few, h.secs, ?_, ?_, by simp [putM]; omega, h.ar0, h.ar1, h.b0, h.b1⟩
  · intro x hx
    simp [putM] at hx
    rcases hx with hx | rfl
    · exact h.ats x hx
    · exact hi
  · intro x hx
    simp [putM] at hx
    rcases hx with hx | rfl
    · exact h.lens x hx
    · exact hs

theorem und_writes : Tryd.prog.underlying 43 = some (.slice 53) := by kernel_rfl
theorem build_write (i : Nat) (w : World) : (Instr.build 53 #[(0, .int .i64 i)]).run Tryd.prog w = .ok (.agg (wcells (i, List.replicate 64 0)).toArray) w := by kernel_rfl

theorem wcells_splice (i : Nat) (s : List UInt8) (hs : s.length = 64) : splice (wcells (i, List.replicate 64 0)) 1 (u8s s) = wcells (i, s) := by
  have e : (u8s s).length = 64 := by rw [u8s_length, hs]
  simp [splice, wcells, e, u8s, hs]

section
variable {B : Nat} {w : World} {db : Nat} {D : DiskM}

set_option maxRecDepth 100000 in
set_option maxHeartbeats 1000000 in
theorem disk_write (h : DiskRep B w db D) (i : Nat) (s : List UInt8) (hi : i < D.kept.length) (hs : s.length = 64) (hoff : D.off = false) (hc : D.cache.length < 1000) (hBw : B ≤ w.heap.size) :
    Calls Tryd.prog 29 #[.pointer (some ⟨db, 0, none⟩), .int .i64 i, .string (str s)] w fun e w' => e = .returned (.int .i64 (writeM D i s).1) ∧ DiskRep B w' db (writeM D i s).2 ∧ Fr B diskL w w' := by
  have H := disk_check h i
  have hck : checkM D i = 0 := by simp only [checkM, hoff]; rw [if_neg (by simp), if_neg (by omega)]
  rw [hck] at H
  clear hck
  obtain ⟨kb, cv, wr0, h⟩ := h
  have h1 := h.disk.cell 1
  simp at h1
  have f1 := h.disk.frozen 1
  have hlt := h.disk.lt
  have hsz : (str s).size = 64 := by rw [str_size]; exact hs
  have Hh := Lib.hid h
  have hwl : (wcells (i, s)).length = 65 := wcells_length _ hs
  have Hwl := Lib.hid hwl
  have Hs := Lib.hid hs
  have Hb := Lib.hid (build_write i)
  clear h hs hwl
  go_enter Tryd.func29, Tryd.ntmps29
  go_wp2_with (first
    | (go_at_call 32; refine H.mono ?_; rintro e w' ⟨rfl, rfl⟩)
    | ((with_reducible refine wpList_is ⟨some 19, .build 53 #[(0, .tmp 18)], _, _, _, _⟩ ?_); refine wpList_run rfl (v := .agg (wcells (i, List.replicate 64 0)).toArray) (w' := w) (by simp only [execOp]; simpa using Hb.out w) ?_)
    | ((with_reducible refine wpList_is ⟨some 8, .alloc 53, _, _, _, _⟩ ?_); refine wpList_run rfl (exec_alloc_write rfl) ?_)
    | ((with_reducible refine wpList_is ⟨none, .store 53 (.tmp 8) (.tmp 19), _, _, _, _⟩ ?_); refine wpList_runu rfl (exec_store_write _ _ w rfl rfl rfl (wcells (i, List.replicate 64 0)) (wcells_length _ (by simp)) (wcells_one _) rfl) ?_)
    | ((with_reducible refine wpList_is ⟨some 23, _, _, _, _, _⟩ ?_); refine wpList_run rfl (exec_copy_str_new _ _ 54 9 5 rfl (by kernel_rfl) (by kernel_rfl) w (wcells (i, List.replicate 64 0)) 53 rfl 1 64 64 s rfl rfl (by rw [Hs.out]; exact Nat.le_refl _) (by rw [wcells_length _ (by simp), Hs.out]; decide) (wcells (i, s)) (wcells_splice i s Hs.out)) ?_))
  have hD0 := (Hh.out.disk.alloc (.cells (wcells (i, s)).toArray 53)).drew
  have hN0 := (Blk.new w 53 (wcells (i, s)).toArray).drew
  obtain ⟨W0, hW0⟩ : ∃ W0, W0 = (w.alloc (.cells (wcells (i, s)).toArray 53)).drew := ⟨_, rfl⟩
  have hz0 : W0.heap.size = w.heap.size + 1 := by rw [hW0]; simp
  have hO0 : W0.ownsRow B 53 65 cv D.cache.length (D.cache.flatMap wcells) := by rw [hW0]; exact Hh.out.cache.alloc _
  have hK0 : Blk W0 kb 51 (u8s D.kept.flatten).toArray := by rw [hW0]; exact (Hh.out.kept.alloc _).drew
  have hF0 : Fr B diskL w W0 := by rw [hW0]; exact ((Fr.refl _ _ _).alloc hBw _).drew
  rw [← hW0] at hD0 hN0
  have hcell1 : W0.cell? ⟨db, 1, none⟩ = some cv := hD0.cell 1
  have hnews : ∀ (j : Nat) (u : Value), (wcells (i, s))[j]? = some u → (W0.alloc (.cells (wcells (i, s)).toArray 53)).cell? ((⟨W0.heap.size, 0, none⟩ : Addr).add j) = some u := by
    intro j u hu
    rw [add_at, Nat.zero_add, (Blk.new W0 53 (wcells (i, s)).toArray).cell]
    simpa using hu
  refine wp_any (by kernel_rfl) ?_
  rw [← hW0]
  refine any_take 0 24 (.pointer (some ⟨db, 0, none⟩)) rfl (by kernel_rfl) (by kernel_rfl) (by kernel_rfl) (fun _ _ _ h => h) (fun _ => rfl) ?_
  refine any_take 1 25 (.pointer (some ⟨db, 0, none⟩)) rfl (by kernel_rfl) (by kernel_rfl) (by kernel_rfl) (fun _ _ _ h => h) (fun _ => rfl) ?_
  refine any_take 2 26 (.pointer (some ⟨db, 0, none⟩)) rfl (by kernel_rfl) (by kernel_rfl) (by kernel_rfl) (fun _ _ _ h => h) (fun _ => rfl) ?_
  refine any_take 3 27 (.pointer (some ⟨db, 1, none⟩)) rfl (by kernel_rfl) (by kernel_rfl) (by kernel_rfl) (fun _ _ _ h => h) (fun _ => by go_simp) ?_
  simp only [Act.put, List.setIfInBounds_toArray, List.set_cons_succ, List.set_cons_zero]
  have hw0 : ∀ (j : Nat) (v : Value), (wcells (i, s))[j]? = some v → (wcells (i, s)).toArray[0 + j]? = some v := by intro j v hv; simpa using hv
  refine any2 4 5 (by kernel_rfl) ?_ ?_
  rotate_left 1
  refine op_at 29 rfl (exec_load_agg _ _ rfl w.heap.size 0 65 rfl _ _ _ hN0 agg_write infos_write (wcells (i, s)) Hwl.out hw0) ?_
  simp only [Act.put, List.setIfInBounds_toArray, List.set_cons_succ, List.set_cons_zero]
  refine any2 4 6 (by kernel_rfl) ?_ ?_
  refine op_at 28 rfl (v := cv) (w' := W0) (by go_simp) ?_
  simp only [Act.put, List.setIfInBounds_toArray, List.set_cons_succ, List.set_cons_zero]
  refine any1 6 (by kernel_rfl) ?_
  refine op_at 30 rfl (exec_buildSlice1 _ _ _ rfl und_writes _ 65 72 info_write (by decide) (by decide) (wcells (i, s)) rfl Hwl.out) ?_
  simp only [Act.put, List.setIfInBounds_toArray, List.set_cons_succ, List.set_cons_zero]
  rotate_left 1
  refine op_at 30 rfl (exec_buildSlice1 _ _ _ rfl und_writes _ 65 72 info_write (by decide) (by decide) (wcells (i, s)) rfl Hwl.out) ?_
  simp only [Act.put, List.setIfInBounds_toArray, List.set_cons_succ, List.set_cons_zero]
  refine any1 4 (by kernel_rfl) ?_
  refine op_at 28 rfl (v := cv) (w' := (W0.alloc (.cells (wcells (i, s)).toArray 53))) (by go_simp) ?_
  simp only [Act.put, List.setIfInBounds_toArray, List.set_cons_succ, List.set_cons_zero]
  rotate_left 1
  refine op_at 28 rfl (v := cv) (w' := W0) (by go_simp) ?_
  simp only [Act.put, List.setIfInBounds_toArray, List.set_cons_succ, List.set_cons_zero]
  refine any1 5 (by kernel_rfl) ?_
  refine op_at 29 rfl (exec_load_agg _ _ rfl w.heap.size 0 65 rfl _ _ _ hN0 agg_write infos_write (wcells (i, s)) Hwl.out hw0) ?_
  simp only [Act.put, List.setIfInBounds_toArray, List.set_cons_succ, List.set_cons_zero]
  refine any1 6 (by kernel_rfl) ?_
  refine op_at 30 rfl (exec_buildSlice1 _ _ _ rfl und_writes _ 65 72 info_write (by decide) (by decide) (wcells (i, s)) rfl Hwl.out) ?_
  simp only [Act.put, List.setIfInBounds_toArray, List.set_cons_succ, List.set_cons_zero]
  all_goals
    refine any1 7 (by kernel_rfl) ?_
    refine op_append 31 (.tmp 28) (.tmp 30) 43 rfl B 53 _ 65 72 und_writes info_write (by rw [cells_agg]; exact zero65_size) (by decide) cv _ _ rfl (hO0.alloc _) ⟨W0.heap.size, 0, none⟩ 1 1 (wcells (i, s)) rfl (by rw [Hwl.out]) hnews (wcells_one _) (by simp only [maxLen]; omega) (by omega) (by simp; omega) ?_
    intro v' W1 hown hgr
    simp only [Act.put, List.setIfInBounds_toArray, List.set_cons_succ, List.set_cons_zero]
    have hD1 : Blk W1 db 45 _ := (hD0.alloc _).grown hgr (own_blk_ne (hO0.alloc _) (hD0.alloc (.cells (wcells (i, s)).toArray 53)) (by decide))
    have hK1 : Blk W1 kb 51 (u8s D.kept.flatten).toArray := (hK0.alloc _).grown hgr (own_blk_ne (hO0.alloc _) (hK0.alloc (.cells (wcells (i, s)).toArray 53)) (by decide))
    have hF1 : Fr B diskL w W1 := (hF0.alloc (by omega) _).grown_own (hO0.alloc _) hgr (by simp; omega) (Nat.le_refl _) (by decide)
    have hform : ∃ g cap, v' = .slice (some ⟨g, 0, none⟩) (D.cache.length + 1) cap := by
      obtain ⟨g, c, h1, _⟩ := hown.form (by omega)
      exact ⟨g, c, h1⟩
    obtain ⟨g', c', rfl⟩ := hform
    have hcell2 := hD1.cell 1
    have hfro2 := hD1.frozen 1
    simp at hcell2
    refine any1 8 (by kernel_rfl) ?_
    refine op_at 32 rfl (v := .pointer (some ⟨db, 0, none⟩)) (w' := W1) rfl ?_
    simp only [Act.put, List.setIfInBounds_toArray, List.set_cons_succ, List.set_cons_zero]
    refine any1 9 (by kernel_rfl) ?_
    refine op_at 33 rfl (v := .pointer (some ⟨db, 1, none⟩)) (w' := W1) (by go_simp) ?_
    simp only [Act.put, List.setIfInBounds_toArray, List.set_cons_succ, List.set_cons_zero]
    refine any1 10 (by kernel_rfl) ?_
    refine op_atu rfl (w' := W1.setCell ⟨db, 1, none⟩ (.slice (some ⟨g', 0, none⟩) (D.cache.length + 1) c')) (by go_simp) ?_
    refine wpAny_done (by kernel_rfl) ?_ _
    have hD2 := hD1.set_ 1 (.slice (some ⟨g', 0, none⟩) (D.cache.length + 1) c')
    have hdb2 := hD1.lt
    have hin : DiskIn B (W1.setCell ⟨db, 1, none⟩ (.slice (some ⟨g', 0, none⟩) (D.cache.length + 1) c')) db kb (.slice (some ⟨g', 0, none⟩) (D.cache.length + 1) c') wr0 (putM D i s) := by
      refine ⟨Hh.out.hdb, Hh.out.hkb, by simpa [putM] using hD2, hK1.far (fun e => Blk.ne_ hK1 hD1 (by decide) e) _, ?_, putM_ok D Hh.out.ok i s hi Hs.out hc⟩
      have := own_far hown (p := ⟨db, 1, none⟩) (own_blk_ne hown hD1 (by decide)) (.slice (some ⟨g', 0, none⟩) (D.cache.length + 1) c')
      simpa [putM] using this
    have hF2 := hF1.set_ hD1 (by decide) Hh.out.hdb 1 (.slice (some ⟨g', 0, none⟩) (D.cache.length + 1) c')
    obtain ⟨W3, hW3⟩ : ∃ W3, W3 = W1.setCell ⟨db, 1, none⟩ (.slice (some ⟨g', 0, none⟩) (D.cache.length + 1) c') := ⟨_, rfl⟩
    rw [← hW3] at hin hF2 ⊢
    have hc3 := hin.disk.cell 3
    have hc4 := hin.disk.cell 4
    have hc5 := hin.disk.cell 5
    have f3 := hin.disk.frozen 3
    have f5 := hin.disk.frozen 5
    simp [putM] at hc3 hc4 hc5
    have hdb3 := hin.disk.lt
    clear hW3 hD2 hcell2 hfro2 hdb2 hD1 hK1 hF1 hown hgr hD0 hN0 hO0 hK0 hF0 hcell1 hnews hw0 hW0 hz0
    have hstep : ∀ (x v : Int), 0 ≤ v → v ≤ 9223372036854775807 → DiskRep B ((W3.setCell ⟨db, 5, none⟩ (.int .i64 x)).setCell ⟨db, 3, none⟩ (.int .i64 v)) db { putM D i s with armed := v } ∧ Fr B diskL w ((W3.setCell ⟨db, 5, none⟩ (.int .i64 x)).setCell ⟨db, 3, none⟩ (.int .i64 v)) := by
      intro x v v0 v1
      have d1 := (hin.disk.set_ 5 (.int .i64 x)).set_ 3 (.int .i64 v)
      have e1 : kb ≠ db := fun e => Blk.ne_ hin.kept hin.disk (by decide) e
      have e2 := own_blk_ne hin.cache hin.disk (by decide)
      exact ⟨⟨kb, _, x, hin.hdb, hin.hkb, by simpa using d1, (hin.kept.far e1 _).far e1 _, own_far (own_far hin.cache e2 _) e2 _, { hin.ok with ar0 := v0, ar1 := v1 }⟩, (hF2.set_ hin.disk (by decide) hin.hdb _ _).set_ (hin.disk.set_ 5 _) (by decide) hin.hdb _ _⟩
    have hstep0 : ∀ (x : Int), DiskRep B (W3.setCell ⟨db, 5, none⟩ (.int .i64 x)) db (putM D i s) ∧ Fr B diskL w (W3.setCell ⟨db, 5, none⟩ (.int .i64 x)) := by
      intro x
      have d1 := hin.disk.set_ 5 (.int .i64 x)
      have e1 : kb ≠ db := fun e => Blk.ne_ hin.kept hin.disk (by decide) e
      have e2 := own_blk_ne hin.cache hin.disk (by decide)
      exact ⟨⟨kb, _, x, hin.hdb, hin.hkb, by simpa using d1, hin.kept.far e1 _, own_far hin.cache e2 _, hin.ok⟩, hF2.set_ hin.disk (by decide) hin.hdb _ _⟩
    have Hstep := Lib.hid hstep
    have Hstep0 := Lib.hid hstep0
    have ha0 := hin.ok.ar0
    have ha1 := hin.ok.ar1
    have hb0 := hin.ok.b0
    have hb1 := hin.ok.b1
    simp only [putM] at ha0 ha1 hb0 hb1
    have hBs : B ≤ W3.heap.size := by have := hF2.size; omega
    clear hin hF2 hstep hstep0
    by_cases hA0 : D.armed = 0
    · rw [hA0] at hc3
      have hm : writeM D i s = (0, putM D i s) := by simp [writeM, hA0]
      have Hm := Lib.hid hm
      clear hm
      go_wp2
      go_ret
      rw [Hm.out]
      exact ⟨rfl, Hstep0.out _⟩
    · by_cases hA1 : 1 < D.armed
      · have hm : writeM D i s = (0, { putM D i s with armed := D.armed - 1 }) := by simp [writeM, hA0, hA1]
        have Hm := Lib.hid hm
        clear hm
        have t1 : (D.armed == 0) = false := by simp; omega
        go_wp2
        go_ret
        rw [Hm.out]
        exact ⟨rfl, Hstep.out _ _ (by omega) (by omega)⟩
      · have hA : D.armed = 1 := by omega
        have hm : writeM D i s = (5, crashM { putM D i s with armed := 0 } D.bits) := by simp [writeM, hA]
        have Hm := Lib.hid hm
        rw [hA] at hc3
        clear hm hA0 hA1
        have HC := fun x => disk_crash (Hstep.out x 0 (by omega) (by omega)).1 D.bits hb0 hb1 (by simp; omega)
        go_wp2_with (go_at_call 7; refine (HC _).mono ?_; rintro e w' ⟨rfl, hr, hf⟩)
        go_ret
        rw [Hm.out]
        exact ⟨rfl, hr, (Hstep.out _ 0 (by omega) (by omega)).2.trans hf⟩
end
end Go.Proofs.YtnofeblcnamfeaaDoor
