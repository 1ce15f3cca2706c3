/- Layer 17: what is kept and not taken. -/
import Derived.Test.YtnofeblcnamfeaaDoorProg
import Derived.Test.YtnofeblcnamfeaaDoorLkClk
namespace Go.Proofs.YtnofeblcnamfeaaDoor
open Go.RowKit Go.Proofs

set_option maxRecDepth 100000 in
set_option maxHeartbeats 2000000 in
theorem clk_load_none (B0 B db c : Nat) (D : DiskM) (C : ClkM) (place : Nat) (w : World) (hE : Env B0 w) (hB0 : B0 ≤ B) (hBw : B ≤ w.heap.size) (hBc : B ≤ c) (hD : DiskRep B w db D) (hC : ClkAt w c db C) (hoff : D.off = false) (hp : place < 2) (hb : C.base + 2 ≤ D.kept.length)
    (hs : readsM (readM D (C.base + place)) = none) :
    Calls Tryd.prog 16 #[.pointer (some ⟨c, 0, none⟩), .int .i64 place] w fun e w' => e = .returned (.tuple #[]) ∧ ClkAt w' c db (loadM D C place) ∧ Fr B [47] w w' ∧ KeepC c w w' := by
  have c0 := hC.blk.cell 0
  have c1 := hC.blk.cell 1
  have c4 := hC.blk.cell 4
  simp at c0 c1 c4
  have hkl : D.kept.length ≤ 4096 := by obtain ⟨_, _, _, h⟩ := hD; exact h.ok.few
  have HRD := Lib.hid (disk_read (w := w.drew) (hD.frame ((Fr.refl B [] w).drew) (by simp) (by simp) (by simp)) (C.base + place) (by omega) hoff)
  have HRS := Lib.hid (fun W => sec_read_all (readM D (C.base + place)) W)
  have hload : loadM D C place = C := by
    unfold loadM
    rw [hs]
  rw [hs] at HRS
  simp only [zeroPiece, PieceM.cells] at HRS
  have HLOAD := Lib.hid hload
  obtain ⟨RD, hRD⟩ : ∃ RD, readM D (C.base + place) = RD := ⟨_, rfl⟩
  rw [hRD] at HRD HRS
  have HE := Lib.hid hE
  have HC := Lib.hid hC
  have hadd : IntKind.i64.wrap ((C.base : Int) + (place : Int)) = ((C.base + place : Nat) : Int) := by rw [IntKind.wrap_i64]; omega
  clear hC hE hD hload hs hRD
  go_enter Tryd.func16, Tryd.ntmps16
  go_wp2
  have hS : (fun w' : World => w'.cell? ⟨c, 0, none⟩ = some (.pointer (some ⟨db, 0, none⟩)) ∧ w'.cell? ⟨c, 1, none⟩ = some (.int .i64 C.base)) w.drew := ⟨c0, c1⟩
  refine wp_held (fun w' : World => w'.cell? ⟨c, 0, none⟩ = some (.pointer (some ⟨db, 0, none⟩)) ∧ w'.cell? ⟨c, 1, none⟩ = some (.int .i64 C.base)) (by kernel_rfl) ?_
  refine held_take 0 13 (.pointer (some ⟨c, 0, none⟩)) rfl (by kernel_rfl) (by kernel_rfl) (by kernel_rfl) (fun _ _ _ h => h) hS (fun _ _ => rfl) ?_
  simp only [Act.put, List.setIfInBounds_toArray, List.set_cons_succ, List.set_cons_zero]
  refine held_take 1 14 (.pointer (some ⟨c, 0, none⟩)) rfl (by kernel_rfl) (by kernel_rfl) (by kernel_rfl) (fun _ _ _ h => h) hS (fun _ _ => by go_simp) ?_
  simp only [Act.put, List.setIfInBounds_toArray, List.set_cons_succ, List.set_cons_zero]
  refine held_take 2 15 (.pointer (some ⟨c, 0, none⟩)) rfl (by kernel_rfl) (by kernel_rfl) (by kernel_rfl) (fun _ _ _ h => h) hS (fun _ _ => by go_simp) ?_
  simp only [Act.put, List.setIfInBounds_toArray, List.set_cons_succ, List.set_cons_zero]
  refine held_take 3 16 (.pointer (some ⟨db, 0, none⟩)) rfl (by kernel_rfl) (by kernel_rfl) (by kernel_rfl) (fun _ _ _ h => h) hS (fun w' h' => by have h1 := h'.1; go_simp) ?_
  simp only [Act.put, List.setIfInBounds_toArray, List.set_cons_succ, List.set_cons_zero]
  refine held_take 4 17 (.pointer (some ⟨c, 0, none⟩)) rfl (by kernel_rfl) (by kernel_rfl) (by kernel_rfl) (fun _ _ _ h => h) hS (fun _ _ => rfl) ?_
  simp only [Act.put, List.setIfInBounds_toArray, List.set_cons_succ, List.set_cons_zero]
  refine held_take 5 18 (.pointer (some ⟨c, 0, none⟩)) rfl (by kernel_rfl) (by kernel_rfl) (by kernel_rfl) (fun _ _ _ h => h) hS (fun _ _ => by go_simp) ?_
  simp only [Act.put, List.setIfInBounds_toArray, List.set_cons_succ, List.set_cons_zero]
  refine held_take 6 19 (.pointer (some ⟨c, 1, none⟩)) rfl (by kernel_rfl) (by kernel_rfl) (by kernel_rfl) (fun _ _ _ h => h) hS (fun _ _ => by go_simp) ?_
  simp only [Act.put, List.setIfInBounds_toArray, List.set_cons_succ, List.set_cons_zero]
  refine held_take 7 20 (.int .i64 C.base) rfl (by kernel_rfl) (by kernel_rfl) (by kernel_rfl) (fun _ _ _ h => h) hS (fun w' h' => by have h1 := h'.2; go_simp) ?_
  simp only [Act.put, List.setIfInBounds_toArray, List.set_cons_succ, List.set_cons_zero]
  refine held_take 8 21 (.int .i64 place) rfl (by kernel_rfl) (by kernel_rfl) (by kernel_rfl) (fun _ _ _ h => h) hS (fun _ _ => rfl) ?_
  simp only [Act.put, List.setIfInBounds_toArray, List.set_cons_succ, List.set_cons_zero]
  refine held_take 9 22 (.int .i64 ((C.base + place : Nat) : Int)) rfl (by kernel_rfl) (by kernel_rfl) (by kernel_rfl) (fun _ _ _ h => h) hS (fun _ _ => by go_simp) ?_
  simp only [Act.put, List.setIfInBounds_toArray, List.set_cons_succ, List.set_cons_zero]
  refine held1 10 (by kernel_rfl) (op_call 23 rfl (f := 21) (args := #[.pointer (some ⟨db, 0, none⟩), .int .i64 ((C.base + place : Nat) : Int)]) (by go_simp) (HRD.out.mono ?_))
  rintro e w1 ⟨rfl, hb1⟩
  have C1 : Blk w1 c 47 (C.cells db) := Blk.below (w := w.drew) HC.out hb1 HC.out.blk.lt
  have d0 := Blk.cell (cs := #[.pointer (some ⟨db, 0, none⟩), .int .i64 C.base, .int .i64 C.time, .int .i64 C.boot, .int .u64 C.n]) C1 0
  have d1 := Blk.cell (cs := #[.pointer (some ⟨db, 0, none⟩), .int .i64 C.base, .int .i64 C.time, .int .i64 C.boot, .int .u64 C.n]) C1 1
  simp at d0 d1
  refine ⟨_, rfl, ⟨d0, d1⟩, ?_⟩
  have hS : (fun w' : World => w'.cell? ⟨c, 0, none⟩ = some (.pointer (some ⟨db, 0, none⟩)) ∧ w'.cell? ⟨c, 1, none⟩ = some (.int .i64 C.base)) w1 := ⟨d0, d1⟩
  simp only [Act.put, List.setIfInBounds_toArray, List.set_cons_succ, List.set_cons_zero]
  refine held_take 11 12 (.tuple #[.string (str RD), .int .i64 0]) rfl (by kernel_rfl) (by kernel_rfl) (by kernel_rfl) (fun _ _ _ h => h) hS (fun _ _ => rfl) ?_
  simp only [Act.put, List.setIfInBounds_toArray, List.set_cons_succ, List.set_cons_zero]
  refine held_take 12 24 (.string (str RD)) rfl (by kernel_rfl) (by kernel_rfl) (by kernel_rfl) (fun _ _ _ h => h) hS (fun _ _ => by go_simp) ?_
  simp only [Act.put, List.setIfInBounds_toArray, List.set_cons_succ, List.set_cons_zero]
  refine held_take 13 25 (.int .i64 0) rfl (by kernel_rfl) (by kernel_rfl) (by kernel_rfl) (fun _ _ _ h => h) hS (fun _ _ => by go_simp) ?_
  simp only [Act.put, List.setIfInBounds_toArray, List.set_cons_succ, List.set_cons_zero]
  refine held_take 14 4 (.string (str RD)) rfl (by kernel_rfl) (by kernel_rfl) (by kernel_rfl) (fun _ _ _ h => h) hS (fun _ _ => rfl) ?_
  simp only [Act.put, List.setIfInBounds_toArray, List.set_cons_succ, List.set_cons_zero]
  refine held_take 15 5 (.int .i64 0) rfl (by kernel_rfl) (by kernel_rfl) (by kernel_rfl) (fun _ _ _ h => h) hS (fun _ _ => rfl) ?_
  simp only [Act.put, List.setIfInBounds_toArray, List.set_cons_succ, List.set_cons_zero]
  refine wpAnyH_done (by kernel_rfl) ?_ _
  have L1 : Below w.heap.size w w1 := (Below.refl _ _).drew.trans hb1
  have hone : ∀ v ∈ ([.int .u64 0, .int .i64 0, .int .i64 0, .int .i64 0, .int .i64 0, .string (str [])] : List Value), v.oneCell' = true := by simp [Value.oneCell']
  have HONE := Lib.hid hone
  have hone2 : ∀ v ∈ ([.int .u64 0, .int .i64 0, .int .i64 0, .int .i64 0, .int .i64 1, .string (str [])] : List Value), v.oneCell' = true := by simp [Value.oneCell']
  have HONE2 := Lib.hid hone2
  clear d0 d1 hS hb1 hone hone2
  go_wp2_with (first
    | (go_at_call 22; refine (HRS.out _).mono ?_; rintro e w2 ⟨rfl, hb2⟩)
    | ((with_reducible refine wpList_is ⟨none, .store 62 (.tmp 6) (.tmp 29), _, _, _, _⟩ ?_); refine wpList_runu rfl (exec_store_new _ _ _ rfl w2 _ _ rfl rfl [.int .u64 0, .int .i64 0, .int .i64 0, .int .i64 0, .int .i64 0, .string (str [])] rfl info_piece rfl HONE.out) ?_)
    | ((with_reducible refine wpList_is ⟨none, .store 62 (.tmp 8) (.tmp 35), _, _, _, _⟩ ?_); refine wpList_runu rfl (exec_store_new _ _ _ rfl (w2.alloc (.cells #[.int .u64 0, .int .i64 0, .int .i64 0, .int .i64 0, .int .i64 0, .string (str [])] 62)) _ _ rfl rfl [.int .u64 0, .int .i64 0, .int .i64 0, .int .i64 0, .int .i64 1, .string (str [])] rfl info_piece rfl HONE2.out) ?_))
  obtain ⟨N, hN⟩ : ∃ N, w2.heap.size = N := ⟨_, rfl⟩
  have C2 : Blk w2 c 47 (C.cells db) := C1.below hb2 C1.lt
  have hcN : c < N := by have := C2.lt; omega
  have L2 : Below w.heap.size w w2 := L1.trans (hb2.mono L1.size)
  obtain ⟨W3, hW3⟩ : ∃ W3, W3 = (w2.alloc (.cells #[.int .u64 0, .int .i64 0, .int .i64 0, .int .i64 0, .int .i64 0, .string (str [])] 62)).alloc (.cells #[.int .u64 0, .int .i64 0, .int .i64 0, .int .i64 0, .int .i64 1, .string (str [])] 62) := ⟨_, rfl⟩
  have P1 : Blk W3 N 62 #[.int .u64 0, .int .i64 0, .int .i64 0, .int .i64 0, .int .i64 0, .string (str [])] := by rw [hW3, ← hN]; exact (Blk.new w2 _ _).alloc _
  have P2 : Blk W3 (N + 1) 62 #[.int .u64 0, .int .i64 0, .int .i64 0, .int .i64 0, .int .i64 1, .string (str [])] := by rw [hW3, ← hN]; have := Blk.new (w2.alloc (.cells #[.int .u64 0, .int .i64 0, .int .i64 0, .int .i64 0, .int .i64 0, .string (str [])] 62)) 62 #[.int .u64 0, .int .i64 0, .int .i64 0, .int .i64 0, .int .i64 1, .string (str [])]; simpa using this
  have C3 : Blk W3 c 47 (C.cells db) := by rw [hW3]; exact (C2.alloc _).alloc _
  have L3 : Below w.heap.size w W3 := by rw [hW3]; exact (L2.alloc L2.size _).alloc (by simp; have := L2.size; omega) _
  rw [← hW3, hN]
  have e0 := P1.cell 0
  have e1 := P1.cell 1
  have e2 := P1.cell 2
  have e3 := P1.cell 3
  have e4 := P1.cell 4
  have e5 := P1.cell 5
  have f0 := P2.cell 0
  have f1 := P2.cell 1
  have f2 := P2.cell 2
  have f3 := P2.cell 3
  have f4 := P2.cell 4
  have f5 := P2.cell 5
  have g4 := Blk.cell (cs := #[.pointer (some ⟨db, 0, none⟩), .int .i64 C.base, .int .i64 C.time, .int .i64 C.boot, .int .u64 C.n]) C3 4
  simp at e0 e1 e2 e3 e4 e5 f0 f1 f2 f3 f4 f5 g4
  have EC3 := Lib.hid C3
  clear hW3 c0 c1 c4 C2 C1 C3 P1 P2
  go_quiet (fail)
  go_wp2
  refine bodyPost_ret (v := .tuple #[]) (by simp [results, Tryd.results16, go_sem]) rfl ⟨rfl, ?_, ?_, KeepC.of_fr (B := B) (L := []) (Fr.of_below (below_drewN L3 nq) hBw) (by simp)⟩
  · rw [HLOAD.out]
    exact Blk.drewN EC3.out nq
  · exact Fr.of_below (below_drewN L3 nq) hBw

set_option maxRecDepth 100000 in
set_option maxHeartbeats 2000000 in
theorem clk_load_old (B0 B db c : Nat) (D : DiskM) (C : ClkM) (place : Nat) (w : World) (hE : Env B0 w) (hB0 : B0 ≤ B) (hBw : B ≤ w.heap.size) (hBc : B ≤ c) (hD : DiskRep B w db D) (hC : ClkAt w c db C) (hoff : D.off = false) (hp : place < 2) (hb : C.base + 2 ≤ D.kept.length)
    (st : Nat) (d : List UInt8) (hs : readsM (readM D (C.base + place)) = some ⟨st, 0, 0, 0, 1, d⟩) (hold : st ≤ C.n) (hcn : C.n < 18446744073709551616) :
    Calls Tryd.prog 16 #[.pointer (some ⟨c, 0, none⟩), .int .i64 place] w fun e w' => e = .returned (.tuple #[]) ∧ ClkAt w' c db (loadM D C place) ∧ Fr B [47] w w' ∧ KeepC c w w' := by
  have c0 := hC.blk.cell 0
  have c1 := hC.blk.cell 1
  have c4 := hC.blk.cell 4
  simp at c0 c1 c4
  have hkl : D.kept.length ≤ 4096 := by obtain ⟨_, _, _, h⟩ := hD; exact h.ok.few
  have HRD := Lib.hid (disk_read (w := w.drew) (hD.frame ((Fr.refl B [] w).drew) (by simp) (by simp) (by simp)) (C.base + place) (by omega) hoff)
  have HRS := Lib.hid (fun W => sec_read_all (readM D (C.base + place)) W)
  have hload : loadM D C place = C := by
    unfold loadM
    rw [hs]
    have : takesM ⟨st, 0, 0, 0, 1, d⟩ C.n place = false := by simp [takesM]; omega
    simp [this]
  rw [hs] at HRS
  simp only [PieceM.cells] at HRS
  have HLOAD := Lib.hid hload
  obtain ⟨RD, hRD⟩ : ∃ RD, readM D (C.base + place) = RD := ⟨_, rfl⟩
  rw [hRD] at HRD HRS
  have HE := Lib.hid hE
  have HC := Lib.hid hC
  have hadd : IntKind.i64.wrap ((C.base : Int) + (place : Int)) = ((C.base + place : Nat) : Int) := by rw [IntKind.wrap_i64]; omega
  clear hC hE hD hload hs hRD
  go_enter Tryd.func16, Tryd.ntmps16
  go_wp2
  have hS : (fun w' : World => w'.cell? ⟨c, 0, none⟩ = some (.pointer (some ⟨db, 0, none⟩)) ∧ w'.cell? ⟨c, 1, none⟩ = some (.int .i64 C.base)) w.drew := ⟨c0, c1⟩
  refine wp_held (fun w' : World => w'.cell? ⟨c, 0, none⟩ = some (.pointer (some ⟨db, 0, none⟩)) ∧ w'.cell? ⟨c, 1, none⟩ = some (.int .i64 C.base)) (by kernel_rfl) ?_
  refine held_take 0 13 (.pointer (some ⟨c, 0, none⟩)) rfl (by kernel_rfl) (by kernel_rfl) (by kernel_rfl) (fun _ _ _ h => h) hS (fun _ _ => rfl) ?_
  simp only [Act.put, List.setIfInBounds_toArray, List.set_cons_succ, List.set_cons_zero]
  refine held_take 1 14 (.pointer (some ⟨c, 0, none⟩)) rfl (by kernel_rfl) (by kernel_rfl) (by kernel_rfl) (fun _ _ _ h => h) hS (fun _ _ => by go_simp) ?_
  simp only [Act.put, List.setIfInBounds_toArray, List.set_cons_succ, List.set_cons_zero]
  refine held_take 2 15 (.pointer (some ⟨c, 0, none⟩)) rfl (by kernel_rfl) (by kernel_rfl) (by kernel_rfl) (fun _ _ _ h => h) hS (fun _ _ => by go_simp) ?_
  simp only [Act.put, List.setIfInBounds_toArray, List.set_cons_succ, List.set_cons_zero]
  refine held_take 3 16 (.pointer (some ⟨db, 0, none⟩)) rfl (by kernel_rfl) (by kernel_rfl) (by kernel_rfl) (fun _ _ _ h => h) hS (fun w' h' => by have h1 := h'.1; go_simp) ?_
  simp only [Act.put, List.setIfInBounds_toArray, List.set_cons_succ, List.set_cons_zero]
  refine held_take 4 17 (.pointer (some ⟨c, 0, none⟩)) rfl (by kernel_rfl) (by kernel_rfl) (by kernel_rfl) (fun _ _ _ h => h) hS (fun _ _ => rfl) ?_
  simp only [Act.put, List.setIfInBounds_toArray, List.set_cons_succ, List.set_cons_zero]
  refine held_take 5 18 (.pointer (some ⟨c, 0, none⟩)) rfl (by kernel_rfl) (by kernel_rfl) (by kernel_rfl) (fun _ _ _ h => h) hS (fun _ _ => by go_simp) ?_
  simp only [Act.put, List.setIfInBounds_toArray, List.set_cons_succ, List.set_cons_zero]
  refine held_take 6 19 (.pointer (some ⟨c, 1, none⟩)) rfl (by kernel_rfl) (by kernel_rfl) (by kernel_rfl) (fun _ _ _ h => h) hS (fun _ _ => by go_simp) ?_
  simp only [Act.put, List.setIfInBounds_toArray, List.set_cons_succ, List.set_cons_zero]
  refine held_take 7 20 (.int .i64 C.base) rfl (by kernel_rfl) (by kernel_rfl) (by kernel_rfl) (fun _ _ _ h => h) hS (fun w' h' => by have h1 := h'.2; go_simp) ?_
  simp only [Act.put, List.setIfInBounds_toArray, List.set_cons_succ, List.set_cons_zero]
  refine held_take 8 21 (.int .i64 place) rfl (by kernel_rfl) (by kernel_rfl) (by kernel_rfl) (fun _ _ _ h => h) hS (fun _ _ => rfl) ?_
  simp only [Act.put, List.setIfInBounds_toArray, List.set_cons_succ, List.set_cons_zero]
  refine held_take 9 22 (.int .i64 ((C.base + place : Nat) : Int)) rfl (by kernel_rfl) (by kernel_rfl) (by kernel_rfl) (fun _ _ _ h => h) hS (fun _ _ => by go_simp) ?_
  simp only [Act.put, List.setIfInBounds_toArray, List.set_cons_succ, List.set_cons_zero]
  refine held1 10 (by kernel_rfl) (op_call 23 rfl (f := 21) (args := #[.pointer (some ⟨db, 0, none⟩), .int .i64 ((C.base + place : Nat) : Int)]) (by go_simp) (HRD.out.mono ?_))
  rintro e w1 ⟨rfl, hb1⟩
  have C1 : Blk w1 c 47 (C.cells db) := Blk.below (w := w.drew) HC.out hb1 HC.out.blk.lt
  have d0 := Blk.cell (cs := #[.pointer (some ⟨db, 0, none⟩), .int .i64 C.base, .int .i64 C.time, .int .i64 C.boot, .int .u64 C.n]) C1 0
  have d1 := Blk.cell (cs := #[.pointer (some ⟨db, 0, none⟩), .int .i64 C.base, .int .i64 C.time, .int .i64 C.boot, .int .u64 C.n]) C1 1
  simp at d0 d1
  refine ⟨_, rfl, ⟨d0, d1⟩, ?_⟩
  have hS : (fun w' : World => w'.cell? ⟨c, 0, none⟩ = some (.pointer (some ⟨db, 0, none⟩)) ∧ w'.cell? ⟨c, 1, none⟩ = some (.int .i64 C.base)) w1 := ⟨d0, d1⟩
  simp only [Act.put, List.setIfInBounds_toArray, List.set_cons_succ, List.set_cons_zero]
  refine held_take 11 12 (.tuple #[.string (str RD), .int .i64 0]) rfl (by kernel_rfl) (by kernel_rfl) (by kernel_rfl) (fun _ _ _ h => h) hS (fun _ _ => rfl) ?_
  simp only [Act.put, List.setIfInBounds_toArray, List.set_cons_succ, List.set_cons_zero]
  refine held_take 12 24 (.string (str RD)) rfl (by kernel_rfl) (by kernel_rfl) (by kernel_rfl) (fun _ _ _ h => h) hS (fun _ _ => by go_simp) ?_
  simp only [Act.put, List.setIfInBounds_toArray, List.set_cons_succ, List.set_cons_zero]
  refine held_take 13 25 (.int .i64 0) rfl (by kernel_rfl) (by kernel_rfl) (by kernel_rfl) (fun _ _ _ h => h) hS (fun _ _ => by go_simp) ?_
  simp only [Act.put, List.setIfInBounds_toArray, List.set_cons_succ, List.set_cons_zero]
  refine held_take 14 4 (.string (str RD)) rfl (by kernel_rfl) (by kernel_rfl) (by kernel_rfl) (fun _ _ _ h => h) hS (fun _ _ => rfl) ?_
  simp only [Act.put, List.setIfInBounds_toArray, List.set_cons_succ, List.set_cons_zero]
  refine held_take 15 5 (.int .i64 0) rfl (by kernel_rfl) (by kernel_rfl) (by kernel_rfl) (fun _ _ _ h => h) hS (fun _ _ => rfl) ?_
  simp only [Act.put, List.setIfInBounds_toArray, List.set_cons_succ, List.set_cons_zero]
  refine wpAnyH_done (by kernel_rfl) ?_ _
  have L1 : Below w.heap.size w w1 := (Below.refl _ _).drew.trans hb1
  have hone : ∀ v ∈ ([.int .u64 st, .int .i64 0, .int .i64 0, .int .i64 0, .int .i64 1, .string (str d)] : List Value), v.oneCell' = true := by simp [Value.oneCell']
  have HONE := Lib.hid hone
  clear d0 d1 hS hb1 hone
  go_wp2_with (first
    | (go_at_call 22; refine (HRS.out _).mono ?_; rintro e w2 ⟨rfl, hb2⟩)
    | ((with_reducible refine wpList_is ⟨none, .store 62 (.tmp 6) (.tmp 29), _, _, _, _⟩ ?_); refine wpList_runu rfl (exec_store_new _ _ _ rfl w2 _ _ rfl rfl [.int .u64 st, .int .i64 0, .int .i64 0, .int .i64 0, .int .i64 1, .string (str d)] rfl info_piece rfl HONE.out) ?_)
    | ((with_reducible refine wpList_is ⟨none, .store 62 (.tmp 8) (.tmp 35), _, _, _, _⟩ ?_); refine wpList_runu rfl (exec_store_new _ _ _ rfl (w2.alloc (.cells #[.int .u64 st, .int .i64 0, .int .i64 0, .int .i64 0, .int .i64 1, .string (str d)] 62)) _ _ rfl rfl [.int .u64 st, .int .i64 0, .int .i64 0, .int .i64 0, .int .i64 1, .string (str d)] rfl info_piece rfl HONE.out) ?_))
  obtain ⟨N, hN⟩ : ∃ N, w2.heap.size = N := ⟨_, rfl⟩
  have C2 : Blk w2 c 47 (C.cells db) := C1.below hb2 C1.lt
  have hcN : c < N := by have := C2.lt; omega
  have L2 : Below w.heap.size w w2 := L1.trans (hb2.mono L1.size)
  obtain ⟨W3, hW3⟩ : ∃ W3, W3 = (w2.alloc (.cells #[.int .u64 st, .int .i64 0, .int .i64 0, .int .i64 0, .int .i64 1, .string (str d)] 62)).alloc (.cells #[.int .u64 st, .int .i64 0, .int .i64 0, .int .i64 0, .int .i64 1, .string (str d)] 62) := ⟨_, rfl⟩
  have P1 : Blk W3 N 62 #[.int .u64 st, .int .i64 0, .int .i64 0, .int .i64 0, .int .i64 1, .string (str d)] := by rw [hW3, ← hN]; exact (Blk.new w2 _ _).alloc _
  have P2 : Blk W3 (N + 1) 62 #[.int .u64 st, .int .i64 0, .int .i64 0, .int .i64 0, .int .i64 1, .string (str d)] := by rw [hW3, ← hN]; have := Blk.new (w2.alloc (.cells #[.int .u64 st, .int .i64 0, .int .i64 0, .int .i64 0, .int .i64 1, .string (str d)] 62)) 62 #[.int .u64 st, .int .i64 0, .int .i64 0, .int .i64 0, .int .i64 1, .string (str d)]; simpa using this
  have C3 : Blk W3 c 47 (C.cells db) := by rw [hW3]; exact (C2.alloc _).alloc _
  have L3 : Below w.heap.size w W3 := by rw [hW3]; exact (L2.alloc L2.size _).alloc (by simp; have := L2.size; omega) _
  rw [← hW3, hN]
  have e0 := P1.cell 0
  have e1 := P1.cell 1
  have e2 := P1.cell 2
  have e3 := P1.cell 3
  have e4 := P1.cell 4
  have e5 := P1.cell 5
  have f0 := P2.cell 0
  have f1 := P2.cell 1
  have f2 := P2.cell 2
  have f3 := P2.cell 3
  have f4 := P2.cell 4
  have f5 := P2.cell 5
  have g4 := Blk.cell (cs := #[.pointer (some ⟨db, 0, none⟩), .int .i64 C.base, .int .i64 C.time, .int .i64 C.boot, .int .u64 C.n]) C3 4
  simp at e0 e1 e2 e3 e4 e5 f0 f1 f2 f3 f4 f5 g4
  have hn1 : ((st : Int) ≤ (C.n : Int)) = True := by simp; omega
  have hn2 : (st ≤ C.n) = True := by simp; omega
  have EC3 := Lib.hid C3
  clear hW3 c0 c1 c4 hold C2 C1 C3 P1 P2
  go_quiet (fail)
  go_wp2
  refine bodyPost_ret (v := .tuple #[]) (by simp [results, Tryd.results16, go_sem]) rfl ⟨rfl, ?_, ?_, KeepC.of_fr (B := B) (L := []) (Fr.of_below (below_drewN L3 nq) hBw) (by simp)⟩
  · rw [HLOAD.out]
    exact Blk.drewN EC3.out nq
  · exact Fr.of_below (below_drewN L3 nq) hBw

/-- Either there is none, or it is no newer, or it may be taken. -/
def LoadOk (D : DiskM) (C : ClkM) (place : Nat) : Prop :=
  readsM (readM D (C.base + place)) = none ∨ (∃ (st : Nat) (d : List UInt8), readsM (readM D (C.base + place)) = some ⟨st, 0, 0, 0, 1, d⟩ ∧ st ≤ C.n) ∨ (∃ p, readsM (readM D (C.base + place)) = some p ∧ takesM p C.n place = true)
theorem clk_load_all (B0 B db c : Nat) (D : DiskM) (C : ClkM) (place : Nat) (w : World) (hE : Env B0 w) (hB0 : B0 ≤ B) (hBw : B ≤ w.heap.size) (hBc : B ≤ c) (hD : DiskRep B w db D) (hC : ClkAt w c db C) (hoff : D.off = false) (hp : place < 2) (hb : C.base + 2 ≤ D.kept.length)
    (hl : LoadOk D C place) (hn : C.n < 18446744073709551616) :
    Calls Tryd.prog 16 #[.pointer (some ⟨c, 0, none⟩), .int .i64 place] w fun e w' => e = .returned (.tuple #[]) ∧ ClkAt w' c db (loadM D C place) ∧ Fr B [47] w w' ∧ KeepC c w w' := by
  rcases hl with h | ⟨st, d, h, h2⟩ | ⟨p, h, h2⟩
  · exact clk_load_none B0 B db c D C place w hE hB0 hBw hBc hD hC hoff hp hb h
  · exact clk_load_old B0 B db c D C place w hE hB0 hBw hBc hD hC hoff hp hb st d h h2 hn
  · exact clk_load B0 B db c D C place w hE hB0 hBw hBc hD hC hoff hp hb p h h2
end Go.Proofs.YtnofeblcnamfeaaDoor
