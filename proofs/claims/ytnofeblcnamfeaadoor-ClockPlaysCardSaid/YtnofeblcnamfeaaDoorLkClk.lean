/- Layer 17: what is kept, loaded. -/
import Derived.Test.YtnofeblcnamfeaaDoorProg
import Derived.Test.YtnofeblcnamfeaaDoorLkDisk5
import Derived.Test.YtnofeblcnamfeaaDoorLkRead
import Derived.Test.YtnofeblcnamfeaaDoorLkCodI
namespace Go.Proofs.YtnofeblcnamfeaaDoor
open Go.RowKit Go.Proofs

structure ClkM where
  base : Nat
  time : Int
  boot : Int
  n : Nat
def ClkM.cells (C : ClkM) (db : Nat) : Array Value := #[.pointer (some ⟨db, 0, none⟩), .int .i64 C.base, .int .i64 C.time, .int .i64 C.boot, .int .u64 C.n]
def ClkAt (w : World) (c db : Nat) (C : ClkM) : Prop := Blk w c 47 (C.cells db)
theorem ClkAt.blk {w : World} {c db : Nat} {C : ClkM} (h : ClkAt w c db C) : Blk w c 47 #[.pointer (some ⟨db, 0, none⟩), .int .i64 C.base, .int .i64 C.time, .int .i64 C.boot, .int .u64 C.n] := h

/-- What a piece's data tell: the time and the boot, where they do. -/
def dataM (d : List UInt8) : Option (Int × Int) :=
  let x := intM d false 0 1000
  let y := intM x.2.1 x.2.2 0 2147483648
  if y.2.2 = false ∧ y.2.1 = [] then some (x.1, y.1) else none
/-- May a clock of stamp n take this piece, at this place? -/
def takesM (p : PieceM) (n place : Nat) : Bool :=
  decide (p.gen = 0) && decide (p.no = 0) && decide (p.index = 0) && decide (p.total = 1) && decide ((n : Int) < p.stamp) && decide (p.stamp ≤ 4611686018427387904) && decide (p.stamp % 2 = place)
def loadM (D : DiskM) (C : ClkM) (place : Nat) : ClkM :=
  match readsM (readM D (C.base + place)) with
  | none => C
  | some p => if takesM p C.n place then (match dataM p.data with | some (t, b) => { C with time := t, boot := b, n := p.stamp.toNat } | none => C) else C

/-- Other clocks are as they were. -/
def KeepC (c : Nat) (w w' : World) : Prop := ∀ (k : Nat) (cs : Array Value) (fr : Nat × Nat), k ≠ c → w.heap[k]? = some (.cells cs 47 fr) → w'.heap[k]? = some (.cells cs 47 fr)
theorem KeepC.refl (c : Nat) (w : World) : KeepC c w w := fun _ _ _ _ h => h
theorem KeepC.trans {c : Nat} {w w' w'' : World} (h : KeepC c w w') (k : KeepC c w' w'') : KeepC c w w'' := fun i cs fr hi hb => k i cs fr hi (h i cs fr hi hb)
theorem KeepC.of_fr {c B : Nat} {L : List TypeId} {w w' : World} (f : Fr B L w w') (h : 47 ∉ L) : KeepC c w w' := fun k cs fr _ hb => f.kept k cs _ fr hb h
theorem KeepC.set_ {c : Nat} {w w' : World} (h : KeepC c w w') (i : Nat) (u : Value) : KeepC c w (w'.setCell ⟨c, i, none⟩ u) := fun k cs fr hk hb => (Below.heap_setCell w' ⟨c, i, none⟩ u k hk).trans (h k cs fr hk hb)

theorem readsM_stamp {l : List UInt8} {p : PieceM} (h : readsM l = some p) : ∃ s : Nat, p.stamp = s ∧ s < 18446744073709551616 := by
  unfold readsM at h
  split at h
  · rename_i hc
    injection h with h
    subst h
    refine ⟨_, rfl, ?_⟩
    have := valM_lt (cutL l 0 8)
    rw [cutL_length _ _ _ (by omega)] at this
    simpa using this
  · cases h
theorem readsM_data {l : List UInt8} {p : PieceM} (h : readsM l = some p) : p.data.length ≤ 37 := by
  unfold readsM at h
  split at h
  · rename_i hc
    injection h with h
    subst h
    have h2 := hc.2.2.1
    simp only [pieceOf]
    rw [cutL_length _ _ _ (by omega)]
    omega
  · cases h

theorem infoz_piece2 : (Tryd.prog.info? 62).bind (·.zero) = some (.agg zeroPiece.cells) := infoz_piece

set_option maxRecDepth 100000 in
set_option maxHeartbeats 2000000 in
theorem clk_load (B0 B db c : Nat) (D : DiskM) (C : ClkM) (place : Nat) (w : World) (hE : Env B0 w) (hB0 : B0 ≤ B) (hBw : B ≤ w.heap.size) (hBc : B ≤ c) (hD : DiskRep B w db D) (hC : ClkAt w c db C) (hoff : D.off = false) (hp : place < 2) (hb : C.base + 2 ≤ D.kept.length)
    (p : PieceM) (hs : readsM (readM D (C.base + place)) = some p) (ht : takesM p C.n place = true) :
    Calls Tryd.prog 16 #[.pointer (some ⟨c, 0, none⟩), .int .i64 place] w fun e w' => e = .returned (.tuple #[]) ∧ ClkAt w' c db (loadM D C place) ∧ Fr B [47] w w' ∧ KeepC c w w' := by
  have c0 := hC.blk.cell 0
  have c1 := hC.blk.cell 1
  have c4 := hC.blk.cell 4
  simp at c0 c1 c4
  have hkl : D.kept.length ≤ 4096 := by obtain ⟨_, _, _, h⟩ := hD; exact h.ok.few
  have HRD := Lib.hid (disk_read (w := w.drew) (hD.frame ((Fr.refl B [] w).drew) (by simp) (by simp) (by simp)) (C.base + place) (by omega) hoff)
  have HRS := Lib.hid (fun W => sec_read_all (readM D (C.base + place)) W)
  obtain ⟨st, hst, hst2⟩ := readsM_stamp hs
  have hdl := readsM_data hs
  have hload : loadM D C place = match dataM p.data with | some (t, b) => { C with time := t, boot := b, n := p.stamp.toNat } | none => C := by
    unfold loadM
    rw [hs]
    simp only [ht, if_true]
  obtain ⟨p1, ge, no, ix, tt, d⟩ := p
  simp only at hst hdl hload
  subst hst
  simp only [takesM, Bool.and_eq_true, decide_eq_true_eq] at ht
  obtain ⟨⟨⟨⟨⟨⟨rfl, rfl⟩, rfl⟩, rfl⟩, hn⟩, hm⟩, hpl⟩ := ht
  rw [hs] at HRS
  simp only [PieceM.cells] at HRS
  have HLOAD := Lib.hid hload
  have hplace : (st : Int) % 2 = (place : Int) := hpl
  obtain ⟨RD, hRD⟩ : ∃ RD, readM D (C.base + place) = RD := ⟨_, rfl⟩
  rw [hRD] at HRD HRS
  have HE := Lib.hid hE
  have HC := Lib.hid hC
  have hadd : IntKind.i64.wrap ((C.base : Int) + (place : Int)) = ((C.base + place : Nat) : Int) := by rw [IntKind.wrap_i64]; omega
  clear hC hE hD hload hs hpl hRD
  go_enter Tryd.func16, Tryd.ntmps16
  go_wp2
  have hS : (fun w' : World => w'.cell? ⟨c, 0, none⟩ = some (.pointer (some ⟨db, 0, none⟩)) ∧ w'.cell? ⟨c, 1, none⟩ = some (.int .i64 C.base)) w.drew := ⟨c0, c1⟩
  refine wp_held (fun w' : World => w'.cell? ⟨c, 0, none⟩ = some (.pointer (some ⟨db, 0, none⟩)) ∧ w'.cell? ⟨c, 1, none⟩ = some (.int .i64 C.base)) (by kernel_rfl) ?_
  refine held_take 0 13 (.pointer (some ⟨c, 0, none⟩)) rfl (by kernel_rfl) (by kernel_rfl) (by kernel_rfl) (fun _ _ _ h => h) hS (fun _ _ => rfl) ?_
  simp only [Act.put, List.setIfInBounds_toArray, List.set_cons_succ, List.set_cons_zero]
  refine held_take 1 14 (.pointer (some ⟨c, 0, none⟩)) rfl (by kernel_rfl) (by kernel_rfl) (by kernel_rfl) (fun _ _ _ h => h) hS (fun _ _ => by go_simp) ?_
  simp only [Act.put, List.setIfInBounds_toArray, List.set_cons_succ, List.set_cons_zero]
  refine held_take 2 15 (.pointer (some ⟨c, 0, none⟩)) rfl (by kernel_rfl) (by kernel_rfl) (by kernel_rfl) (fun _ _ _ h => h) hS (fun _ _ => by go_simp) ?_
  simp only [Act.put, List.setIfInBounds_toArray, List.set_cons_succ, List.set_cons_zero]
  refine held_take 3 16 (.pointer (some ⟨db, 0, none⟩)) rfl (by kernel_rfl) (by kernel_rfl) (by kernel_rfl) (fun _ _ _ h => h) hS (fun w' h' => by have h1 := h'.1; go_simp) ?_
  simp only [Act.put, List.setIfInBounds_toArray, List.set_cons_succ, List.set_cons_zero]
  refine held_take 4 17 (.pointer (some ⟨c, 0, none⟩)) rfl (by kernel_rfl) (by kernel_rfl) (by kernel_rfl) (fun _ _ _ h => h) hS (fun _ _ => rfl) ?_
  simp only [Act.put, List.setIfInBounds_toArray, List.set_cons_succ, List.set_cons_zero]
  refine held_take 5 18 (.pointer (some ⟨c, 0, none⟩)) rfl (by kernel_rfl) (by kernel_rfl) (by kernel_rfl) (fun _ _ _ h => h) hS (fun _ _ => by go_simp) ?_
  simp only [Act.put, List.setIfInBounds_toArray, List.set_cons_succ, List.set_cons_zero]
  refine held_take 6 19 (.pointer (some ⟨c, 1, none⟩)) rfl (by kernel_rfl) (by kernel_rfl) (by kernel_rfl) (fun _ _ _ h => h) hS (fun _ _ => by go_simp) ?_
  simp only [Act.put, List.setIfInBounds_toArray, List.set_cons_succ, List.set_cons_zero]
  refine held_take 7 20 (.int .i64 C.base) rfl (by kernel_rfl) (by kernel_rfl) (by kernel_rfl) (fun _ _ _ h => h) hS (fun w' h' => by have h1 := h'.2; go_simp) ?_
  simp only [Act.put, List.setIfInBounds_toArray, List.set_cons_succ, List.set_cons_zero]
  refine held_take 8 21 (.int .i64 place) rfl (by kernel_rfl) (by kernel_rfl) (by kernel_rfl) (fun _ _ _ h => h) hS (fun _ _ => rfl) ?_
  simp only [Act.put, List.setIfInBounds_toArray, List.set_cons_succ, List.set_cons_zero]
  refine held_take 9 22 (.int .i64 ((C.base + place : Nat) : Int)) rfl (by kernel_rfl) (by kernel_rfl) (by kernel_rfl) (fun _ _ _ h => h) hS (fun _ _ => by go_simp) ?_
  simp only [Act.put, List.setIfInBounds_toArray, List.set_cons_succ, List.set_cons_zero]
  refine held1 10 (by kernel_rfl) (op_call 23 rfl (f := 21) (args := #[.pointer (some ⟨db, 0, none⟩), .int .i64 ((C.base + place : Nat) : Int)]) (by go_simp) (HRD.out.mono ?_))
  rintro e w1 ⟨rfl, hb1⟩
  have C1 : Blk w1 c 47 (C.cells db) := Blk.below (w := w.drew) HC.out hb1 HC.out.blk.lt
  have d0 := Blk.cell (cs := #[.pointer (some ⟨db, 0, none⟩), .int .i64 C.base, .int .i64 C.time, .int .i64 C.boot, .int .u64 C.n]) C1 0
  have d1 := Blk.cell (cs := #[.pointer (some ⟨db, 0, none⟩), .int .i64 C.base, .int .i64 C.time, .int .i64 C.boot, .int .u64 C.n]) C1 1
  simp at d0 d1
  refine ⟨_, rfl, ⟨d0, d1⟩, ?_⟩
  have hS : (fun w' : World => w'.cell? ⟨c, 0, none⟩ = some (.pointer (some ⟨db, 0, none⟩)) ∧ w'.cell? ⟨c, 1, none⟩ = some (.int .i64 C.base)) w1 := ⟨d0, d1⟩
  simp only [Act.put, List.setIfInBounds_toArray, List.set_cons_succ, List.set_cons_zero]
  refine held_take 11 12 (.tuple #[.string (str RD), .int .i64 0]) rfl (by kernel_rfl) (by kernel_rfl) (by kernel_rfl) (fun _ _ _ h => h) hS (fun _ _ => rfl) ?_
  simp only [Act.put, List.setIfInBounds_toArray, List.set_cons_succ, List.set_cons_zero]
  refine held_take 12 24 (.string (str RD)) rfl (by kernel_rfl) (by kernel_rfl) (by kernel_rfl) (fun _ _ _ h => h) hS (fun _ _ => by go_simp) ?_
  simp only [Act.put, List.setIfInBounds_toArray, List.set_cons_succ, List.set_cons_zero]
  refine held_take 13 25 (.int .i64 0) rfl (by kernel_rfl) (by kernel_rfl) (by kernel_rfl) (fun _ _ _ h => h) hS (fun _ _ => by go_simp) ?_
  simp only [Act.put, List.setIfInBounds_toArray, List.set_cons_succ, List.set_cons_zero]
  refine held_take 14 4 (.string (str RD)) rfl (by kernel_rfl) (by kernel_rfl) (by kernel_rfl) (fun _ _ _ h => h) hS (fun _ _ => rfl) ?_
  simp only [Act.put, List.setIfInBounds_toArray, List.set_cons_succ, List.set_cons_zero]
  refine held_take 15 5 (.int .i64 0) rfl (by kernel_rfl) (by kernel_rfl) (by kernel_rfl) (fun _ _ _ h => h) hS (fun _ _ => rfl) ?_
  simp only [Act.put, List.setIfInBounds_toArray, List.set_cons_succ, List.set_cons_zero]
  refine wpAnyH_done (by kernel_rfl) ?_ _
  have L1 : Below w.heap.size w w1 := (Below.refl _ _).drew.trans hb1
  have hone : ∀ v ∈ ([.int .u64 st, .int .i64 0, .int .i64 0, .int .i64 0, .int .i64 1, .string (str d)] : List Value), v.oneCell' = true := by simp [Value.oneCell']
  have HONE := Lib.hid hone
  clear d0 d1 hS hb1 hone
  go_wp2_with (first
    | (go_at_call 22; refine (HRS.out _).mono ?_; rintro e w2 ⟨rfl, hb2⟩)
    | ((with_reducible refine wpList_is ⟨none, .store 62 (.tmp 6) (.tmp 29), _, _, _, _⟩ ?_); refine wpList_runu rfl (exec_store_new _ _ _ rfl w2 _ _ rfl rfl [.int .u64 st, .int .i64 0, .int .i64 0, .int .i64 0, .int .i64 1, .string (str d)] rfl info_piece rfl HONE.out) ?_)
    | ((with_reducible refine wpList_is ⟨none, .store 62 (.tmp 8) (.tmp 35), _, _, _, _⟩ ?_); refine wpList_runu rfl (exec_store_new _ _ _ rfl (w2.alloc (.cells #[.int .u64 st, .int .i64 0, .int .i64 0, .int .i64 0, .int .i64 1, .string (str d)] 62)) _ _ rfl rfl [.int .u64 st, .int .i64 0, .int .i64 0, .int .i64 0, .int .i64 1, .string (str d)] rfl info_piece rfl HONE.out) ?_))
  obtain ⟨N, hN⟩ : ∃ N, w2.heap.size = N := ⟨_, rfl⟩
  have C2 : Blk w2 c 47 (C.cells db) := C1.below hb2 C1.lt
  have hcN : c < N := by have := C2.lt; omega
  have L2 : Below w.heap.size w w2 := L1.trans (hb2.mono L1.size)
  obtain ⟨W3, hW3⟩ : ∃ W3, W3 = (w2.alloc (.cells #[.int .u64 st, .int .i64 0, .int .i64 0, .int .i64 0, .int .i64 1, .string (str d)] 62)).alloc (.cells #[.int .u64 st, .int .i64 0, .int .i64 0, .int .i64 0, .int .i64 1, .string (str d)] 62) := ⟨_, rfl⟩
  have P1 : Blk W3 N 62 #[.int .u64 st, .int .i64 0, .int .i64 0, .int .i64 0, .int .i64 1, .string (str d)] := by rw [hW3, ← hN]; exact (Blk.new w2 _ _).alloc _
  have P2 : Blk W3 (N + 1) 62 #[.int .u64 st, .int .i64 0, .int .i64 0, .int .i64 0, .int .i64 1, .string (str d)] := by rw [hW3, ← hN]; have := Blk.new (w2.alloc (.cells #[.int .u64 st, .int .i64 0, .int .i64 0, .int .i64 0, .int .i64 1, .string (str d)] 62)) 62 #[.int .u64 st, .int .i64 0, .int .i64 0, .int .i64 0, .int .i64 1, .string (str d)]; simpa using this
  have C3 : Blk W3 c 47 (C.cells db) := by rw [hW3]; exact (C2.alloc _).alloc _
  have L3 : Below w.heap.size w W3 := by rw [hW3]; exact (L2.alloc L2.size _).alloc (by simp; have := L2.size; omega) _
  rw [← hW3, hN]
  have e0 := P1.cell 0
  have e1 := P1.cell 1
  have e2 := P1.cell 2
  have e3 := P1.cell 3
  have e4 := P1.cell 4
  have e5 := P1.cell 5
  have f0 := P2.cell 0
  have f1 := P2.cell 1
  have f2 := P2.cell 2
  have f3 := P2.cell 3
  have f4 := P2.cell 4
  have f5 := P2.cell 5
  have g4 := Blk.cell (cs := #[.pointer (some ⟨db, 0, none⟩), .int .i64 C.base, .int .i64 C.time, .int .i64 C.boot, .int .u64 C.n]) C3 4
  simp at e0 e1 e2 e3 e4 e5 f0 f1 f2 f3 f4 f5 g4
  have hn1 : ((st : Int) ≤ (C.n : Int)) = False := by simp; omega
  have hn2 : (st ≤ C.n) = False := by simp; omega
  have hm1 : (4611686018427387904 < (st : Int)) = False := by simp; omega
  have hpp : (st : Int).tmod 2 = (place : Int) := by rw [Int.tmod_eq_emod_of_nonneg (by omega)]; exact hplace
  clear hW3 c0 c1 c4 hn hm C2 C1
  obtain ⟨x1, s1, b1, hx⟩ : ∃ x1 s1 b1, intM d false 0 1000 = (x1, s1, b1) := ⟨_, _, _, rfl⟩
  obtain ⟨y1, s2, b2, hy⟩ : ∃ y1 s2 b2, intM s1 b1 0 2147483648 = (y1, s2, b2) := ⟨_, _, _, rfl⟩
  have hs1 : s1.length ≤ 37 := by have := intM_len d false 0 1000; rw [hx] at this; exact Nat.le_trans this hdl
  have hdata : dataM d = if b2 = false ∧ s2 = [] then some (x1, y1) else none := by
    unfold dataM
    simp only [hx, hy]
  have HN := Lib.hid (fun W => cod_new d W)
  have HI1 := Lib.hid (fun r W h1 h2 h3 h4 => cod_int r d false 0 1000 B0 W h1 h2 h3 (by omega) h4)
  have HI2 := Lib.hid (fun r W h1 h2 h3 h4 => cod_int r s1 b1 0 2147483648 B0 W h1 h2 h3 (by omega) h4)
  rw [hx] at HI1
  rw [hy] at HI2
  simp only at HI1 HI2
  have HD := Lib.hid (fun r W h => cod_done r s2 b2 W h)
  have EP1 := Lib.hid P1
  have EC3 := Lib.hid C3
  have hBN : B ≤ N := by omega
  have hNW : N + 1 < W3.heap.size := P2.lt
  cases hdone : (!b2 && s2.isEmpty) with
  | true =>
    rw [hdone] at HD
    have hd2 : dataM d = some (x1, y1) := by
      rw [hdata, if_pos]
      simp only [Bool.and_eq_true, Bool.not_eq_true', List.isEmpty_iff] at hdone
      exact hdone
    rw [hd2] at HLOAD
    clear hx hy hdata P1 P2 C3 hdone hd2
    go_quiet (fail)
    obtain ⟨V0, hV0⟩ : ∃ V0, V0 = W3.drewN nq := ⟨_, rfl⟩
    obtain ⟨r, hr⟩ : ∃ r, V0.heap.size = r := ⟨_, rfl⟩
    have hrs : N + 1 < r := by rw [← hr, hV0]; simpa using hNW
    have hVE : Env B0 V0 := by rw [hV0]; exact HE.out.below ((below_drewN L3 nq).mono (by omega))
    have hVL : Below w.heap.size w V0 := by rw [hV0]; exact below_drewN L3 nq
    have hVP : Blk V0 N 62 #[.int .u64 st, .int .i64 0, .int .i64 0, .int .i64 0, .int .i64 1, .string (str d)] := by rw [hV0]; exact Blk.drewN EP1.out nq
    have hVC : Blk V0 c 47 (C.cells db) := by rw [hV0]; exact Blk.drewN EC3.out nq
    have v5 : V0.cell? ⟨N, 5, none⟩ = some (.string (str d)) := by rw [hVP.cell]; rfl
    rw [← hV0]
    clear hV0
    go_wp2_with fail
    refine (HN.out _).mono ?_
    rintro e V1 ⟨rfl, hr1, hV1⟩
    rw [hr] at hr1 hV1 ⊢
    have hB0r : B0 ≤ r := by omega
    have hE1 : Env B0 V1 := hVE.below (hV1.mono hB0r)
    have hz1 : r ≤ V1.heap.size := by have := hV1.size; omega
    go_wp2_with fail
    refine (HI1.out r V1 hE1 (by omega) hB0r hr1).mono ?_
    rintro e V2 ⟨rfl, hr2, hV2⟩
    have hE2 : Env B0 V2 := hE1.below (hV2.below hB0r (by omega))
    have hz2 : r ≤ V2.heap.size := by have := hV2.size; omega
    go_wp2_with fail
    refine (HI2.out r V2 hE2 (by omega) hB0r hr2).mono ?_
    rintro e V3 ⟨rfl, hr3, hV3⟩
    have hz3 : r ≤ V3.heap.size := by have := hV3.size; omega
    have hk : Below r V0 V3 := (hV1.trans (hV2.below (Nat.le_refl r) hz1)).trans (hV3.below (Nat.le_refl r) hz2)
    have hP3 : Blk V3 N 62 #[.int .u64 st, .int .i64 0, .int .i64 0, .int .i64 0, .int .i64 1, .string (str d)] := hVP.below hk (by omega)
    have hC3 : Blk V3 c 47 #[.pointer (some ⟨db, 0, none⟩), .int .i64 C.base, .int .i64 C.time, .int .i64 C.boot, .int .u64 C.n] := Blk.below hVC hk (by omega)
    have u0 := hP3.cell 0
    have u2 := hC3.cell 2
    have u3 := hC3.cell 3
    have u4 := hC3.cell 4
    have q2 := hC3.frozen 2
    have q3 := hC3.frozen 3
    have q4 := hC3.frozen 4
    simp at u0 u2 u3 u4
    go_wp2_with fail
    refine (HD.out r V3 hr3).mono ?_
    rintro e V4 ⟨rfl, rfl⟩
    go_wp2_with fail
    go_end0
    have hF : Fr B [47] w V3 := Fr.of_below (hVL.trans (hk.mono (by have := hVL.size; omega))) hBw
    have hF2 : Fr B [] w V3 := Fr.of_below (hVL.trans (hk.mono (by have := hVL.size; omega))) hBw
    refine ⟨rfl, ?_, ?_, (((KeepC.of_fr hF2 (by simp)).set_ _ _).set_ _ _).set_ _ _⟩
    · rw [HLOAD.out]
      exact ((hC3.set_ 4 _).set_ 2 _).set_ 3 _
    · exact ((hF.set_ hC3 (by simp) hBc 4 _).set_ (hC3.set_ 4 _) (by simp) hBc 2 _).set_ ((hC3.set_ 4 _).set_ 2 _) (by simp) hBc 3 _
  | false =>
    rw [hdone] at HD
    have hd2 : dataM d = none := by
      rw [hdata, if_neg]
      intro h
      rw [h.1, h.2] at hdone
      cases hdone
    rw [hd2] at HLOAD
    clear hx hy hdata P1 P2 C3 hdone hd2
    go_quiet (fail)
    obtain ⟨V0, hV0⟩ : ∃ V0, V0 = W3.drewN nq := ⟨_, rfl⟩
    obtain ⟨r, hr⟩ : ∃ r, V0.heap.size = r := ⟨_, rfl⟩
    have hrs : N + 1 < r := by rw [← hr, hV0]; simpa using hNW
    have hVE : Env B0 V0 := by rw [hV0]; exact HE.out.below ((below_drewN L3 nq).mono (by omega))
    have hVL : Below w.heap.size w V0 := by rw [hV0]; exact below_drewN L3 nq
    have hVP : Blk V0 N 62 #[.int .u64 st, .int .i64 0, .int .i64 0, .int .i64 0, .int .i64 1, .string (str d)] := by rw [hV0]; exact Blk.drewN EP1.out nq
    have hVC : Blk V0 c 47 (C.cells db) := by rw [hV0]; exact Blk.drewN EC3.out nq
    have v5 : V0.cell? ⟨N, 5, none⟩ = some (.string (str d)) := by rw [hVP.cell]; rfl
    rw [← hV0]
    clear hV0
    go_wp2_with fail
    refine (HN.out _).mono ?_
    rintro e V1 ⟨rfl, hr1, hV1⟩
    rw [hr] at hr1 hV1 ⊢
    have hB0r : B0 ≤ r := by omega
    have hE1 : Env B0 V1 := hVE.below (hV1.mono hB0r)
    have hz1 : r ≤ V1.heap.size := by have := hV1.size; omega
    go_wp2_with fail
    refine (HI1.out r V1 hE1 (by omega) hB0r hr1).mono ?_
    rintro e V2 ⟨rfl, hr2, hV2⟩
    have hE2 : Env B0 V2 := hE1.below (hV2.below hB0r (by omega))
    have hz2 : r ≤ V2.heap.size := by have := hV2.size; omega
    go_wp2_with fail
    refine (HI2.out r V2 hE2 (by omega) hB0r hr2).mono ?_
    rintro e V3 ⟨rfl, hr3, hV3⟩
    have hz3 : r ≤ V3.heap.size := by have := hV3.size; omega
    have hk : Below r V0 V3 := (hV1.trans (hV2.below (Nat.le_refl r) hz1)).trans (hV3.below (Nat.le_refl r) hz2)
    have hP3 : Blk V3 N 62 #[.int .u64 st, .int .i64 0, .int .i64 0, .int .i64 0, .int .i64 1, .string (str d)] := hVP.below hk (by omega)
    have hC3 : Blk V3 c 47 #[.pointer (some ⟨db, 0, none⟩), .int .i64 C.base, .int .i64 C.time, .int .i64 C.boot, .int .u64 C.n] := Blk.below hVC hk (by omega)
    have u0 := hP3.cell 0
    have u2 := hC3.cell 2
    have u3 := hC3.cell 3
    have u4 := hC3.cell 4
    have q2 := hC3.frozen 2
    have q3 := hC3.frozen 3
    have q4 := hC3.frozen 4
    simp at u0 u2 u3 u4
    go_wp2_with fail
    refine (HD.out r V3 hr3).mono ?_
    rintro e V4 ⟨rfl, rfl⟩
    go_wp2_with fail
    go_end0
    have hF2 : Fr B [] w V3 := Fr.of_below (hVL.trans (hk.mono (by have := hVL.size; omega))) hBw
    refine ⟨rfl, ?_, hF2.mono (Nat.le_refl _) (by simp), KeepC.of_fr hF2 (by simp)⟩
    · rw [HLOAD.out]
      exact hC3
end Go.Proofs.YtnofeblcnamfeaaDoor
