/- Layer 17: what is written. -/
import Derived.Test.YtnofeblcnamfeaaDoorProg
import Derived.Test.YtnofeblcnamfeaaDoorLkClk2
import Derived.Test.YtnofeblcnamfeaaDoorLkWr2
namespace Go.Proofs.YtnofeblcnamfeaaDoor
open Go.RowKit Go.Proofs

def clkPiece (n : Nat) (time boot : Int) : PieceM := ⟨(n : Int) + 1, 0, 0, 0, 1, intsW [time, boot]⟩
def clkSector (n : Nat) (time boot : Int) : List UInt8 := printM (clkPiece n time boot)
def saveM (D : DiskM) (C : ClkM) (time boot : Int) : Int × DiskM × ClkM :=
  let x := writeM D (C.base + (C.n + 1) % 2) (clkSector C.n time boot)
  if x.1 = 0 then (0, flushM x.2, { C with time := time, boot := boot, n := C.n + 1 }) else (x.1, x.2, C)

theorem printM_length (p : PieceM) (h : p.data.length ≤ 37) : (printM p).length = 64 := by
  simp only [printM, List.length_append, be_length, List.length_cons, List.length_nil, List.length_replicate]
  omega
theorem intsW_ne (l : List Int) (n : Int) : intsW (n :: l) ≠ [] := by
  simp [intsW]
theorem clkPiece_right (n : Nat) (time boot : Int) (h : (intsW [time, boot]).length ≤ 37) : rightM (clkPiece n time boot) = true := by
  simp [rightM, clkPiece, withinB, h]

theorem writeM_off (D : DiskM) (i : Nat) (s : List UInt8) (h : (writeM D i s).1 = 0) : (writeM D i s).2.off = D.off := by
  unfold writeM at h ⊢
  split
  · rfl
  · split
    · rfl
    · rename_i h1 h2
      rw [if_neg h1, if_neg h2] at h
      exact absurd (show (5 : Int) = 0 from h) (by decide)

set_option maxRecDepth 100000 in
set_option maxHeartbeats 2000000 in
theorem clk_save (B0 B db c : Nat) (D : DiskM) (C : ClkM) (time boot : Int) (w : World) (hE : Env B0 w) (hB0 : B0 ≤ B) (hBw : B ≤ w.heap.size) (hBc : B ≤ c) (hD : DiskRep B w db D) (hC : ClkAt w c db C) (hoff : D.off = false) (hcache : D.cache.length < 1000) (hb : C.base + 2 ≤ D.kept.length)
    (hn : C.n < 4611686018427387904) (ht : inInt time) (hbo : inInt boot) (hlen : (intsW [time, boot]).length ≤ 37) :
    Calls Tryd.prog 17 #[.pointer (some ⟨c, 0, none⟩), .int .i64 time, .int .i64 boot] w fun e w' => e = .returned (.int .i64 (saveM D C time boot).1) ∧ DiskRep B w' db (saveM D C time boot).2.1 ∧ ClkAt w' c db (saveM D C time boot).2.2 ∧ Fr B (47 :: diskL) w w' ∧ KeepC c w w' := by
  have HE := Lib.hid hE
  have HC := Lib.hid hC
  have HDK := Lib.hid hD
  clear hE hC hD
  go_enter Tryd.func17, Tryd.ntmps17
  obtain ⟨b, hbb⟩ : ∃ b, w.heap.size = b := ⟨_, rfl⟩
  obtain ⟨W2, hW2⟩ : ∃ W2, W2 = (w.alloc (.cells #[.pointer none, .slice none 0 0] 73)).alloc (.cells #[.int .i64 time, .int .i64 boot] 3) := ⟨_, rfl⟩
  have b1 : Blk W2 b 73 #[.pointer none, .slice none 0 0] := by rw [hW2, ← hbb]; exact (Blk.new w _ _).alloc _
  have b2 : Blk W2 (b + 1) 3 #[.int .i64 time, .int .i64 boot] := by rw [hW2, ← hbb]; have := Blk.new (w.alloc (.cells #[.pointer none, .slice none 0 0] 73)) 3 #[.int .i64 time, .int .i64 boot]; simpa using this
  have L2 : Below b w W2 := by rw [hW2, ← hbb]; exact ((Below.refl _ _).alloc (Nat.le_refl _) _).alloc (by simp) _
  have z2 : b ≤ W2.heap.size := by have := b1.lt; omega
  have hcb : c < b := by rw [← hbb]; exact HC.out.blk.lt
  have hWr : Lib.IsBuilder 73 5 b b (Lib.byteCells []) W2 := Or.inl ⟨Nat.le_refl _, .slice none 0 0, b1, World.ownsRow_nil _ _ _ _, by simp [Value.ownBlock]⟩
  have hBb : B ≤ b := by omega
  have HI := Lib.hid (wr_int B0 b b (b + 1) [] [time, boot] W2 (HE.out.below (L2.mono (by omega))) (by omega) z2 b2 (by intro n hn; simp at hn; rcases hn with rfl | rfl <;> assumption) hWr (by simp))
  obtain ⟨t, hteq⟩ : ∃ t, intsW [time, boot] = t := ⟨_, rfl⟩
  have hcp : clkPiece C.n time boot = ⟨(C.n : Int) + 1, 0, 0, 0, 1, t⟩ := by rw [← hteq]; rfl
  have hright : rightM ⟨(C.n : Int) + 1, 0, 0, 0, 1, t⟩ = true := by rw [← hcp]; exact clkPiece_right _ _ _ hlen
  have htn : t ≠ [] := by rw [← hteq]; exact intsW_ne _ _
  rw [hteq] at hlen
  obtain ⟨s, hs⟩ : ∃ s, printM ⟨(C.n : Int) + 1, 0, 0, 0, 1, t⟩ = s := ⟨_, rfl⟩
  have hs64 : s.length = 64 := by rw [← hs]; exact printM_length _ hlen
  have hsec : clkSector C.n time boot = s := by unfold clkSector; rw [hcp, hs]
  have HPR := Lib.hid (fun W => sec_print ⟨(C.n : Int) + 1, 0, 0, 0, 1, t⟩ W hright (by simp only; omega) (by simp only; omega))
  rw [hs] at HPR
  simp only [PieceM.cells] at HPR
  rw [List.nil_append, hteq] at HI
  obtain ⟨m, hm⟩ : ∃ m, (C.n + 1) % 2 = m := ⟨_, rfl⟩
  have hm2 : m < 2 := by omega
  have hkl : D.kept.length ≤ 4096 := by obtain ⟨_, _, _, h⟩ := HDK.out; exact h.ok.few
  obtain ⟨xe, xD, hx⟩ : ∃ xe xD, writeM D (C.base + m) s = (xe, xD) := ⟨_, _, rfl⟩
  have hsave : saveM D C time boot = if xe = 0 then (0, flushM xD, { C with time := time, boot := boot, n := C.n + 1 }) else (xe, xD, C) := by
    unfold saveM
    rw [hsec, hm]
    simp only [hx]
  have hxoff : xe = 0 → xD.off = false := by
    intro h0
    have := writeM_off D (C.base + m) s (by rw [hx]; exact h0)
    rw [hx] at this
    rw [this]
    exact hoff
  have HSV := Lib.hid hsave
  have HXO := Lib.hid hxoff
  have HX := Lib.hid hx
  have hwn : IntKind.u64.wrap ((C.n : Int) + 1) = (C.n : Int) + 1 := by rw [IntKind.wrap_u64]; omega
  have htm : ((C.n : Int) + 1).tmod 2 = (m : Int) := by rw [Int.tmod_eq_emod_of_nonneg (by omega)]; omega
  have hwm : IntKind.i64.wrap (m : Int) = (m : Int) := by rw [IntKind.wrap_i64]; omega
  have hwu : IntKind.u64.wrap (m : Int) = (m : Int) := by rw [IntKind.wrap_u64]; omega
  have hwb : IntKind.i64.wrap ((C.base : Int) + (m : Int)) = ((C.base + m : Nat) : Int) := by rw [IntKind.wrap_i64]; omega
  have hC2 : Blk W2 c 47 (C.cells db) := Blk.below HC.out L2 hcb
  clear hx hsave hxoff hs hsec hcp hright hteq hm b1 b2 hWr
  go_wp2_with fail
  rw [← hW2]
  clear hW2
  refine HI.out.mono ?_
  rintro e W3 ⟨rfl, hb3, hf3⟩
  have hC3 : Blk W3 c 47 (C.cells db) := hC2.below hf3.below hcb
  have L3 : Below b w W3 := L2.trans hf3.below
  have z3 : b ≤ W3.heap.size := by have := hf3.size; omega
  have HWS := Lib.hid (wr_string b b t W3.drew hb3 htn)
  have k4 := Blk.cell (cs := #[.pointer (some ⟨db, 0, none⟩), .int .i64 C.base, .int .i64 C.time, .int .i64 C.boot, .int .u64 C.n]) hC3 4
  simp at k4
  clear hb3 hf3
  go_wp2
  have hS : (fun w' : World => w'.cell? ⟨c, 4, none⟩ = some (.int .u64 C.n)) W3.drew := k4
  refine wp_held (fun w' : World => w'.cell? ⟨c, 4, none⟩ = some (.int .u64 C.n)) (by kernel_rfl) ?_
  refine held_take 0 20 (.pointer (some ⟨c, 0, none⟩)) rfl (by kernel_rfl) (by kernel_rfl) (by kernel_rfl) (fun _ _ _ h => h) hS (fun _ _ => rfl) ?_
  simp only [Act.put, List.setIfInBounds_toArray, List.set_cons_succ, List.set_cons_zero]
  refine held_take 1 21 (.pointer (some ⟨c, 0, none⟩)) rfl (by kernel_rfl) (by kernel_rfl) (by kernel_rfl) (fun _ _ _ h => h) hS (fun _ _ => by go_simp) ?_
  simp only [Act.put, List.setIfInBounds_toArray, List.set_cons_succ, List.set_cons_zero]
  refine held_take 2 22 (.pointer (some ⟨c, 4, none⟩)) rfl (by kernel_rfl) (by kernel_rfl) (by kernel_rfl) (fun _ _ _ h => h) hS (fun _ _ => by go_simp) ?_
  simp only [Act.put, List.setIfInBounds_toArray, List.set_cons_succ, List.set_cons_zero]
  refine held_take 3 23 (.int .u64 C.n) rfl (by kernel_rfl) (by kernel_rfl) (by kernel_rfl) (fun _ _ _ h => h) hS (fun w' h1 => by go_simp) ?_
  simp only [Act.put, List.setIfInBounds_toArray, List.set_cons_succ, List.set_cons_zero]
  refine held_take 4 24 (.int .u64 ((C.n : Int) + 1)) rfl (by kernel_rfl) (by kernel_rfl) (by kernel_rfl) (fun _ _ _ h => h) hS (fun _ _ => by go_simp) ?_
  simp only [Act.put, List.setIfInBounds_toArray, List.set_cons_succ, List.set_cons_zero]
  refine held_take 5 25 (.pointer (some ⟨b, 0, none⟩)) rfl (by kernel_rfl) (by kernel_rfl) (by kernel_rfl) (fun _ _ _ h => h) hS (fun _ _ => rfl) ?_
  simp only [Act.put, List.setIfInBounds_toArray, List.set_cons_succ, List.set_cons_zero]
  refine held1 6 (by kernel_rfl) (op_call 26 rfl (f := 28) (args := #[.pointer (some ⟨b, 0, none⟩)]) (by go_simp) (HWS.out.mono ?_))
  rintro e W4 ⟨rfl, hb4⟩
  have hC4 : Blk W4 c 47 (C.cells db) := Blk.below (w := W3.drew) hC3 hb4 hcb
  have L4 : Below b w W4 := L3.drew.trans hb4
  have z4 : b ≤ W4.heap.size := by have := L4.size; omega
  have k4 := Blk.cell (cs := #[.pointer (some ⟨db, 0, none⟩), .int .i64 C.base, .int .i64 C.time, .int .i64 C.boot, .int .u64 C.n]) hC4 4
  simp at k4
  refine ⟨_, rfl, k4, ?_⟩
  have hS : (fun w' : World => w'.cell? ⟨c, 4, none⟩ = some (.int .u64 C.n)) W4 := k4
  simp only [Act.put, List.setIfInBounds_toArray, List.set_cons_succ, List.set_cons_zero]
  refine held_take 7 27 (.agg #[.int .u64 ((C.n : Int) + 1), .int .i64 0, .int .i64 0, .int .i64 0, .int .i64 1, .string (str t)]) rfl (by kernel_rfl) (by kernel_rfl) (by kernel_rfl) (fun _ _ _ h => h) hS (fun _ _ => by go_simp) ?_
  simp only [Act.put, List.setIfInBounds_toArray, List.set_cons_succ, List.set_cons_zero]
  refine held1 8 (by kernel_rfl) (op_call 28 rfl (f := 27) (args := #[.agg #[.int .u64 ((C.n : Int) + 1), .int .i64 0, .int .i64 0, .int .i64 0, .int .i64 1, .string (str t)]]) (by go_simp) ((HPR.out W4).mono ?_))
  rintro e W5 ⟨rfl, hb5⟩
  have hC5 : Blk W5 c 47 (C.cells db) := Blk.below hC4 hb5 (by omega)
  have L5 : Below b w W5 := L4.trans (hb5.mono z4)
  have z5 : b ≤ W5.heap.size := by have := L5.size; omega
  have k4 := Blk.cell (cs := #[.pointer (some ⟨db, 0, none⟩), .int .i64 C.base, .int .i64 C.time, .int .i64 C.boot, .int .u64 C.n]) hC5 4
  simp at k4
  refine ⟨_, rfl, k4, ?_⟩
  have hS : (fun w' : World => w'.cell? ⟨c, 4, none⟩ = some (.int .u64 C.n)) W5 := k4
  simp only [Act.put, List.setIfInBounds_toArray, List.set_cons_succ, List.set_cons_zero]
  refine held_take 9 19 (.tuple #[.string (str s), .int .i64 0]) rfl (by kernel_rfl) (by kernel_rfl) (by kernel_rfl) (fun _ _ _ h => h) hS (fun _ _ => rfl) ?_
  simp only [Act.put, List.setIfInBounds_toArray, List.set_cons_succ, List.set_cons_zero]
  refine held_take 10 29 (.string (str s)) rfl (by kernel_rfl) (by kernel_rfl) (by kernel_rfl) (fun _ _ _ h => h) hS (fun _ _ => by go_simp) ?_
  simp only [Act.put, List.setIfInBounds_toArray, List.set_cons_succ, List.set_cons_zero]
  refine held_take 11 30 (.int .i64 0) rfl (by kernel_rfl) (by kernel_rfl) (by kernel_rfl) (fun _ _ _ h => h) hS (fun _ _ => by go_simp) ?_
  simp only [Act.put, List.setIfInBounds_toArray, List.set_cons_succ, List.set_cons_zero]
  refine held_take 12 8 (.string (str s)) rfl (by kernel_rfl) (by kernel_rfl) (by kernel_rfl) (fun _ _ _ h => h) hS (fun _ _ => rfl) ?_
  simp only [Act.put, List.setIfInBounds_toArray, List.set_cons_succ, List.set_cons_zero]
  refine held_take 13 9 (.int .i64 0) rfl (by kernel_rfl) (by kernel_rfl) (by kernel_rfl) (fun _ _ _ h => h) hS (fun _ _ => rfl) ?_
  simp only [Act.put, List.setIfInBounds_toArray, List.set_cons_succ, List.set_cons_zero]
  refine wpAnyH_done (by kernel_rfl) ?_ _
  have F5 : Fr B (47 :: diskL) w W5 := Fr.of_below (by rw [hbb]; exact L5) hBw
  have F5d : Fr B [] w W5 := Fr.of_below (by rw [hbb]; exact L5) hBw
  have HDW := Lib.hid (disk_write (w := W5.drew) (HDK.out.frame F5d.drew (by simp) (by simp) (by simp)) (C.base + m) s (by omega) hs64 hoff hcache (by simp; omega))
  rw [HX.out] at HDW
  simp only at HDW
  clear k4 hS
  go_wp2
  have k0 := Blk.cell (cs := #[.pointer (some ⟨db, 0, none⟩), .int .i64 C.base, .int .i64 C.time, .int .i64 C.boot, .int .u64 C.n]) hC5 0
  have k1 := Blk.cell (cs := #[.pointer (some ⟨db, 0, none⟩), .int .i64 C.base, .int .i64 C.time, .int .i64 C.boot, .int .u64 C.n]) hC5 1
  have k4 := Blk.cell (cs := #[.pointer (some ⟨db, 0, none⟩), .int .i64 C.base, .int .i64 C.time, .int .i64 C.boot, .int .u64 C.n]) hC5 4
  simp at k0 k1 k4
  have hS : (fun w' : World => w'.cell? ⟨c, 0, none⟩ = some (.pointer (some ⟨db, 0, none⟩)) ∧ w'.cell? ⟨c, 1, none⟩ = some (.int .i64 C.base) ∧ w'.cell? ⟨c, 4, none⟩ = some (.int .u64 C.n)) W5.drew := ⟨k0, k1, k4⟩
  refine wp_held (fun w' : World => w'.cell? ⟨c, 0, none⟩ = some (.pointer (some ⟨db, 0, none⟩)) ∧ w'.cell? ⟨c, 1, none⟩ = some (.int .i64 C.base) ∧ w'.cell? ⟨c, 4, none⟩ = some (.int .u64 C.n)) (by kernel_rfl) ?_
  refine held_take 0 34 (.pointer (some ⟨c, 0, none⟩)) rfl (by kernel_rfl) (by kernel_rfl) (by kernel_rfl) (fun _ _ _ h => h) hS (fun _ _ => rfl) ?_
  simp only [Act.put, List.setIfInBounds_toArray, List.set_cons_succ, List.set_cons_zero]
  refine held_take 1 35 (.pointer (some ⟨c, 0, none⟩)) rfl (by kernel_rfl) (by kernel_rfl) (by kernel_rfl) (fun _ _ _ h => h) hS (fun _ _ => by go_simp) ?_
  simp only [Act.put, List.setIfInBounds_toArray, List.set_cons_succ, List.set_cons_zero]
  refine held_take 2 36 (.pointer (some ⟨c, 0, none⟩)) rfl (by kernel_rfl) (by kernel_rfl) (by kernel_rfl) (fun _ _ _ h => h) hS (fun _ _ => by go_simp) ?_
  simp only [Act.put, List.setIfInBounds_toArray, List.set_cons_succ, List.set_cons_zero]
  refine held_take 3 37 (.pointer (some ⟨db, 0, none⟩)) rfl (by kernel_rfl) (by kernel_rfl) (by kernel_rfl) (fun _ _ _ h => h) hS (fun w' h' => by have h1 := h'.1; go_simp) ?_
  simp only [Act.put, List.setIfInBounds_toArray, List.set_cons_succ, List.set_cons_zero]
  refine held_take 4 38 (.pointer (some ⟨c, 0, none⟩)) rfl (by kernel_rfl) (by kernel_rfl) (by kernel_rfl) (fun _ _ _ h => h) hS (fun _ _ => rfl) ?_
  simp only [Act.put, List.setIfInBounds_toArray, List.set_cons_succ, List.set_cons_zero]
  refine held_take 5 39 (.pointer (some ⟨c, 0, none⟩)) rfl (by kernel_rfl) (by kernel_rfl) (by kernel_rfl) (fun _ _ _ h => h) hS (fun _ _ => by go_simp) ?_
  simp only [Act.put, List.setIfInBounds_toArray, List.set_cons_succ, List.set_cons_zero]
  refine held_take 6 40 (.pointer (some ⟨c, 1, none⟩)) rfl (by kernel_rfl) (by kernel_rfl) (by kernel_rfl) (fun _ _ _ h => h) hS (fun _ _ => by go_simp) ?_
  simp only [Act.put, List.setIfInBounds_toArray, List.set_cons_succ, List.set_cons_zero]
  refine held_take 7 41 (.int .i64 C.base) rfl (by kernel_rfl) (by kernel_rfl) (by kernel_rfl) (fun _ _ _ h => h) hS (fun w' h' => by have h1 := h'.2.1; go_simp) ?_
  simp only [Act.put, List.setIfInBounds_toArray, List.set_cons_succ, List.set_cons_zero]
  refine held_take 8 42 (.pointer (some ⟨c, 0, none⟩)) rfl (by kernel_rfl) (by kernel_rfl) (by kernel_rfl) (fun _ _ _ h => h) hS (fun _ _ => rfl) ?_
  simp only [Act.put, List.setIfInBounds_toArray, List.set_cons_succ, List.set_cons_zero]
  refine held_take 9 43 (.pointer (some ⟨c, 0, none⟩)) rfl (by kernel_rfl) (by kernel_rfl) (by kernel_rfl) (fun _ _ _ h => h) hS (fun _ _ => by go_simp) ?_
  simp only [Act.put, List.setIfInBounds_toArray, List.set_cons_succ, List.set_cons_zero]
  refine held_take 10 44 (.pointer (some ⟨c, 4, none⟩)) rfl (by kernel_rfl) (by kernel_rfl) (by kernel_rfl) (fun _ _ _ h => h) hS (fun _ _ => by go_simp) ?_
  simp only [Act.put, List.setIfInBounds_toArray, List.set_cons_succ, List.set_cons_zero]
  refine held_take 11 45 (.int .u64 C.n) rfl (by kernel_rfl) (by kernel_rfl) (by kernel_rfl) (fun _ _ _ h => h) hS (fun w' h' => by have h1 := h'.2.2; go_simp) ?_
  simp only [Act.put, List.setIfInBounds_toArray, List.set_cons_succ, List.set_cons_zero]
  refine held_take 12 46 (.int .u64 ((C.n : Int) + 1)) rfl (by kernel_rfl) (by kernel_rfl) (by kernel_rfl) (fun _ _ _ h => h) hS (fun _ _ => by go_simp) ?_
  simp only [Act.put, List.setIfInBounds_toArray, List.set_cons_succ, List.set_cons_zero]
  refine held_take 13 47 (.int .u64 (m : Int)) rfl (by kernel_rfl) (by kernel_rfl) (by kernel_rfl) (fun _ _ _ h => h) hS (fun _ _ => by go_simp) ?_
  simp only [Act.put, List.setIfInBounds_toArray, List.set_cons_succ, List.set_cons_zero]
  refine held_take 14 48 (.int .i64 (m : Int)) rfl (by kernel_rfl) (by kernel_rfl) (by kernel_rfl) (fun _ _ _ h => h) hS (fun _ _ => by go_simp) ?_
  simp only [Act.put, List.setIfInBounds_toArray, List.set_cons_succ, List.set_cons_zero]
  refine held_take 15 49 (.int .i64 ((C.base + m : Nat) : Int)) rfl (by kernel_rfl) (by kernel_rfl) (by kernel_rfl) (fun _ _ _ h => h) hS (fun _ _ => by go_simp) ?_
  simp only [Act.put, List.setIfInBounds_toArray, List.set_cons_succ, List.set_cons_zero]
  refine held_take 16 50 (.string (str s)) rfl (by kernel_rfl) (by kernel_rfl) (by kernel_rfl) (fun _ _ _ h => h) hS (fun _ _ => rfl) ?_
  simp only [Act.put, List.setIfInBounds_toArray, List.set_cons_succ, List.set_cons_zero]
  refine held1 17 (by kernel_rfl) (op_call 51 rfl (f := 29) (args := #[.pointer (some ⟨db, 0, none⟩), .int .i64 ((C.base + m : Nat) : Int), .string (str s)]) (by go_simp) (HDW.out.mono ?_))
  rintro e W6 ⟨rfl, hD6, hf6⟩
  have G6 : KeepC c w W6 := (KeepC.of_fr F5d.drew (by simp)).trans (KeepC.of_fr hf6 (by decide))
  have hC6 : Blk W6 c 47 #[.pointer (some ⟨db, 0, none⟩), .int .i64 C.base, .int .i64 C.time, .int .i64 C.boot, .int .u64 C.n] := hf6.blk (Blk.drew hC5) (by decide)
  have F6 : Fr B (47 :: diskL) w W6 := F5.drew.trans (hf6.mono (Nat.le_refl _) (fun t h => List.mem_cons_of_mem _ h))
  have z6 : B ≤ W6.heap.size := by have := F6.size; omega
  have k0 := hC6.cell 0
  have k1 := hC6.cell 1
  have k4 := hC6.cell 4
  simp at k0 k1 k4
  refine ⟨_, rfl, ⟨k0, k1, k4⟩, ?_⟩
  have hS : (fun w' : World => w'.cell? ⟨c, 0, none⟩ = some (.pointer (some ⟨db, 0, none⟩)) ∧ w'.cell? ⟨c, 1, none⟩ = some (.int .i64 C.base) ∧ w'.cell? ⟨c, 4, none⟩ = some (.int .u64 C.n)) W6 := ⟨k0, k1, k4⟩
  simp only [Act.put, List.setIfInBounds_toArray, List.set_cons_succ, List.set_cons_zero]
  refine held_take 18 10 (.int .i64 xe) rfl (by kernel_rfl) (by kernel_rfl) (by kernel_rfl) (fun _ _ _ h => h) hS (fun _ _ => rfl) ?_
  simp only [Act.put, List.setIfInBounds_toArray, List.set_cons_succ, List.set_cons_zero]
  refine wpAnyH_done (by kernel_rfl) ?_ _
  by_cases h0 : xe = 0
  · have HF := Lib.hid (disk_flush hD6 (HXO.out h0) z6)
    have HS2 : Hid (saveM D C time boot = (0, flushM xD, { C with time := time, boot := boot, n := C.n + 1 })) := Lib.hid (by rw [HSV.out, if_pos h0])
    subst h0
    clear hD6 hS
    go_wp2_with fail
    refine HF.out.mono ?_
    rintro e W7 ⟨rfl, hD7, hf7⟩
    have hC7 : Blk W7 c 47 #[.pointer (some ⟨db, 0, none⟩), .int .i64 C.base, .int .i64 C.time, .int .i64 C.boot, .int .u64 C.n] := hf7.blk hC6 (by decide)
    have F7 : Fr B (47 :: diskL) w W7 := F6.trans (hf7.mono (Nat.le_refl _) (fun t h => List.mem_cons_of_mem _ h))
    have u2 := hC7.cell 2
    have u3 := hC7.cell 3
    have u4 := hC7.cell 4
    have q2 := hC7.frozen 2
    have q3 := hC7.frozen 3
    have q4 := hC7.frozen 4
    simp at u2 u3 u4
    have HC7 := Lib.hid hC7
    clear hC7 k0 k1 k4
    go_wp2_with fail
    go_ret
    rw [HS2.out]
    have g4 := HC7.out.set_ 4 (.int .u64 ((C.n : Int) + 1))
    have g2 := g4.set_ 2 (.int .i64 time)
    have g3 := g2.set_ 3 (.int .i64 boot)
    refine ⟨rfl, ?_, g3, ?_, (((G6.trans (KeepC.of_fr hf7 (by decide))).set_ _ _).set_ _ _).set_ _ _⟩
    · have hfc : Fr B [47] W7 (((W7.setCell ⟨c, 4, none⟩ (.int .u64 ((C.n : Int) + 1))).setCell ⟨c, 2, none⟩ (.int .i64 time)).setCell ⟨c, 3, none⟩ (.int .i64 boot)) :=
        (((Fr.refl _ _ _).set_ HC7.out (by simp) hBc 4 _).set_ g4 (by simp) hBc 2 _).set_ g2 (by simp) hBc 3 _
      exact hD7.frame hfc (by decide) (by decide) (by decide)
    · exact ((F7.set_ HC7.out (by simp) hBc 4 _).set_ g4 (by simp) hBc 2 _).set_ g2 (by simp) hBc 3 _
  · have HS2 : Hid (saveM D C time boot = (xe, xD, C)) := Lib.hid (by rw [HSV.out, if_neg h0])
    clear hS
    go_wp2_with fail
    go_ret
    rw [HS2.out]
    exact ⟨rfl, hD6, hC6, F6, G6⟩
end Go.Proofs.YtnofeblcnamfeaaDoor
