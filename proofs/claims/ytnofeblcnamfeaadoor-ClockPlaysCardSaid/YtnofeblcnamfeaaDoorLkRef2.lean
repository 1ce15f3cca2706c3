/- The document's sector, put together. -/
import Derived.Test.YtnofeblcnamfeaaDoorProg
import Derived.Test.YtnofeblcnamfeaaDoorLkRef
namespace Go.Proofs.YtnofeblcnamfeaaDoor
open Go.RowKit Go.Proofs

theorem made_step {z bx : Nat} {CE : Array Value} {W0 w : World} (hS : Blk W0 bx 59 CE) (HL : Below bx w W0) (hlt : bx < W0.heap.size) :
    (Blk (W0.alloc (.cells (Array.replicate (z * 1) (.int .u8 0)) 5)) bx 59 CE ∧ Blk (W0.alloc (.cells (Array.replicate (z * 1) (.int .u8 0)) 5)) W0.heap.size 5 (u8s (List.replicate z 0)).toArray) ∧
    Below bx w (W0.alloc (.cells (Array.replicate (z * 1) (.int .u8 0)) 5)) ∧ bx < (W0.alloc (.cells (Array.replicate (z * 1) (.int .u8 0)) 5)).heap.size := by
  have e : Array.replicate (z * 1) (Value.int .u8 0) = (u8s (List.replicate z 0)).toArray := by simp [u8s]
  rw [e]
  exact ⟨⟨hS.alloc _, Blk.new _ _ _⟩, HL.alloc (by omega) _, by simp; omega⟩

theorem info_ref : (Tryd.prog.info? 59).map (·.size) = some 6 := by kernel_rfl
/-- A piece as the document says. -/
def refPrint (st ge no ix tt : Nat) (d : List UInt8) : List UInt8 := (((((((be 8 st ++ be 4 ge) ++ be 2 no) ++ be 2 ix) ++ be 2 tt) ++ be 1 d.length) ++ d) ++ List.replicate (37 - d.length) 0) ++ be 8 st

set_option maxRecDepth 100000 in
set_option maxHeartbeats 8000000 in
theorem ref_print (st ge no ix tt : Nat) (d : List UInt8) (w : World) (hst : st < 18446744073709551616) (hge : ge < 4294967296) (hno : no < 4294967296) (hix : ix < 4294967296) (htt : tt < 4294967296) (hd : d.length < 37) :
    Calls Tryd.prog 20 #[.agg #[.int .u64 st, .int .i64 ge, .int .i64 no, .int .i64 ix, .int .i64 tt, .string (str d)]] w fun e w' => e = .returned (.string (str (refPrint st ge no ix tt d))) ∧ Below w.heap.size w w' := by
  have hsd : (str d).size = d.length := str_size d
  have wge : IntKind.u64.wrap (ge : Int) = ge := by rw [IntKind.wrap_u64]; omega
  have wno : IntKind.u64.wrap (no : Int) = no := by rw [IntKind.wrap_u64]; omega
  have wix : IntKind.u64.wrap (ix : Int) = ix := by rw [IntKind.wrap_u64]; omega
  have wtt : IntKind.u64.wrap (tt : Int) = tt := by rw [IntKind.wrap_u64]; omega
  have wdl : IntKind.u64.wrap (d.length : Int) = d.length := by rw [IntKind.wrap_u64]; omega
  obtain ⟨z, hz⟩ : ∃ z, 37 - d.length = z := ⟨_, rfl⟩
  have hz0 : 0 < z := by omega
  have hz37 : z ≤ 37 := by omega
  have wz : IntKind.i64.wrap ((37 : Int) - d.length) = (z : Int) := by rw [IntKind.wrap_i64]; omega
  have HZ := Lib.hid hz
  obtain ⟨bx, hbx⟩ : ∃ bx, w.heap.size = bx := ⟨_, rfl⟩
  have HBX := Lib.hid hbx
  clear hbx hz
  go_enter Tryd.func20, Tryd.ntmps20
  go_wp2
  have L0 : Below bx w (w.alloc (.cells #[.int .u64 st, .int .i64 ge, .int .i64 no, .int .i64 ix, .int .i64 tt, .string (str d)] 59)) := by rw [← HBX.out]; exact (Below.refl _ _).alloc (Nat.le_refl _) _
  have B0 : Blk (w.alloc (.cells #[.int .u64 st, .int .i64 ge, .int .i64 no, .int .i64 ix, .int .i64 tt, .string (str d)] 59)) bx 59 #[.int .u64 st, .int .i64 ge, .int .i64 no, .int .i64 ix, .int .i64 tt, .string (str d)] := by rw [← HBX.out]; exact Blk.new _ _ _
  obtain ⟨W0, hW0⟩ : ∃ W0, W0 = w.alloc (.cells #[.int .u64 st, .int .i64 ge, .int .i64 no, .int .i64 ix, .int .i64 tt, .string (str d)] 59) := ⟨_, rfl⟩
  rw [← hW0] at L0 B0 ⊢
  try rw [HBX.out]
  clear hW0
  have hS : (fun w' : World => Blk w' bx 59 #[.int .u64 st, .int .i64 ge, .int .i64 no, .int .i64 ix, .int .i64 tt, .string (str d)]) W0.drew := B0.drew
  have hz_ : bx < W0.heap.size := B0.lt
  have hlt0 : bx < W0.drew.heap.size := hz_
  have HL0 : Below bx w W0.drew := L0.drew
  refine wp_held (fun w' : World => Blk w' bx 59 #[.int .u64 st, .int .i64 ge, .int .i64 no, .int .i64 ix, .int .i64 tt, .string (str d)]) (by kernel_rfl) ?_
  refine held_take 0 3 (.pointer (some ⟨bx, 0, none⟩)) rfl (by kernel_rfl) (by kernel_rfl) (by kernel_rfl) (fun _ _ _ h => h) hS (fun _ _ => by go_simp) ?_
  simp only [Act.put, List.setIfInBounds_toArray, List.set_cons_succ, List.set_cons_zero]
  refine held_take 1 4 (.int .u64 st) rfl (by kernel_rfl) (by kernel_rfl) (by kernel_rfl) (fun _ _ _ h => h) hS (fun w' h' => by have h1 := Blk.cell h' 0; simp at h1; go_simp) ?_
  simp only [Act.put, List.setIfInBounds_toArray, List.set_cons_succ, List.set_cons_zero]
  refine held_take 3 6 (.pointer (some ⟨bx, 1, none⟩)) rfl (by kernel_rfl) (by kernel_rfl) (by kernel_rfl) (fun _ _ _ h => h) hS (fun _ _ => by go_simp) ?_
  simp only [Act.put, List.setIfInBounds_toArray, List.set_cons_succ, List.set_cons_zero]
  refine held_take 4 7 (.int .i64 ge) rfl (by kernel_rfl) (by kernel_rfl) (by kernel_rfl) (fun _ _ _ h => h) hS (fun w' h' => by have h1 := Blk.cell h' 1; simp at h1; go_simp) ?_
  simp only [Act.put, List.setIfInBounds_toArray, List.set_cons_succ, List.set_cons_zero]
  refine held_take 5 8 (.int .u64 ge) rfl (by kernel_rfl) (by kernel_rfl) (by kernel_rfl) (fun _ _ _ h => h) hS (fun _ _ => by go_simp) ?_
  simp only [Act.put, List.setIfInBounds_toArray, List.set_cons_succ, List.set_cons_zero]
  refine held_take 8 11 (.pointer (some ⟨bx, 2, none⟩)) rfl (by kernel_rfl) (by kernel_rfl) (by kernel_rfl) (fun _ _ _ h => h) hS (fun _ _ => by go_simp) ?_
  simp only [Act.put, List.setIfInBounds_toArray, List.set_cons_succ, List.set_cons_zero]
  refine held_take 9 12 (.int .i64 no) rfl (by kernel_rfl) (by kernel_rfl) (by kernel_rfl) (fun _ _ _ h => h) hS (fun w' h' => by have h1 := Blk.cell h' 2; simp at h1; go_simp) ?_
  simp only [Act.put, List.setIfInBounds_toArray, List.set_cons_succ, List.set_cons_zero]
  refine held_take 10 13 (.int .u64 no) rfl (by kernel_rfl) (by kernel_rfl) (by kernel_rfl) (fun _ _ _ h => h) hS (fun _ _ => by go_simp) ?_
  simp only [Act.put, List.setIfInBounds_toArray, List.set_cons_succ, List.set_cons_zero]
  refine held_take 13 16 (.pointer (some ⟨bx, 3, none⟩)) rfl (by kernel_rfl) (by kernel_rfl) (by kernel_rfl) (fun _ _ _ h => h) hS (fun _ _ => by go_simp) ?_
  simp only [Act.put, List.setIfInBounds_toArray, List.set_cons_succ, List.set_cons_zero]
  refine held_take 14 17 (.int .i64 ix) rfl (by kernel_rfl) (by kernel_rfl) (by kernel_rfl) (fun _ _ _ h => h) hS (fun w' h' => by have h1 := Blk.cell h' 3; simp at h1; go_simp) ?_
  simp only [Act.put, List.setIfInBounds_toArray, List.set_cons_succ, List.set_cons_zero]
  refine held_take 15 18 (.int .u64 ix) rfl (by kernel_rfl) (by kernel_rfl) (by kernel_rfl) (fun _ _ _ h => h) hS (fun _ _ => by go_simp) ?_
  simp only [Act.put, List.setIfInBounds_toArray, List.set_cons_succ, List.set_cons_zero]
  refine held_take 18 21 (.pointer (some ⟨bx, 4, none⟩)) rfl (by kernel_rfl) (by kernel_rfl) (by kernel_rfl) (fun _ _ _ h => h) hS (fun _ _ => by go_simp) ?_
  simp only [Act.put, List.setIfInBounds_toArray, List.set_cons_succ, List.set_cons_zero]
  refine held_take 19 22 (.int .i64 tt) rfl (by kernel_rfl) (by kernel_rfl) (by kernel_rfl) (fun _ _ _ h => h) hS (fun w' h' => by have h1 := Blk.cell h' 4; simp at h1; go_simp) ?_
  simp only [Act.put, List.setIfInBounds_toArray, List.set_cons_succ, List.set_cons_zero]
  refine held_take 20 23 (.int .u64 tt) rfl (by kernel_rfl) (by kernel_rfl) (by kernel_rfl) (fun _ _ _ h => h) hS (fun _ _ => by go_simp) ?_
  simp only [Act.put, List.setIfInBounds_toArray, List.set_cons_succ, List.set_cons_zero]
  refine held_take 23 26 (.pointer (some ⟨bx, 5, none⟩)) rfl (by kernel_rfl) (by kernel_rfl) (by kernel_rfl) (fun _ _ _ h => h) hS (fun _ _ => by go_simp) ?_
  simp only [Act.put, List.setIfInBounds_toArray, List.set_cons_succ, List.set_cons_zero]
  refine held_take 24 27 (.string (str d)) rfl (by kernel_rfl) (by kernel_rfl) (by kernel_rfl) (fun _ _ _ h => h) hS (fun w' h' => by have h1 := Blk.cell h' 5; simp at h1; go_simp) ?_
  simp only [Act.put, List.setIfInBounds_toArray, List.set_cons_succ, List.set_cons_zero]
  refine held_take 25 28 (.int .i64 d.length) rfl (by kernel_rfl) (by kernel_rfl) (by kernel_rfl) (fun _ _ _ h => h) hS (fun _ _ => by go_simp) ?_
  simp only [Act.put, List.setIfInBounds_toArray, List.set_cons_succ, List.set_cons_zero]
  refine held_take 26 29 (.int .u64 d.length) rfl (by kernel_rfl) (by kernel_rfl) (by kernel_rfl) (fun _ _ _ h => h) hS (fun _ _ => by go_simp) ?_
  simp only [Act.put, List.setIfInBounds_toArray, List.set_cons_succ, List.set_cons_zero]
  refine held_take 29 32 (.pointer (some ⟨bx, 5, none⟩)) rfl (by kernel_rfl) (by kernel_rfl) (by kernel_rfl) (fun _ _ _ h => h) hS (fun _ _ => by go_simp) ?_
  simp only [Act.put, List.setIfInBounds_toArray, List.set_cons_succ, List.set_cons_zero]
  refine held_take 30 33 (.string (str d)) rfl (by kernel_rfl) (by kernel_rfl) (by kernel_rfl) (fun _ _ _ h => h) hS (fun w' h' => by have h1 := Blk.cell h' 5; simp at h1; go_simp) ?_
  simp only [Act.put, List.setIfInBounds_toArray, List.set_cons_succ, List.set_cons_zero]
  refine held_take 32 35 (.pointer (some ⟨bx, 5, none⟩)) rfl (by kernel_rfl) (by kernel_rfl) (by kernel_rfl) (fun _ _ _ h => h) hS (fun _ _ => by go_simp) ?_
  simp only [Act.put, List.setIfInBounds_toArray, List.set_cons_succ, List.set_cons_zero]
  refine held_take 33 36 (.string (str d)) rfl (by kernel_rfl) (by kernel_rfl) (by kernel_rfl) (fun _ _ _ h => h) hS (fun w' h' => by have h1 := Blk.cell h' 5; simp at h1; go_simp) ?_
  simp only [Act.put, List.setIfInBounds_toArray, List.set_cons_succ, List.set_cons_zero]
  refine held_take 34 37 (.int .i64 d.length) rfl (by kernel_rfl) (by kernel_rfl) (by kernel_rfl) (fun _ _ _ h => h) hS (fun _ _ => by go_simp) ?_
  simp only [Act.put, List.setIfInBounds_toArray, List.set_cons_succ, List.set_cons_zero]
  refine held_take 35 38 (.int .i64 (z : Int)) rfl (by kernel_rfl) (by kernel_rfl) (by kernel_rfl) (fun _ _ _ h => h) hS (fun _ _ => by go_simp) ?_
  simp only [Act.put, List.setIfInBounds_toArray, List.set_cons_succ, List.set_cons_zero]
  refine held_take 39 42 (.pointer (some ⟨bx, 0, none⟩)) rfl (by kernel_rfl) (by kernel_rfl) (by kernel_rfl) (fun _ _ _ h => h) hS (fun _ _ => by go_simp) ?_
  simp only [Act.put, List.setIfInBounds_toArray, List.set_cons_succ, List.set_cons_zero]
  refine held_take 40 43 (.int .u64 st) rfl (by kernel_rfl) (by kernel_rfl) (by kernel_rfl) (fun _ _ _ h => h) hS (fun w' h' => by have h1 := Blk.cell h' 0; simp at h1; go_simp) ?_
  simp only [Act.put, List.setIfInBounds_toArray, List.set_cons_succ, List.set_cons_zero]
  refine held2 2 36 (by kernel_rfl) ?_ ?_
  · refine op_call 5 rfl (f := 31) (args := #[.int .u64 st, .int .i64 8]) (by go_simp) ((ref_number (st) 8 _ (by omega) (by decide) (by decide)).mono ?_)
    rintro e W ⟨rfl, hb⟩
    have hS' : (fun w' : World => Blk w' bx 59 #[.int .u64 st, .int .i64 ge, .int .i64 no, .int .i64 ix, .int .i64 tt, .string (str d)]) W := Blk.below hS hb hS.lt
    have hlt0 : bx < W.heap.size := hS'.lt
    have HL0 : Below bx w W := HL0.trans (hb.mono (by omega))
    have hS := hS'
    clear hb hS'
    refine ⟨_, rfl, hS, ?_⟩
    simp only [Act.put, List.setIfInBounds_toArray, List.set_cons_succ, List.set_cons_zero]
    refine held2 6 36 (by kernel_rfl) ?_ ?_
    · refine op_call 9 rfl (f := 31) (args := #[.int .u64 ge, .int .i64 4]) (by go_simp) ((ref_number (ge) 4 _ (by omega) (by decide) (by decide)).mono ?_)
      rintro e W ⟨rfl, hb⟩
      have hS' : (fun w' : World => Blk w' bx 59 #[.int .u64 st, .int .i64 ge, .int .i64 no, .int .i64 ix, .int .i64 tt, .string (str d)]) W := Blk.below hS hb hS.lt
      have hlt0 : bx < W.heap.size := hS'.lt
      have HL0 : Below bx w W := HL0.trans (hb.mono (by omega))
      have hS := hS'
      clear hb hS'
      refine ⟨_, rfl, hS, ?_⟩
      simp only [Act.put, List.setIfInBounds_toArray, List.set_cons_succ, List.set_cons_zero]
      refine held_take 7 10 (.string (str ((be 8 st) ++ (be 4 ge)))) rfl (by kernel_rfl) (by kernel_rfl) (by kernel_rfl) (fun _ _ _ h => h) hS (fun _ _ => run_cat _ _ rfl (be 8 st) (be 4 ge) rfl rfl (by simp [be_length]; try omega)) ?_
      simp only [Act.put, List.setIfInBounds_toArray, List.set_cons_succ, List.set_cons_zero]
      refine held2 11 36 (by kernel_rfl) ?_ ?_
      · refine op_call 14 rfl (f := 31) (args := #[.int .u64 no, .int .i64 2]) (by go_simp) ((ref_number (no) 2 _ (by omega) (by decide) (by decide)).mono ?_)
        rintro e W ⟨rfl, hb⟩
        have hS' : (fun w' : World => Blk w' bx 59 #[.int .u64 st, .int .i64 ge, .int .i64 no, .int .i64 ix, .int .i64 tt, .string (str d)]) W := Blk.below hS hb hS.lt
        have hlt0 : bx < W.heap.size := hS'.lt
        have HL0 : Below bx w W := HL0.trans (hb.mono (by omega))
        have hS := hS'
        clear hb hS'
        refine ⟨_, rfl, hS, ?_⟩
        simp only [Act.put, List.setIfInBounds_toArray, List.set_cons_succ, List.set_cons_zero]
        refine held_take 12 15 (.string (str (((be 8 st) ++ be 4 ge) ++ (be 2 no)))) rfl (by kernel_rfl) (by kernel_rfl) (by kernel_rfl) (fun _ _ _ h => h) hS (fun _ _ => run_cat _ _ rfl ((be 8 st) ++ be 4 ge) (be 2 no) rfl rfl (by simp [be_length]; try omega)) ?_
        simp only [Act.put, List.setIfInBounds_toArray, List.set_cons_succ, List.set_cons_zero]
        refine held2 16 36 (by kernel_rfl) ?_ ?_
        · refine op_call 19 rfl (f := 31) (args := #[.int .u64 ix, .int .i64 2]) (by go_simp) ((ref_number (ix) 2 _ (by omega) (by decide) (by decide)).mono ?_)
          rintro e W ⟨rfl, hb⟩
          have hS' : (fun w' : World => Blk w' bx 59 #[.int .u64 st, .int .i64 ge, .int .i64 no, .int .i64 ix, .int .i64 tt, .string (str d)]) W := Blk.below hS hb hS.lt
          have hlt0 : bx < W.heap.size := hS'.lt
          have HL0 : Below bx w W := HL0.trans (hb.mono (by omega))
          have hS := hS'
          clear hb hS'
          refine ⟨_, rfl, hS, ?_⟩
          simp only [Act.put, List.setIfInBounds_toArray, List.set_cons_succ, List.set_cons_zero]
          refine held_take 17 20 (.string (str ((((be 8 st) ++ be 4 ge) ++ be 2 no) ++ (be 2 ix)))) rfl (by kernel_rfl) (by kernel_rfl) (by kernel_rfl) (fun _ _ _ h => h) hS (fun _ _ => run_cat _ _ rfl (((be 8 st) ++ be 4 ge) ++ be 2 no) (be 2 ix) rfl rfl (by simp [be_length]; try omega)) ?_
          simp only [Act.put, List.setIfInBounds_toArray, List.set_cons_succ, List.set_cons_zero]
          refine held2 21 36 (by kernel_rfl) ?_ ?_
          · refine op_call 24 rfl (f := 31) (args := #[.int .u64 tt, .int .i64 2]) (by go_simp) ((ref_number (tt) 2 _ (by omega) (by decide) (by decide)).mono ?_)
            rintro e W ⟨rfl, hb⟩
            have hS' : (fun w' : World => Blk w' bx 59 #[.int .u64 st, .int .i64 ge, .int .i64 no, .int .i64 ix, .int .i64 tt, .string (str d)]) W := Blk.below hS hb hS.lt
            have hlt0 : bx < W.heap.size := hS'.lt
            have HL0 : Below bx w W := HL0.trans (hb.mono (by omega))
            have hS := hS'
            clear hb hS'
            refine ⟨_, rfl, hS, ?_⟩
            simp only [Act.put, List.setIfInBounds_toArray, List.set_cons_succ, List.set_cons_zero]
            refine held_take 22 25 (.string (str (((((be 8 st) ++ be 4 ge) ++ be 2 no) ++ be 2 ix) ++ (be 2 tt)))) rfl (by kernel_rfl) (by kernel_rfl) (by kernel_rfl) (fun _ _ _ h => h) hS (fun _ _ => run_cat _ _ rfl ((((be 8 st) ++ be 4 ge) ++ be 2 no) ++ be 2 ix) (be 2 tt) rfl rfl (by simp [be_length]; try omega)) ?_
            simp only [Act.put, List.setIfInBounds_toArray, List.set_cons_succ, List.set_cons_zero]
            refine held2 27 36 (by kernel_rfl) ?_ ?_
            · refine op_call 30 rfl (f := 31) (args := #[.int .u64 (d.length : Int), .int .i64 1]) (by go_simp) ((ref_number (d.length) 1 _ (by omega) (by decide) (by decide)).mono ?_)
              rintro e W ⟨rfl, hb⟩
              have hS' : (fun w' : World => Blk w' bx 59 #[.int .u64 st, .int .i64 ge, .int .i64 no, .int .i64 ix, .int .i64 tt, .string (str d)]) W := Blk.below hS hb hS.lt
              have hlt0 : bx < W.heap.size := hS'.lt
              have HL0 : Below bx w W := HL0.trans (hb.mono (by omega))
              have hS := hS'
              clear hb hS'
              refine ⟨_, rfl, hS, ?_⟩
              simp only [Act.put, List.setIfInBounds_toArray, List.set_cons_succ, List.set_cons_zero]
              refine held_take 28 31 (.string (str ((((((be 8 st) ++ be 4 ge) ++ be 2 no) ++ be 2 ix) ++ be 2 tt) ++ (be 1 d.length)))) rfl (by kernel_rfl) (by kernel_rfl) (by kernel_rfl) (fun _ _ _ h => h) hS (fun _ _ => run_cat _ _ rfl (((((be 8 st) ++ be 4 ge) ++ be 2 no) ++ be 2 ix) ++ be 2 tt) (be 1 d.length) rfl rfl (by simp [be_length]; try omega)) ?_
              simp only [Act.put, List.setIfInBounds_toArray, List.set_cons_succ, List.set_cons_zero]
              refine held_take 31 34 (.string (str (((((((be 8 st) ++ be 4 ge) ++ be 2 no) ++ be 2 ix) ++ be 2 tt) ++ be 1 d.length) ++ (d)))) rfl (by kernel_rfl) (by kernel_rfl) (by kernel_rfl) (fun _ _ _ h => h) hS (fun _ _ => run_cat _ _ rfl ((((((be 8 st) ++ be 4 ge) ++ be 2 no) ++ be 2 ix) ++ be 2 tt) ++ be 1 d.length) (d) rfl rfl (by simp [be_length]; try omega)) ?_
              simp only [Act.put, List.setIfInBounds_toArray, List.set_cons_succ, List.set_cons_zero]
              refine held2 36 41 (by kernel_rfl) ?_ ?_
              · refine op_at 39 rfl (exec_make 54 5 (.tmp 38) (.tmp 38) rfl und_bytesr (.int .u8 0) 1 1 info_u8r z rfl rfl (by omega) (by omega) (Array.replicate (z * 1) (.int .u8 0)) (madeCells_rep 1 z _ (by decide))) ?_
                refine ⟨Blk.alloc hS _, ?_⟩
                simp only [Act.put, List.setIfInBounds_toArray, List.set_cons_succ, List.set_cons_zero]
                have hm := made_step (z := z) hS HL0 hlt0
                obtain ⟨g, hg⟩ : ∃ g, W.heap.size = g := ⟨_, rfl⟩
                obtain ⟨V, hV⟩ : ∃ V, V = W.alloc (.cells (Array.replicate (z * 1) (.int .u8 0)) 5) := ⟨_, rfl⟩
                rw [hg, ← hV] at hm ⊢
                obtain ⟨hS, HL0, hlt0⟩ := hm
                clear hV hg
                refine held_more (S' := (fun w' : World => Blk w' bx 59 #[.int .u64 st, .int .i64 ge, .int .i64 no, .int .i64 ix, .int .i64 tt, .string (str d)] ∧ Blk w' g 5 (u8s (List.replicate z 0)).toArray)) (fun _ h => h.1) _ _ _ _ ?_
                refine held_take 37 40 (.string (str (List.replicate z 0))) rfl (by kernel_rfl) (by kernel_rfl) (by kernel_rfl) (fun _ _ _ h => h) hS (fun w' h' => by have hcv := run_bytes_str (P := Tryd.prog) (w := w') 54 9 5 (by kernel_rfl) (by kernel_rfl) (by kernel_rfl) g 0 z z (List.replicate z 0) (by simp) (fun j c hc => by rw [Nat.zero_add]; exact blk_u8 h'.2 j c hc); go_simp) ?_
                simp only [Act.put, List.setIfInBounds_toArray, List.set_cons_succ, List.set_cons_zero]
                refine held_take 38 41 (.string (str ((((((((be 8 st) ++ be 4 ge) ++ be 2 no) ++ be 2 ix) ++ be 2 tt) ++ be 1 d.length) ++ d) ++ (List.replicate z 0)))) rfl (by kernel_rfl) (by kernel_rfl) (by kernel_rfl) (fun _ _ _ h => h) hS (fun _ _ => run_cat _ _ rfl (((((((be 8 st) ++ be 4 ge) ++ be 2 no) ++ be 2 ix) ++ be 2 tt) ++ be 1 d.length) ++ d) (List.replicate z 0) rfl rfl (by simp [be_length]; try omega)) ?_
                simp only [Act.put, List.setIfInBounds_toArray, List.set_cons_succ, List.set_cons_zero]
                refine held1 41 (by kernel_rfl) ?_
                refine op_call 44 rfl (f := 31) (args := #[.int .u64 st, .int .i64 8]) (by go_simp) ((ref_number (st) 8 _ (by omega) (by decide) (by decide)).mono ?_)
                rintro e W ⟨rfl, hb⟩
                have hS' : (fun w' : World => Blk w' bx 59 #[.int .u64 st, .int .i64 ge, .int .i64 no, .int .i64 ix, .int .i64 tt, .string (str d)] ∧ Blk w' g 5 (u8s (List.replicate z 0)).toArray) W := ⟨Blk.below hS.1 hb hS.1.lt, Blk.below hS.2 hb hS.2.lt⟩
                have hlt0 : bx < W.heap.size := hS'.1.lt
                have HL0 : Below bx w W := HL0.trans (hb.mono (by omega))
                have hS := hS'
                clear hb hS'
                refine ⟨_, rfl, hS, ?_⟩
                simp only [Act.put, List.setIfInBounds_toArray, List.set_cons_succ, List.set_cons_zero]
                refine held_take 42 45 (.string (str (((((((((be 8 st) ++ be 4 ge) ++ be 2 no) ++ be 2 ix) ++ be 2 tt) ++ be 1 d.length) ++ d) ++ List.replicate z 0) ++ (be 8 st)))) rfl (by kernel_rfl) (by kernel_rfl) (by kernel_rfl) (fun _ _ _ h => h) hS (fun _ _ => run_cat _ _ rfl ((((((((be 8 st) ++ be 4 ge) ++ be 2 no) ++ be 2 ix) ++ be 2 tt) ++ be 1 d.length) ++ d) ++ List.replicate z 0) (be 8 st) rfl rfl (by simp [be_length]; try omega)) ?_
                simp only [Act.put, List.setIfInBounds_toArray, List.set_cons_succ, List.set_cons_zero]
                refine held_take 43 2 (.string (str (((((((((be 8 st) ++ be 4 ge) ++ be 2 no) ++ be 2 ix) ++ be 2 tt) ++ be 1 d.length) ++ d) ++ List.replicate z 0) ++ be 8 st))) rfl (by kernel_rfl) (by kernel_rfl) (by kernel_rfl) (fun _ _ _ h => h) hS (fun _ _ => rfl) ?_
                simp only [Act.put, List.setIfInBounds_toArray, List.set_cons_succ, List.set_cons_zero]
                refine wpAnyH_done (by kernel_rfl) ?_ _
                (go_wp2; go_ret; exact ⟨by unfold refPrint; rw [HZ.out]; simp only [List.append_assoc]; rfl, by rw [HBX.out]; exact HL0⟩)
              · refine op_call 44 rfl (f := 31) (args := #[.int .u64 st, .int .i64 8]) (by go_simp) ((ref_number (st) 8 _ (by omega) (by decide) (by decide)).mono ?_)
                rintro e W ⟨rfl, hb⟩
                have hS' : (fun w' : World => Blk w' bx 59 #[.int .u64 st, .int .i64 ge, .int .i64 no, .int .i64 ix, .int .i64 tt, .string (str d)]) W := Blk.below hS hb hS.lt
                have hlt0 : bx < W.heap.size := hS'.lt
                have HL0 : Below bx w W := HL0.trans (hb.mono (by omega))
                have hS := hS'
                clear hb hS'
                refine ⟨_, rfl, hS, ?_⟩
                simp only [Act.put, List.setIfInBounds_toArray, List.set_cons_succ, List.set_cons_zero]
                refine held1 36 (by kernel_rfl) ?_
                refine op_at 39 rfl (exec_make 54 5 (.tmp 38) (.tmp 38) rfl und_bytesr (.int .u8 0) 1 1 info_u8r z rfl rfl (by omega) (by omega) (Array.replicate (z * 1) (.int .u8 0)) (madeCells_rep 1 z _ (by decide))) ?_
                refine ⟨Blk.alloc hS _, ?_⟩
                simp only [Act.put, List.setIfInBounds_toArray, List.set_cons_succ, List.set_cons_zero]
                have hm := made_step (z := z) hS HL0 hlt0
                obtain ⟨g, hg⟩ : ∃ g, W.heap.size = g := ⟨_, rfl⟩
                obtain ⟨V, hV⟩ : ∃ V, V = W.alloc (.cells (Array.replicate (z * 1) (.int .u8 0)) 5) := ⟨_, rfl⟩
                rw [hg, ← hV] at hm ⊢
                obtain ⟨hS, HL0, hlt0⟩ := hm
                clear hV hg
                refine held_more (S' := (fun w' : World => Blk w' bx 59 #[.int .u64 st, .int .i64 ge, .int .i64 no, .int .i64 ix, .int .i64 tt, .string (str d)] ∧ Blk w' g 5 (u8s (List.replicate z 0)).toArray)) (fun _ h => h.1) _ _ _ _ ?_
                refine held_take 37 40 (.string (str (List.replicate z 0))) rfl (by kernel_rfl) (by kernel_rfl) (by kernel_rfl) (fun _ _ _ h => h) hS (fun w' h' => by have hcv := run_bytes_str (P := Tryd.prog) (w := w') 54 9 5 (by kernel_rfl) (by kernel_rfl) (by kernel_rfl) g 0 z z (List.replicate z 0) (by simp) (fun j c hc => by rw [Nat.zero_add]; exact blk_u8 h'.2 j c hc); go_simp) ?_
                simp only [Act.put, List.setIfInBounds_toArray, List.set_cons_succ, List.set_cons_zero]
                refine held_take 38 41 (.string (str ((((((((be 8 st) ++ be 4 ge) ++ be 2 no) ++ be 2 ix) ++ be 2 tt) ++ be 1 d.length) ++ d) ++ (List.replicate z 0)))) rfl (by kernel_rfl) (by kernel_rfl) (by kernel_rfl) (fun _ _ _ h => h) hS (fun _ _ => run_cat _ _ rfl (((((((be 8 st) ++ be 4 ge) ++ be 2 no) ++ be 2 ix) ++ be 2 tt) ++ be 1 d.length) ++ d) (List.replicate z 0) rfl rfl (by simp [be_length]; try omega)) ?_
                simp only [Act.put, List.setIfInBounds_toArray, List.set_cons_succ, List.set_cons_zero]
                refine held_take 42 45 (.string (str (((((((((be 8 st) ++ be 4 ge) ++ be 2 no) ++ be 2 ix) ++ be 2 tt) ++ be 1 d.length) ++ d) ++ List.replicate z 0) ++ (be 8 st)))) rfl (by kernel_rfl) (by kernel_rfl) (by kernel_rfl) (fun _ _ _ h => h) hS (fun _ _ => run_cat _ _ rfl ((((((((be 8 st) ++ be 4 ge) ++ be 2 no) ++ be 2 ix) ++ be 2 tt) ++ be 1 d.length) ++ d) ++ List.replicate z 0) (be 8 st) rfl rfl (by simp [be_length]; try omega)) ?_
                simp only [Act.put, List.setIfInBounds_toArray, List.set_cons_succ, List.set_cons_zero]
                refine held_take 43 2 (.string (str (((((((((be 8 st) ++ be 4 ge) ++ be 2 no) ++ be 2 ix) ++ be 2 tt) ++ be 1 d.length) ++ d) ++ List.replicate z 0) ++ be 8 st))) rfl (by kernel_rfl) (by kernel_rfl) (by kernel_rfl) (fun _ _ _ h => h) hS (fun _ _ => rfl) ?_
                simp only [Act.put, List.setIfInBounds_toArray, List.set_cons_succ, List.set_cons_zero]
                refine wpAnyH_done (by kernel_rfl) ?_ _
                (go_wp2; go_ret; exact ⟨by unfold refPrint; rw [HZ.out]; simp only [List.append_assoc]; rfl, by rw [HBX.out]; exact HL0⟩)
            · refine op_at 39 rfl (exec_make 54 5 (.tmp 38) (.tmp 38) rfl und_bytesr (.int .u8 0) 1 1 info_u8r z rfl rfl (by omega) (by omega) (Array.replicate (z * 1) (.int .u8 0)) (madeCells_rep 1 z _ (by decide))) ?_
              refine ⟨Blk.alloc hS _, ?_⟩
              simp only [Act.put, List.setIfInBounds_toArray, List.set_cons_succ, List.set_cons_zero]
              have hm := made_step (z := z) hS HL0 hlt0
              obtain ⟨g, hg⟩ : ∃ g, W.heap.size = g := ⟨_, rfl⟩
              obtain ⟨V, hV⟩ : ∃ V, V = W.alloc (.cells (Array.replicate (z * 1) (.int .u8 0)) 5) := ⟨_, rfl⟩
              rw [hg, ← hV] at hm ⊢
              obtain ⟨hS, HL0, hlt0⟩ := hm
              clear hV hg
              refine held_more (S' := (fun w' : World => Blk w' bx 59 #[.int .u64 st, .int .i64 ge, .int .i64 no, .int .i64 ix, .int .i64 tt, .string (str d)] ∧ Blk w' g 5 (u8s (List.replicate z 0)).toArray)) (fun _ h => h.1) _ _ _ _ ?_
              refine held_take 37 40 (.string (str (List.replicate z 0))) rfl (by kernel_rfl) (by kernel_rfl) (by kernel_rfl) (fun _ _ _ h => h) hS (fun w' h' => by have hcv := run_bytes_str (P := Tryd.prog) (w := w') 54 9 5 (by kernel_rfl) (by kernel_rfl) (by kernel_rfl) g 0 z z (List.replicate z 0) (by simp) (fun j c hc => by rw [Nat.zero_add]; exact blk_u8 h'.2 j c hc); go_simp) ?_
              simp only [Act.put, List.setIfInBounds_toArray, List.set_cons_succ, List.set_cons_zero]
              refine held1 27 (by kernel_rfl) ?_
              refine op_call 30 rfl (f := 31) (args := #[.int .u64 (d.length : Int), .int .i64 1]) (by go_simp) ((ref_number (d.length) 1 _ (by omega) (by decide) (by decide)).mono ?_)
              rintro e W ⟨rfl, hb⟩
              have hS' : (fun w' : World => Blk w' bx 59 #[.int .u64 st, .int .i64 ge, .int .i64 no, .int .i64 ix, .int .i64 tt, .string (str d)] ∧ Blk w' g 5 (u8s (List.replicate z 0)).toArray) W := ⟨Blk.below hS.1 hb hS.1.lt, Blk.below hS.2 hb hS.2.lt⟩
              have hlt0 : bx < W.heap.size := hS'.1.lt
              have HL0 : Below bx w W := HL0.trans (hb.mono (by omega))
              have hS := hS'
              clear hb hS'
              refine ⟨_, rfl, hS, ?_⟩
              simp only [Act.put, List.setIfInBounds_toArray, List.set_cons_succ, List.set_cons_zero]
              refine held_take 28 31 (.string (str ((((((be 8 st) ++ be 4 ge) ++ be 2 no) ++ be 2 ix) ++ be 2 tt) ++ (be 1 d.length)))) rfl (by kernel_rfl) (by kernel_rfl) (by kernel_rfl) (fun _ _ _ h => h) hS (fun _ _ => run_cat _ _ rfl (((((be 8 st) ++ be 4 ge) ++ be 2 no) ++ be 2 ix) ++ be 2 tt) (be 1 d.length) rfl rfl (by simp [be_length]; try omega)) ?_
              simp only [Act.put, List.setIfInBounds_toArray, List.set_cons_succ, List.set_cons_zero]
              refine held_take 31 34 (.string (str (((((((be 8 st) ++ be 4 ge) ++ be 2 no) ++ be 2 ix) ++ be 2 tt) ++ be 1 d.length) ++ (d)))) rfl (by kernel_rfl) (by kernel_rfl) (by kernel_rfl) (fun _ _ _ h => h) hS (fun _ _ => run_cat _ _ rfl ((((((be 8 st) ++ be 4 ge) ++ be 2 no) ++ be 2 ix) ++ be 2 tt) ++ be 1 d.length) (d) rfl rfl (by simp [be_length]; try omega)) ?_
              simp only [Act.put, List.setIfInBounds_toArray, List.set_cons_succ, List.set_cons_zero]
              refine held_take 38 41 (.string (str ((((((((be 8 st) ++ be 4 ge) ++ be 2 no) ++ be 2 ix) ++ be 2 tt) ++ be 1 d.length) ++ d) ++ (List.replicate z 0)))) rfl (by kernel_rfl) (by kernel_rfl) (by kernel_rfl) (fun _ _ _ h => h) hS (fun _ _ => run_cat _ _ rfl (((((((be 8 st) ++ be 4 ge) ++ be 2 no) ++ be 2 ix) ++ be 2 tt) ++ be 1 d.length) ++ d) (List.replicate z 0) rfl rfl (by simp [be_length]; try omega)) ?_
              simp only [Act.put, List.setIfInBounds_toArray, List.set_cons_succ, List.set_cons_zero]
              refine held1 41 (by kernel_rfl) ?_
              refine op_call 44 rfl (f := 31) (args := #[.int .u64 st, .int .i64 8]) (by go_simp) ((ref_number (st) 8 _ (by omega) (by decide) (by decide)).mono ?_)
              rintro e W ⟨rfl, hb⟩
              have hS' : (fun w' : World => Blk w' bx 59 #[.int .u64 st, .int .i64 ge, .int .i64 no, .int .i64 ix, .int .i64 tt, .string (str d)] ∧ Blk w' g 5 (u8s (List.replicate z 0)).toArray) W := ⟨Blk.below hS.1 hb hS.1.lt, Blk.below hS.2 hb hS.2.lt⟩
              have hlt0 : bx < W.heap.size := hS'.1.lt
              have HL0 : Below bx w W := HL0.trans (hb.mono (by omega))
              have hS := hS'
              clear hb hS'
              refine ⟨_, rfl, hS, ?_⟩
              simp only [Act.put, List.setIfInBounds_toArray, List.set_cons_succ, List.set_cons_zero]
              refine held_take 42 45 (.string (str (((((((((be 8 st) ++ be 4 ge) ++ be 2 no) ++ be 2 ix) ++ be 2 tt) ++ be 1 d.length) ++ d) ++ List.replicate z 0) ++ (be 8 st)))) rfl (by kernel_rfl) (by kernel_rfl) (by kernel_rfl) (fun _ _ _ h => h) hS (fun _ _ => run_cat _ _ rfl ((((((((be 8 st) ++ be 4 ge) ++ be 2 no) ++ be 2 ix) ++ be 2 tt) ++ be 1 d.length) ++ d) ++ List.replicate z 0) (be 8 st) rfl rfl (by simp [be_length]; try omega)) ?_
              simp only [Act.put, List.setIfInBounds_toArray, List.set_cons_succ, List.set_cons_zero]
              refine held_take 43 2 (.string (str (((((((((be 8 st) ++ be 4 ge) ++ be 2 no) ++ be 2 ix) ++ be 2 tt) ++ be 1 d.length) ++ d) ++ List.replicate z 0) ++ be 8 st))) rfl (by kernel_rfl) (by kernel_rfl) (by kernel_rfl) (fun _ _ _ h => h) hS (fun _ _ => rfl) ?_
              simp only [Act.put, List.setIfInBounds_toArray, List.set_cons_succ, List.set_cons_zero]
              refine wpAnyH_done (by kernel_rfl) ?_ _
              (go_wp2; go_ret; exact ⟨by unfold refPrint; rw [HZ.out]; simp only [List.append_assoc]; rfl, by rw [HBX.out]; exact HL0⟩)
          · refine op_at 39 rfl (exec_make 54 5 (.tmp 38) (.tmp 38) rfl und_bytesr (.int .u8 0) 1 1 info_u8r z rfl rfl (by omega) (by omega) (Array.replicate (z * 1) (.int .u8 0)) (madeCells_rep 1 z _ (by decide))) ?_
            refine ⟨Blk.alloc hS _, ?_⟩
            simp only [Act.put, List.setIfInBounds_toArray, List.set_cons_succ, List.set_cons_zero]
            have hm := made_step (z := z) hS HL0 hlt0
            obtain ⟨g, hg⟩ : ∃ g, W.heap.size = g := ⟨_, rfl⟩
            obtain ⟨V, hV⟩ : ∃ V, V = W.alloc (.cells (Array.replicate (z * 1) (.int .u8 0)) 5) := ⟨_, rfl⟩
            rw [hg, ← hV] at hm ⊢
            obtain ⟨hS, HL0, hlt0⟩ := hm
            clear hV hg
            refine held_more (S' := (fun w' : World => Blk w' bx 59 #[.int .u64 st, .int .i64 ge, .int .i64 no, .int .i64 ix, .int .i64 tt, .string (str d)] ∧ Blk w' g 5 (u8s (List.replicate z 0)).toArray)) (fun _ h => h.1) _ _ _ _ ?_
            refine held_take 37 40 (.string (str (List.replicate z 0))) rfl (by kernel_rfl) (by kernel_rfl) (by kernel_rfl) (fun _ _ _ h => h) hS (fun w' h' => by have hcv := run_bytes_str (P := Tryd.prog) (w := w') 54 9 5 (by kernel_rfl) (by kernel_rfl) (by kernel_rfl) g 0 z z (List.replicate z 0) (by simp) (fun j c hc => by rw [Nat.zero_add]; exact blk_u8 h'.2 j c hc); go_simp) ?_
            simp only [Act.put, List.setIfInBounds_toArray, List.set_cons_succ, List.set_cons_zero]
            refine held1 21 (by kernel_rfl) ?_
            refine op_call 24 rfl (f := 31) (args := #[.int .u64 tt, .int .i64 2]) (by go_simp) ((ref_number (tt) 2 _ (by omega) (by decide) (by decide)).mono ?_)
            rintro e W ⟨rfl, hb⟩
            have hS' : (fun w' : World => Blk w' bx 59 #[.int .u64 st, .int .i64 ge, .int .i64 no, .int .i64 ix, .int .i64 tt, .string (str d)] ∧ Blk w' g 5 (u8s (List.replicate z 0)).toArray) W := ⟨Blk.below hS.1 hb hS.1.lt, Blk.below hS.2 hb hS.2.lt⟩
            have hlt0 : bx < W.heap.size := hS'.1.lt
            have HL0 : Below bx w W := HL0.trans (hb.mono (by omega))
            have hS := hS'
            clear hb hS'
            refine ⟨_, rfl, hS, ?_⟩
            simp only [Act.put, List.setIfInBounds_toArray, List.set_cons_succ, List.set_cons_zero]
            refine held_take 22 25 (.string (str (((((be 8 st) ++ be 4 ge) ++ be 2 no) ++ be 2 ix) ++ (be 2 tt)))) rfl (by kernel_rfl) (by kernel_rfl) (by kernel_rfl) (fun _ _ _ h => h) hS (fun _ _ => run_cat _ _ rfl ((((be 8 st) ++ be 4 ge) ++ be 2 no) ++ be 2 ix) (be 2 tt) rfl rfl (by simp [be_length]; try omega)) ?_
            simp only [Act.put, List.setIfInBounds_toArray, List.set_cons_succ, List.set_cons_zero]
            refine held1 27 (by kernel_rfl) ?_
            refine op_call 30 rfl (f := 31) (args := #[.int .u64 (d.length : Int), .int .i64 1]) (by go_simp) ((ref_number (d.length) 1 _ (by omega) (by decide) (by decide)).mono ?_)
            rintro e W ⟨rfl, hb⟩
            have hS' : (fun w' : World => Blk w' bx 59 #[.int .u64 st, .int .i64 ge, .int .i64 no, .int .i64 ix, .int .i64 tt, .string (str d)] ∧ Blk w' g 5 (u8s (List.replicate z 0)).toArray) W := ⟨Blk.below hS.1 hb hS.1.lt, Blk.below hS.2 hb hS.2.lt⟩
            have hlt0 : bx < W.heap.size := hS'.1.lt
            have HL0 : Below bx w W := HL0.trans (hb.mono (by omega))
            have hS := hS'
            clear hb hS'
            refine ⟨_, rfl, hS, ?_⟩
            simp only [Act.put, List.setIfInBounds_toArray, List.set_cons_succ, List.set_cons_zero]
            refine held_take 28 31 (.string (str ((((((be 8 st) ++ be 4 ge) ++ be 2 no) ++ be 2 ix) ++ be 2 tt) ++ (be 1 d.length)))) rfl (by kernel_rfl) (by kernel_rfl) (by kernel_rfl) (fun _ _ _ h => h) hS (fun _ _ => run_cat _ _ rfl (((((be 8 st) ++ be 4 ge) ++ be 2 no) ++ be 2 ix) ++ be 2 tt) (be 1 d.length) rfl rfl (by simp [be_length]; try omega)) ?_
            simp only [Act.put, List.setIfInBounds_toArray, List.set_cons_succ, List.set_cons_zero]
            refine held_take 31 34 (.string (str (((((((be 8 st) ++ be 4 ge) ++ be 2 no) ++ be 2 ix) ++ be 2 tt) ++ be 1 d.length) ++ (d)))) rfl (by kernel_rfl) (by kernel_rfl) (by kernel_rfl) (fun _ _ _ h => h) hS (fun _ _ => run_cat _ _ rfl ((((((be 8 st) ++ be 4 ge) ++ be 2 no) ++ be 2 ix) ++ be 2 tt) ++ be 1 d.length) (d) rfl rfl (by simp [be_length]; try omega)) ?_
            simp only [Act.put, List.setIfInBounds_toArray, List.set_cons_succ, List.set_cons_zero]
            refine held_take 38 41 (.string (str ((((((((be 8 st) ++ be 4 ge) ++ be 2 no) ++ be 2 ix) ++ be 2 tt) ++ be 1 d.length) ++ d) ++ (List.replicate z 0)))) rfl (by kernel_rfl) (by kernel_rfl) (by kernel_rfl) (fun _ _ _ h => h) hS (fun _ _ => run_cat _ _ rfl (((((((be 8 st) ++ be 4 ge) ++ be 2 no) ++ be 2 ix) ++ be 2 tt) ++ be 1 d.length) ++ d) (List.replicate z 0) rfl rfl (by simp [be_length]; try omega)) ?_
            simp only [Act.put, List.setIfInBounds_toArray, List.set_cons_succ, List.set_cons_zero]
            refine held1 41 (by kernel_rfl) ?_
            refine op_call 44 rfl (f := 31) (args := #[.int .u64 st, .int .i64 8]) (by go_simp) ((ref_number (st) 8 _ (by omega) (by decide) (by decide)).mono ?_)
            rintro e W ⟨rfl, hb⟩
            have hS' : (fun w' : World => Blk w' bx 59 #[.int .u64 st, .int .i64 ge, .int .i64 no, .int .i64 ix, .int .i64 tt, .string (str d)] ∧ Blk w' g 5 (u8s (List.replicate z 0)).toArray) W := ⟨Blk.below hS.1 hb hS.1.lt, Blk.below hS.2 hb hS.2.lt⟩
            have hlt0 : bx < W.heap.size := hS'.1.lt
            have HL0 : Below bx w W := HL0.trans (hb.mono (by omega))
            have hS := hS'
            clear hb hS'
            refine ⟨_, rfl, hS, ?_⟩
            simp only [Act.put, List.setIfInBounds_toArray, List.set_cons_succ, List.set_cons_zero]
            refine held_take 42 45 (.string (str (((((((((be 8 st) ++ be 4 ge) ++ be 2 no) ++ be 2 ix) ++ be 2 tt) ++ be 1 d.length) ++ d) ++ List.replicate z 0) ++ (be 8 st)))) rfl (by kernel_rfl) (by kernel_rfl) (by kernel_rfl) (fun _ _ _ h => h) hS (fun _ _ => run_cat _ _ rfl ((((((((be 8 st) ++ be 4 ge) ++ be 2 no) ++ be 2 ix) ++ be 2 tt) ++ be 1 d.length) ++ d) ++ List.replicate z 0) (be 8 st) rfl rfl (by simp [be_length]; try omega)) ?_
            simp only [Act.put, List.setIfInBounds_toArray, List.set_cons_succ, List.set_cons_zero]
            refine held_take 43 2 (.string (str (((((((((be 8 st) ++ be 4 ge) ++ be 2 no) ++ be 2 ix) ++ be 2 tt) ++ be 1 d.length) ++ d) ++ List.replicate z 0) ++ be 8 st))) rfl (by kernel_rfl) (by kernel_rfl) (by kernel_rfl) (fun _ _ _ h => h) hS (fun _ _ => rfl) ?_
            simp only [Act.put, List.setIfInBounds_toArray, List.set_cons_succ, List.set_cons_zero]
            refine wpAnyH_done (by kernel_rfl) ?_ _
            (go_wp2; go_ret; exact ⟨by unfold refPrint; rw [HZ.out]; simp only [List.append_assoc]; rfl, by rw [HBX.out]; exact HL0⟩)
        · refine op_at 39 rfl (exec_make 54 5 (.tmp 38) (.tmp 38) rfl und_bytesr (.int .u8 0) 1 1 info_u8r z rfl rfl (by omega) (by omega) (Array.replicate (z * 1) (.int .u8 0)) (madeCells_rep 1 z _ (by decide))) ?_
          refine ⟨Blk.alloc hS _, ?_⟩
          simp only [Act.put, List.setIfInBounds_toArray, List.set_cons_succ, List.set_cons_zero]
          have hm := made_step (z := z) hS HL0 hlt0
          obtain ⟨g, hg⟩ : ∃ g, W.heap.size = g := ⟨_, rfl⟩
          obtain ⟨V, hV⟩ : ∃ V, V = W.alloc (.cells (Array.replicate (z * 1) (.int .u8 0)) 5) := ⟨_, rfl⟩
          rw [hg, ← hV] at hm ⊢
          obtain ⟨hS, HL0, hlt0⟩ := hm
          clear hV hg
          refine held_more (S' := (fun w' : World => Blk w' bx 59 #[.int .u64 st, .int .i64 ge, .int .i64 no, .int .i64 ix, .int .i64 tt, .string (str d)] ∧ Blk w' g 5 (u8s (List.replicate z 0)).toArray)) (fun _ h => h.1) _ _ _ _ ?_
          refine held_take 37 40 (.string (str (List.replicate z 0))) rfl (by kernel_rfl) (by kernel_rfl) (by kernel_rfl) (fun _ _ _ h => h) hS (fun w' h' => by have hcv := run_bytes_str (P := Tryd.prog) (w := w') 54 9 5 (by kernel_rfl) (by kernel_rfl) (by kernel_rfl) g 0 z z (List.replicate z 0) (by simp) (fun j c hc => by rw [Nat.zero_add]; exact blk_u8 h'.2 j c hc); go_simp) ?_
          simp only [Act.put, List.setIfInBounds_toArray, List.set_cons_succ, List.set_cons_zero]
          refine held1 16 (by kernel_rfl) ?_
          refine op_call 19 rfl (f := 31) (args := #[.int .u64 ix, .int .i64 2]) (by go_simp) ((ref_number (ix) 2 _ (by omega) (by decide) (by decide)).mono ?_)
          rintro e W ⟨rfl, hb⟩
          have hS' : (fun w' : World => Blk w' bx 59 #[.int .u64 st, .int .i64 ge, .int .i64 no, .int .i64 ix, .int .i64 tt, .string (str d)] ∧ Blk w' g 5 (u8s (List.replicate z 0)).toArray) W := ⟨Blk.below hS.1 hb hS.1.lt, Blk.below hS.2 hb hS.2.lt⟩
          have hlt0 : bx < W.heap.size := hS'.1.lt
          have HL0 : Below bx w W := HL0.trans (hb.mono (by omega))
          have hS := hS'
          clear hb hS'
          refine ⟨_, rfl, hS, ?_⟩
          simp only [Act.put, List.setIfInBounds_toArray, List.set_cons_succ, List.set_cons_zero]
          refine held_take 17 20 (.string (str ((((be 8 st) ++ be 4 ge) ++ be 2 no) ++ (be 2 ix)))) rfl (by kernel_rfl) (by kernel_rfl) (by kernel_rfl) (fun _ _ _ h => h) hS (fun _ _ => run_cat _ _ rfl (((be 8 st) ++ be 4 ge) ++ be 2 no) (be 2 ix) rfl rfl (by simp [be_length]; try omega)) ?_
          simp only [Act.put, List.setIfInBounds_toArray, List.set_cons_succ, List.set_cons_zero]
          refine held1 21 (by kernel_rfl) ?_
          refine op_call 24 rfl (f := 31) (args := #[.int .u64 tt, .int .i64 2]) (by go_simp) ((ref_number (tt) 2 _ (by omega) (by decide) (by decide)).mono ?_)
          rintro e W ⟨rfl, hb⟩
          have hS' : (fun w' : World => Blk w' bx 59 #[.int .u64 st, .int .i64 ge, .int .i64 no, .int .i64 ix, .int .i64 tt, .string (str d)] ∧ Blk w' g 5 (u8s (List.replicate z 0)).toArray) W := ⟨Blk.below hS.1 hb hS.1.lt, Blk.below hS.2 hb hS.2.lt⟩
          have hlt0 : bx < W.heap.size := hS'.1.lt
          have HL0 : Below bx w W := HL0.trans (hb.mono (by omega))
          have hS := hS'
          clear hb hS'
          refine ⟨_, rfl, hS, ?_⟩
          simp only [Act.put, List.setIfInBounds_toArray, List.set_cons_succ, List.set_cons_zero]
          refine held_take 22 25 (.string (str (((((be 8 st) ++ be 4 ge) ++ be 2 no) ++ be 2 ix) ++ (be 2 tt)))) rfl (by kernel_rfl) (by kernel_rfl) (by kernel_rfl) (fun _ _ _ h => h) hS (fun _ _ => run_cat _ _ rfl ((((be 8 st) ++ be 4 ge) ++ be 2 no) ++ be 2 ix) (be 2 tt) rfl rfl (by simp [be_length]; try omega)) ?_
          simp only [Act.put, List.setIfInBounds_toArray, List.set_cons_succ, List.set_cons_zero]
          refine held1 27 (by kernel_rfl) ?_
          refine op_call 30 rfl (f := 31) (args := #[.int .u64 (d.length : Int), .int .i64 1]) (by go_simp) ((ref_number (d.length) 1 _ (by omega) (by decide) (by decide)).mono ?_)
          rintro e W ⟨rfl, hb⟩
          have hS' : (fun w' : World => Blk w' bx 59 #[.int .u64 st, .int .i64 ge, .int .i64 no, .int .i64 ix, .int .i64 tt, .string (str d)] ∧ Blk w' g 5 (u8s (List.replicate z 0)).toArray) W := ⟨Blk.below hS.1 hb hS.1.lt, Blk.below hS.2 hb hS.2.lt⟩
          have hlt0 : bx < W.heap.size := hS'.1.lt
          have HL0 : Below bx w W := HL0.trans (hb.mono (by omega))
          have hS := hS'
          clear hb hS'
          refine ⟨_, rfl, hS, ?_⟩
          simp only [Act.put, List.setIfInBounds_toArray, List.set_cons_succ, List.set_cons_zero]
          refine held_take 28 31 (.string (str ((((((be 8 st) ++ be 4 ge) ++ be 2 no) ++ be 2 ix) ++ be 2 tt) ++ (be 1 d.length)))) rfl (by kernel_rfl) (by kernel_rfl) (by kernel_rfl) (fun _ _ _ h => h) hS (fun _ _ => run_cat _ _ rfl (((((be 8 st) ++ be 4 ge) ++ be 2 no) ++ be 2 ix) ++ be 2 tt) (be 1 d.length) rfl rfl (by simp [be_length]; try omega)) ?_
          simp only [Act.put, List.setIfInBounds_toArray, List.set_cons_succ, List.set_cons_zero]
          refine held_take 31 34 (.string (str (((((((be 8 st) ++ be 4 ge) ++ be 2 no) ++ be 2 ix) ++ be 2 tt) ++ be 1 d.length) ++ (d)))) rfl (by kernel_rfl) (by kernel_rfl) (by kernel_rfl) (fun _ _ _ h => h) hS (fun _ _ => run_cat _ _ rfl ((((((be 8 st) ++ be 4 ge) ++ be 2 no) ++ be 2 ix) ++ be 2 tt) ++ be 1 d.length) (d) rfl rfl (by simp [be_length]; try omega)) ?_
          simp only [Act.put, List.setIfInBounds_toArray, List.set_cons_succ, List.set_cons_zero]
          refine held_take 38 41 (.string (str ((((((((be 8 st) ++ be 4 ge) ++ be 2 no) ++ be 2 ix) ++ be 2 tt) ++ be 1 d.length) ++ d) ++ (List.replicate z 0)))) rfl (by kernel_rfl) (by kernel_rfl) (by kernel_rfl) (fun _ _ _ h => h) hS (fun _ _ => run_cat _ _ rfl (((((((be 8 st) ++ be 4 ge) ++ be 2 no) ++ be 2 ix) ++ be 2 tt) ++ be 1 d.length) ++ d) (List.replicate z 0) rfl rfl (by simp [be_length]; try omega)) ?_
          simp only [Act.put, List.setIfInBounds_toArray, List.set_cons_succ, List.set_cons_zero]
          refine held1 41 (by kernel_rfl) ?_
          refine op_call 44 rfl (f := 31) (args := #[.int .u64 st, .int .i64 8]) (by go_simp) ((ref_number (st) 8 _ (by omega) (by decide) (by decide)).mono ?_)
          rintro e W ⟨rfl, hb⟩
          have hS' : (fun w' : World => Blk w' bx 59 #[.int .u64 st, .int .i64 ge, .int .i64 no, .int .i64 ix, .int .i64 tt, .string (str d)] ∧ Blk w' g 5 (u8s (List.replicate z 0)).toArray) W := ⟨Blk.below hS.1 hb hS.1.lt, Blk.below hS.2 hb hS.2.lt⟩
          have hlt0 : bx < W.heap.size := hS'.1.lt
          have HL0 : Below bx w W := HL0.trans (hb.mono (by omega))
          have hS := hS'
          clear hb hS'
          refine ⟨_, rfl, hS, ?_⟩
          simp only [Act.put, List.setIfInBounds_toArray, List.set_cons_succ, List.set_cons_zero]
          refine held_take 42 45 (.string (str (((((((((be 8 st) ++ be 4 ge) ++ be 2 no) ++ be 2 ix) ++ be 2 tt) ++ be 1 d.length) ++ d) ++ List.replicate z 0) ++ (be 8 st)))) rfl (by kernel_rfl) (by kernel_rfl) (by kernel_rfl) (fun _ _ _ h => h) hS (fun _ _ => run_cat _ _ rfl ((((((((be 8 st) ++ be 4 ge) ++ be 2 no) ++ be 2 ix) ++ be 2 tt) ++ be 1 d.length) ++ d) ++ List.replicate z 0) (be 8 st) rfl rfl (by simp [be_length]; try omega)) ?_
          simp only [Act.put, List.setIfInBounds_toArray, List.set_cons_succ, List.set_cons_zero]
          refine held_take 43 2 (.string (str (((((((((be 8 st) ++ be 4 ge) ++ be 2 no) ++ be 2 ix) ++ be 2 tt) ++ be 1 d.length) ++ d) ++ List.replicate z 0) ++ be 8 st))) rfl (by kernel_rfl) (by kernel_rfl) (by kernel_rfl) (fun _ _ _ h => h) hS (fun _ _ => rfl) ?_
          simp only [Act.put, List.setIfInBounds_toArray, List.set_cons_succ, List.set_cons_zero]
          refine wpAnyH_done (by kernel_rfl) ?_ _
          (go_wp2; go_ret; exact ⟨by unfold refPrint; rw [HZ.out]; simp only [List.append_assoc]; rfl, by rw [HBX.out]; exact HL0⟩)
      · refine op_at 39 rfl (exec_make 54 5 (.tmp 38) (.tmp 38) rfl und_bytesr (.int .u8 0) 1 1 info_u8r z rfl rfl (by omega) (by omega) (Array.replicate (z * 1) (.int .u8 0)) (madeCells_rep 1 z _ (by decide))) ?_
        refine ⟨Blk.alloc hS _, ?_⟩
        simp only [Act.put, List.setIfInBounds_toArray, List.set_cons_succ, List.set_cons_zero]
        have hm := made_step (z := z) hS HL0 hlt0
        obtain ⟨g, hg⟩ : ∃ g, W.heap.size = g := ⟨_, rfl⟩
        obtain ⟨V, hV⟩ : ∃ V, V = W.alloc (.cells (Array.replicate (z * 1) (.int .u8 0)) 5) := ⟨_, rfl⟩
        rw [hg, ← hV] at hm ⊢
        obtain ⟨hS, HL0, hlt0⟩ := hm
        clear hV hg
        refine held_more (S' := (fun w' : World => Blk w' bx 59 #[.int .u64 st, .int .i64 ge, .int .i64 no, .int .i64 ix, .int .i64 tt, .string (str d)] ∧ Blk w' g 5 (u8s (List.replicate z 0)).toArray)) (fun _ h => h.1) _ _ _ _ ?_
        refine held_take 37 40 (.string (str (List.replicate z 0))) rfl (by kernel_rfl) (by kernel_rfl) (by kernel_rfl) (fun _ _ _ h => h) hS (fun w' h' => by have hcv := run_bytes_str (P := Tryd.prog) (w := w') 54 9 5 (by kernel_rfl) (by kernel_rfl) (by kernel_rfl) g 0 z z (List.replicate z 0) (by simp) (fun j c hc => by rw [Nat.zero_add]; exact blk_u8 h'.2 j c hc); go_simp) ?_
        simp only [Act.put, List.setIfInBounds_toArray, List.set_cons_succ, List.set_cons_zero]
        refine held1 11 (by kernel_rfl) ?_
        refine op_call 14 rfl (f := 31) (args := #[.int .u64 no, .int .i64 2]) (by go_simp) ((ref_number (no) 2 _ (by omega) (by decide) (by decide)).mono ?_)
        rintro e W ⟨rfl, hb⟩
        have hS' : (fun w' : World => Blk w' bx 59 #[.int .u64 st, .int .i64 ge, .int .i64 no, .int .i64 ix, .int .i64 tt, .string (str d)] ∧ Blk w' g 5 (u8s (List.replicate z 0)).toArray) W := ⟨Blk.below hS.1 hb hS.1.lt, Blk.below hS.2 hb hS.2.lt⟩
        have hlt0 : bx < W.heap.size := hS'.1.lt
        have HL0 : Below bx w W := HL0.trans (hb.mono (by omega))
        have hS := hS'
        clear hb hS'
        refine ⟨_, rfl, hS, ?_⟩
        simp only [Act.put, List.setIfInBounds_toArray, List.set_cons_succ, List.set_cons_zero]
        refine held_take 12 15 (.string (str (((be 8 st) ++ be 4 ge) ++ (be 2 no)))) rfl (by kernel_rfl) (by kernel_rfl) (by kernel_rfl) (fun _ _ _ h => h) hS (fun _ _ => run_cat _ _ rfl ((be 8 st) ++ be 4 ge) (be 2 no) rfl rfl (by simp [be_length]; try omega)) ?_
        simp only [Act.put, List.setIfInBounds_toArray, List.set_cons_succ, List.set_cons_zero]
        refine held1 16 (by kernel_rfl) ?_
        refine op_call 19 rfl (f := 31) (args := #[.int .u64 ix, .int .i64 2]) (by go_simp) ((ref_number (ix) 2 _ (by omega) (by decide) (by decide)).mono ?_)
        rintro e W ⟨rfl, hb⟩
        have hS' : (fun w' : World => Blk w' bx 59 #[.int .u64 st, .int .i64 ge, .int .i64 no, .int .i64 ix, .int .i64 tt, .string (str d)] ∧ Blk w' g 5 (u8s (List.replicate z 0)).toArray) W := ⟨Blk.below hS.1 hb hS.1.lt, Blk.below hS.2 hb hS.2.lt⟩
        have hlt0 : bx < W.heap.size := hS'.1.lt
        have HL0 : Below bx w W := HL0.trans (hb.mono (by omega))
        have hS := hS'
        clear hb hS'
        refine ⟨_, rfl, hS, ?_⟩
        simp only [Act.put, List.setIfInBounds_toArray, List.set_cons_succ, List.set_cons_zero]
        refine held_take 17 20 (.string (str ((((be 8 st) ++ be 4 ge) ++ be 2 no) ++ (be 2 ix)))) rfl (by kernel_rfl) (by kernel_rfl) (by kernel_rfl) (fun _ _ _ h => h) hS (fun _ _ => run_cat _ _ rfl (((be 8 st) ++ be 4 ge) ++ be 2 no) (be 2 ix) rfl rfl (by simp [be_length]; try omega)) ?_
        simp only [Act.put, List.setIfInBounds_toArray, List.set_cons_succ, List.set_cons_zero]
        refine held1 21 (by kernel_rfl) ?_
        refine op_call 24 rfl (f := 31) (args := #[.int .u64 tt, .int .i64 2]) (by go_simp) ((ref_number (tt) 2 _ (by omega) (by decide) (by decide)).mono ?_)
        rintro e W ⟨rfl, hb⟩
        have hS' : (fun w' : World => Blk w' bx 59 #[.int .u64 st, .int .i64 ge, .int .i64 no, .int .i64 ix, .int .i64 tt, .string (str d)] ∧ Blk w' g 5 (u8s (List.replicate z 0)).toArray) W := ⟨Blk.below hS.1 hb hS.1.lt, Blk.below hS.2 hb hS.2.lt⟩
        have hlt0 : bx < W.heap.size := hS'.1.lt
        have HL0 : Below bx w W := HL0.trans (hb.mono (by omega))
        have hS := hS'
        clear hb hS'
        refine ⟨_, rfl, hS, ?_⟩
        simp only [Act.put, List.setIfInBounds_toArray, List.set_cons_succ, List.set_cons_zero]
        refine held_take 22 25 (.string (str (((((be 8 st) ++ be 4 ge) ++ be 2 no) ++ be 2 ix) ++ (be 2 tt)))) rfl (by kernel_rfl) (by kernel_rfl) (by kernel_rfl) (fun _ _ _ h => h) hS (fun _ _ => run_cat _ _ rfl ((((be 8 st) ++ be 4 ge) ++ be 2 no) ++ be 2 ix) (be 2 tt) rfl rfl (by simp [be_length]; try omega)) ?_
        simp only [Act.put, List.setIfInBounds_toArray, List.set_cons_succ, List.set_cons_zero]
        refine held1 27 (by kernel_rfl) ?_
        refine op_call 30 rfl (f := 31) (args := #[.int .u64 (d.length : Int), .int .i64 1]) (by go_simp) ((ref_number (d.length) 1 _ (by omega) (by decide) (by decide)).mono ?_)
        rintro e W ⟨rfl, hb⟩
        have hS' : (fun w' : World => Blk w' bx 59 #[.int .u64 st, .int .i64 ge, .int .i64 no, .int .i64 ix, .int .i64 tt, .string (str d)] ∧ Blk w' g 5 (u8s (List.replicate z 0)).toArray) W := ⟨Blk.below hS.1 hb hS.1.lt, Blk.below hS.2 hb hS.2.lt⟩
        have hlt0 : bx < W.heap.size := hS'.1.lt
        have HL0 : Below bx w W := HL0.trans (hb.mono (by omega))
        have hS := hS'
        clear hb hS'
        refine ⟨_, rfl, hS, ?_⟩
        simp only [Act.put, List.setIfInBounds_toArray, List.set_cons_succ, List.set_cons_zero]
        refine held_take 28 31 (.string (str ((((((be 8 st) ++ be 4 ge) ++ be 2 no) ++ be 2 ix) ++ be 2 tt) ++ (be 1 d.length)))) rfl (by kernel_rfl) (by kernel_rfl) (by kernel_rfl) (fun _ _ _ h => h) hS (fun _ _ => run_cat _ _ rfl (((((be 8 st) ++ be 4 ge) ++ be 2 no) ++ be 2 ix) ++ be 2 tt) (be 1 d.length) rfl rfl (by simp [be_length]; try omega)) ?_
        simp only [Act.put, List.setIfInBounds_toArray, List.set_cons_succ, List.set_cons_zero]
        refine held_take 31 34 (.string (str (((((((be 8 st) ++ be 4 ge) ++ be 2 no) ++ be 2 ix) ++ be 2 tt) ++ be 1 d.length) ++ (d)))) rfl (by kernel_rfl) (by kernel_rfl) (by kernel_rfl) (fun _ _ _ h => h) hS (fun _ _ => run_cat _ _ rfl ((((((be 8 st) ++ be 4 ge) ++ be 2 no) ++ be 2 ix) ++ be 2 tt) ++ be 1 d.length) (d) rfl rfl (by simp [be_length]; try omega)) ?_
        simp only [Act.put, List.setIfInBounds_toArray, List.set_cons_succ, List.set_cons_zero]
        refine held_take 38 41 (.string (str ((((((((be 8 st) ++ be 4 ge) ++ be 2 no) ++ be 2 ix) ++ be 2 tt) ++ be 1 d.length) ++ d) ++ (List.replicate z 0)))) rfl (by kernel_rfl) (by kernel_rfl) (by kernel_rfl) (fun _ _ _ h => h) hS (fun _ _ => run_cat _ _ rfl (((((((be 8 st) ++ be 4 ge) ++ be 2 no) ++ be 2 ix) ++ be 2 tt) ++ be 1 d.length) ++ d) (List.replicate z 0) rfl rfl (by simp [be_length]; try omega)) ?_
        simp only [Act.put, List.setIfInBounds_toArray, List.set_cons_succ, List.set_cons_zero]
        refine held1 41 (by kernel_rfl) ?_
        refine op_call 44 rfl (f := 31) (args := #[.int .u64 st, .int .i64 8]) (by go_simp) ((ref_number (st) 8 _ (by omega) (by decide) (by decide)).mono ?_)
        rintro e W ⟨rfl, hb⟩
        have hS' : (fun w' : World => Blk w' bx 59 #[.int .u64 st, .int .i64 ge, .int .i64 no, .int .i64 ix, .int .i64 tt, .string (str d)] ∧ Blk w' g 5 (u8s (List.replicate z 0)).toArray) W := ⟨Blk.below hS.1 hb hS.1.lt, Blk.below hS.2 hb hS.2.lt⟩
        have hlt0 : bx < W.heap.size := hS'.1.lt
        have HL0 : Below bx w W := HL0.trans (hb.mono (by omega))
        have hS := hS'
        clear hb hS'
        refine ⟨_, rfl, hS, ?_⟩
        simp only [Act.put, List.setIfInBounds_toArray, List.set_cons_succ, List.set_cons_zero]
        refine held_take 42 45 (.string (str (((((((((be 8 st) ++ be 4 ge) ++ be 2 no) ++ be 2 ix) ++ be 2 tt) ++ be 1 d.length) ++ d) ++ List.replicate z 0) ++ (be 8 st)))) rfl (by kernel_rfl) (by kernel_rfl) (by kernel_rfl) (fun _ _ _ h => h) hS (fun _ _ => run_cat _ _ rfl ((((((((be 8 st) ++ be 4 ge) ++ be 2 no) ++ be 2 ix) ++ be 2 tt) ++ be 1 d.length) ++ d) ++ List.replicate z 0) (be 8 st) rfl rfl (by simp [be_length]; try omega)) ?_
        simp only [Act.put, List.setIfInBounds_toArray, List.set_cons_succ, List.set_cons_zero]
        refine held_take 43 2 (.string (str (((((((((be 8 st) ++ be 4 ge) ++ be 2 no) ++ be 2 ix) ++ be 2 tt) ++ be 1 d.length) ++ d) ++ List.replicate z 0) ++ be 8 st))) rfl (by kernel_rfl) (by kernel_rfl) (by kernel_rfl) (fun _ _ _ h => h) hS (fun _ _ => rfl) ?_
        simp only [Act.put, List.setIfInBounds_toArray, List.set_cons_succ, List.set_cons_zero]
        refine wpAnyH_done (by kernel_rfl) ?_ _
        (go_wp2; go_ret; exact ⟨by unfold refPrint; rw [HZ.out]; simp only [List.append_assoc]; rfl, by rw [HBX.out]; exact HL0⟩)
    · refine op_at 39 rfl (exec_make 54 5 (.tmp 38) (.tmp 38) rfl und_bytesr (.int .u8 0) 1 1 info_u8r z rfl rfl (by omega) (by omega) (Array.replicate (z * 1) (.int .u8 0)) (madeCells_rep 1 z _ (by decide))) ?_
      refine ⟨Blk.alloc hS _, ?_⟩
      simp only [Act.put, List.setIfInBounds_toArray, List.set_cons_succ, List.set_cons_zero]
      have hm := made_step (z := z) hS HL0 hlt0
      obtain ⟨g, hg⟩ : ∃ g, W.heap.size = g := ⟨_, rfl⟩
      obtain ⟨V, hV⟩ : ∃ V, V = W.alloc (.cells (Array.replicate (z * 1) (.int .u8 0)) 5) := ⟨_, rfl⟩
      rw [hg, ← hV] at hm ⊢
      obtain ⟨hS, HL0, hlt0⟩ := hm
      clear hV hg
      refine held_more (S' := (fun w' : World => Blk w' bx 59 #[.int .u64 st, .int .i64 ge, .int .i64 no, .int .i64 ix, .int .i64 tt, .string (str d)] ∧ Blk w' g 5 (u8s (List.replicate z 0)).toArray)) (fun _ h => h.1) _ _ _ _ ?_
      refine held_take 37 40 (.string (str (List.replicate z 0))) rfl (by kernel_rfl) (by kernel_rfl) (by kernel_rfl) (fun _ _ _ h => h) hS (fun w' h' => by have hcv := run_bytes_str (P := Tryd.prog) (w := w') 54 9 5 (by kernel_rfl) (by kernel_rfl) (by kernel_rfl) g 0 z z (List.replicate z 0) (by simp) (fun j c hc => by rw [Nat.zero_add]; exact blk_u8 h'.2 j c hc); go_simp) ?_
      simp only [Act.put, List.setIfInBounds_toArray, List.set_cons_succ, List.set_cons_zero]
      refine held1 6 (by kernel_rfl) ?_
      refine op_call 9 rfl (f := 31) (args := #[.int .u64 ge, .int .i64 4]) (by go_simp) ((ref_number (ge) 4 _ (by omega) (by decide) (by decide)).mono ?_)
      rintro e W ⟨rfl, hb⟩
      have hS' : (fun w' : World => Blk w' bx 59 #[.int .u64 st, .int .i64 ge, .int .i64 no, .int .i64 ix, .int .i64 tt, .string (str d)] ∧ Blk w' g 5 (u8s (List.replicate z 0)).toArray) W := ⟨Blk.below hS.1 hb hS.1.lt, Blk.below hS.2 hb hS.2.lt⟩
      have hlt0 : bx < W.heap.size := hS'.1.lt
      have HL0 : Below bx w W := HL0.trans (hb.mono (by omega))
      have hS := hS'
      clear hb hS'
      refine ⟨_, rfl, hS, ?_⟩
      simp only [Act.put, List.setIfInBounds_toArray, List.set_cons_succ, List.set_cons_zero]
      refine held_take 7 10 (.string (str ((be 8 st) ++ (be 4 ge)))) rfl (by kernel_rfl) (by kernel_rfl) (by kernel_rfl) (fun _ _ _ h => h) hS (fun _ _ => run_cat _ _ rfl (be 8 st) (be 4 ge) rfl rfl (by simp [be_length]; try omega)) ?_
      simp only [Act.put, List.setIfInBounds_toArray, List.set_cons_succ, List.set_cons_zero]
      refine held1 11 (by kernel_rfl) ?_
      refine op_call 14 rfl (f := 31) (args := #[.int .u64 no, .int .i64 2]) (by go_simp) ((ref_number (no) 2 _ (by omega) (by decide) (by decide)).mono ?_)
      rintro e W ⟨rfl, hb⟩
      have hS' : (fun w' : World => Blk w' bx 59 #[.int .u64 st, .int .i64 ge, .int .i64 no, .int .i64 ix, .int .i64 tt, .string (str d)] ∧ Blk w' g 5 (u8s (List.replicate z 0)).toArray) W := ⟨Blk.below hS.1 hb hS.1.lt, Blk.below hS.2 hb hS.2.lt⟩
      have hlt0 : bx < W.heap.size := hS'.1.lt
      have HL0 : Below bx w W := HL0.trans (hb.mono (by omega))
      have hS := hS'
      clear hb hS'
      refine ⟨_, rfl, hS, ?_⟩
      simp only [Act.put, List.setIfInBounds_toArray, List.set_cons_succ, List.set_cons_zero]
      refine held_take 12 15 (.string (str (((be 8 st) ++ be 4 ge) ++ (be 2 no)))) rfl (by kernel_rfl) (by kernel_rfl) (by kernel_rfl) (fun _ _ _ h => h) hS (fun _ _ => run_cat _ _ rfl ((be 8 st) ++ be 4 ge) (be 2 no) rfl rfl (by simp [be_length]; try omega)) ?_
      simp only [Act.put, List.setIfInBounds_toArray, List.set_cons_succ, List.set_cons_zero]
      refine held1 16 (by kernel_rfl) ?_
      refine op_call 19 rfl (f := 31) (args := #[.int .u64 ix, .int .i64 2]) (by go_simp) ((ref_number (ix) 2 _ (by omega) (by decide) (by decide)).mono ?_)
      rintro e W ⟨rfl, hb⟩
      have hS' : (fun w' : World => Blk w' bx 59 #[.int .u64 st, .int .i64 ge, .int .i64 no, .int .i64 ix, .int .i64 tt, .string (str d)] ∧ Blk w' g 5 (u8s (List.replicate z 0)).toArray) W := ⟨Blk.below hS.1 hb hS.1.lt, Blk.below hS.2 hb hS.2.lt⟩
      have hlt0 : bx < W.heap.size := hS'.1.lt
      have HL0 : Below bx w W := HL0.trans (hb.mono (by omega))
      have hS := hS'
      clear hb hS'
      refine ⟨_, rfl, hS, ?_⟩
      simp only [Act.put, List.setIfInBounds_toArray, List.set_cons_succ, List.set_cons_zero]
      refine held_take 17 20 (.string (str ((((be 8 st) ++ be 4 ge) ++ be 2 no) ++ (be 2 ix)))) rfl (by kernel_rfl) (by kernel_rfl) (by kernel_rfl) (fun _ _ _ h => h) hS (fun _ _ => run_cat _ _ rfl (((be 8 st) ++ be 4 ge) ++ be 2 no) (be 2 ix) rfl rfl (by simp [be_length]; try omega)) ?_
      simp only [Act.put, List.setIfInBounds_toArray, List.set_cons_succ, List.set_cons_zero]
      refine held1 21 (by kernel_rfl) ?_
      refine op_call 24 rfl (f := 31) (args := #[.int .u64 tt, .int .i64 2]) (by go_simp) ((ref_number (tt) 2 _ (by omega) (by decide) (by decide)).mono ?_)
      rintro e W ⟨rfl, hb⟩
      have hS' : (fun w' : World => Blk w' bx 59 #[.int .u64 st, .int .i64 ge, .int .i64 no, .int .i64 ix, .int .i64 tt, .string (str d)] ∧ Blk w' g 5 (u8s (List.replicate z 0)).toArray) W := ⟨Blk.below hS.1 hb hS.1.lt, Blk.below hS.2 hb hS.2.lt⟩
      have hlt0 : bx < W.heap.size := hS'.1.lt
      have HL0 : Below bx w W := HL0.trans (hb.mono (by omega))
      have hS := hS'
      clear hb hS'
      refine ⟨_, rfl, hS, ?_⟩
      simp only [Act.put, List.setIfInBounds_toArray, List.set_cons_succ, List.set_cons_zero]
      refine held_take 22 25 (.string (str (((((be 8 st) ++ be 4 ge) ++ be 2 no) ++ be 2 ix) ++ (be 2 tt)))) rfl (by kernel_rfl) (by kernel_rfl) (by kernel_rfl) (fun _ _ _ h => h) hS (fun _ _ => run_cat _ _ rfl ((((be 8 st) ++ be 4 ge) ++ be 2 no) ++ be 2 ix) (be 2 tt) rfl rfl (by simp [be_length]; try omega)) ?_
      simp only [Act.put, List.setIfInBounds_toArray, List.set_cons_succ, List.set_cons_zero]
      refine held1 27 (by kernel_rfl) ?_
      refine op_call 30 rfl (f := 31) (args := #[.int .u64 (d.length : Int), .int .i64 1]) (by go_simp) ((ref_number (d.length) 1 _ (by omega) (by decide) (by decide)).mono ?_)
      rintro e W ⟨rfl, hb⟩
      have hS' : (fun w' : World => Blk w' bx 59 #[.int .u64 st, .int .i64 ge, .int .i64 no, .int .i64 ix, .int .i64 tt, .string (str d)] ∧ Blk w' g 5 (u8s (List.replicate z 0)).toArray) W := ⟨Blk.below hS.1 hb hS.1.lt, Blk.below hS.2 hb hS.2.lt⟩
      have hlt0 : bx < W.heap.size := hS'.1.lt
      have HL0 : Below bx w W := HL0.trans (hb.mono (by omega))
      have hS := hS'
      clear hb hS'
      refine ⟨_, rfl, hS, ?_⟩
      simp only [Act.put, List.setIfInBounds_toArray, List.set_cons_succ, List.set_cons_zero]
      refine held_take 28 31 (.string (str ((((((be 8 st) ++ be 4 ge) ++ be 2 no) ++ be 2 ix) ++ be 2 tt) ++ (be 1 d.length)))) rfl (by kernel_rfl) (by kernel_rfl) (by kernel_rfl) (fun _ _ _ h => h) hS (fun _ _ => run_cat _ _ rfl (((((be 8 st) ++ be 4 ge) ++ be 2 no) ++ be 2 ix) ++ be 2 tt) (be 1 d.length) rfl rfl (by simp [be_length]; try omega)) ?_
      simp only [Act.put, List.setIfInBounds_toArray, List.set_cons_succ, List.set_cons_zero]
      refine held_take 31 34 (.string (str (((((((be 8 st) ++ be 4 ge) ++ be 2 no) ++ be 2 ix) ++ be 2 tt) ++ be 1 d.length) ++ (d)))) rfl (by kernel_rfl) (by kernel_rfl) (by kernel_rfl) (fun _ _ _ h => h) hS (fun _ _ => run_cat _ _ rfl ((((((be 8 st) ++ be 4 ge) ++ be 2 no) ++ be 2 ix) ++ be 2 tt) ++ be 1 d.length) (d) rfl rfl (by simp [be_length]; try omega)) ?_
      simp only [Act.put, List.setIfInBounds_toArray, List.set_cons_succ, List.set_cons_zero]
      refine held_take 38 41 (.string (str ((((((((be 8 st) ++ be 4 ge) ++ be 2 no) ++ be 2 ix) ++ be 2 tt) ++ be 1 d.length) ++ d) ++ (List.replicate z 0)))) rfl (by kernel_rfl) (by kernel_rfl) (by kernel_rfl) (fun _ _ _ h => h) hS (fun _ _ => run_cat _ _ rfl (((((((be 8 st) ++ be 4 ge) ++ be 2 no) ++ be 2 ix) ++ be 2 tt) ++ be 1 d.length) ++ d) (List.replicate z 0) rfl rfl (by simp [be_length]; try omega)) ?_
      simp only [Act.put, List.setIfInBounds_toArray, List.set_cons_succ, List.set_cons_zero]
      refine held1 41 (by kernel_rfl) ?_
      refine op_call 44 rfl (f := 31) (args := #[.int .u64 st, .int .i64 8]) (by go_simp) ((ref_number (st) 8 _ (by omega) (by decide) (by decide)).mono ?_)
      rintro e W ⟨rfl, hb⟩
      have hS' : (fun w' : World => Blk w' bx 59 #[.int .u64 st, .int .i64 ge, .int .i64 no, .int .i64 ix, .int .i64 tt, .string (str d)] ∧ Blk w' g 5 (u8s (List.replicate z 0)).toArray) W := ⟨Blk.below hS.1 hb hS.1.lt, Blk.below hS.2 hb hS.2.lt⟩
      have hlt0 : bx < W.heap.size := hS'.1.lt
      have HL0 : Below bx w W := HL0.trans (hb.mono (by omega))
      have hS := hS'
      clear hb hS'
      refine ⟨_, rfl, hS, ?_⟩
      simp only [Act.put, List.setIfInBounds_toArray, List.set_cons_succ, List.set_cons_zero]
      refine held_take 42 45 (.string (str (((((((((be 8 st) ++ be 4 ge) ++ be 2 no) ++ be 2 ix) ++ be 2 tt) ++ be 1 d.length) ++ d) ++ List.replicate z 0) ++ (be 8 st)))) rfl (by kernel_rfl) (by kernel_rfl) (by kernel_rfl) (fun _ _ _ h => h) hS (fun _ _ => run_cat _ _ rfl ((((((((be 8 st) ++ be 4 ge) ++ be 2 no) ++ be 2 ix) ++ be 2 tt) ++ be 1 d.length) ++ d) ++ List.replicate z 0) (be 8 st) rfl rfl (by simp [be_length]; try omega)) ?_
      simp only [Act.put, List.setIfInBounds_toArray, List.set_cons_succ, List.set_cons_zero]
      refine held_take 43 2 (.string (str (((((((((be 8 st) ++ be 4 ge) ++ be 2 no) ++ be 2 ix) ++ be 2 tt) ++ be 1 d.length) ++ d) ++ List.replicate z 0) ++ be 8 st))) rfl (by kernel_rfl) (by kernel_rfl) (by kernel_rfl) (fun _ _ _ h => h) hS (fun _ _ => rfl) ?_
      simp only [Act.put, List.setIfInBounds_toArray, List.set_cons_succ, List.set_cons_zero]
      refine wpAnyH_done (by kernel_rfl) ?_ _
      (go_wp2; go_ret; exact ⟨by unfold refPrint; rw [HZ.out]; simp only [List.append_assoc]; rfl, by rw [HBX.out]; exact HL0⟩)
  · refine op_at 39 rfl (exec_make 54 5 (.tmp 38) (.tmp 38) rfl und_bytesr (.int .u8 0) 1 1 info_u8r z rfl rfl (by omega) (by omega) (Array.replicate (z * 1) (.int .u8 0)) (madeCells_rep 1 z _ (by decide))) ?_
    refine ⟨Blk.alloc hS _, ?_⟩
    simp only [Act.put, List.setIfInBounds_toArray, List.set_cons_succ, List.set_cons_zero]
    have hm := made_step (z := z) hS HL0 hlt0
    obtain ⟨g, hg⟩ : ∃ g, W0.drew.heap.size = g := ⟨_, rfl⟩
    obtain ⟨V, hV⟩ : ∃ V, V = W0.drew.alloc (.cells (Array.replicate (z * 1) (.int .u8 0)) 5) := ⟨_, rfl⟩
    rw [hg, ← hV] at hm ⊢
    obtain ⟨hS, HL0, hlt0⟩ := hm
    clear hV hg
    refine held_more (S' := (fun w' : World => Blk w' bx 59 #[.int .u64 st, .int .i64 ge, .int .i64 no, .int .i64 ix, .int .i64 tt, .string (str d)] ∧ Blk w' g 5 (u8s (List.replicate z 0)).toArray)) (fun _ h => h.1) _ _ _ _ ?_
    refine held_take 37 40 (.string (str (List.replicate z 0))) rfl (by kernel_rfl) (by kernel_rfl) (by kernel_rfl) (fun _ _ _ h => h) hS (fun w' h' => by have hcv := run_bytes_str (P := Tryd.prog) (w := w') 54 9 5 (by kernel_rfl) (by kernel_rfl) (by kernel_rfl) g 0 z z (List.replicate z 0) (by simp) (fun j c hc => by rw [Nat.zero_add]; exact blk_u8 h'.2 j c hc); go_simp) ?_
    simp only [Act.put, List.setIfInBounds_toArray, List.set_cons_succ, List.set_cons_zero]
    refine held1 2 (by kernel_rfl) ?_
    refine op_call 5 rfl (f := 31) (args := #[.int .u64 st, .int .i64 8]) (by go_simp) ((ref_number (st) 8 _ (by omega) (by decide) (by decide)).mono ?_)
    rintro e W ⟨rfl, hb⟩
    have hS' : (fun w' : World => Blk w' bx 59 #[.int .u64 st, .int .i64 ge, .int .i64 no, .int .i64 ix, .int .i64 tt, .string (str d)] ∧ Blk w' g 5 (u8s (List.replicate z 0)).toArray) W := ⟨Blk.below hS.1 hb hS.1.lt, Blk.below hS.2 hb hS.2.lt⟩
    have hlt0 : bx < W.heap.size := hS'.1.lt
    have HL0 : Below bx w W := HL0.trans (hb.mono (by omega))
    have hS := hS'
    clear hb hS'
    refine ⟨_, rfl, hS, ?_⟩
    simp only [Act.put, List.setIfInBounds_toArray, List.set_cons_succ, List.set_cons_zero]
    refine held1 6 (by kernel_rfl) ?_
    refine op_call 9 rfl (f := 31) (args := #[.int .u64 ge, .int .i64 4]) (by go_simp) ((ref_number (ge) 4 _ (by omega) (by decide) (by decide)).mono ?_)
    rintro e W ⟨rfl, hb⟩
    have hS' : (fun w' : World => Blk w' bx 59 #[.int .u64 st, .int .i64 ge, .int .i64 no, .int .i64 ix, .int .i64 tt, .string (str d)] ∧ Blk w' g 5 (u8s (List.replicate z 0)).toArray) W := ⟨Blk.below hS.1 hb hS.1.lt, Blk.below hS.2 hb hS.2.lt⟩
    have hlt0 : bx < W.heap.size := hS'.1.lt
    have HL0 : Below bx w W := HL0.trans (hb.mono (by omega))
    have hS := hS'
    clear hb hS'
    refine ⟨_, rfl, hS, ?_⟩
    simp only [Act.put, List.setIfInBounds_toArray, List.set_cons_succ, List.set_cons_zero]
    refine held_take 7 10 (.string (str ((be 8 st) ++ (be 4 ge)))) rfl (by kernel_rfl) (by kernel_rfl) (by kernel_rfl) (fun _ _ _ h => h) hS (fun _ _ => run_cat _ _ rfl (be 8 st) (be 4 ge) rfl rfl (by simp [be_length]; try omega)) ?_
    simp only [Act.put, List.setIfInBounds_toArray, List.set_cons_succ, List.set_cons_zero]
    refine held1 11 (by kernel_rfl) ?_
    refine op_call 14 rfl (f := 31) (args := #[.int .u64 no, .int .i64 2]) (by go_simp) ((ref_number (no) 2 _ (by omega) (by decide) (by decide)).mono ?_)
    rintro e W ⟨rfl, hb⟩
    have hS' : (fun w' : World => Blk w' bx 59 #[.int .u64 st, .int .i64 ge, .int .i64 no, .int .i64 ix, .int .i64 tt, .string (str d)] ∧ Blk w' g 5 (u8s (List.replicate z 0)).toArray) W := ⟨Blk.below hS.1 hb hS.1.lt, Blk.below hS.2 hb hS.2.lt⟩
    have hlt0 : bx < W.heap.size := hS'.1.lt
    have HL0 : Below bx w W := HL0.trans (hb.mono (by omega))
    have hS := hS'
    clear hb hS'
    refine ⟨_, rfl, hS, ?_⟩
    simp only [Act.put, List.setIfInBounds_toArray, List.set_cons_succ, List.set_cons_zero]
    refine held_take 12 15 (.string (str (((be 8 st) ++ be 4 ge) ++ (be 2 no)))) rfl (by kernel_rfl) (by kernel_rfl) (by kernel_rfl) (fun _ _ _ h => h) hS (fun _ _ => run_cat _ _ rfl ((be 8 st) ++ be 4 ge) (be 2 no) rfl rfl (by simp [be_length]; try omega)) ?_
    simp only [Act.put, List.setIfInBounds_toArray, List.set_cons_succ, List.set_cons_zero]
    refine held1 16 (by kernel_rfl) ?_
    refine op_call 19 rfl (f := 31) (args := #[.int .u64 ix, .int .i64 2]) (by go_simp) ((ref_number (ix) 2 _ (by omega) (by decide) (by decide)).mono ?_)
    rintro e W ⟨rfl, hb⟩
    have hS' : (fun w' : World => Blk w' bx 59 #[.int .u64 st, .int .i64 ge, .int .i64 no, .int .i64 ix, .int .i64 tt, .string (str d)] ∧ Blk w' g 5 (u8s (List.replicate z 0)).toArray) W := ⟨Blk.below hS.1 hb hS.1.lt, Blk.below hS.2 hb hS.2.lt⟩
    have hlt0 : bx < W.heap.size := hS'.1.lt
    have HL0 : Below bx w W := HL0.trans (hb.mono (by omega))
    have hS := hS'
    clear hb hS'
    refine ⟨_, rfl, hS, ?_⟩
    simp only [Act.put, List.setIfInBounds_toArray, List.set_cons_succ, List.set_cons_zero]
    refine held_take 17 20 (.string (str ((((be 8 st) ++ be 4 ge) ++ be 2 no) ++ (be 2 ix)))) rfl (by kernel_rfl) (by kernel_rfl) (by kernel_rfl) (fun _ _ _ h => h) hS (fun _ _ => run_cat _ _ rfl (((be 8 st) ++ be 4 ge) ++ be 2 no) (be 2 ix) rfl rfl (by simp [be_length]; try omega)) ?_
    simp only [Act.put, List.setIfInBounds_toArray, List.set_cons_succ, List.set_cons_zero]
    refine held1 21 (by kernel_rfl) ?_
    refine op_call 24 rfl (f := 31) (args := #[.int .u64 tt, .int .i64 2]) (by go_simp) ((ref_number (tt) 2 _ (by omega) (by decide) (by decide)).mono ?_)
    rintro e W ⟨rfl, hb⟩
    have hS' : (fun w' : World => Blk w' bx 59 #[.int .u64 st, .int .i64 ge, .int .i64 no, .int .i64 ix, .int .i64 tt, .string (str d)] ∧ Blk w' g 5 (u8s (List.replicate z 0)).toArray) W := ⟨Blk.below hS.1 hb hS.1.lt, Blk.below hS.2 hb hS.2.lt⟩
    have hlt0 : bx < W.heap.size := hS'.1.lt
    have HL0 : Below bx w W := HL0.trans (hb.mono (by omega))
    have hS := hS'
    clear hb hS'
    refine ⟨_, rfl, hS, ?_⟩
    simp only [Act.put, List.setIfInBounds_toArray, List.set_cons_succ, List.set_cons_zero]
    refine held_take 22 25 (.string (str (((((be 8 st) ++ be 4 ge) ++ be 2 no) ++ be 2 ix) ++ (be 2 tt)))) rfl (by kernel_rfl) (by kernel_rfl) (by kernel_rfl) (fun _ _ _ h => h) hS (fun _ _ => run_cat _ _ rfl ((((be 8 st) ++ be 4 ge) ++ be 2 no) ++ be 2 ix) (be 2 tt) rfl rfl (by simp [be_length]; try omega)) ?_
    simp only [Act.put, List.setIfInBounds_toArray, List.set_cons_succ, List.set_cons_zero]
    refine held1 27 (by kernel_rfl) ?_
    refine op_call 30 rfl (f := 31) (args := #[.int .u64 (d.length : Int), .int .i64 1]) (by go_simp) ((ref_number (d.length) 1 _ (by omega) (by decide) (by decide)).mono ?_)
    rintro e W ⟨rfl, hb⟩
    have hS' : (fun w' : World => Blk w' bx 59 #[.int .u64 st, .int .i64 ge, .int .i64 no, .int .i64 ix, .int .i64 tt, .string (str d)] ∧ Blk w' g 5 (u8s (List.replicate z 0)).toArray) W := ⟨Blk.below hS.1 hb hS.1.lt, Blk.below hS.2 hb hS.2.lt⟩
    have hlt0 : bx < W.heap.size := hS'.1.lt
    have HL0 : Below bx w W := HL0.trans (hb.mono (by omega))
    have hS := hS'
    clear hb hS'
    refine ⟨_, rfl, hS, ?_⟩
    simp only [Act.put, List.setIfInBounds_toArray, List.set_cons_succ, List.set_cons_zero]
    refine held_take 28 31 (.string (str ((((((be 8 st) ++ be 4 ge) ++ be 2 no) ++ be 2 ix) ++ be 2 tt) ++ (be 1 d.length)))) rfl (by kernel_rfl) (by kernel_rfl) (by kernel_rfl) (fun _ _ _ h => h) hS (fun _ _ => run_cat _ _ rfl (((((be 8 st) ++ be 4 ge) ++ be 2 no) ++ be 2 ix) ++ be 2 tt) (be 1 d.length) rfl rfl (by simp [be_length]; try omega)) ?_
    simp only [Act.put, List.setIfInBounds_toArray, List.set_cons_succ, List.set_cons_zero]
    refine held_take 31 34 (.string (str (((((((be 8 st) ++ be 4 ge) ++ be 2 no) ++ be 2 ix) ++ be 2 tt) ++ be 1 d.length) ++ (d)))) rfl (by kernel_rfl) (by kernel_rfl) (by kernel_rfl) (fun _ _ _ h => h) hS (fun _ _ => run_cat _ _ rfl ((((((be 8 st) ++ be 4 ge) ++ be 2 no) ++ be 2 ix) ++ be 2 tt) ++ be 1 d.length) (d) rfl rfl (by simp [be_length]; try omega)) ?_
    simp only [Act.put, List.setIfInBounds_toArray, List.set_cons_succ, List.set_cons_zero]
    refine held_take 38 41 (.string (str ((((((((be 8 st) ++ be 4 ge) ++ be 2 no) ++ be 2 ix) ++ be 2 tt) ++ be 1 d.length) ++ d) ++ (List.replicate z 0)))) rfl (by kernel_rfl) (by kernel_rfl) (by kernel_rfl) (fun _ _ _ h => h) hS (fun _ _ => run_cat _ _ rfl (((((((be 8 st) ++ be 4 ge) ++ be 2 no) ++ be 2 ix) ++ be 2 tt) ++ be 1 d.length) ++ d) (List.replicate z 0) rfl rfl (by simp [be_length]; try omega)) ?_
    simp only [Act.put, List.setIfInBounds_toArray, List.set_cons_succ, List.set_cons_zero]
    refine held1 41 (by kernel_rfl) ?_
    refine op_call 44 rfl (f := 31) (args := #[.int .u64 st, .int .i64 8]) (by go_simp) ((ref_number (st) 8 _ (by omega) (by decide) (by decide)).mono ?_)
    rintro e W ⟨rfl, hb⟩
    have hS' : (fun w' : World => Blk w' bx 59 #[.int .u64 st, .int .i64 ge, .int .i64 no, .int .i64 ix, .int .i64 tt, .string (str d)] ∧ Blk w' g 5 (u8s (List.replicate z 0)).toArray) W := ⟨Blk.below hS.1 hb hS.1.lt, Blk.below hS.2 hb hS.2.lt⟩
    have hlt0 : bx < W.heap.size := hS'.1.lt
    have HL0 : Below bx w W := HL0.trans (hb.mono (by omega))
    have hS := hS'
    clear hb hS'
    refine ⟨_, rfl, hS, ?_⟩
    simp only [Act.put, List.setIfInBounds_toArray, List.set_cons_succ, List.set_cons_zero]
    refine held_take 42 45 (.string (str (((((((((be 8 st) ++ be 4 ge) ++ be 2 no) ++ be 2 ix) ++ be 2 tt) ++ be 1 d.length) ++ d) ++ List.replicate z 0) ++ (be 8 st)))) rfl (by kernel_rfl) (by kernel_rfl) (by kernel_rfl) (fun _ _ _ h => h) hS (fun _ _ => run_cat _ _ rfl ((((((((be 8 st) ++ be 4 ge) ++ be 2 no) ++ be 2 ix) ++ be 2 tt) ++ be 1 d.length) ++ d) ++ List.replicate z 0) (be 8 st) rfl rfl (by simp [be_length]; try omega)) ?_
    simp only [Act.put, List.setIfInBounds_toArray, List.set_cons_succ, List.set_cons_zero]
    refine held_take 43 2 (.string (str (((((((((be 8 st) ++ be 4 ge) ++ be 2 no) ++ be 2 ix) ++ be 2 tt) ++ be 1 d.length) ++ d) ++ List.replicate z 0) ++ be 8 st))) rfl (by kernel_rfl) (by kernel_rfl) (by kernel_rfl) (fun _ _ _ h => h) hS (fun _ _ => rfl) ?_
    simp only [Act.put, List.setIfInBounds_toArray, List.set_cons_succ, List.set_cons_zero]
    refine wpAnyH_done (by kernel_rfl) ?_ _
    (go_wp2; go_ret; exact ⟨by unfold refPrint; rw [HZ.out]; simp only [List.append_assoc]; rfl, by rw [HBX.out]; exact HL0⟩)
end Go.Proofs.YtnofeblcnamfeaaDoor
