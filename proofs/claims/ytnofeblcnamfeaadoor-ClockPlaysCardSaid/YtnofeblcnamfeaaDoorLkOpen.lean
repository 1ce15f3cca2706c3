/- Layer 17: Now, Boot, Tick, Open. -/
import Derived.Test.YtnofeblcnamfeaaDoorProg
import Derived.Test.YtnofeblcnamfeaaDoorLkSave
namespace Go.Proofs.YtnofeblcnamfeaaDoor
open Go.RowKit Go.Proofs

set_option maxHeartbeats 400000 in
theorem clk_now (c db : Nat) (C : ClkM) (w : World) (hC : ClkAt w c db C) :
    Calls Tryd.prog 9 #[.pointer (some ⟨c, 0, none⟩)] w fun e w' => e = .returned (.int .i64 C.time) ∧ w = w' := by
  have k2 := hC.blk.cell 2
  simp at k2
  go_enter Tryd.func9, Tryd.ntmps9
  go_wp2
  go_ret
  exact ⟨rfl, rfl⟩
set_option maxHeartbeats 400000 in
theorem clk_now_nil (w : World) :
    Calls Tryd.prog 9 #[.pointer none] w fun e w' => e = .returned (.int .i64 0) ∧ w = w' := by
  go_enter Tryd.func9, Tryd.ntmps9
  go_wp2
  go_ret
  exact ⟨rfl, rfl⟩
set_option maxHeartbeats 400000 in
theorem clk_boot (c db : Nat) (C : ClkM) (w : World) (hC : ClkAt w c db C) (h0 : 0 ≤ C.boot) (h1 : C.boot < 4294967296) :
    Calls Tryd.prog 10 #[.pointer (some ⟨c, 0, none⟩)] w fun e w' => e = .returned (.int .u32 C.boot) ∧ w = w' := by
  have k3 := hC.blk.cell 3
  simp at k3
  have hw : IntKind.u32.wrap C.boot = C.boot := by rw [IntKind.wrap_u32]; omega
  go_enter Tryd.func10, Tryd.ntmps10
  go_wp2
  go_ret
  exact ⟨rfl, rfl⟩
set_option maxHeartbeats 400000 in
theorem clk_boot_nil (w : World) :
    Calls Tryd.prog 10 #[.pointer none] w fun e w' => e = .returned (.int .u32 0) ∧ w = w' := by
  go_enter Tryd.func10, Tryd.ntmps10
  go_wp2
  go_ret
  exact ⟨rfl, rfl⟩
set_option maxHeartbeats 400000 in
theorem clk_tick_nil (w : World) :
    Calls Tryd.prog 11 #[.pointer none] w fun e w' => e = .returned (.int .i64 8) ∧ w = w' := by
  go_enter Tryd.func11, Tryd.ntmps11
  go_wp2
  go_ret
  exact ⟨rfl, rfl⟩

/-- What a save asks of the numbers. -/
structure SaveOk (D : DiskM) (C : ClkM) (time boot : Int) : Prop where
  off : D.off = false
  few : D.cache.length < 1000
  base : C.base + 2 ≤ D.kept.length
  n : C.n < 4611686018427387904
  tin : inInt time
  bin : inInt boot
  len : (intsW [time, boot]).length ≤ 37

set_option maxRecDepth 100000 in
set_option maxHeartbeats 2000000 in
theorem clk_tick (B0 B db c : Nat) (D : DiskM) (C : ClkM) (w : World) (hE : Env B0 w) (hB0 : B0 ≤ B) (hBw : B ≤ w.heap.size) (hBc : B ≤ c) (hD : DiskRep B w db D) (hC : ClkAt w c db C) (hs : SaveOk D C (C.time + 1) C.boot) (ht : C.time < 1000) (ht0 : 0 ≤ C.time) :
    Calls Tryd.prog 11 #[.pointer (some ⟨c, 0, none⟩)] w fun e w' => e = .returned (.int .i64 (saveM D C (C.time + 1) C.boot).1) ∧ DiskRep B w' db (saveM D C (C.time + 1) C.boot).2.1 ∧ ClkAt w' c db (saveM D C (C.time + 1) C.boot).2.2 ∧ Fr B (47 :: diskL) w w' ∧ KeepC c w w' := by
  have k2 := hC.blk.cell 2
  have k3 := hC.blk.cell 3
  simp at k2 k3
  have HSV := Lib.hid (clk_save B0 B db c D C (C.time + 1) C.boot w.drew (hE.below (Below.refl _ _).drew) hB0 hBw hBc (hD.frame (Fr.refl B [] w).drew (by simp) (by simp) (by simp)) hC hs.off hs.few hs.base hs.n hs.tin hs.bin hs.len)
  have hwt : IntKind.i64.wrap (C.time + 1) = C.time + 1 := by rw [IntKind.wrap_i64]; omega
  clear hE hD hC hs
  obtain ⟨S, hS⟩ : ∃ S, saveM D C (C.time + 1) C.boot = S := ⟨_, rfl⟩
  rw [hS] at HSV ⊢
  go_enter Tryd.func11, Tryd.ntmps11
  go_wp2
  refine wp_still_then 10 2 (by kernel_rfl) (by kernel_rfl) ?_
  simp only [List.take_succ_cons, List.take_zero]
  repeat still_step
  refine wpStill_nil ?_
  refine any1 10 (by kernel_rfl) (op_call 22 rfl (f := 17) (args := #[.pointer (some ⟨c, 0, none⟩), .int .i64 (C.time + 1), .int .i64 C.boot]) (by go_simp) (HSV.out.mono ?_))
  rintro e W1 ⟨rfl, hD1, hC1, hf1, hk1⟩
  refine ⟨_, rfl, ?_⟩
  simp only [Act.put, List.setIfInBounds_toArray, List.set_cons_succ, List.set_cons_zero]
  refine any1 11 (by kernel_rfl) (op_at 2 rfl (v := .int .i64 S.1) rfl ?_)
  simp only [Act.put, List.setIfInBounds_toArray, List.set_cons_succ, List.set_cons_zero]
  refine wpAny_done (by kernel_rfl) ?_ _
  go_wp2
  go_ret
  exact ⟨rfl, hD1, hC1, (Fr.refl B _ w).drew.trans hf1, fun k cs fr hk hb => hk1 k cs fr hk hb⟩
end Go.Proofs.YtnofeblcnamfeaaDoor
