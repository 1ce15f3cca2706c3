/- Layer 17: Open. -/
import Derived.Test.YtnofeblcnamfeaaDoorProg
import Derived.Test.YtnofeblcnamfeaaDoorLkOpen
namespace Go.Proofs.YtnofeblcnamfeaaDoor
open Go.RowKit Go.Proofs

set_option maxHeartbeats 400000 in
theorem clk_open_nil (base : Int) (w : World) :
    Calls Tryd.prog 6 #[.pointer none, .int .i64 base] w fun e w' => e = .returned (.tuple #[.pointer none, .int .i64 8]) ∧ w = w' := by
  go_enter Tryd.func6, Tryd.ntmps6
  go_wp2
  go_ret2
  exact ⟨rfl, rfl⟩

set_option maxHeartbeats 400000 in
theorem clk_open_arg (B db : Nat) (D : DiskM) (base : Int) (w : World) (hD : DiskRep B w db D) (hb : base < 0 ∨ (D.kept.length : Int) - 2 < base) (hb1 : base ≤ 9223372036854775807) (hb0 : -9223372036854775808 ≤ base) :
    Calls Tryd.prog 6 #[.pointer (some ⟨db, 0, none⟩), .int .i64 base] w fun e w' => e = .returned (.tuple #[.pointer none, .int .i64 1]) ∧ w = w' := by
  have hkl : D.kept.length ≤ 4096 := by obtain ⟨_, _, _, h⟩ := hD; exact h.ok.few
  have HL := Lib.hid (disk_len hD)
  have hw : IntKind.i64.wrap ((D.kept.length : Int) - 2) = (D.kept.length : Int) - 2 := by rw [IntKind.wrap_i64]; omega
  clear hD
  by_cases h : base < 0
  · clear hb
    go_enter Tryd.func6, Tryd.ntmps6
    go_wp2
    go_ret2
    exact ⟨rfl, rfl⟩
  · have h2 : (D.kept.length : Int) - 2 < base := by omega
    clear hb
    go_enter Tryd.func6, Tryd.ntmps6
    go_wp2_with (go_at_call 14; refine HL.out.mono ?_; rintro e w' ⟨rfl, rfl⟩)
    go_ret2
    exact ⟨rfl, rfl⟩

set_option maxHeartbeats 400000 in
theorem clk_open_down (B db : Nat) (D : DiskM) (base : Nat) (w : World) (hD : DiskRep B w db D) (hb : base + 2 ≤ D.kept.length) (hoff : D.off = true) :
    Calls Tryd.prog 6 #[.pointer (some ⟨db, 0, none⟩), .int .i64 base] w fun e w' => e = .returned (.tuple #[.pointer none, .int .i64 5]) ∧ w = w' := by
  have hkl : D.kept.length ≤ 4096 := by obtain ⟨_, _, _, h⟩ := hD; exact h.ok.few
  have HL := Lib.hid (disk_len hD)
  have HDN := Lib.hid (disk_down hD)
  rw [hoff] at HDN
  have hw : IntKind.i64.wrap ((D.kept.length : Int) - 2) = (D.kept.length : Int) - 2 := by rw [IntKind.wrap_i64]; omega
  clear hD
  go_enter Tryd.func6, Tryd.ntmps6
  go_wp2_with (first
    | (go_at_call 14; refine HL.out.mono ?_; rintro e w' ⟨rfl, rfl⟩)
    | (go_at_call 15; refine HDN.out.mono ?_; rintro e w' ⟨rfl, rfl⟩))
  go_ret2
  exact ⟨rfl, rfl⟩

/-- What is loaded from k places. -/
def loadsM (D : DiskM) (C : ClkM) : Nat → ClkM
  | 0 => C
  | k + 1 => loadM D (loadsM D C k) k
theorem loadM_base (D : DiskM) (C : ClkM) (k : Nat) : (loadM D C k).base = C.base := by
  unfold loadM
  split
  · rfl
  · split
    · split <;> rfl
    · rfl
theorem loadsM_base (D : DiskM) (C : ClkM) : ∀ k, (loadsM D C k).base = C.base
  | 0 => rfl
  | k + 1 => (loadM_base _ _ _).trans (loadsM_base D C k)
theorem loadM_n (D : DiskM) (C : ClkM) (k : Nat) (h : C.n < 18446744073709551616) : (loadM D C k).n < 18446744073709551616 := by
  unfold loadM
  split
  · exact h
  · rename_i p hp
    obtain ⟨s, hs, hs2⟩ := readsM_stamp hp
    split
    · split
      · simp only [hs]; simpa using hs2
      · exact h
    · exact h
def newClk (base : Nat) : ClkM := ⟨base, 0, 0, 0⟩
theorem loadsM_n (D : DiskM) (base : Nat) : ∀ k, (loadsM D (newClk base) k).n < 18446744073709551616
  | 0 => by simp [loadsM, newClk]
  | k + 1 => loadM_n _ _ _ (loadsM_n D base k)
/-- What Open does: the error, the disk, the clock. -/
def openM (D : DiskM) (base : Nat) : Int × DiskM × ClkM := saveM D (loadsM D (newClk base) 2) (loadsM D (newClk base) 2).time ((loadsM D (newClk base) 2).boot + 1)

/-- How Open ends. -/
def OpenR (B db : Nat) (D : DiskM) (base : Nat) (w : World) (e : Ending) (w' : World) : Prop :=
  ∃ c, e = .returned (if (openM D base).1 = 0 then .tuple #[.pointer (some ⟨c, 0, none⟩), .int .i64 0] else .tuple #[.pointer none, .int .i64 (openM D base).1])
      ∧ w.heap.size ≤ c ∧ DiskRep B w' db (openM D base).2.1 ∧ ClkAt w' c db (openM D base).2.2 ∧ Fr B diskL w w'

set_option maxRecDepth 100000 in
set_option maxHeartbeats 2000000 in
theorem clk_open (B0 B db : Nat) (D : DiskM) (base : Nat) (w : World) (hE : Env B0 w) (hB0 : B0 ≤ B) (hBw : B ≤ w.heap.size) (hD : DiskRep B w db D) (hoff : D.off = false) (hb : base + 2 ≤ D.kept.length)
    (hl0 : LoadOk D (newClk base) 0) (hl1 : LoadOk D (loadsM D (newClk base) 1) 1) (hs : SaveOk D (loadsM D (newClk base) 2) (loadsM D (newClk base) 2).time ((loadsM D (newClk base) 2).boot + 1)) :
    Calls Tryd.prog 6 #[.pointer (some ⟨db, 0, none⟩), .int .i64 base] w fun e w' => OpenR B db D base w e w' := by
  have hkl : D.kept.length ≤ 4096 := by obtain ⟨_, _, _, h⟩ := hD; exact h.ok.few
  have HL := Lib.hid (disk_len hD)
  have HDN := Lib.hid (disk_down hD)
  rw [hoff] at HDN
  have hw : IntKind.i64.wrap ((D.kept.length : Int) - 2) = (D.kept.length : Int) - 2 := by rw [IntKind.wrap_i64]; omega
  have HLD : Hid (∀ k, k < 2 → LoadOk D (loadsM D (newClk base) k) k) := Lib.hid (fun k hk => by
    match k, hk with
    | 0, _ => exact hl0
    | 1, _ => exact hl1)
  have HE := Lib.hid hE
  have HDK := Lib.hid hD
  have HSO := Lib.hid hs
  obtain ⟨c, hc⟩ : ∃ c, w.heap.size = c := ⟨_, rfl⟩
  have HCC := Lib.hid hc
  clear hl0 hl1 hE hD hs hc
  go_enter Tryd.func6, Tryd.ntmps6
  go_wp2_with (first
    | (go_at_call 14; refine HL.out.mono ?_; rintro e w' ⟨rfl, rfl⟩)
    | (go_at_call 15; refine HDN.out.mono ?_; rintro e w' ⟨rfl, rfl⟩))
  have L1 : Below w.heap.size w (w.alloc (.cells #[.pointer (some ⟨db, 0, none⟩), .int .i64 base, .int .i64 0, .int .i64 0, .int .u64 0] 47)) := (Below.refl _ _).alloc (Nat.le_refl _) _
  have HC1 := Lib.hid (Blk.new w 47 #[.pointer (some ⟨db, 0, none⟩), .int .i64 base, .int .i64 0, .int .i64 0, .int .u64 0])
  obtain ⟨W1, hW1⟩ : ∃ W1, W1 = w.alloc (.cells #[.pointer (some ⟨db, 0, none⟩), .int .i64 base, .int .i64 0, .int .i64 0, .int .u64 0] 47) := ⟨_, rfl⟩
  rw [← hW1] at L1 HC1 ⊢
  rw [HCC.out] at L1 HC1 ⊢
  have hcB : B ≤ c := by rw [← HCC.out]; exact hBw
  have F1 : Fr B diskL w W1 := Fr.of_below (by rw [HCC.out]; exact L1) hBw
  have F1n : Fr B [] w W1 := Fr.of_below (by rw [HCC.out]; exact L1) hBw
  have z1 : B ≤ W1.heap.size := by have := F1.size; omega
  have HD1 := Lib.hid (HDK.out.frame F1n (by simp) (by simp) (by simp))
  clear hW1
  go_loopw [29] (fun i wr => ∃ k : Nat, k ≤ 2 ∧ i = .int .i64 k ∧ ClkAt wr c db (loadsM D (newClk base) k) ∧ Fr B [47] W1 wr ∧ KeepC c W1 wr) (fun i wr => 2 - (intOf i).toNat)
  case atStart => exact ⟨0, by omega, rfl, HC1.out, Fr.refl _ _ _, KeepC.refl _ _⟩
  case round =>
    obtain ⟨k, hk, rfl, hck, hfk, hkk⟩ := hrel
    by_cases hlt : k < 2
    · have HLD2 := Lib.hid (clk_load_all B0 B db c D (loadsM D (newClk base) k) k wr ((HE.out.below (F1.below.mono hB0)).below (hfk.below.mono hB0)) hB0 (by have := hfk.size; omega) hcB (HD1.out.frame hfk (by decide) (by decide) (by decide)) hck hoff hlt (by rw [loadsM_base]; exact hb) (HLD.out k hlt) (loadsM_n D base k))
      clear hck
      go_wp2_with (go_at_call 16; refine HLD2.out.mono ?_; rintro e w2 ⟨rfl, h1, h2, h3⟩)
      go_roundw
      case rel => exact ⟨k + 1, by omega, by go_num, h1, hfk.trans h2, hkk.trans h3⟩
      case measure => simp [intOf]; omega
    · obtain rfl : k = 2 := by omega
      obtain ⟨C2, hC2⟩ : ∃ C2, loadsM D (newClk base) 2 = C2 := ⟨_, rfl⟩
      have hop : openM D base = saveM D C2 C2.time (C2.boot + 1) := by unfold openM; rw [hC2]
      rw [hC2] at hck HSO
      have HSV := Lib.hid (clk_save B0 B db c D C2 C2.time (C2.boot + 1) wr.drew ((HE.out.below (F1.below.mono hB0)).below ((hfk.below.mono hB0).drew)) hB0 (by have := hfk.size; simp; omega) hcB (HD1.out.frame hfk.drew (by decide) (by decide) (by decide)) hck HSO.out.off HSO.out.few HSO.out.base HSO.out.n HSO.out.tin HSO.out.bin HSO.out.len)
      obtain ⟨S, hS⟩ : ∃ S, openM D base = S := ⟨_, rfl⟩
      rw [← hop, hS] at HSV
      have HS := Lib.hid hS
      have hwt : IntKind.i64.wrap (C2.boot + 1) = C2.boot + 1 := by have := HSO.out.bin; unfold inInt at this; rw [IntKind.wrap_i64]; omega
      have k2 := hck.blk.cell 2
      have k3 := hck.blk.cell 3
      simp at k2 k3
      clear hck hop hS hC2
      go_wp2
      refine wp_still_then 10 2 (by kernel_rfl) (by kernel_rfl) ?_
      simp only [List.take_succ_cons, List.take_zero]
      repeat still_step
      refine wpStill_nil ?_
      refine any1 10 (by kernel_rfl) (op_call 46 rfl (f := 17) (args := #[.pointer (some ⟨c, 0, none⟩), .int .i64 C2.time, .int .i64 (C2.boot + 1)]) (by go_simp) (HSV.out.mono ?_))
      rintro e W3 ⟨rfl, hD3, hC3, hf3, hk3⟩
      refine ⟨_, rfl, ?_⟩
      simp only [Act.put, List.setIfInBounds_toArray, List.set_cons_succ, List.set_cons_zero]
      refine any1 11 (by kernel_rfl) (op_at 8 rfl (v := .int .i64 S.1) rfl ?_)
      simp only [Act.put, List.setIfInBounds_toArray, List.set_cons_succ, List.set_cons_zero]
      refine wpAny_done (by kernel_rfl) ?_ _
      have hF : Fr B diskL w W3 := by
        refine ⟨F1.below.trans (hfk.below.drew.trans hf3.below), fun q cs t fr hq ht => ?_⟩
        have hqc : q ≠ c := by have := lt_of_heap hq; rw [HCC.out] at this; omega
        have hq1 : W1.heap[q]? = some (.cells cs t fr) := F1n.kept q cs t fr hq (by simp)
        by_cases htc : t = 47
        · rw [htc] at hq1 ⊢
          exact hk3 q cs fr hqc (hkk q cs fr hqc hq1)
        · exact hf3.kept q cs t fr (hfk.drew.kept q cs t fr hq1 (by simpa using htc)) (by simp only [List.mem_cons, not_or]; exact ⟨htc, ht⟩)
      by_cases h0 : S.1 = 0
      · rw [h0]
        go_wp2
        go_ret2
        unfold OpenR
        refine ⟨c, ?_, by rw [HCC.out]; exact Nat.le_refl _, ?_, ?_, hF⟩
        · rw [HS.out, if_pos h0]; rfl
        · rw [HS.out]; exact hD3
        · rw [HS.out]; exact hC3
      · obtain ⟨xe, hxe⟩ : ∃ xe, S.1 = xe := ⟨_, rfl⟩
        have HXE := Lib.hid hxe
        rw [hxe] at h0 ⊢
        clear hxe
        go_wp2
        go_ret2
        unfold OpenR
        refine ⟨c, ?_, by rw [HCC.out]; exact Nat.le_refl _, ?_, ?_, hF⟩
        · rw [HS.out, HXE.out, if_neg h0]; rfl
        · rw [HS.out]; exact hD3
        · rw [HS.out]; exact hC3
end Go.Proofs.YtnofeblcnamfeaaDoor
