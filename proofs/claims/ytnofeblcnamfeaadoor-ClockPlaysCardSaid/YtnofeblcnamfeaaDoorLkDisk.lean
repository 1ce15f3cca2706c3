/- Layer 3: what each call of a disk does, over a plain machine. -/
import Derived.Test.YtnofeblcnamfeaaDoorProg
import Derived.Test.YtnofeblcnamfeaaDoorLk0
namespace Go.Proofs.YtnofeblcnamfeaaDoor
open Go.RowKit Go.Proofs

/-- A disk, plainly. -/
structure DiskM where
  kept : List (List UInt8)
  cache : List (Nat × List UInt8)
  off : Bool
  armed : Int
  bits : Int

def wcells (x : Nat × List UInt8) : List Value := .int .i64 (x.1 : Int) :: u8s x.2

structure DiskM.Ok (D : DiskM) : Prop where
  pos : 0 < D.kept.length
  few : D.kept.length ≤ 4096
  secs : ∀ s ∈ D.kept, s.length = 64
  ats : ∀ x ∈ D.cache, x.1 < D.kept.length
  lens : ∀ x ∈ D.cache, x.2.length = 64
  cfew : D.cache.length ≤ 1099511627776
  ar0 : 0 ≤ D.armed
  ar1 : D.armed ≤ 9223372036854775807
  b0 : 0 ≤ D.bits
  b1 : D.bits ≤ 18446744073709551615

structure DiskIn (B : Nat) (w : World) (db kb : Nat) (cv : Value) (wr : Int) (D : DiskM) : Prop where
  hdb : B ≤ db
  hkb : B ≤ kb
  disk : Blk w db 45 #[.slice (some ⟨kb, 0, none⟩) D.kept.length D.kept.length, cv, .bool D.off, .int .i64 D.armed, .int .u64 D.bits, .int .i64 wr]
  kept : Blk w kb 51 (u8s D.kept.flatten).toArray
  cache : w.ownsRow B 53 65 cv D.cache.length (D.cache.flatMap wcells)
  ok : D.Ok

def DiskRep (B : Nat) (w : World) (db : Nat) (D : DiskM) : Prop := ∃ kb cv wr, DiskIn B w db kb cv wr D

theorem DiskIn.frame {B : Nat} {w w' : World} {db kb : Nat} {cv : Value} {wr : Int} {D : DiskM} (h : DiskIn B w db kb cv wr D) {B' : Nat} {L : List TypeId} (f : Fr B' L w w')
    (h1 : 45 ∉ L) (h2 : 51 ∉ L) (h3 : 53 ∉ L) : DiskIn B w' db kb cv wr D :=
  ⟨h.hdb, h.hkb, f.blk h.disk h1, f.blk h.kept h2, f.own h.cache h3, h.ok⟩
theorem DiskRep.frame {B : Nat} {w w' : World} {db : Nat} {D : DiskM} (h : DiskRep B w db D) {B' : Nat} {L : List TypeId} (f : Fr B' L w w')
    (h1 : 45 ∉ L) (h2 : 51 ∉ L) (h3 : 53 ∉ L) : DiskRep B w' db D := by
  obtain ⟨kb, cv, wr, h⟩ := h
  exact ⟨kb, cv, wr, h.frame f h1 h2 h3⟩
def diskL : List TypeId := [45, 51, 53]

section
variable {B : Nat} {w : World} {db : Nat} {D : DiskM}

set_option maxHeartbeats 400000 in
theorem disk_len (h : DiskRep B w db D) :
    Calls Tryd.prog 14 #[.pointer (some ⟨db, 0, none⟩)] w fun e w' => e = .returned (.int .i64 D.kept.length) ∧ w = w' := by
  obtain ⟨kb, cv, wr, h⟩ := h
  have h0 := h.disk.cell 0
  simp at h0
  clear h
  go_enter Tryd.func14, Tryd.ntmps14
  go_wp2
  go_ret
  exact ⟨rfl, rfl⟩

set_option maxHeartbeats 400000 in
theorem disk_len_nil (w : World) :
    Calls Tryd.prog 14 #[.pointer none] w fun e w' => e = .returned (.int .i64 0) ∧ w = w' := by
  go_enter Tryd.func14, Tryd.ntmps14
  go_wp2
  go_ret
  exact ⟨rfl, rfl⟩

set_option maxHeartbeats 400000 in
theorem disk_down (h : DiskRep B w db D) :
    Calls Tryd.prog 15 #[.pointer (some ⟨db, 0, none⟩)] w fun e w' => e = .returned (.bool D.off) ∧ w = w' := by
  obtain ⟨kb, cv, wr, h⟩ := h
  have h0 := h.disk.cell 2
  simp at h0
  clear h
  go_enter Tryd.func15, Tryd.ntmps15
  go_wp2
  go_ret
  exact ⟨rfl, rfl⟩

/-- What is wrong with a place. -/
def checkM (D : DiskM) (at_ : Int) : Int := if D.off then 5 else if at_ < 0 ∨ (D.kept.length : Int) ≤ at_ then 2 else 0

set_option maxHeartbeats 400000 in
theorem disk_check (h : DiskRep B w db D) (at_ : Int) :
    Calls Tryd.prog 32 #[.pointer (some ⟨db, 0, none⟩), .int .i64 at_] w fun e w' => e = .returned (.int .i64 (checkM D at_)) ∧ w = w' := by
  obtain ⟨kb, cv, wr, h⟩ := h
  have h0 := h.disk.cell 2
  have h1 := h.disk.cell 0
  simp at h0 h1
  clear h
  unfold checkM
  cases hoff : D.off
  · rw [hoff] at h0
    by_cases a1 : at_ < 0
    · go_enter Tryd.func32, Tryd.ntmps32
      go_wp2
      go_ret
      exact ⟨by simp [a1], rfl⟩
    · by_cases a2 : (D.kept.length : Int) ≤ at_
      · go_enter Tryd.func32, Tryd.ntmps32
        go_wp2
        go_ret
        exact ⟨by simp [a1, a2], rfl⟩
      · go_enter Tryd.func32, Tryd.ntmps32
        go_wp2
        go_ret
        exact ⟨by simp [a1, a2], rfl⟩
  · rw [hoff] at h0
    go_enter Tryd.func32, Tryd.ntmps32
    go_wp2
    go_ret
    exact ⟨by simp, rfl⟩
end

section
variable {B : Nat} {w : World} {db : Nat} {D : DiskM}

def startM (D : DiskM) : DiskM := { D with off := false, armed := 0 }

set_option maxHeartbeats 400000 in
theorem disk_start (h : DiskRep B w db D) :
    Calls Tryd.prog 13 #[.pointer (some ⟨db, 0, none⟩)] w fun e w' => e = .returned (.tuple #[]) ∧ DiskRep B w' db (startM D) ∧ Fr B diskL w w' := by
  obtain ⟨kb, cv, wr, h⟩ := h
  have h2 := h.disk.cell 2
  have h3 := h.disk.cell 3
  have f2 := h.disk.frozen 2
  have f3 := h.disk.frozen 3
  simp at h2 h3
  have fin : DiskRep B ((w.setCell ⟨db, 2, none⟩ (.bool false)).setCell ⟨db, 3, none⟩ (.int .i64 0)) db (startM D) ∧ Fr B diskL w ((w.setCell ⟨db, 2, none⟩ (.bool false)).setCell ⟨db, 3, none⟩ (.int .i64 0)) := by
    have d1 := (h.disk.set_ 2 (.bool false)).set_ 3 (.int .i64 0)
    have e1 : kb ≠ db := fun e => Blk.ne_ h.kept h.disk (by decide) e
    have e2 := own_blk_ne h.cache h.disk (by decide)
    refine ⟨⟨kb, cv, wr, h.hdb, h.hkb, by simpa [startM] using d1, (h.kept.far e1 _).far e1 _, own_far (own_far h.cache e2 _) e2 _, ?_⟩, ((Fr.refl _ _ _).set_ h.disk (by decide) h.hdb _ _).set_ (h.disk.set_ 2 _) (by decide) h.hdb _ _⟩
    exact { h.ok with ar0 := by simp [startM], ar1 := by simp [startM] }
  have Fin := Lib.hid fin
  clear h fin
  go_enter Tryd.func13, Tryd.ntmps13
  go_wp2
  go_end0
  exact ⟨rfl, Fin.out⟩

def armM (D : DiskM) (at_ bits : Int) : DiskM := { D with armed := if at_ < 0 then 0 else at_, bits := bits }

set_option maxHeartbeats 400000 in
theorem disk_arm (h : DiskRep B w db D) (at_ bits : Int) (a1 : at_ ≤ 9223372036854775807) (b0 : 0 ≤ bits) (b1 : bits ≤ 18446744073709551615) :
    Calls Tryd.prog 12 #[.pointer (some ⟨db, 0, none⟩), .agg #[.int .i64 at_, .int .u64 bits]] w fun e w' => e = .returned (.tuple #[]) ∧ DiskRep B w' db (armM D at_ bits) ∧ Fr B diskL w w' := by
  obtain ⟨kb, cv, wr, h⟩ := h
  have h3 := h.disk.cell 3
  have h4 := h.disk.cell 4
  have f3 := h.disk.frozen 3
  have f4 := h.disk.frozen 4
  simp at h3 h4
  have hlt := h.disk.lt
  have hB := h.hdb
  have fin : ∀ (v : Int) (o : Obj), v = (if at_ < 0 then 0 else at_) → DiskRep B (((w.setCell ⟨db, 3, none⟩ (.int .i64 v)).setCell ⟨db, 4, none⟩ (.int .u64 bits)).alloc o).drew db (armM D at_ bits) ∧ Fr B diskL w (((w.setCell ⟨db, 3, none⟩ (.int .i64 v)).setCell ⟨db, 4, none⟩ (.int .u64 bits)).alloc o).drew := by
    intro v o hv
    have d1 := (h.disk.set_ 3 (.int .i64 v)).set_ 4 (.int .u64 bits)
    have e1 : kb ≠ db := fun e => Blk.ne_ h.kept h.disk (by decide) e
    have e2 := own_blk_ne h.cache h.disk (by decide)
    have f1 := ((Fr.refl B diskL w).set_ h.disk (by decide) h.hdb 3 (.int .i64 v)).set_ (h.disk.set_ 3 _) (by decide) h.hdb 4 (.int .u64 bits)
    refine ⟨⟨kb, cv, wr, h.hdb, h.hkb, Blk.drew (Blk.alloc (by simpa [armM, hv] using d1) o), ((h.kept.far e1 _).far e1 _).alloc o, (own_far (own_far h.cache e2 _) e2 _).alloc o, ?_⟩, (f1.alloc (by have := f1.size; omega) o).drew⟩
    exact { h.ok with ar0 := by simp only [armM]; split <;> omega, ar1 := by simp only [armM]; split <;> omega, b0 := b0, b1 := b1 }
  have Fin := Lib.hid fin
  clear h fin
  by_cases ha : at_ < 0
  · go_enter Tryd.func12, Tryd.ntmps12
    go_wp2
    go_region
    go_wp2
    go_end0
    exact ⟨rfl, Fin.out _ _ (by simp [ha])⟩
  · go_enter Tryd.func12, Tryd.ntmps12
    go_wp2
    go_region
    go_wp2
    go_end0
    exact ⟨rfl, Fin.out _ _ (by rw [if_neg (by omega)])⟩

/-- How many bytes of a write are kept. -/
def fateM (bits i : Int) : Int :=
  if i < 0 then 0 else
  let c := (bits / (2 ^ (3 * (i % 21)).toNat)) % 8
  if c % 2 = 0 then 0 else if c = 1 then 64 else 16 * (c / 2)

set_option maxHeartbeats 400000 in
theorem disk_fate (bits i : Int) (w : World) (b0 : 0 ≤ bits) (b1 : bits ≤ 18446744073709551615) (hi : i ≤ 9223372036854775807) :
    Calls Tryd.prog 18 #[.int .u64 bits, .int .i64 i] w fun e w' => e = .returned (.int .i64 (fateM bits i)) ∧ w = w' := by
  by_cases ha : i < 0
  · go_enter Tryd.func18, Tryd.ntmps18
    go_wp2
    go_ret
    exact ⟨by simp [fateM, ha], rfl⟩
  · have hs : 0 ≤ 3 * (i % 21) ∧ 3 * (i % 21) ≤ 60 := by omega
    obtain ⟨c, hc⟩ : ∃ c, bits / 2 ^ (3 * (i % 21)).toNat % 8 = c := ⟨_, rfl⟩
    have h7 : Go.bits BinOp.and IntKind.i64 (wrap64 (bits / 2 ^ (3 * (i % 21)).toNat)) 7 = c := by
      rw [and7_i64, ← hc]; unfold wrap64; omega
    have h1 : Go.bits BinOp.and IntKind.i64 c 1 = c % 2 := and1_i64 c
    have c0 : 0 ≤ c := by omega
    have c8 : c < 8 := by omega
    have Hc := Lib.hid hc
    clear hc hs
    go_enter Tryd.func18, Tryd.ntmps18
    go_wp2
    all_goals
      go_ret
      refine ⟨ret_int ?_, rfl⟩
      have hc := Hc.out
      unfold fateM
      rw [if_neg (by omega), hc]
      simp_all
      try omega
end

end Go.Proofs.YtnofeblcnamfeaaDoor
