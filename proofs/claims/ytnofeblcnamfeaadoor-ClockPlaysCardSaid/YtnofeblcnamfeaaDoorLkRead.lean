/- Layer 4: reading a sector. -/
import Derived.Test.YtnofeblcnamfeaaDoorLkShelf
import Derived.Test.YtnofeblcnamfeaaDoorProg
import Derived.Test.YtnofeblcnamfeaaDoorLkSec
import Derived.BigQuiet
import Derived.WalkSmall
namespace Go.Proofs.YtnofeblcnamfeaaDoor
open Go.RowKit Go.Proofs

theorem std_Trim_one (s : ByteArray) (c : UInt8) (hc : c.toNat < 128) (w : World) (hs : s.size ≤ 9223372036854775807) :
    Calls Tryd.prog 35 #[.string s, .string ⟨#[c]⟩] w fun e w' => e = .returned (.string ⟨(Lib.trimB s.data.toList c).toArray⟩) ∧ (w' = w ∨ w' = w.drew) := Any.strings_Trim_one Tryd.lays160 s c hc w hs

/-- A part of a list: from a to b. -/
def cutL (l : List UInt8) (a b : Nat) : List UInt8 := (l.take b).drop a
theorem cutL_length (l : List UInt8) (a b : Nat) (h : b ≤ l.length) : (cutL l a b).length = b - a := by simp [cutL]; omega
def lenOf (l : List UInt8) : Nat := ((l[18]?).getD 0).toNat
def pieceOf (l : List UInt8) : PieceM := ⟨valM (cutL l 0 8), valM (cutL l 8 12), valM (cutL l 12 14), valM (cutL l 14 16), valM (cutL l 16 18), cutL l 19 (19 + lenOf l)⟩
def zeroPiece : PieceM := ⟨0, 0, 0, 0, 0, []⟩
/-- What a sector reads as, where it is one. -/
def readsM (l : List UInt8) : Option PieceM :=
  if l.length = 64 ∧ cutL l 0 8 = cutL l 56 64 ∧ lenOf l ≤ 37 ∧ rightM (pieceOf l) = true ∧ Lib.trimB (cutL l (19 + lenOf l) 56) 0 = [] then some (pieceOf l) else none

theorem str_extract (l : List UInt8) (a b : Nat) : (str l).extract a b = str (cutL l a b) := by
  apply ByteArray.ext
  simp [str, cutL, ByteArray.data_extract, List.drop_take]

theorem infoz_piece : (Tryd.prog.info? 62).bind (·.zero) = some (.agg zeroPiece.cells) := by kernel_rfl

theorem info_piece : (Tryd.prog.info? 62).map (·.size) = some 6 := by kernel_rfl

set_option maxRecDepth 100000 in
set_option maxHeartbeats 1000000 in
theorem sec_read (l : List UInt8) (w : World) (h64 : l.length = 64) (heq : cutL l 0 8 = cutL l 56 64) (hn : lenOf l ≤ 37) (hr : rightM (pieceOf l) = true) (ht : Lib.trimB (cutL l (19 + lenOf l) 56) 0 = []) :
    Calls Tryd.prog 22 #[.string (str l)] w fun e w' => e = .returned (.tuple #[.agg (pieceOf l).cells, .int .i64 0]) ∧ Below w.heap.size w w' := by
  have hsz : (str l).size = 64 := by rw [str_size]; exact h64
  obtain ⟨c, hc⟩ : ∃ c : UInt8, l[18]? = some c := ⟨_, List.getElem?_eq_getElem (by omega)⟩
  have hlc : lenOf l = c.toNat := by simp [lenOf, hc]
  have hget : (str l)[18]'(by rw [str_size]; omega) = c := by
    have := List.getElem?_eq_some_iff.1 hc
    obtain ⟨_, h2⟩ := this
    rw [← h2]; rfl
  have hx1 := str_extract l 0 8
  have hx2 := str_extract l 56 64
  rw [← heq] at hx2
  have HR := Lib.hid hr
  have HT := Lib.hid ht
  have HE := Lib.hid heq
  rw [hlc] at hn
  obtain ⟨k, hk⟩ : ∃ k : Nat, c.toNat = k := ⟨_, rfl⟩
  rw [hk] at hlc hn
  rw [hlc] at HT
  have HLC := Lib.hid hlc
  have hgt : (37 < (k : Int)) = False := by simp; omega
  clear hr ht heq hc hlc
  go_enter Tryd.func22, Tryd.ntmps22
  go_wp2
  go_quiet (fail)
  go_wp2
  have hu0 : valM (cutL l 8 12) < 4294967296 := by have := valM_lt (cutL l 8 12); rw [cutL_length _ _ _ (by omega)] at this; simpa using this
  have hw0 : IntKind.i64.wrap (valM (cutL l 8 12)) = (valM (cutL l 8 12) : Int) := by rw [IntKind.wrap_i64]; omega
  have hu1 : valM (cutL l 12 14) < 65536 := by have := valM_lt (cutL l 12 14); rw [cutL_length _ _ _ (by omega)] at this; simpa using this
  have hw1 : IntKind.i64.wrap (valM (cutL l 12 14)) = (valM (cutL l 12 14) : Int) := by rw [IntKind.wrap_i64]; omega
  have hu2 : valM (cutL l 14 16) < 65536 := by have := valM_lt (cutL l 14 16); rw [cutL_length _ _ _ (by omega)] at this; simpa using this
  have hw2 : IntKind.i64.wrap (valM (cutL l 14 16)) = (valM (cutL l 14 16) : Int) := by rw [IntKind.wrap_i64]; omega
  have hu3 : valM (cutL l 16 18) < 65536 := by have := valM_lt (cutL l 16 18); rw [cutL_length _ _ _ (by omega)] at this; simpa using this
  have hw3 : IntKind.i64.wrap (valM (cutL l 16 18)) = (valM (cutL l 16 18) : Int) := by rw [IntKind.wrap_i64]; omega
  have hx3 := str_extract l 8 12
  have hx4 := str_extract l 12 14
  have hx5 := str_extract l 14 16
  have hx6 := str_extract l 16 18
  obtain ⟨m, hm⟩ : ∃ m : Nat, 19 + k = m := ⟨_, rfl⟩
  have hkm : 19 + (k : Int) = (m : Int) := by omega
  have hx7 := str_extract l 19 m
  have hx8 := str_extract l m 56
  rw [hkm]
  rw [hm] at HT
  have HM := Lib.hid hm
  have hm1 : (m : Int) ≤ 64 := by omega
  have hm2 : 19 ≤ (m : Int) := by omega
  have hm5 : (m : Int) ≤ 56 := by omega
  have hm3 : m ≤ 64 := by omega
  have hm4 : 19 ≤ m := by omega
  clear hm hkm
  refine wp_any (by kernel_rfl) ?_
  refine any_take 0 26 (.string (str l)) rfl (by kernel_rfl) (by kernel_rfl) (by kernel_rfl) (fun _ _ _ h => h) (fun _ => rfl) ?_
  simp only [Act.put, List.setIfInBounds_toArray, List.set_cons_succ, List.set_cons_zero]
  refine any_take 1 27 (.string (str (cutL l 0 8))) rfl (by kernel_rfl) (by kernel_rfl) (by kernel_rfl) (fun _ _ _ h => h) (fun _ => by go_simp) ?_
  simp only [Act.put, List.setIfInBounds_toArray, List.set_cons_succ, List.set_cons_zero]
  refine any_call 2 28 (.int .u64 (valM (cutL l 0 8))) rfl (by kernel_rfl) (by kernel_rfl) (by kernel_rfl) (fun _ _ _ h => h) (f := 33) (args := #[.string (str (cutL l 0 8))]) (fun _ => by go_simp) (fun W => sec_get (cutL l 0 8) W (by rw [cutL_length] <;> omega)) ?_
  simp only [Act.put, List.setIfInBounds_toArray, List.set_cons_succ, List.set_cons_zero]
  refine any_take 3 29 (.string (str l)) rfl (by kernel_rfl) (by kernel_rfl) (by kernel_rfl) (fun _ _ _ h => h) (fun _ => rfl) ?_
  simp only [Act.put, List.setIfInBounds_toArray, List.set_cons_succ, List.set_cons_zero]
  refine any_take 4 30 (.string (str (cutL l 8 12))) rfl (by kernel_rfl) (by kernel_rfl) (by kernel_rfl) (fun _ _ _ h => h) (fun _ => by go_simp) ?_
  simp only [Act.put, List.setIfInBounds_toArray, List.set_cons_succ, List.set_cons_zero]
  refine any_call 5 31 (.int .u64 (valM (cutL l 8 12))) rfl (by kernel_rfl) (by kernel_rfl) (by kernel_rfl) (fun _ _ _ h => h) (f := 33) (args := #[.string (str (cutL l 8 12))]) (fun _ => by go_simp) (fun W => sec_get (cutL l 8 12) W (by rw [cutL_length] <;> omega)) ?_
  simp only [Act.put, List.setIfInBounds_toArray, List.set_cons_succ, List.set_cons_zero]
  refine any_take 6 32 (.int .i64 (valM (cutL l 8 12))) rfl (by kernel_rfl) (by kernel_rfl) (by kernel_rfl) (fun _ _ _ h => h) (fun _ => by go_simp) ?_
  simp only [Act.put, List.setIfInBounds_toArray, List.set_cons_succ, List.set_cons_zero]
  refine any_take 7 33 (.string (str l)) rfl (by kernel_rfl) (by kernel_rfl) (by kernel_rfl) (fun _ _ _ h => h) (fun _ => rfl) ?_
  simp only [Act.put, List.setIfInBounds_toArray, List.set_cons_succ, List.set_cons_zero]
  refine any_take 8 34 (.string (str (cutL l 12 14))) rfl (by kernel_rfl) (by kernel_rfl) (by kernel_rfl) (fun _ _ _ h => h) (fun _ => by go_simp) ?_
  simp only [Act.put, List.setIfInBounds_toArray, List.set_cons_succ, List.set_cons_zero]
  refine any_call 9 35 (.int .u64 (valM (cutL l 12 14))) rfl (by kernel_rfl) (by kernel_rfl) (by kernel_rfl) (fun _ _ _ h => h) (f := 33) (args := #[.string (str (cutL l 12 14))]) (fun _ => by go_simp) (fun W => sec_get (cutL l 12 14) W (by rw [cutL_length] <;> omega)) ?_
  simp only [Act.put, List.setIfInBounds_toArray, List.set_cons_succ, List.set_cons_zero]
  refine any_take 10 36 (.int .i64 (valM (cutL l 12 14))) rfl (by kernel_rfl) (by kernel_rfl) (by kernel_rfl) (fun _ _ _ h => h) (fun _ => by go_simp) ?_
  simp only [Act.put, List.setIfInBounds_toArray, List.set_cons_succ, List.set_cons_zero]
  refine any_take 11 37 (.string (str l)) rfl (by kernel_rfl) (by kernel_rfl) (by kernel_rfl) (fun _ _ _ h => h) (fun _ => rfl) ?_
  simp only [Act.put, List.setIfInBounds_toArray, List.set_cons_succ, List.set_cons_zero]
  refine any_take 12 38 (.string (str (cutL l 14 16))) rfl (by kernel_rfl) (by kernel_rfl) (by kernel_rfl) (fun _ _ _ h => h) (fun _ => by go_simp) ?_
  simp only [Act.put, List.setIfInBounds_toArray, List.set_cons_succ, List.set_cons_zero]
  refine any_call 13 39 (.int .u64 (valM (cutL l 14 16))) rfl (by kernel_rfl) (by kernel_rfl) (by kernel_rfl) (fun _ _ _ h => h) (f := 33) (args := #[.string (str (cutL l 14 16))]) (fun _ => by go_simp) (fun W => sec_get (cutL l 14 16) W (by rw [cutL_length] <;> omega)) ?_
  simp only [Act.put, List.setIfInBounds_toArray, List.set_cons_succ, List.set_cons_zero]
  refine any_take 14 40 (.int .i64 (valM (cutL l 14 16))) rfl (by kernel_rfl) (by kernel_rfl) (by kernel_rfl) (fun _ _ _ h => h) (fun _ => by go_simp) ?_
  simp only [Act.put, List.setIfInBounds_toArray, List.set_cons_succ, List.set_cons_zero]
  refine any_take 15 41 (.string (str l)) rfl (by kernel_rfl) (by kernel_rfl) (by kernel_rfl) (fun _ _ _ h => h) (fun _ => rfl) ?_
  simp only [Act.put, List.setIfInBounds_toArray, List.set_cons_succ, List.set_cons_zero]
  refine any_take 16 42 (.string (str (cutL l 16 18))) rfl (by kernel_rfl) (by kernel_rfl) (by kernel_rfl) (fun _ _ _ h => h) (fun _ => by go_simp) ?_
  simp only [Act.put, List.setIfInBounds_toArray, List.set_cons_succ, List.set_cons_zero]
  refine any_call 17 43 (.int .u64 (valM (cutL l 16 18))) rfl (by kernel_rfl) (by kernel_rfl) (by kernel_rfl) (fun _ _ _ h => h) (f := 33) (args := #[.string (str (cutL l 16 18))]) (fun _ => by go_simp) (fun W => sec_get (cutL l 16 18) W (by rw [cutL_length] <;> omega)) ?_
  simp only [Act.put, List.setIfInBounds_toArray, List.set_cons_succ, List.set_cons_zero]
  refine any_take 18 44 (.int .i64 (valM (cutL l 16 18))) rfl (by kernel_rfl) (by kernel_rfl) (by kernel_rfl) (fun _ _ _ h => h) (fun _ => by go_simp) ?_
  simp only [Act.put, List.setIfInBounds_toArray, List.set_cons_succ, List.set_cons_zero]
  refine any_take 19 45 (.string (str l)) rfl (by kernel_rfl) (by kernel_rfl) (by kernel_rfl) (fun _ _ _ h => h) (fun _ => rfl) ?_
  simp only [Act.put, List.setIfInBounds_toArray, List.set_cons_succ, List.set_cons_zero]
  refine any_take 20 46 (.int .i64 m) rfl (by kernel_rfl) (by kernel_rfl) (by kernel_rfl) (fun _ _ _ h => h) (fun _ => rfl) ?_
  simp only [Act.put, List.setIfInBounds_toArray, List.set_cons_succ, List.set_cons_zero]
  refine any_take 21 47 (.string (str (cutL l 19 m))) rfl (by kernel_rfl) (by kernel_rfl) (by kernel_rfl) (fun _ _ _ h => h) (fun _ => by go_simp) ?_
  simp only [Act.put, List.setIfInBounds_toArray, List.set_cons_succ, List.set_cons_zero]
  refine any_take 22 48 (.agg #[.int .u64 (valM (cutL l 0 8)), .int .i64 (valM (cutL l 8 12)), .int .i64 (valM (cutL l 12 14)), .int .i64 (valM (cutL l 14 16)), .int .i64 (valM (cutL l 16 18)), .string (str (cutL l 19 m))]) rfl (by kernel_rfl) (by kernel_rfl) (by kernel_rfl) (fun _ _ _ h => h) (fun _ => by go_simp) ?_
  simp only [Act.put, List.setIfInBounds_toArray, List.set_cons_succ, List.set_cons_zero]
  have hp : pieceOf l = ⟨valM (cutL l 0 8), valM (cutL l 8 12), valM (cutL l 12 14), valM (cutL l 14 16), valM (cutL l 16 18), cutL l 19 m⟩ := by rw [← HM.out, ← HLC.out]; rfl
  obtain ⟨v1, hv1⟩ : ∃ v : Nat, valM (cutL l 0 8) = v := ⟨_, rfl⟩
  obtain ⟨v2, hv2⟩ : ∃ v : Nat, valM (cutL l 8 12) = v := ⟨_, rfl⟩
  obtain ⟨v3, hv3⟩ : ∃ v : Nat, valM (cutL l 12 14) = v := ⟨_, rfl⟩
  obtain ⟨v4, hv4⟩ : ∃ v : Nat, valM (cutL l 14 16) = v := ⟨_, rfl⟩
  obtain ⟨v5, hv5⟩ : ∃ v : Nat, valM (cutL l 16 18) = v := ⟨_, rfl⟩
  have hd : ∃ d, cutL l 19 m = d := ⟨_, rfl⟩
  rw [hv1, hv2, hv3, hv4, hv5] at hp ⊢
  obtain ⟨d, hd⟩ := hd
  rw [hd] at hp ⊢
  have HP := Lib.hid hp
  have HSR := Lib.hid (fun W => sec_right ⟨v1, v2, v3, v4, v5, d⟩ W)
  rw [hp] at HR
  rw [HR.out] at HSR
  simp only [PieceM.cells] at HSR
  obtain ⟨B, hB⟩ : ∃ B, w.heap.size = B := ⟨_, rfl⟩
  obtain ⟨W0, hW0⟩ : ∃ W0, ((w.alloc (Obj.cells #[.int .u64 0, .int .i64 0, .int .i64 0, .int .i64 0, .int .i64 0, .string { data := #[] }] 62)).drewN nq).drew = W0 := ⟨_, rfl⟩
  have X0 : Blk W0 B 62 zeroPiece.cells := by rw [← hW0, ← hB]; exact Blk.drew (Blk.drewN (Blk.new w _ _) _)
  have L0 : Below B w W0 := by rw [← hW0, ← hB]; exact (below_drewN ((Below.refl _ _).alloc (Nat.le_refl _) _) _).drew
  rw [hW0, hB]
  clear hv1 hv2 hv3 hv4 hv5 hd hp hu0 hu1 hu2 hu3 hw0 hw1 hw2 hw3 hx1 hx2 hx3 hx4 hx5 hx6 hx7 hget hW0 HR
  refine any1 23 (by kernel_rfl) (op_at 5 rfl (exec_alloc _ rfl _ _ infoz_piece rfl) ?_)
  simp only [Act.put, List.setIfInBounds_toArray, List.set_cons_succ, List.set_cons_zero]
  refine any1 24 (by kernel_rfl) (op_atu rfl (exec_store_new _ _ _ rfl W0 _ _ rfl rfl [.int .u64 v1, .int .i64 v2, .int .i64 v3, .int .i64 v4, .int .i64 v5, .string (str d)] rfl info_piece rfl (by simp [Value.oneCell'])) ?_)
  refine wpAny_done (by kernel_rfl) ?_ _
  have hTr : ∀ W, Calls Tryd.prog 35 #[.string (str (cutL l m 56)), .string ⟨#[0]⟩] W fun e w' => e = .returned (.string ⟨#[]⟩) ∧ ∃ q, w' = W.drewN q := by
    intro W
    refine (std_Trim_one (str (cutL l m 56)) 0 (by decide) W (by rw [str_size, cutL_length _ _ _ (by omega)]; omega)).mono ?_
    rintro e w' ⟨rfl, h⟩
    refine ⟨?_, ?_⟩
    · rw [str_list, HT.out]
    · rcases h with rfl | rfl
      · exact ⟨0, rfl⟩
      · exact ⟨1, rfl⟩
  have HTR := Lib.hid hTr
  clear hTr
  go_wp2_with fail
  refine (HSR.out _).mono ?_
  rintro e W1 ⟨rfl, hb⟩
  obtain ⟨N, hN⟩ : ∃ N, W0.heap.size = N := ⟨_, rfl⟩
  have hBN : B < N := by have := X0.lt; omega
  have P1 : Blk W1 N 62 #[.int .u64 v1, .int .i64 v2, .int .i64 v3, .int .i64 v4, .int .i64 v5, .string (str d)] := by rw [← hN]; exact (Blk.new W0 _ _).below hb (by simp)
  have X1 : Blk W1 B 62 zeroPiece.cells := (X0.alloc _).below hb (by simp; omega)
  have L1 : Below B w W1 := (L0.alloc (by omega) _).trans (hb.mono (by simp; omega))
  have c0 := P1.cell 0
  have c1 := P1.cell 1
  have c2 := P1.cell 2
  have c3 := P1.cell 3
  have c4 := P1.cell 4
  have c5 := P1.cell 5
  simp at c0 c1 c2 c3 c4 c5
  rw [hN]
  clear hb hN L0 X0
  have hone : ∀ v ∈ ([.int .u64 v1, .int .i64 v2, .int .i64 v3, .int .i64 v4, .int .i64 v5, .string (str d)] : List Value), v.oneCell' = true := by simp [Value.oneCell']
  have HONE := Lib.hid hone
  have HX := Lib.hid X1
  clear hone X1
  go_wp2_with (first
    | (go_at_call 35; refine (HTR.out _).mono ?_; rintro e w' ⟨rfl, q, rfl⟩)
    | ((with_reducible refine wpList_is ⟨none, .store 62 (.tmp 2) (.tmp 60), _, _, _, _⟩ ?_); refine wpList_runu rfl (exec_store_agg _ _ _ rfl B 0 rfl [.int .u64 v1, .int .i64 v2, .int .i64 v3, .int .i64 v4, .int .i64 v5, .string (str d)] rfl _ _ (Blk.drewN HX.out _) info_piece (Nat.le_refl 6) HONE.out) ?_))
  have XF : Blk ((W1.drewN q).setRow B (splice zeroPiece.cells.toList 0 [.int .u64 v1, .int .i64 v2, .int .i64 v3, .int .i64 v4, .int .i64 v5, .string (str d)]).toArray) B 62 #[.int .u64 v1, .int .i64 v2, .int .i64 v3, .int .i64 v4, .int .i64 v5, .string (str d)] := (Blk.drewN HX.out q).row _
  have LF := below_setRow (below_drewN L1 q) (Nat.le_refl B) (splice zeroPiece.cells.toList 0 [.int .u64 v1, .int .i64 v2, .int .i64 v3, .int .i64 v4, .int .i64 v5, .string (str d)]).toArray
  obtain ⟨WF, hWF⟩ : ∃ WF, WF = (W1.drewN q).setRow B (splice zeroPiece.cells.toList 0 [.int .u64 v1, .int .i64 v2, .int .i64 v3, .int .i64 v4, .int .i64 v5, .string (str d)]).toArray := ⟨_, rfl⟩
  rw [← hWF] at XF LF ⊢
  have c0 := XF.cell 0
  have c1 := XF.cell 1
  have c2 := XF.cell 2
  have c3 := XF.cell 3
  have c4 := XF.cell 4
  have c5 := XF.cell 5
  simp at c0 c1 c2 c3 c4 c5
  clear hWF P1
  refine bodyPost_ret (v := .tuple #[.agg #[.int .u64 v1, .int .i64 v2, .int .i64 v3, .int .i64 v4, .int .i64 v5, .string (str d)], .int .i64 0]) ((results_cell_tmp rfl _ _ _).trans (by go_simp)) rfl ⟨?_, by rw [hB]; exact LF⟩
  rw [HP.out]
  rfl

set_option maxRecDepth 100000 in
set_option maxHeartbeats 1000000 in
theorem sec_read_wrong (l : List UInt8) (w : World) (h64 : l.length = 64) (heq : cutL l 0 8 = cutL l 56 64) (hn : lenOf l ≤ 37) (hr : rightM (pieceOf l) = false) :
    Calls Tryd.prog 22 #[.string (str l)] w fun e w' => e = .returned (.tuple #[.agg zeroPiece.cells, .int .i64 3]) ∧ Below w.heap.size w w' := by
  have hsz : (str l).size = 64 := by rw [str_size]; exact h64
  obtain ⟨c, hc⟩ : ∃ c : UInt8, l[18]? = some c := ⟨_, List.getElem?_eq_getElem (by omega)⟩
  have hlc : lenOf l = c.toNat := by simp [lenOf, hc]
  have hget : (str l)[18]'(by rw [str_size]; omega) = c := by
    have := List.getElem?_eq_some_iff.1 hc
    obtain ⟨_, h2⟩ := this
    rw [← h2]; rfl
  have hx1 := str_extract l 0 8
  have hx2 := str_extract l 56 64
  rw [← heq] at hx2
  have HR := Lib.hid hr
  have HE := Lib.hid heq
  rw [hlc] at hn
  obtain ⟨k, hk⟩ : ∃ k : Nat, c.toNat = k := ⟨_, rfl⟩
  rw [hk] at hlc hn
  have HLC := Lib.hid hlc
  have hgt : (37 < (k : Int)) = False := by simp; omega
  clear hr heq hc hlc
  go_enter Tryd.func22, Tryd.ntmps22
  go_wp2
  go_quiet (fail)
  go_wp2
  have hu0 : valM (cutL l 8 12) < 4294967296 := by have := valM_lt (cutL l 8 12); rw [cutL_length _ _ _ (by omega)] at this; simpa using this
  have hw0 : IntKind.i64.wrap (valM (cutL l 8 12)) = (valM (cutL l 8 12) : Int) := by rw [IntKind.wrap_i64]; omega
  have hu1 : valM (cutL l 12 14) < 65536 := by have := valM_lt (cutL l 12 14); rw [cutL_length _ _ _ (by omega)] at this; simpa using this
  have hw1 : IntKind.i64.wrap (valM (cutL l 12 14)) = (valM (cutL l 12 14) : Int) := by rw [IntKind.wrap_i64]; omega
  have hu2 : valM (cutL l 14 16) < 65536 := by have := valM_lt (cutL l 14 16); rw [cutL_length _ _ _ (by omega)] at this; simpa using this
  have hw2 : IntKind.i64.wrap (valM (cutL l 14 16)) = (valM (cutL l 14 16) : Int) := by rw [IntKind.wrap_i64]; omega
  have hu3 : valM (cutL l 16 18) < 65536 := by have := valM_lt (cutL l 16 18); rw [cutL_length _ _ _ (by omega)] at this; simpa using this
  have hw3 : IntKind.i64.wrap (valM (cutL l 16 18)) = (valM (cutL l 16 18) : Int) := by rw [IntKind.wrap_i64]; omega
  have hx3 := str_extract l 8 12
  have hx4 := str_extract l 12 14
  have hx5 := str_extract l 14 16
  have hx6 := str_extract l 16 18
  obtain ⟨m, hm⟩ : ∃ m : Nat, 19 + k = m := ⟨_, rfl⟩
  have hkm : 19 + (k : Int) = (m : Int) := by omega
  have hx7 := str_extract l 19 m
  have hx8 := str_extract l m 56
  rw [hkm]
  have HM := Lib.hid hm
  have hm1 : (m : Int) ≤ 64 := by omega
  have hm2 : 19 ≤ (m : Int) := by omega
  have hm5 : (m : Int) ≤ 56 := by omega
  have hm3 : m ≤ 64 := by omega
  have hm4 : 19 ≤ m := by omega
  clear hm hkm
  refine wp_any (by kernel_rfl) ?_
  refine any_take 0 26 (.string (str l)) rfl (by kernel_rfl) (by kernel_rfl) (by kernel_rfl) (fun _ _ _ h => h) (fun _ => rfl) ?_
  simp only [Act.put, List.setIfInBounds_toArray, List.set_cons_succ, List.set_cons_zero]
  refine any_take 1 27 (.string (str (cutL l 0 8))) rfl (by kernel_rfl) (by kernel_rfl) (by kernel_rfl) (fun _ _ _ h => h) (fun _ => by go_simp) ?_
  simp only [Act.put, List.setIfInBounds_toArray, List.set_cons_succ, List.set_cons_zero]
  refine any_call 2 28 (.int .u64 (valM (cutL l 0 8))) rfl (by kernel_rfl) (by kernel_rfl) (by kernel_rfl) (fun _ _ _ h => h) (f := 33) (args := #[.string (str (cutL l 0 8))]) (fun _ => by go_simp) (fun W => sec_get (cutL l 0 8) W (by rw [cutL_length] <;> omega)) ?_
  simp only [Act.put, List.setIfInBounds_toArray, List.set_cons_succ, List.set_cons_zero]
  refine any_take 3 29 (.string (str l)) rfl (by kernel_rfl) (by kernel_rfl) (by kernel_rfl) (fun _ _ _ h => h) (fun _ => rfl) ?_
  simp only [Act.put, List.setIfInBounds_toArray, List.set_cons_succ, List.set_cons_zero]
  refine any_take 4 30 (.string (str (cutL l 8 12))) rfl (by kernel_rfl) (by kernel_rfl) (by kernel_rfl) (fun _ _ _ h => h) (fun _ => by go_simp) ?_
  simp only [Act.put, List.setIfInBounds_toArray, List.set_cons_succ, List.set_cons_zero]
  refine any_call 5 31 (.int .u64 (valM (cutL l 8 12))) rfl (by kernel_rfl) (by kernel_rfl) (by kernel_rfl) (fun _ _ _ h => h) (f := 33) (args := #[.string (str (cutL l 8 12))]) (fun _ => by go_simp) (fun W => sec_get (cutL l 8 12) W (by rw [cutL_length] <;> omega)) ?_
  simp only [Act.put, List.setIfInBounds_toArray, List.set_cons_succ, List.set_cons_zero]
  refine any_take 6 32 (.int .i64 (valM (cutL l 8 12))) rfl (by kernel_rfl) (by kernel_rfl) (by kernel_rfl) (fun _ _ _ h => h) (fun _ => by go_simp) ?_
  simp only [Act.put, List.setIfInBounds_toArray, List.set_cons_succ, List.set_cons_zero]
  refine any_take 7 33 (.string (str l)) rfl (by kernel_rfl) (by kernel_rfl) (by kernel_rfl) (fun _ _ _ h => h) (fun _ => rfl) ?_
  simp only [Act.put, List.setIfInBounds_toArray, List.set_cons_succ, List.set_cons_zero]
  refine any_take 8 34 (.string (str (cutL l 12 14))) rfl (by kernel_rfl) (by kernel_rfl) (by kernel_rfl) (fun _ _ _ h => h) (fun _ => by go_simp) ?_
  simp only [Act.put, List.setIfInBounds_toArray, List.set_cons_succ, List.set_cons_zero]
  refine any_call 9 35 (.int .u64 (valM (cutL l 12 14))) rfl (by kernel_rfl) (by kernel_rfl) (by kernel_rfl) (fun _ _ _ h => h) (f := 33) (args := #[.string (str (cutL l 12 14))]) (fun _ => by go_simp) (fun W => sec_get (cutL l 12 14) W (by rw [cutL_length] <;> omega)) ?_
  simp only [Act.put, List.setIfInBounds_toArray, List.set_cons_succ, List.set_cons_zero]
  refine any_take 10 36 (.int .i64 (valM (cutL l 12 14))) rfl (by kernel_rfl) (by kernel_rfl) (by kernel_rfl) (fun _ _ _ h => h) (fun _ => by go_simp) ?_
  simp only [Act.put, List.setIfInBounds_toArray, List.set_cons_succ, List.set_cons_zero]
  refine any_take 11 37 (.string (str l)) rfl (by kernel_rfl) (by kernel_rfl) (by kernel_rfl) (fun _ _ _ h => h) (fun _ => rfl) ?_
  simp only [Act.put, List.setIfInBounds_toArray, List.set_cons_succ, List.set_cons_zero]
  refine any_take 12 38 (.string (str (cutL l 14 16))) rfl (by kernel_rfl) (by kernel_rfl) (by kernel_rfl) (fun _ _ _ h => h) (fun _ => by go_simp) ?_
  simp only [Act.put, List.setIfInBounds_toArray, List.set_cons_succ, List.set_cons_zero]
  refine any_call 13 39 (.int .u64 (valM (cutL l 14 16))) rfl (by kernel_rfl) (by kernel_rfl) (by kernel_rfl) (fun _ _ _ h => h) (f := 33) (args := #[.string (str (cutL l 14 16))]) (fun _ => by go_simp) (fun W => sec_get (cutL l 14 16) W (by rw [cutL_length] <;> omega)) ?_
  simp only [Act.put, List.setIfInBounds_toArray, List.set_cons_succ, List.set_cons_zero]
  refine any_take 14 40 (.int .i64 (valM (cutL l 14 16))) rfl (by kernel_rfl) (by kernel_rfl) (by kernel_rfl) (fun _ _ _ h => h) (fun _ => by go_simp) ?_
  simp only [Act.put, List.setIfInBounds_toArray, List.set_cons_succ, List.set_cons_zero]
  refine any_take 15 41 (.string (str l)) rfl (by kernel_rfl) (by kernel_rfl) (by kernel_rfl) (fun _ _ _ h => h) (fun _ => rfl) ?_
  simp only [Act.put, List.setIfInBounds_toArray, List.set_cons_succ, List.set_cons_zero]
  refine any_take 16 42 (.string (str (cutL l 16 18))) rfl (by kernel_rfl) (by kernel_rfl) (by kernel_rfl) (fun _ _ _ h => h) (fun _ => by go_simp) ?_
  simp only [Act.put, List.setIfInBounds_toArray, List.set_cons_succ, List.set_cons_zero]
  refine any_call 17 43 (.int .u64 (valM (cutL l 16 18))) rfl (by kernel_rfl) (by kernel_rfl) (by kernel_rfl) (fun _ _ _ h => h) (f := 33) (args := #[.string (str (cutL l 16 18))]) (fun _ => by go_simp) (fun W => sec_get (cutL l 16 18) W (by rw [cutL_length] <;> omega)) ?_
  simp only [Act.put, List.setIfInBounds_toArray, List.set_cons_succ, List.set_cons_zero]
  refine any_take 18 44 (.int .i64 (valM (cutL l 16 18))) rfl (by kernel_rfl) (by kernel_rfl) (by kernel_rfl) (fun _ _ _ h => h) (fun _ => by go_simp) ?_
  simp only [Act.put, List.setIfInBounds_toArray, List.set_cons_succ, List.set_cons_zero]
  refine any_take 19 45 (.string (str l)) rfl (by kernel_rfl) (by kernel_rfl) (by kernel_rfl) (fun _ _ _ h => h) (fun _ => rfl) ?_
  simp only [Act.put, List.setIfInBounds_toArray, List.set_cons_succ, List.set_cons_zero]
  refine any_take 20 46 (.int .i64 m) rfl (by kernel_rfl) (by kernel_rfl) (by kernel_rfl) (fun _ _ _ h => h) (fun _ => rfl) ?_
  simp only [Act.put, List.setIfInBounds_toArray, List.set_cons_succ, List.set_cons_zero]
  refine any_take 21 47 (.string (str (cutL l 19 m))) rfl (by kernel_rfl) (by kernel_rfl) (by kernel_rfl) (fun _ _ _ h => h) (fun _ => by go_simp) ?_
  simp only [Act.put, List.setIfInBounds_toArray, List.set_cons_succ, List.set_cons_zero]
  refine any_take 22 48 (.agg #[.int .u64 (valM (cutL l 0 8)), .int .i64 (valM (cutL l 8 12)), .int .i64 (valM (cutL l 12 14)), .int .i64 (valM (cutL l 14 16)), .int .i64 (valM (cutL l 16 18)), .string (str (cutL l 19 m))]) rfl (by kernel_rfl) (by kernel_rfl) (by kernel_rfl) (fun _ _ _ h => h) (fun _ => by go_simp) ?_
  simp only [Act.put, List.setIfInBounds_toArray, List.set_cons_succ, List.set_cons_zero]
  have hp : pieceOf l = ⟨valM (cutL l 0 8), valM (cutL l 8 12), valM (cutL l 12 14), valM (cutL l 14 16), valM (cutL l 16 18), cutL l 19 m⟩ := by rw [← HM.out, ← HLC.out]; rfl
  obtain ⟨v1, hv1⟩ : ∃ v : Nat, valM (cutL l 0 8) = v := ⟨_, rfl⟩
  obtain ⟨v2, hv2⟩ : ∃ v : Nat, valM (cutL l 8 12) = v := ⟨_, rfl⟩
  obtain ⟨v3, hv3⟩ : ∃ v : Nat, valM (cutL l 12 14) = v := ⟨_, rfl⟩
  obtain ⟨v4, hv4⟩ : ∃ v : Nat, valM (cutL l 14 16) = v := ⟨_, rfl⟩
  obtain ⟨v5, hv5⟩ : ∃ v : Nat, valM (cutL l 16 18) = v := ⟨_, rfl⟩
  have hd : ∃ d, cutL l 19 m = d := ⟨_, rfl⟩
  rw [hv1, hv2, hv3, hv4, hv5] at hp ⊢
  obtain ⟨d, hd⟩ := hd
  rw [hd] at hp ⊢
  have HP := Lib.hid hp
  have HSR := Lib.hid (fun W => sec_right ⟨v1, v2, v3, v4, v5, d⟩ W)
  rw [hp] at HR
  rw [HR.out] at HSR
  simp only [PieceM.cells] at HSR
  obtain ⟨B, hB⟩ : ∃ B, w.heap.size = B := ⟨_, rfl⟩
  obtain ⟨W0, hW0⟩ : ∃ W0, ((w.alloc (Obj.cells #[.int .u64 0, .int .i64 0, .int .i64 0, .int .i64 0, .int .i64 0, .string { data := #[] }] 62)).drewN nq).drew = W0 := ⟨_, rfl⟩
  have X0 : Blk W0 B 62 zeroPiece.cells := by rw [← hW0, ← hB]; exact Blk.drew (Blk.drewN (Blk.new w _ _) _)
  have L0 : Below B w W0 := by rw [← hW0, ← hB]; exact (below_drewN ((Below.refl _ _).alloc (Nat.le_refl _) _) _).drew
  rw [hW0, hB]
  clear hv1 hv2 hv3 hv4 hv5 hd hp hu0 hu1 hu2 hu3 hw0 hw1 hw2 hw3 hx1 hx2 hx3 hx4 hx5 hx6 hx7 hget hW0 HR
  refine any1 23 (by kernel_rfl) (op_at 5 rfl (exec_alloc _ rfl _ _ infoz_piece rfl) ?_)
  simp only [Act.put, List.setIfInBounds_toArray, List.set_cons_succ, List.set_cons_zero]
  refine any1 24 (by kernel_rfl) (op_atu rfl (exec_store_new _ _ _ rfl W0 _ _ rfl rfl [.int .u64 v1, .int .i64 v2, .int .i64 v3, .int .i64 v4, .int .i64 v5, .string (str d)] rfl info_piece rfl (by simp [Value.oneCell'])) ?_)
  refine wpAny_done (by kernel_rfl) ?_ _
  go_wp2_with fail
  refine (HSR.out _).mono ?_
  rintro e W1 ⟨rfl, hb⟩
  obtain ⟨N, hN⟩ : ∃ N, W0.heap.size = N := ⟨_, rfl⟩
  have hBN : B < N := by have := X0.lt; omega
  have X1 : Blk W1 B 62 zeroPiece.cells := (X0.alloc _).below hb (by simp; omega)
  have L1 : Below B w W1 := (L0.alloc (by omega) _).trans (hb.mono (by simp; omega))
  rw [hN]
  clear hb hN L0 X0
  have hone : ∀ v ∈ ([.int .u64 0, .int .i64 0, .int .i64 0, .int .i64 0, .int .i64 0, .string ⟨#[]⟩] : List Value), v.oneCell' = true := by simp [Value.oneCell']
  have HONE := Lib.hid hone
  have HX := Lib.hid X1
  clear hone X1
  go_wp2_with (first
    | ((with_reducible refine wpList_is ⟨none, .store 62 (.tmp 2) (.tmp 59), _, _, _, _⟩ ?_); refine wpList_runu rfl (exec_store_agg _ _ _ rfl B 0 rfl [.int .u64 0, .int .i64 0, .int .i64 0, .int .i64 0, .int .i64 0, .string ⟨#[]⟩] rfl _ _ HX.out info_piece (Nat.le_refl 6) HONE.out) ?_))
  have XF : Blk (W1.setRow B (splice zeroPiece.cells.toList 0 [.int .u64 0, .int .i64 0, .int .i64 0, .int .i64 0, .int .i64 0, .string ⟨#[]⟩]).toArray) B 62 #[.int .u64 0, .int .i64 0, .int .i64 0, .int .i64 0, .int .i64 0, .string ⟨#[]⟩] := (HX.out).row _
  have LF := below_setRow (L1) (Nat.le_refl B) (splice zeroPiece.cells.toList 0 [.int .u64 0, .int .i64 0, .int .i64 0, .int .i64 0, .int .i64 0, .string ⟨#[]⟩]).toArray
  obtain ⟨WF, hWF⟩ : ∃ WF, WF = W1.setRow B (splice zeroPiece.cells.toList 0 [.int .u64 0, .int .i64 0, .int .i64 0, .int .i64 0, .int .i64 0, .string ⟨#[]⟩]).toArray := ⟨_, rfl⟩
  rw [← hWF] at XF LF ⊢
  have c0 := XF.cell 0
  have c1 := XF.cell 1
  have c2 := XF.cell 2
  have c3 := XF.cell 3
  have c4 := XF.cell 4
  have c5 := XF.cell 5
  simp at c0 c1 c2 c3 c4 c5
  clear hWF
  refine bodyPost_ret (v := .tuple #[.agg #[.int .u64 0, .int .i64 0, .int .i64 0, .int .i64 0, .int .i64 0, .string ⟨#[]⟩], .int .i64 3]) ((results_cell_tmp rfl _ _ _).trans (by go_simp)) rfl ⟨rfl, by rw [hB]; exact LF⟩

set_option maxRecDepth 100000 in
set_option maxHeartbeats 1000000 in
theorem sec_read_trail (l : List UInt8) (w : World) (h64 : l.length = 64) (heq : cutL l 0 8 = cutL l 56 64) (hn : lenOf l ≤ 37) (hr : rightM (pieceOf l) = true) (ht : Lib.trimB (cutL l (19 + lenOf l) 56) 0 ≠ []) :
    Calls Tryd.prog 22 #[.string (str l)] w fun e w' => e = .returned (.tuple #[.agg zeroPiece.cells, .int .i64 3]) ∧ Below w.heap.size w w' := by
  have hsz : (str l).size = 64 := by rw [str_size]; exact h64
  obtain ⟨c, hc⟩ : ∃ c : UInt8, l[18]? = some c := ⟨_, List.getElem?_eq_getElem (by omega)⟩
  have hlc : lenOf l = c.toNat := by simp [lenOf, hc]
  have hget : (str l)[18]'(by rw [str_size]; omega) = c := by
    have := List.getElem?_eq_some_iff.1 hc
    obtain ⟨_, h2⟩ := this
    rw [← h2]; rfl
  have hx1 := str_extract l 0 8
  have hx2 := str_extract l 56 64
  rw [← heq] at hx2
  have HR := Lib.hid hr
  have HT := Lib.hid ht
  have HE := Lib.hid heq
  rw [hlc] at hn
  obtain ⟨k, hk⟩ : ∃ k : Nat, c.toNat = k := ⟨_, rfl⟩
  rw [hk] at hlc hn
  rw [hlc] at HT
  have HLC := Lib.hid hlc
  have hgt : (37 < (k : Int)) = False := by simp; omega
  clear hr ht heq hc hlc
  go_enter Tryd.func22, Tryd.ntmps22
  go_wp2
  go_quiet (fail)
  go_wp2
  have hu0 : valM (cutL l 8 12) < 4294967296 := by have := valM_lt (cutL l 8 12); rw [cutL_length _ _ _ (by omega)] at this; simpa using this
  have hw0 : IntKind.i64.wrap (valM (cutL l 8 12)) = (valM (cutL l 8 12) : Int) := by rw [IntKind.wrap_i64]; omega
  have hu1 : valM (cutL l 12 14) < 65536 := by have := valM_lt (cutL l 12 14); rw [cutL_length _ _ _ (by omega)] at this; simpa using this
  have hw1 : IntKind.i64.wrap (valM (cutL l 12 14)) = (valM (cutL l 12 14) : Int) := by rw [IntKind.wrap_i64]; omega
  have hu2 : valM (cutL l 14 16) < 65536 := by have := valM_lt (cutL l 14 16); rw [cutL_length _ _ _ (by omega)] at this; simpa using this
  have hw2 : IntKind.i64.wrap (valM (cutL l 14 16)) = (valM (cutL l 14 16) : Int) := by rw [IntKind.wrap_i64]; omega
  have hu3 : valM (cutL l 16 18) < 65536 := by have := valM_lt (cutL l 16 18); rw [cutL_length _ _ _ (by omega)] at this; simpa using this
  have hw3 : IntKind.i64.wrap (valM (cutL l 16 18)) = (valM (cutL l 16 18) : Int) := by rw [IntKind.wrap_i64]; omega
  have hx3 := str_extract l 8 12
  have hx4 := str_extract l 12 14
  have hx5 := str_extract l 14 16
  have hx6 := str_extract l 16 18
  obtain ⟨m, hm⟩ : ∃ m : Nat, 19 + k = m := ⟨_, rfl⟩
  have hkm : 19 + (k : Int) = (m : Int) := by omega
  have hx7 := str_extract l 19 m
  have hx8 := str_extract l m 56
  rw [hkm]
  rw [hm] at HT
  have HM := Lib.hid hm
  have hm1 : (m : Int) ≤ 64 := by omega
  have hm2 : 19 ≤ (m : Int) := by omega
  have hm5 : (m : Int) ≤ 56 := by omega
  have hm3 : m ≤ 64 := by omega
  have hm4 : 19 ≤ m := by omega
  clear hm hkm
  refine wp_any (by kernel_rfl) ?_
  refine any_take 0 26 (.string (str l)) rfl (by kernel_rfl) (by kernel_rfl) (by kernel_rfl) (fun _ _ _ h => h) (fun _ => rfl) ?_
  simp only [Act.put, List.setIfInBounds_toArray, List.set_cons_succ, List.set_cons_zero]
  refine any_take 1 27 (.string (str (cutL l 0 8))) rfl (by kernel_rfl) (by kernel_rfl) (by kernel_rfl) (fun _ _ _ h => h) (fun _ => by go_simp) ?_
  simp only [Act.put, List.setIfInBounds_toArray, List.set_cons_succ, List.set_cons_zero]
  refine any_call 2 28 (.int .u64 (valM (cutL l 0 8))) rfl (by kernel_rfl) (by kernel_rfl) (by kernel_rfl) (fun _ _ _ h => h) (f := 33) (args := #[.string (str (cutL l 0 8))]) (fun _ => by go_simp) (fun W => sec_get (cutL l 0 8) W (by rw [cutL_length] <;> omega)) ?_
  simp only [Act.put, List.setIfInBounds_toArray, List.set_cons_succ, List.set_cons_zero]
  refine any_take 3 29 (.string (str l)) rfl (by kernel_rfl) (by kernel_rfl) (by kernel_rfl) (fun _ _ _ h => h) (fun _ => rfl) ?_
  simp only [Act.put, List.setIfInBounds_toArray, List.set_cons_succ, List.set_cons_zero]
  refine any_take 4 30 (.string (str (cutL l 8 12))) rfl (by kernel_rfl) (by kernel_rfl) (by kernel_rfl) (fun _ _ _ h => h) (fun _ => by go_simp) ?_
  simp only [Act.put, List.setIfInBounds_toArray, List.set_cons_succ, List.set_cons_zero]
  refine any_call 5 31 (.int .u64 (valM (cutL l 8 12))) rfl (by kernel_rfl) (by kernel_rfl) (by kernel_rfl) (fun _ _ _ h => h) (f := 33) (args := #[.string (str (cutL l 8 12))]) (fun _ => by go_simp) (fun W => sec_get (cutL l 8 12) W (by rw [cutL_length] <;> omega)) ?_
  simp only [Act.put, List.setIfInBounds_toArray, List.set_cons_succ, List.set_cons_zero]
  refine any_take 6 32 (.int .i64 (valM (cutL l 8 12))) rfl (by kernel_rfl) (by kernel_rfl) (by kernel_rfl) (fun _ _ _ h => h) (fun _ => by go_simp) ?_
  simp only [Act.put, List.setIfInBounds_toArray, List.set_cons_succ, List.set_cons_zero]
  refine any_take 7 33 (.string (str l)) rfl (by kernel_rfl) (by kernel_rfl) (by kernel_rfl) (fun _ _ _ h => h) (fun _ => rfl) ?_
  simp only [Act.put, List.setIfInBounds_toArray, List.set_cons_succ, List.set_cons_zero]
  refine any_take 8 34 (.string (str (cutL l 12 14))) rfl (by kernel_rfl) (by kernel_rfl) (by kernel_rfl) (fun _ _ _ h => h) (fun _ => by go_simp) ?_
  simp only [Act.put, List.setIfInBounds_toArray, List.set_cons_succ, List.set_cons_zero]
  refine any_call 9 35 (.int .u64 (valM (cutL l 12 14))) rfl (by kernel_rfl) (by kernel_rfl) (by kernel_rfl) (fun _ _ _ h => h) (f := 33) (args := #[.string (str (cutL l 12 14))]) (fun _ => by go_simp) (fun W => sec_get (cutL l 12 14) W (by rw [cutL_length] <;> omega)) ?_
  simp only [Act.put, List.setIfInBounds_toArray, List.set_cons_succ, List.set_cons_zero]
  refine any_take 10 36 (.int .i64 (valM (cutL l 12 14))) rfl (by kernel_rfl) (by kernel_rfl) (by kernel_rfl) (fun _ _ _ h => h) (fun _ => by go_simp) ?_
  simp only [Act.put, List.setIfInBounds_toArray, List.set_cons_succ, List.set_cons_zero]
  refine any_take 11 37 (.string (str l)) rfl (by kernel_rfl) (by kernel_rfl) (by kernel_rfl) (fun _ _ _ h => h) (fun _ => rfl) ?_
  simp only [Act.put, List.setIfInBounds_toArray, List.set_cons_succ, List.set_cons_zero]
  refine any_take 12 38 (.string (str (cutL l 14 16))) rfl (by kernel_rfl) (by kernel_rfl) (by kernel_rfl) (fun _ _ _ h => h) (fun _ => by go_simp) ?_
  simp only [Act.put, List.setIfInBounds_toArray, List.set_cons_succ, List.set_cons_zero]
  refine any_call 13 39 (.int .u64 (valM (cutL l 14 16))) rfl (by kernel_rfl) (by kernel_rfl) (by kernel_rfl) (fun _ _ _ h => h) (f := 33) (args := #[.string (str (cutL l 14 16))]) (fun _ => by go_simp) (fun W => sec_get (cutL l 14 16) W (by rw [cutL_length] <;> omega)) ?_
  simp only [Act.put, List.setIfInBounds_toArray, List.set_cons_succ, List.set_cons_zero]
  refine any_take 14 40 (.int .i64 (valM (cutL l 14 16))) rfl (by kernel_rfl) (by kernel_rfl) (by kernel_rfl) (fun _ _ _ h => h) (fun _ => by go_simp) ?_
  simp only [Act.put, List.setIfInBounds_toArray, List.set_cons_succ, List.set_cons_zero]
  refine any_take 15 41 (.string (str l)) rfl (by kernel_rfl) (by kernel_rfl) (by kernel_rfl) (fun _ _ _ h => h) (fun _ => rfl) ?_
  simp only [Act.put, List.setIfInBounds_toArray, List.set_cons_succ, List.set_cons_zero]
  refine any_take 16 42 (.string (str (cutL l 16 18))) rfl (by kernel_rfl) (by kernel_rfl) (by kernel_rfl) (fun _ _ _ h => h) (fun _ => by go_simp) ?_
  simp only [Act.put, List.setIfInBounds_toArray, List.set_cons_succ, List.set_cons_zero]
  refine any_call 17 43 (.int .u64 (valM (cutL l 16 18))) rfl (by kernel_rfl) (by kernel_rfl) (by kernel_rfl) (fun _ _ _ h => h) (f := 33) (args := #[.string (str (cutL l 16 18))]) (fun _ => by go_simp) (fun W => sec_get (cutL l 16 18) W (by rw [cutL_length] <;> omega)) ?_
  simp only [Act.put, List.setIfInBounds_toArray, List.set_cons_succ, List.set_cons_zero]
  refine any_take 18 44 (.int .i64 (valM (cutL l 16 18))) rfl (by kernel_rfl) (by kernel_rfl) (by kernel_rfl) (fun _ _ _ h => h) (fun _ => by go_simp) ?_
  simp only [Act.put, List.setIfInBounds_toArray, List.set_cons_succ, List.set_cons_zero]
  refine any_take 19 45 (.string (str l)) rfl (by kernel_rfl) (by kernel_rfl) (by kernel_rfl) (fun _ _ _ h => h) (fun _ => rfl) ?_
  simp only [Act.put, List.setIfInBounds_toArray, List.set_cons_succ, List.set_cons_zero]
  refine any_take 20 46 (.int .i64 m) rfl (by kernel_rfl) (by kernel_rfl) (by kernel_rfl) (fun _ _ _ h => h) (fun _ => rfl) ?_
  simp only [Act.put, List.setIfInBounds_toArray, List.set_cons_succ, List.set_cons_zero]
  refine any_take 21 47 (.string (str (cutL l 19 m))) rfl (by kernel_rfl) (by kernel_rfl) (by kernel_rfl) (fun _ _ _ h => h) (fun _ => by go_simp) ?_
  simp only [Act.put, List.setIfInBounds_toArray, List.set_cons_succ, List.set_cons_zero]
  refine any_take 22 48 (.agg #[.int .u64 (valM (cutL l 0 8)), .int .i64 (valM (cutL l 8 12)), .int .i64 (valM (cutL l 12 14)), .int .i64 (valM (cutL l 14 16)), .int .i64 (valM (cutL l 16 18)), .string (str (cutL l 19 m))]) rfl (by kernel_rfl) (by kernel_rfl) (by kernel_rfl) (fun _ _ _ h => h) (fun _ => by go_simp) ?_
  simp only [Act.put, List.setIfInBounds_toArray, List.set_cons_succ, List.set_cons_zero]
  have hp : pieceOf l = ⟨valM (cutL l 0 8), valM (cutL l 8 12), valM (cutL l 12 14), valM (cutL l 14 16), valM (cutL l 16 18), cutL l 19 m⟩ := by rw [← HM.out, ← HLC.out]; rfl
  obtain ⟨v1, hv1⟩ : ∃ v : Nat, valM (cutL l 0 8) = v := ⟨_, rfl⟩
  obtain ⟨v2, hv2⟩ : ∃ v : Nat, valM (cutL l 8 12) = v := ⟨_, rfl⟩
  obtain ⟨v3, hv3⟩ : ∃ v : Nat, valM (cutL l 12 14) = v := ⟨_, rfl⟩
  obtain ⟨v4, hv4⟩ : ∃ v : Nat, valM (cutL l 14 16) = v := ⟨_, rfl⟩
  obtain ⟨v5, hv5⟩ : ∃ v : Nat, valM (cutL l 16 18) = v := ⟨_, rfl⟩
  have hd : ∃ d, cutL l 19 m = d := ⟨_, rfl⟩
  rw [hv1, hv2, hv3, hv4, hv5] at hp ⊢
  obtain ⟨d, hd⟩ := hd
  rw [hd] at hp ⊢
  have HP := Lib.hid hp
  have HSR := Lib.hid (fun W => sec_right ⟨v1, v2, v3, v4, v5, d⟩ W)
  rw [hp] at HR
  rw [HR.out] at HSR
  simp only [PieceM.cells] at HSR
  obtain ⟨B, hB⟩ : ∃ B, w.heap.size = B := ⟨_, rfl⟩
  obtain ⟨W0, hW0⟩ : ∃ W0, ((w.alloc (Obj.cells #[.int .u64 0, .int .i64 0, .int .i64 0, .int .i64 0, .int .i64 0, .string { data := #[] }] 62)).drewN nq).drew = W0 := ⟨_, rfl⟩
  have X0 : Blk W0 B 62 zeroPiece.cells := by rw [← hW0, ← hB]; exact Blk.drew (Blk.drewN (Blk.new w _ _) _)
  have L0 : Below B w W0 := by rw [← hW0, ← hB]; exact (below_drewN ((Below.refl _ _).alloc (Nat.le_refl _) _) _).drew
  rw [hW0, hB]
  clear hv1 hv2 hv3 hv4 hv5 hd hp hu0 hu1 hu2 hu3 hw0 hw1 hw2 hw3 hx1 hx2 hx3 hx4 hx5 hx6 hx7 hget hW0 HR
  refine any1 23 (by kernel_rfl) (op_at 5 rfl (exec_alloc _ rfl _ _ infoz_piece rfl) ?_)
  simp only [Act.put, List.setIfInBounds_toArray, List.set_cons_succ, List.set_cons_zero]
  refine any1 24 (by kernel_rfl) (op_atu rfl (exec_store_new _ _ _ rfl W0 _ _ rfl rfl [.int .u64 v1, .int .i64 v2, .int .i64 v3, .int .i64 v4, .int .i64 v5, .string (str d)] rfl info_piece rfl (by simp [Value.oneCell'])) ?_)
  refine wpAny_done (by kernel_rfl) ?_ _
  obtain ⟨T, hT⟩ : ∃ T : ByteArray, T = ⟨(Lib.trimB (cutL l m 56) 0).toArray⟩ := ⟨_, rfl⟩
  have hTn : T ≠ ⟨#[]⟩ := by
    intro h
    rw [hT] at h
    exact HT.out (by simpa using congrArg (fun x => x.data.toList) h)
  have hTe : T.toList.isEmpty = false := by
    rw [← decide_eq_emptyBytes]
    exact decide_eq_false hTn
  have hTr : ∀ W, Calls Tryd.prog 35 #[.string (str (cutL l m 56)), .string ⟨#[0]⟩] W fun e w' => e = .returned (.string T) ∧ ∃ q, w' = W.drewN q := by
    intro W
    refine (std_Trim_one (str (cutL l m 56)) 0 (by decide) W (by rw [str_size, cutL_length _ _ _ (by omega)]; omega)).mono ?_
    rintro e w' ⟨rfl, h⟩
    refine ⟨?_, ?_⟩
    · rw [str_list, hT]
    · rcases h with rfl | rfl
      · exact ⟨0, rfl⟩
      · exact ⟨1, rfl⟩
  have HTR := Lib.hid hTr
  clear hTr hT
  go_wp2_with fail
  refine (HSR.out _).mono ?_
  rintro e W1 ⟨rfl, hb⟩
  obtain ⟨N, hN⟩ : ∃ N, W0.heap.size = N := ⟨_, rfl⟩
  have hBN : B < N := by have := X0.lt; omega
  have X1 : Blk W1 B 62 zeroPiece.cells := (X0.alloc _).below hb (by simp; omega)
  have L1 : Below B w W1 := (L0.alloc (by omega) _).trans (hb.mono (by simp; omega))
  rw [hN]
  clear hb hN L0 X0
  have hone : ∀ v ∈ ([.int .u64 0, .int .i64 0, .int .i64 0, .int .i64 0, .int .i64 0, .string ⟨#[]⟩] : List Value), v.oneCell' = true := by simp [Value.oneCell']
  have HONE := Lib.hid hone
  have HX := Lib.hid X1
  clear hone X1
  go_wp2_with (first
    | (go_at_call 35; refine (HTR.out _).mono ?_; rintro e w' ⟨rfl, q, rfl⟩)
    | ((with_reducible refine wpList_is ⟨none, .store 62 (.tmp 2) (.tmp 59), _, _, _, _⟩ ?_); refine wpList_runu rfl (exec_store_agg _ _ _ rfl B 0 rfl [.int .u64 0, .int .i64 0, .int .i64 0, .int .i64 0, .int .i64 0, .string ⟨#[]⟩] rfl _ _ (Blk.drewN HX.out _) info_piece (Nat.le_refl 6) HONE.out) ?_))
  have XF : Blk ((W1.drewN q).setRow B (splice zeroPiece.cells.toList 0 [.int .u64 0, .int .i64 0, .int .i64 0, .int .i64 0, .int .i64 0, .string ⟨#[]⟩]).toArray) B 62 #[.int .u64 0, .int .i64 0, .int .i64 0, .int .i64 0, .int .i64 0, .string ⟨#[]⟩] := (Blk.drewN HX.out q).row _
  have LF := below_setRow (below_drewN L1 q) (Nat.le_refl B) (splice zeroPiece.cells.toList 0 [.int .u64 0, .int .i64 0, .int .i64 0, .int .i64 0, .int .i64 0, .string ⟨#[]⟩]).toArray
  obtain ⟨WF, hWF⟩ : ∃ WF, WF = (W1.drewN q).setRow B (splice zeroPiece.cells.toList 0 [.int .u64 0, .int .i64 0, .int .i64 0, .int .i64 0, .int .i64 0, .string ⟨#[]⟩]).toArray := ⟨_, rfl⟩
  rw [← hWF] at XF LF ⊢
  have c0 := XF.cell 0
  have c1 := XF.cell 1
  have c2 := XF.cell 2
  have c3 := XF.cell 3
  have c4 := XF.cell 4
  have c5 := XF.cell 5
  simp at c0 c1 c2 c3 c4 c5
  clear hWF
  refine bodyPost_ret (v := .tuple #[.agg #[.int .u64 0, .int .i64 0, .int .i64 0, .int .i64 0, .int .i64 0, .string ⟨#[]⟩], .int .i64 3]) ((results_cell_tmp rfl _ _ _).trans (by go_simp)) rfl ⟨rfl, by rw [hB]; exact LF⟩

set_option maxRecDepth 100000 in
set_option maxHeartbeats 1000000 in
theorem sec_read_short (l : List UInt8) (w : World) (h64 : l.length ≠ 64) :
    Calls Tryd.prog 22 #[.string (str l)] w fun e w' => e = .returned (.tuple #[.agg zeroPiece.cells, .int .i64 3]) ∧ Below w.heap.size w w' := by
  have hsz : (str l).size = l.length := str_size l
  have h64i : ((l.length : Int) = 64) = False := by simp; omega
  go_enter Tryd.func22, Tryd.ntmps22
  go_wp2
  go_quiet (fail)
  obtain ⟨B, hB⟩ : ∃ B, w.heap.size = B := ⟨_, rfl⟩
  obtain ⟨W1, hW0⟩ : ∃ W0, (w.alloc (Obj.cells #[.int .u64 0, .int .i64 0, .int .i64 0, .int .i64 0, .int .i64 0, .string { data := #[] }] 62)).drewN nq = W0 := ⟨_, rfl⟩
  have X1 : Blk W1 B 62 zeroPiece.cells := by rw [← hW0, ← hB]; exact Blk.drewN (Blk.new w _ _) _
  have L1 : Below B w W1 := by rw [← hW0, ← hB]; exact below_drewN ((Below.refl _ _).alloc (Nat.le_refl _) _) _
  rw [hW0, hB]
  clear hW0
  have hone : ∀ v ∈ ([.int .u64 0, .int .i64 0, .int .i64 0, .int .i64 0, .int .i64 0, .string ⟨#[]⟩] : List Value), v.oneCell' = true := by simp [Value.oneCell']
  have HONE := Lib.hid hone
  have HX := Lib.hid X1
  clear hone X1
  go_wp2_with (first
    | ((with_reducible refine wpList_is ⟨none, .store 62 (.tmp 2) (.tmp 21), _, _, _, _⟩ ?_); refine wpList_runu rfl (exec_store_agg _ _ _ rfl B 0 rfl [.int .u64 0, .int .i64 0, .int .i64 0, .int .i64 0, .int .i64 0, .string ⟨#[]⟩] rfl _ _ HX.out info_piece (Nat.le_refl 6) HONE.out) ?_))
  have XF : Blk (W1.setRow B (splice zeroPiece.cells.toList 0 [.int .u64 0, .int .i64 0, .int .i64 0, .int .i64 0, .int .i64 0, .string ⟨#[]⟩]).toArray) B 62 #[.int .u64 0, .int .i64 0, .int .i64 0, .int .i64 0, .int .i64 0, .string ⟨#[]⟩] := (HX.out).row _
  have LF := below_setRow (L1) (Nat.le_refl B) (splice zeroPiece.cells.toList 0 [.int .u64 0, .int .i64 0, .int .i64 0, .int .i64 0, .int .i64 0, .string ⟨#[]⟩]).toArray
  obtain ⟨WF, hWF⟩ : ∃ WF, WF = W1.setRow B (splice zeroPiece.cells.toList 0 [.int .u64 0, .int .i64 0, .int .i64 0, .int .i64 0, .int .i64 0, .string ⟨#[]⟩]).toArray := ⟨_, rfl⟩
  rw [← hWF] at XF LF ⊢
  have c0 := XF.cell 0
  have c1 := XF.cell 1
  have c2 := XF.cell 2
  have c3 := XF.cell 3
  have c4 := XF.cell 4
  have c5 := XF.cell 5
  simp at c0 c1 c2 c3 c4 c5
  clear hWF
  refine bodyPost_ret (v := .tuple #[.agg #[.int .u64 0, .int .i64 0, .int .i64 0, .int .i64 0, .int .i64 0, .string ⟨#[]⟩], .int .i64 3]) ((results_cell_tmp rfl _ _ _).trans (by go_simp)) rfl ⟨rfl, by rw [hB]; exact LF⟩

set_option maxRecDepth 100000 in
set_option maxHeartbeats 1000000 in
theorem sec_read_torn (l : List UInt8) (w : World) (h64 : l.length = 64) (heq : cutL l 0 8 ≠ cutL l 56 64) :
    Calls Tryd.prog 22 #[.string (str l)] w fun e w' => e = .returned (.tuple #[.agg zeroPiece.cells, .int .i64 3]) ∧ Below w.heap.size w w' := by
  have hsz : (str l).size = 64 := by rw [str_size]; exact h64
  have hx1 := str_extract l 0 8
  have hx2 := str_extract l 56 64
  have hne : ((str (cutL l 0 8)).toList == (str (cutL l 56 64)).toList) = false := by
    rw [beq_eq_false_iff_ne, ByteArray.toList_eq, ByteArray.toList_eq, str_list, str_list]
    exact heq
  clear heq
  go_enter Tryd.func22, Tryd.ntmps22
  go_wp2
  go_quiet (fail)
  obtain ⟨B, hB⟩ : ∃ B, w.heap.size = B := ⟨_, rfl⟩
  obtain ⟨W1, hW0⟩ : ∃ W0, (w.alloc (Obj.cells #[.int .u64 0, .int .i64 0, .int .i64 0, .int .i64 0, .int .i64 0, .string { data := #[] }] 62)).drewN nq = W0 := ⟨_, rfl⟩
  have X1 : Blk W1 B 62 zeroPiece.cells := by rw [← hW0, ← hB]; exact Blk.drewN (Blk.new w _ _) _
  have L1 : Below B w W1 := by rw [← hW0, ← hB]; exact below_drewN ((Below.refl _ _).alloc (Nat.le_refl _) _) _
  rw [hW0, hB]
  clear hW0
  have hone : ∀ v ∈ ([.int .u64 0, .int .i64 0, .int .i64 0, .int .i64 0, .int .i64 0, .string ⟨#[]⟩] : List Value), v.oneCell' = true := by simp [Value.oneCell']
  have HONE := Lib.hid hone
  have HX := Lib.hid X1
  clear hone X1
  go_wp2_with (first
    | ((with_reducible refine wpList_is ⟨none, .store 62 (.tmp 2) (.tmp 21), _, _, _, _⟩ ?_); refine wpList_runu rfl (exec_store_agg _ _ _ rfl B 0 rfl [.int .u64 0, .int .i64 0, .int .i64 0, .int .i64 0, .int .i64 0, .string ⟨#[]⟩] rfl _ _ HX.out info_piece (Nat.le_refl 6) HONE.out) ?_))
  have XF : Blk (W1.setRow B (splice zeroPiece.cells.toList 0 [.int .u64 0, .int .i64 0, .int .i64 0, .int .i64 0, .int .i64 0, .string ⟨#[]⟩]).toArray) B 62 #[.int .u64 0, .int .i64 0, .int .i64 0, .int .i64 0, .int .i64 0, .string ⟨#[]⟩] := (HX.out).row _
  have LF := below_setRow (L1) (Nat.le_refl B) (splice zeroPiece.cells.toList 0 [.int .u64 0, .int .i64 0, .int .i64 0, .int .i64 0, .int .i64 0, .string ⟨#[]⟩]).toArray
  obtain ⟨WF, hWF⟩ : ∃ WF, WF = W1.setRow B (splice zeroPiece.cells.toList 0 [.int .u64 0, .int .i64 0, .int .i64 0, .int .i64 0, .int .i64 0, .string ⟨#[]⟩]).toArray := ⟨_, rfl⟩
  rw [← hWF] at XF LF ⊢
  have c0 := XF.cell 0
  have c1 := XF.cell 1
  have c2 := XF.cell 2
  have c3 := XF.cell 3
  have c4 := XF.cell 4
  have c5 := XF.cell 5
  simp at c0 c1 c2 c3 c4 c5
  clear hWF
  refine bodyPost_ret (v := .tuple #[.agg #[.int .u64 0, .int .i64 0, .int .i64 0, .int .i64 0, .int .i64 0, .string ⟨#[]⟩], .int .i64 3]) ((results_cell_tmp rfl _ _ _).trans (by go_simp)) rfl ⟨rfl, by rw [hB]; exact LF⟩

set_option maxRecDepth 100000 in
set_option maxHeartbeats 1000000 in
theorem sec_read_long (l : List UInt8) (w : World) (h64 : l.length = 64) (heq : cutL l 0 8 = cutL l 56 64) (hn : ¬ lenOf l ≤ 37) :
    Calls Tryd.prog 22 #[.string (str l)] w fun e w' => e = .returned (.tuple #[.agg zeroPiece.cells, .int .i64 3]) ∧ Below w.heap.size w w' := by
  have hsz : (str l).size = 64 := by rw [str_size]; exact h64
  obtain ⟨c, hc⟩ : ∃ c : UInt8, l[18]? = some c := ⟨_, List.getElem?_eq_getElem (by omega)⟩
  have hlc : lenOf l = c.toNat := by simp [lenOf, hc]
  have hget : (str l)[18]'(by rw [str_size]; omega) = c := by
    have := List.getElem?_eq_some_iff.1 hc
    obtain ⟨_, h2⟩ := this
    rw [← h2]; rfl
  have hx1 := str_extract l 0 8
  have hx2 := str_extract l 56 64
  rw [← heq] at hx2
  rw [hlc] at hn
  obtain ⟨k, hk⟩ : ∃ k : Nat, c.toNat = k := ⟨_, rfl⟩
  rw [hk] at hlc hn
  have hgt : (37 < (k : Int)) = True := by simp; omega
  clear heq hc hlc
  go_enter Tryd.func22, Tryd.ntmps22
  go_wp2
  go_quiet (fail)
  obtain ⟨B, hB⟩ : ∃ B, w.heap.size = B := ⟨_, rfl⟩
  obtain ⟨W1, hW0⟩ : ∃ W0, (w.alloc (Obj.cells #[.int .u64 0, .int .i64 0, .int .i64 0, .int .i64 0, .int .i64 0, .string { data := #[] }] 62)).drewN nq = W0 := ⟨_, rfl⟩
  have X1 : Blk W1 B 62 zeroPiece.cells := by rw [← hW0, ← hB]; exact Blk.drewN (Blk.new w _ _) _
  have L1 : Below B w W1 := by rw [← hW0, ← hB]; exact below_drewN ((Below.refl _ _).alloc (Nat.le_refl _) _) _
  rw [hW0, hB]
  clear hW0
  have hone : ∀ v ∈ ([.int .u64 0, .int .i64 0, .int .i64 0, .int .i64 0, .int .i64 0, .string ⟨#[]⟩] : List Value), v.oneCell' = true := by simp [Value.oneCell']
  have HONE := Lib.hid hone
  have HX := Lib.hid X1
  clear hone X1
  go_wp2_with (first
    | ((with_reducible refine wpList_is ⟨none, .store 62 (.tmp 2) (.tmp 21), _, _, _, _⟩ ?_); refine wpList_runu rfl (exec_store_agg _ _ _ rfl B 0 rfl [.int .u64 0, .int .i64 0, .int .i64 0, .int .i64 0, .int .i64 0, .string ⟨#[]⟩] rfl _ _ HX.out info_piece (Nat.le_refl 6) HONE.out) ?_))
  have XF : Blk (W1.setRow B (splice zeroPiece.cells.toList 0 [.int .u64 0, .int .i64 0, .int .i64 0, .int .i64 0, .int .i64 0, .string ⟨#[]⟩]).toArray) B 62 #[.int .u64 0, .int .i64 0, .int .i64 0, .int .i64 0, .int .i64 0, .string ⟨#[]⟩] := (HX.out).row _
  have LF := below_setRow (L1) (Nat.le_refl B) (splice zeroPiece.cells.toList 0 [.int .u64 0, .int .i64 0, .int .i64 0, .int .i64 0, .int .i64 0, .string ⟨#[]⟩]).toArray
  obtain ⟨WF, hWF⟩ : ∃ WF, WF = W1.setRow B (splice zeroPiece.cells.toList 0 [.int .u64 0, .int .i64 0, .int .i64 0, .int .i64 0, .int .i64 0, .string ⟨#[]⟩]).toArray := ⟨_, rfl⟩
  rw [← hWF] at XF LF ⊢
  have c0 := XF.cell 0
  have c1 := XF.cell 1
  have c2 := XF.cell 2
  have c3 := XF.cell 3
  have c4 := XF.cell 4
  have c5 := XF.cell 5
  simp at c0 c1 c2 c3 c4 c5
  clear hWF
  refine bodyPost_ret (v := .tuple #[.agg #[.int .u64 0, .int .i64 0, .int .i64 0, .int .i64 0, .int .i64 0, .string ⟨#[]⟩], .int .i64 3]) ((results_cell_tmp rfl _ _ _).trans (by go_simp)) rfl ⟨rfl, by rw [hB]; exact LF⟩

/-- The program reads a sector as 'readsM' says. -/
theorem sec_read_all (l : List UInt8) (w : World) :
    Calls Tryd.prog 22 #[.string (str l)] w fun e w' => e = .returned (match readsM l with | some p => .tuple #[.agg p.cells, .int .i64 0] | none => .tuple #[.agg zeroPiece.cells, .int .i64 3]) ∧ Below w.heap.size w w' := by
  unfold readsM
  by_cases h64 : l.length = 64
  · by_cases heq : cutL l 0 8 = cutL l 56 64
    · by_cases hn : lenOf l ≤ 37
      · cases hr : rightM (pieceOf l) with
        | false => simpa [hr] using sec_read_wrong l w h64 heq hn hr
        | true =>
          by_cases ht : Lib.trimB (cutL l (19 + lenOf l) 56) 0 = []
          · rw [if_pos ⟨h64, heq, hn, rfl, ht⟩]; exact sec_read l w h64 heq hn hr ht
          · rw [if_neg (fun h => ht h.2.2.2.2)]; exact sec_read_trail l w h64 heq hn hr ht
      · rw [if_neg (fun h => hn h.2.2.1)]; exact sec_read_long l w h64 heq hn
    · rw [if_neg (fun h => heq h.2.1)]; exact sec_read_torn l w h64 heq
  · rw [if_neg (fun h => h64 h.1)]; exact sec_read_short l w h64
end Go.Proofs.YtnofeblcnamfeaaDoor
