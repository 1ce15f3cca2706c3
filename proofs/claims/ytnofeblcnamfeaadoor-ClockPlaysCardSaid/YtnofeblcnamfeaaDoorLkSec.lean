/- Layer 4: sectors. -/
import Derived.Test.YtnofeblcnamfeaaDoorProg
import Derived.Test.YtnofeblcnamfeaaDoorLk1
namespace Go.Proofs.YtnofeblcnamfeaaDoor
open Go.RowKit Go.Proofs

/-- 64 noughts. -/
def zeroA : Array Value := Array.replicate 64 (.int .u8 0)
structure PieceM where
  stamp : Int
  gen : Int
  no : Int
  index : Int
  total : Int
  data : List UInt8
def PieceM.cells (p : PieceM) : Array Value := #[.int .u64 p.stamp, .int .i64 p.gen, .int .i64 p.no, .int .i64 p.index, .int .i64 p.total, .string (str p.data)]
def withinB (n up : Int) : Bool := decide (0 ≤ n) && decide (n < up)
def rightM (p : PieceM) : Bool := withinB p.gen 2147483648 && withinB p.no 65536 && withinB p.total 65536 && withinB p.index p.total && decide (p.data.length ≤ 37)

set_option maxHeartbeats 400000 in
theorem sec_within (n up : Int) (w : World) :
    Calls Tryd.prog 44 #[.int .i64 n, .int .i64 up] w fun e w' => e = .returned (.bool (withinB n up)) ∧ w = w' := by
  by_cases h : 0 ≤ n
  · go_enter Tryd.func44, Tryd.ntmps44
    go_wp2
    go_ret
    exact ⟨ret_bool (by simp [withinB, h]), rfl⟩
  · go_enter Tryd.func44, Tryd.ntmps44
    go_wp2
    go_ret
    exact ⟨ret_bool (by simp [withinB]; omega), rfl⟩

set_option maxHeartbeats 1000000 in
theorem sec_right (p : PieceM) (w : World) :
    Calls Tryd.prog 34 #[.agg p.cells] w fun e w' => e = .returned (.bool (rightM p)) ∧ Below w.heap.size w w' := by
  obtain ⟨st, ge, no, ix, tt, d⟩ := p
  have hW := fun n up W => sec_within n up W
  have HW := Lib.hid hW
  have hd : (str d).size = d.length := str_size d
  simp only [PieceM.cells]
  clear hW
  go_enter Tryd.func34, Tryd.ntmps34
  go_wp2_with (go_at_call 44; refine (HW.out _ _ _).mono ?_; rintro e w' ⟨rfl, rfl⟩)
  all_goals
    go_ret
    exact ⟨ret_bool (by simp_all [rightM]; try omega), (Below.refl _ _).alloc (Nat.le_refl _) _⟩

theorem u8s_cons (v : UInt8) (l : List UInt8) : u8s (v :: l) = .int .u8 v.toNat :: u8s l := rfl

set_option maxHeartbeats 1000000 in
theorem sec_put (g t off k cap : Nat) (cur : List Value) (n : Nat) (w : World) (hg : Blk w g t cur.toArray) (hfit : off + k ≤ cur.length) (hk : k ≤ 1000) (hn : n < 18446744073709551616) (h0 : 0 < k) :
    Calls Tryd.prog 42 #[.slice (some ⟨g, off, none⟩) k cap, .int .u64 n] w fun e w' => e = .returned (.tuple #[]) ∧ Blk w' g t (splice cur off (u8s (be k n))).toArray ∧ Only g w w' := by
  go_enter Tryd.func42, Tryd.ntmps42
  go_wp2
  go_loopw [1, 4] (fun nn i wr => ∃ m : Nat, m ≤ k ∧ i = .int .i64 ((k : Int) - 1 - m) ∧ nn = .int .u64 ((n / 256 ^ m : Nat) : Int) ∧ Blk wr g t (splice cur (off + (k - m)) (u8s (be m n))).toArray ∧ Only g w wr) (fun _ i _ => (intOf i + 1).toNat)
  case atStart => exact ⟨0, Nat.zero_le _, by simp, by simp, by simpa [be, u8s, splice_nil] using hg, Only.refl _ _⟩
  case round =>
    obtain ⟨m, hm, rfl, rfl, hblk, hon⟩ := hrel
    by_cases hlt : m < k
    · have hp : (n / 256 ^ m) / 256 = n / 256 ^ (m + 1) := by rw [Nat.div_div_eq_div_mul, Nat.pow_succ]
      obtain ⟨q, hq⟩ : ∃ q, n / 256 ^ m = q := ⟨_, rfl⟩
      rw [hq] at hp
      have hqn : q ≤ n := by rw [← hq]; exact Nat.div_le_self _ _
      have hcl : (splice cur (off + (k - m)) (u8s (be m n))).length = cur.length := length_splice _ _ _ (by rw [u8s_length, be_length]; omega)
      obtain ⟨j, hj⟩ : ∃ j, k - m = j + 1 := ⟨k - m - 1, by omega⟩
      have hji : (k : Int) - 1 - m = (j : Int) := by omega
      have hoj : off + (j + 1) = off + j + 1 := by omega
      rw [hj, hoj] at hblk hcl
      obtain ⟨v0, hv0⟩ : ∃ v0, (splice cur (off + j + 1) (u8s (be m n)))[off + j]? = some v0 := ⟨_, List.getElem?_eq_getElem (by omega)⟩
      have hcell : wr.cell? ⟨g, off + j, none⟩ = some v0 := by rw [hblk.cell]; simpa using hv0
      have hfro := hblk.frozen (off + j)
      have hnew : Blk (wr.setCell ⟨g, off + j, none⟩ (.int .u8 ((q : Int) % 256))) g t (splice cur (off + (k - (m + 1))) (u8s (be (m + 1) n))).toArray := by
        have h1 := hblk.set_ (off + j) (.int .u8 ((q : Int) % 256))
        have e : (splice cur (off + j + 1) (u8s (be m n))).set (off + j) (.int .u8 ((q : Int) % 256)) = splice cur (off + (k - (m + 1))) (u8s (be (m + 1) n)) := by
          rw [splice_set _ _ _ _ (by rw [u8s_length, be_length]; omega), show k - (m + 1) = j by omega]
          simp only [be, u8s_cons, hq]
          congr 2
          simp
        rw [← e]
        simpa using h1
      have Hnew := Lib.hid hnew
      have Hp := Lib.hid hp
      have Hj := Lib.hid hj
      have Hon := Lib.hid hon
      have hjlt : j < k := by omega
      rw [hq, hji]
      clear hnew hp hj hon hq hblk hcl hv0 hoj hji
      go_wp2
      go_roundw
      case rel =>
        refine ⟨m + 1, by omega, congrArg _ (by have := Hj.out; omega), congrArg _ ?_, Hnew.out, Hon.out.set_ _ _⟩
        rw [← Hp.out]
        exact (Int.natCast_ediv q 256).symm
      case measure => simp [intOf]
    · obtain rfl : m = k := by omega
      have e : (m : Int) - 1 - m = -1 := by omega
      rw [e]
      have hfin : Blk wr g t (splice cur off (u8s (be m n))).toArray ∧ Only g w wr := ⟨by simpa using hblk, hon⟩
      have Hfin := Lib.hid hfin
      clear hfin hblk hon e
      go_wp2
      go_end0
      exact ⟨rfl, Hfin.out⟩

/-- The number of bytes, the highest first. -/
def valM (l : List UInt8) : Nat := l.foldl (fun n c => 256 * n + c.toNat) 0
theorem valM_snoc (l : List UInt8) (c : UInt8) : valM (l ++ [c]) = 256 * valM l + c.toNat := by simp [valM]
theorem valM_lt_aux : ∀ (l : List UInt8) (n : Nat), l.foldl (fun n c => 256 * n + c.toNat) n < (n + 1) * 256 ^ l.length
  | [], n => by simp
  | c :: l, n => by
    have h := valM_lt_aux l (256 * n + c.toNat)
    have hc := c.toNat_lt
    simp only [List.foldl_cons, List.length_cons]
    refine Nat.lt_of_lt_of_le h ?_
    rw [Nat.pow_succ, Nat.mul_comm (256 ^ l.length) 256, ← Nat.mul_assoc]
    exact Nat.mul_le_mul_right _ (by omega)
theorem valM_lt (l : List UInt8) : valM l < 256 ^ l.length := by have := valM_lt_aux l 0; simpa [valM] using this
theorem take_snoc' (l : List UInt8) (k : Nat) (c : UInt8) (h : l[k]? = some c) : l.take (k + 1) = l.take k ++ [c] := by rw [List.take_add_one, h]; rfl

theorem or_low (x c : Int) (h0 : 0 ≤ x) (h1 : x < 72057594037927936) (c0 : 0 ≤ c) (c1 : c < 256) : Go.bits .or .u64 (x * 256) c = x * 256 + c :=
  bits_join .u64 64 (by decide) (fun n a b => by rw [IntKind.wrap_u64]; omega) 8 (x * 256) c (by omega) (by omega) (by omega) c0 (by omega) (by omega)

set_option maxHeartbeats 1000000 in
theorem sec_get (l : List UInt8) (w : World) (hl : l.length ≤ 8) :
    Calls Tryd.prog 33 #[.string (str l)] w fun e w' => e = .returned (.int .u64 (valM l)) ∧ w = w' := by
  have hsz : (str l).size = l.length := str_size l
  go_enter Tryd.func33, Tryd.ntmps33
  go_wp2
  go_loop [2, 6] (fun n i => ∃ k : Nat, k ≤ l.length ∧ i = .int .i64 k ∧ n = .int .u64 (valM (l.take k))) (fun _ i => l.length - (intOf i).toNat)
  case atStart => exact ⟨0, Nat.zero_le _, rfl, rfl⟩
  case round =>
    obtain ⟨k, hk, rfl, rfl⟩ := hrel
    by_cases hlt : k < l.length
    · have hc : l[k]? = some l[k] := List.getElem?_eq_getElem hlt
      have hv := valM_lt (l.take k)
      have hv2 : valM (l.take k) < 72057594037927936 := Nat.lt_of_lt_of_le hv (by rw [List.length_take]; exact Nat.pow_le_pow_right (by decide) (show min k l.length ≤ 7 by omega))
      have hs := valM_snoc (l.take k) l[k]
      rw [← take_snoc' l k _ hc] at hs
      obtain ⟨q, hq⟩ : ∃ q, valM (l.take k) = q := ⟨_, rfl⟩
      obtain ⟨c, hcc⟩ : ∃ c : UInt8, l[k] = c := ⟨_, rfl⟩
      have hct := c.toNat_lt
      rw [hq] at hs hv2
      rw [hcc] at hs
      have hor := or_low q c.toNat (by omega) (by omega) (by omega) (by omega)
      have hget : (str l)[k]'(by rw [str_size]; exact hlt) = c := by rw [← hcc]; rfl
      have Hs := Lib.hid hs
      rw [hq]
      clear hs hq hv hcc
      go_wp2
      go_round
      case rel => exact ⟨k + 1, by omega, by go_num, by rw [Hs.out]; congr 1; omega⟩
      case measure => simp [intOf]; omega
    · obtain rfl : k = l.length := by omega
      have e : l.take l.length = l := List.take_length
      rw [e]
      clear e
      go_wp2
      go_ret
      exact ⟨rfl, rfl⟩

/-- A piece as a sector. -/
def printM (p : PieceM) : List UInt8 :=
  be 8 p.stamp.toNat ++ be 4 p.gen.toNat ++ be 2 p.no.toNat ++ be 2 p.index.toNat ++ be 2 p.total.toNat ++ [UInt8.ofNat p.data.length] ++ p.data ++ List.replicate (37 - p.data.length) 0 ++ be 8 p.stamp.toNat

theorem infoz_arr64 : (Tryd.prog.info? 50).bind (·.zero) = some (.agg zeroA) := by kernel_rfl
theorem exec_alloc_arr64 {o : Oper} {a : Act} {w : World} (ho : o.op = .alloc 50) : (execOp a.eval o).run Tryd.prog w = .ok (.value (.pointer (some ⟨w.heap.size, 0, none⟩))) (w.alloc (.cells zeroA 50)) :=
  exec_alloc _ ho _ zeroA infoz_arr64 rfl
theorem zeroA_eq : zeroA = (u8s ([] ++ List.replicate 64 0)).toArray := by unfold zeroA u8s; rw [List.nil_append, List.map_replicate, List.toArray_replicate]; rfl

set_option maxRecDepth 100000 in
set_option maxHeartbeats 1000000 in
theorem sec_print_bad (p : PieceM) (w : World) (h : rightM p = false) :
    Calls Tryd.prog 27 #[.agg p.cells] w fun e w' => e = .returned (.tuple #[.string (str []), .int .i64 1]) ∧ Below w.heap.size w w' := by
  have HR := Lib.hid (fun W => sec_right p W)
  obtain ⟨st, ge, no, ix, tt, d⟩ := p
  rw [h] at HR
  have H := Lib.hid h
  clear h
  simp only [PieceM.cells] at HR ⊢
  go_enter Tryd.func27, Tryd.ntmps27
  go_wp2_with (go_at_call 34; refine (HR.out _).mono ?_; rintro e w' ⟨rfl, hb⟩)
  go_ret2
  exact ⟨rfl, ((Below.refl _ _).alloc (Nat.le_refl _) _).trans (hb.mono (by simp))⟩

set_option maxRecDepth 100000 in
set_option maxHeartbeats 1000000 in
theorem sec_print (p : PieceM) (w : World) (h : rightM p = true) (s0 : 0 ≤ p.stamp) (s1 : p.stamp < 18446744073709551616) :
    Calls Tryd.prog 27 #[.agg p.cells] w fun e w' => e = .returned (.tuple #[.string (str (printM p)), .int .i64 0]) ∧ Below w.heap.size w w' := by
  have HR := Lib.hid (fun W => sec_right p W)
  obtain ⟨st, ge, no, ix, tt, d⟩ := p
  rw [h] at HR
  simp only [rightM, withinB, Bool.and_eq_true, decide_eq_true_eq] at h
  obtain ⟨⟨⟨⟨⟨g0, g1⟩, n0, n1⟩, t0, t1⟩, i0, i1⟩, hd⟩ := h
  simp only [PieceM.cells] at HR s0 s1 ⊢
  have hsd : (str d).size = d.length := str_size d
  obtain ⟨st, rfl⟩ := Int.eq_ofNat_of_zero_le s0
  obtain ⟨ge, rfl⟩ := Int.eq_ofNat_of_zero_le g0
  obtain ⟨no, rfl⟩ := Int.eq_ofNat_of_zero_le n0
  obtain ⟨ix, rfl⟩ := Int.eq_ofNat_of_zero_le i0
  obtain ⟨tt, rfl⟩ := Int.eq_ofNat_of_zero_le t0
  go_enter Tryd.func27, Tryd.ntmps27
  go_wp2_with (first
    | (go_at_call 34; refine (HR.out _).mono ?_; rintro e w' ⟨rfl, hb⟩)
    | ((with_reducible refine wpList_is ⟨some 4, .alloc 50, _, _, _, _⟩ ?_); refine wpList_run rfl (exec_alloc_arr64 rfl) ?_))
  obtain ⟨bx, hbx⟩ : ∃ bx, bx = w.heap.size := ⟨_, rfl⟩
  obtain ⟨gb, hgb⟩ : ∃ gb, gb = w'.heap.size := ⟨_, rfl⟩
  have hsz := hb.size
  simp at hsz
  have hbg : bx ≠ gb := by omega
  have hgw : w.heap.size ≤ gb := by omega
  have X : Blk w' bx 62 #[.int .u64 st, .int .i64 ge, .int .i64 no, .int .i64 ix, .int .i64 tt, .string (str d)] := by rw [hbx]; exact (Blk.new w _ _).below hb (by simp)
  obtain ⟨W0, hW0⟩ : ∃ W0, W0 = w'.alloc (.cells zeroA 50) := ⟨_, rfl⟩
  have X0 : Blk W0 bx 62 #[.int .u64 st, .int .i64 ge, .int .i64 no, .int .i64 ix, .int .i64 tt, .string (str d)] := by rw [hW0]; exact X.alloc _
  have B0 : Blk W0 gb 50 (u8s ([] ++ List.replicate 64 0)).toArray := by rw [hW0, hgb, ← zeroA_eq]; exact Blk.new _ _ _
  have L0 : Below w.heap.size w W0 := by rw [hW0]; exact (((Below.refl _ _).alloc (Nat.le_refl _) _).trans (hb.mono (by simp))).alloc (by omega) _
  have c0 := X0.cell 0
  have c1 := X0.cell 1
  have c2 := X0.cell 2
  have c3 := X0.cell 3
  have c4 := X0.cell 4
  have c5 := X0.cell 5
  simp at c0 c1 c2 c3 c4 c5
  rw [← hW0, ← hbx, ← hgb]
  clear hW0 X hb hbx hgb HR
  refine wp_still_tail 3 (by kernel_rfl) (by kernel_rfl) ?_
  simp only [List.take_succ_cons, List.take_zero, List.drop_succ_cons, List.drop_zero]
  repeat still_step
  refine wpStill_nil ?_
  go_wp2_with (go_at_call 42; refine (sec_put gb 50 0 8 64 (u8s ([] ++ List.replicate 64 0)) st _ (Blk.drew B0) (by rw [u8s_length]; simp [be_length]) (by omega) (by omega) (by omega)).mono ?_; rintro e W1 ⟨rfl, hB', hO'⟩)
  have B1 : Blk W1 gb 50 (u8s (([] ++ be 8 st) ++ List.replicate 56 0)).toArray := blk_pre (by simp [be_length]) (by simp [be_length]) hB' (by rw [be_length])
  have X1 : Blk W1 bx 62 _ := hO'.blk (Blk.drew X0) hbg
  have L1 : Below w.heap.size w W1 := (L0.drew).trans (hO'.below hgw)
  have c0 := X1.cell 0
  have c1 := X1.cell 1
  have c2 := X1.cell 2
  have c3 := X1.cell 3
  have c4 := X1.cell 4
  have c5 := X1.cell 5
  simp at c0 c1 c2 c3 c4 c5
  clear hB' hO'
  refine wp_still_tail 4 (by kernel_rfl) (by kernel_rfl) ?_
  simp only [List.take_succ_cons, List.take_zero, List.drop_succ_cons, List.drop_zero]
  repeat still_step
  refine wpStill_nil ?_
  go_wp2_with (go_at_call 42; refine (sec_put gb 50 8 4 56 (u8s (([] ++ be 8 st) ++ List.replicate 56 0)) ge _ (Blk.drew B1) (by rw [u8s_length]; simp [be_length]) (by omega) (by omega) (by omega)).mono ?_; rintro e W2 ⟨rfl, hB', hO'⟩)
  have B2 : Blk W2 gb 50 (u8s ((([] ++ be 8 st) ++ be 4 ge) ++ List.replicate 52 0)).toArray := blk_pre (by simp [be_length]) (by simp [be_length]) hB' (by rw [be_length])
  have X2 : Blk W2 bx 62 _ := hO'.blk (Blk.drew X1) hbg
  have L2 : Below w.heap.size w W2 := (L1.drew).trans (hO'.below hgw)
  have c0 := X2.cell 0
  have c1 := X2.cell 1
  have c2 := X2.cell 2
  have c3 := X2.cell 3
  have c4 := X2.cell 4
  have c5 := X2.cell 5
  simp at c0 c1 c2 c3 c4 c5
  clear hB' hO'
  refine wp_still_tail 4 (by kernel_rfl) (by kernel_rfl) ?_
  simp only [List.take_succ_cons, List.take_zero, List.drop_succ_cons, List.drop_zero]
  repeat still_step
  refine wpStill_nil ?_
  go_wp2_with (go_at_call 42; refine (sec_put gb 50 12 2 52 (u8s ((([] ++ be 8 st) ++ be 4 ge) ++ List.replicate 52 0)) no _ (Blk.drew B2) (by rw [u8s_length]; simp [be_length]) (by omega) (by omega) (by omega)).mono ?_; rintro e W3 ⟨rfl, hB', hO'⟩)
  have B3 : Blk W3 gb 50 (u8s (((([] ++ be 8 st) ++ be 4 ge) ++ be 2 no) ++ List.replicate 50 0)).toArray := blk_pre (by simp [be_length]) (by simp [be_length]) hB' (by rw [be_length])
  have X3 : Blk W3 bx 62 _ := hO'.blk (Blk.drew X2) hbg
  have L3 : Below w.heap.size w W3 := (L2.drew).trans (hO'.below hgw)
  have c0 := X3.cell 0
  have c1 := X3.cell 1
  have c2 := X3.cell 2
  have c3 := X3.cell 3
  have c4 := X3.cell 4
  have c5 := X3.cell 5
  simp at c0 c1 c2 c3 c4 c5
  clear hB' hO'
  refine wp_still_tail 4 (by kernel_rfl) (by kernel_rfl) ?_
  simp only [List.take_succ_cons, List.take_zero, List.drop_succ_cons, List.drop_zero]
  repeat still_step
  refine wpStill_nil ?_
  go_wp2_with (go_at_call 42; refine (sec_put gb 50 14 2 50 (u8s (((([] ++ be 8 st) ++ be 4 ge) ++ be 2 no) ++ List.replicate 50 0)) ix _ (Blk.drew B3) (by rw [u8s_length]; simp [be_length]) (by omega) (by omega) (by omega)).mono ?_; rintro e W4 ⟨rfl, hB', hO'⟩)
  have B4 : Blk W4 gb 50 (u8s ((((([] ++ be 8 st) ++ be 4 ge) ++ be 2 no) ++ be 2 ix) ++ List.replicate 48 0)).toArray := blk_pre (by simp [be_length]) (by simp [be_length]) hB' (by rw [be_length])
  have X4 : Blk W4 bx 62 _ := hO'.blk (Blk.drew X3) hbg
  have L4 : Below w.heap.size w W4 := (L3.drew).trans (hO'.below hgw)
  have c0 := X4.cell 0
  have c1 := X4.cell 1
  have c2 := X4.cell 2
  have c3 := X4.cell 3
  have c4 := X4.cell 4
  have c5 := X4.cell 5
  simp at c0 c1 c2 c3 c4 c5
  clear hB' hO'
  refine wp_still_tail 4 (by kernel_rfl) (by kernel_rfl) ?_
  simp only [List.take_succ_cons, List.take_zero, List.drop_succ_cons, List.drop_zero]
  repeat still_step
  refine wpStill_nil ?_
  go_wp2_with (go_at_call 42; refine (sec_put gb 50 16 2 48 (u8s ((((([] ++ be 8 st) ++ be 4 ge) ++ be 2 no) ++ be 2 ix) ++ List.replicate 48 0)) tt _ (Blk.drew B4) (by rw [u8s_length]; simp [be_length]) (by omega) (by omega) (by omega)).mono ?_; rintro e W5 ⟨rfl, hB', hO'⟩; have B5 : Blk W5 gb 50 (u8s (((((([] ++ be 8 st) ++ be 4 ge) ++ be 2 no) ++ be 2 ix) ++ be 2 tt) ++ List.replicate 46 0)).toArray := blk_pre (by simp [be_length]) (by simp [be_length]) hB' (by rw [be_length]); have c18 : W5.cell? ⟨gb, 18, none⟩ = some (.int .u8 0) := blk_u8 B5 18 0 (by simp [List.getElem?_append, be_length]); have f18 := B5.frozen 18; have X5 : Blk W5 bx 62 _ := hO'.blk (Blk.drew X4) hbg; have c5 : W5.cell? ⟨bx, 5, none⟩ = some (.string (str d)) := X5.cell 5)
  have L5 : Below w.heap.size w W5 := (L4.drew).trans (hO'.below hgw)
  have hA5 : (((((([] ++ be 8 st) ++ be 4 ge) ++ be 2 no) ++ be 2 ix) ++ be 2 tt) : List UInt8).length = 18 := by simp [be_length]
  obtain ⟨A5, hA5e⟩ : ∃ A5 : List UInt8, ((((([] ++ be 8 st) ++ be 4 ge) ++ be 2 no) ++ be 2 ix) ++ be 2 tt) = A5 := ⟨_, rfl⟩
  rw [hA5e] at B5 hA5
  have HA5 := Lib.hid hA5e
  have HL5 := Lib.hid hA5
  clear hA5 hA5e
  have B6 : Blk (W5.setCell ⟨gb, 18, none⟩ (.int .u8 d.length)) gb 50 (u8s (A5 ++ [UInt8.ofNat d.length] ++ List.replicate 45 0)).toArray := by
    have h := B5.set_ 18 (.int .u8 d.length)
    have e : (u8s (A5 ++ List.replicate 46 0)).set 18 (.int .u8 d.length) = u8s (A5 ++ [UInt8.ofNat d.length] ++ List.replicate 45 0) := by
      have hl : (u8s A5).length = 18 := by rw [u8s_length]; exact HL5.out
      have e0 : List.replicate 46 (0 : UInt8) = 0 :: List.replicate 45 0 := rfl
      have e1 : (UInt8.ofNat d.length).toNat = d.length := by simp; omega
      simp only [u8s, List.map_append, e0, List.map_cons, List.map_nil, e1] at hl ⊢
      rw [List.set_append_right _ _ (by omega), hl]
      simp
    rw [← e]
    simpa using h
  have X6 : Blk (W5.setCell ⟨gb, 18, none⟩ (.int .u8 d.length)) bx 62 _ := X5.far hbg _
  have L6 : Below w.heap.size w (W5.setCell ⟨gb, 18, none⟩ (.int .u8 d.length)) := L5.setCell hgw _
  obtain ⟨W6, hW6⟩ : ∃ W6, W6 = W5.setCell ⟨gb, 18, none⟩ (.int .u8 d.length) := ⟨_, rfl⟩
  rw [← hW6] at B6 X6 L6 ⊢
  have c0 := X6.cell 0
  have c5 := X6.cell 5
  simp at c0 c5
  clear hW6 c18 f18 hB' hO'
  refine wp_still_tail 3 (by kernel_rfl) (by kernel_rfl) ?_
  simp only [List.take_succ_cons, List.take_zero, List.drop_succ_cons, List.drop_zero]
  repeat still_step
  refine wpStill_nil ?_
  refine wpList_run rfl (exec_copy_str _ _ 54 9 5 rfl (by kernel_rfl) (by kernel_rfl) gb 19 37 45 d rfl rfl hd 50 _ B6.drew (by rw [u8s_length]; simp [HL5.out]; omega)) ?_
  have B7 : Blk (W6.drew.setRow gb (splice (u8s (A5 ++ [UInt8.ofNat d.length] ++ List.replicate 45 0)) 19 (u8s d)).toArray) gb 50 (u8s (A5 ++ [UInt8.ofNat d.length] ++ d ++ List.replicate (45 - d.length) 0)).toArray :=
    blk_pre (by simp [HL5.out]) (by omega) (B6.drew.row _) rfl
  have X7 : Blk (W6.drew.setRow gb (splice (u8s (A5 ++ [UInt8.ofNat d.length] ++ List.replicate 45 0)) 19 (u8s d)).toArray) bx 62 _ := ((Only.refl gb W6).drew.row _).blk X6 hbg
  have L7 := L6.trans (((Only.refl gb W6).drew.row (splice (u8s (A5 ++ [UInt8.ofNat d.length] ++ List.replicate 45 0)) 19 (u8s d)).toArray).below hgw)
  obtain ⟨W7, hW7⟩ : ∃ W7, W7 = W6.drew.setRow gb (splice (u8s (A5 ++ [UInt8.ofNat d.length] ++ List.replicate 45 0)) 19 (u8s d)).toArray := ⟨_, rfl⟩
  rw [← hW7] at B7 X7 L7 ⊢
  have c0 := X7.cell 0
  simp at c0
  clear hW7
  have e7 : A5 ++ [UInt8.ofNat d.length] ++ d ++ List.replicate (45 - d.length) (0 : UInt8) = (A5 ++ [UInt8.ofNat d.length] ++ d ++ List.replicate (37 - d.length) 0) ++ List.replicate 8 0 := by
    rw [List.append_assoc _ (List.replicate (37 - d.length) (0 : UInt8)), List.replicate_append_replicate]
    congr 2
    omega
  rw [e7] at B7
  have hA7 : (A5 ++ [UInt8.ofNat d.length] ++ d ++ List.replicate (37 - d.length) (0 : UInt8)).length = 56 := by simp [HL5.out]; omega
  have HA7 := Lib.hid hA7
  clear e7 hA7
  go_wp2
  refine wp_still_tail 3 (by kernel_rfl) (by kernel_rfl) ?_
  simp only [List.take_succ_cons, List.take_zero, List.drop_succ_cons, List.drop_zero]
  repeat still_step
  refine wpStill_nil ?_
  go_wp2_with fail
  refine (sec_put gb 50 56 8 8 (u8s ((A5 ++ [UInt8.ofNat d.length] ++ d ++ List.replicate (37 - d.length) 0) ++ List.replicate 8 0)) st _ (Blk.drew B7) (by rw [u8s_length, List.length_append, HA7.out, List.length_replicate]; omega) (by omega) (by omega) (by omega)).mono ?_
  rintro e W8 ⟨rfl, hB', hO'⟩
  have B8 : Blk W8 gb 50 (u8s (A5 ++ [UInt8.ofNat d.length] ++ d ++ List.replicate (37 - d.length) 0 ++ be 8 st)).toArray := by
    have := blk_pre (r2 := 0) HA7.out (by simp [be_length]) hB' (by rw [be_length])
    simpa using this
  obtain ⟨F, hF⟩ : ∃ F, A5 ++ [UInt8.ofNat d.length] ++ d ++ List.replicate (37 - d.length) 0 ++ be 8 st = F := ⟨_, rfl⟩
  have hFl : F.length = 64 := by rw [← hF, List.length_append, HA7.out, be_length]
  rw [hF] at B8
  have HF := Lib.hid hF
  have hcv := run_bytes_str (P := Tryd.prog) (w := W8) 54 9 5 (by kernel_rfl) (by kernel_rfl) (by kernel_rfl) gb 0 64 64 F hFl (fun j c hc => by rw [Nat.zero_add]; exact blk_u8 B8 j c hc)
  clear hF hFl
  go_wp2
  have L8 : Below w.heap.size w W8 := L7.drew.trans (hO'.below hgw)
  go_ret2
  refine ⟨?_, L8⟩
  have hfin : F = printM ⟨st, ge, no, ix, tt, d⟩ := by
    rw [← HF.out, ← HA5.out]
    simp [printM]
  rw [← hfin]
  rfl
end Go.Proofs.YtnofeblcnamfeaaDoor
