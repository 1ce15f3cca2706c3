/- Words of our own for memory: frames, blocks known whole, rows of bytes. No program in sight. -/
import Derived.WalkKit
import Derived.WalkSpells
import Derived.WalkLawsBesides
import Derived.BigQuiet
import Derived.Deep.QuietTactic
import Derived.Deep.RegionLaw
import Derived.Deep.AppendLies
import Derived.Deep.Draws
import Derived.Maps.AppendAt
import Derived.Lib.Hide
import Derived.StillTailTactics
import Derived.Laws.CopyOwn
namespace Go.Proofs.YtnofeblcnamfeaaDoor
open Go.RowKit

/-- Block g is just the cells cs of element type t, none frozen. -/
def Blk (w : World) (g : Nat) (t : TypeId) (cs : Array Value) : Prop := w.heap[g]? = some (.cells cs t (0, 0))

section
variable {w w' : World} {g : Nat} {t : TypeId} {cs : Array Value}
theorem Blk.lt (h : Blk w g t cs) : g < w.heap.size := by
  rcases Nat.lt_or_ge g w.heap.size with hlt | hge
  · exact hlt
  · unfold Blk at h; rw [Array.getElem?_eq_none hge] at h; cases h
theorem Blk.cell (h : Blk w g t cs) (i : Nat) : w.cell? ⟨g, i, none⟩ = cs[i]? := cell_of_row w g i cs t (0, 0) h
theorem Blk.frozen (h : Blk w g t cs) (i : Nat) : w.frozen? ⟨g, i, none⟩ = false := by
  unfold Blk at h
  simp [World.frozen?, h]
theorem Blk.new (w : World) (t : TypeId) (cs : Array Value) : Blk (w.alloc (.cells cs t)) w.heap.size t cs := heap_alloc_new w _
theorem Blk.drew (h : Blk w g t cs) : Blk w.drew g t cs := h
theorem Blk.drewN (h : Blk w g t cs) (n : Nat) : Blk (w.drewN n) g t cs := h
theorem Blk.alloc (h : Blk w g t cs) (o : Obj) : Blk (w.alloc o) g t cs := (Below.heap_alloc w o g h.lt).trans h
theorem Blk.set_ (h : Blk w g t cs) (i : Nat) (u : Value) : Blk (w.setCell ⟨g, i, none⟩ u) g t (cs.setIfInBounds i u) := by
  unfold Blk at h ⊢
  simp [World.setCell, Array.getElem?_modify, h]
theorem Blk.far (h : Blk w g t cs) {p : Addr} (hp : g ≠ p.block) (u : Value) : Blk (w.setCell p u) g t cs := (Below.heap_setCell w p u g hp).trans h
theorem Blk.below {B : Nat} (h : Blk w g t cs) (hb : Below B w w') (hg : g < B) : Blk w' g t cs := (hb.block g hg).trans h
theorem Blk.grown {row : Option Nat} (h : Blk w g t cs) (hb : w.grownBy w' row) (hg : some g ≠ row) : Blk w' g t cs := (hb.block g h.lt hg).trans h
theorem Blk.ne_ {g' : Nat} {t' : TypeId} {cs' : Array Value} (h : Blk w g t cs) (h' : Blk w g' t' cs') (hne : t ≠ t') : g ≠ g' := by
  rintro rfl
  unfold Blk at h h'
  rw [h] at h'
  injection h' with h'
  injection h' with _ ht
  exact hne ht
theorem Blk.row (h : Blk w g t cs) (cs' : Array Value) : Blk (w.setRow g cs') g t cs' := setRow_heap w g _ _ t _ h
theorem own_blk_ne {base : Nat} {e : TypeId} {size n : Nat} {v : Value} {xs : List Value} (h : w.ownsRow base e size v n xs) (hg : Blk w g t cs) (hne : e ≠ t) : some g ≠ v.ownBlock := by
  rcases h.2 with ⟨rfl, _⟩ | ⟨g', cap, cur, rfl, _, hh, _⟩
  · simp [Value.ownBlock]
  · intro he
    have : g' = g := by simpa [Value.ownBlock] using he.symm
    subst this
    exact Blk.ne_ (t := e) hh hg hne rfl
end

/-- Below B nothing has turned; nor has any block of cells whose element type is not listed. -/
structure Fr (B : Nat) (L : List TypeId) (w w' : World) : Prop where
  below : Below B w w'
  kept : ∀ (b : Nat) (cs : Array Value) (t : TypeId) (fr : Nat × Nat), w.heap[b]? = some (.cells cs t fr) → t ∉ L → w'.heap[b]? = some (.cells cs t fr)

section
variable {w w' w'' : World} {B B' : Nat} {L L' : List TypeId}
theorem Fr.refl (B : Nat) (L : List TypeId) (w : World) : Fr B L w w := ⟨Below.refl _ _, fun _ _ _ _ h _ => h⟩
theorem Fr.trans (h : Fr B L w w') (k : Fr B L w' w'') : Fr B L w w'' := ⟨h.below.trans k.below, fun b cs t fr hb ht => k.kept b cs t fr (h.kept b cs t fr hb ht) ht⟩
theorem Fr.mono (h : Fr B L w w') (hB : B' ≤ B) (hL : ∀ t, t ∈ L → t ∈ L') : Fr B' L' w w' := ⟨h.below.mono hB, fun b cs t fr hb ht => h.kept b cs t fr hb (fun e => ht (hL t e))⟩
theorem lt_of_heap {b : Nat} {o : Obj} (h : w.heap[b]? = some o) : b < w.heap.size := (Array.getElem?_eq_some_iff.1 h).1
theorem Fr.of_below (h : Below w.heap.size w w') (hB : B ≤ w.heap.size) : Fr B L w w' := ⟨h.mono hB, fun b cs t fr hb _ => (h.block b (lt_of_heap hb)).trans hb⟩
theorem Fr.size (h : Fr B L w w') : w.heap.size ≤ w'.heap.size := h.below.size
theorem Fr.drew (h : Fr B L w w') : Fr B L w w'.drew := ⟨h.below.drew, h.kept⟩
theorem Fr.drewN (h : Fr B L w w') (n : Nat) : Fr B L w (w'.drewN n) := ⟨⟨h.below.os, h.below.tape, h.below.output, h.below.size, h.below.block⟩, h.kept⟩
theorem Fr.alloc (h : Fr B L w w') (hB : B ≤ w'.heap.size) (o : Obj) : Fr B L w (w'.alloc o) :=
  ⟨h.below.alloc hB o, fun b cs t fr hb ht => (Below.heap_alloc w' o b (lt_of_heap (h.kept b cs t fr hb ht))).trans (h.kept b cs t fr hb ht)⟩
theorem Fr.set_ (h : Fr B L w w') {g : Nat} {t : TypeId} {cs : Array Value} (hg : Blk w' g t cs) (ht : t ∈ L) (hB : B ≤ g) (i : Nat) (u : Value) : Fr B L w (w'.setCell ⟨g, i, none⟩ u) :=
  ⟨h.below.setCell hB u, fun b cs' t' fr hb ht' => by
    have h1 := h.kept b cs' t' fr hb ht'
    refine (Below.heap_setCell w' ⟨g, i, none⟩ u b ?_).trans h1
    rintro rfl
    unfold Blk at hg
    rw [hg] at h1
    injection h1 with h1
    injection h1 with _ e
    exact ht' (e ▸ ht)⟩
theorem Fr.row (h : Fr B L w w') {g : Nat} {t : TypeId} {cs : Array Value} (hg : Blk w' g t cs) (ht : t ∈ L) (hB : B ≤ g) (cs2 : Array Value) : Fr B L w (w'.setRow g cs2) :=
  ⟨below_setRow h.below hB cs2, fun b cs' t' fr hb ht' => by
    have h1 := h.kept b cs' t' fr hb ht'
    refine (setRow_other w' g b cs2 ?_).trans h1
    rintro rfl
    unfold Blk at hg
    rw [hg] at h1
    injection h1 with h1
    injection h1 with _ e
    exact ht' (e ▸ ht)⟩
theorem Fr.grown (h : Fr B L w w') {row : Option Nat} (hg : w'.grownBy w'' row) (hB : B ≤ w'.heap.size) (hr : ∀ k, row = some k → B ≤ k ∧ ∃ cs t fr, w'.heap[k]? = some (.cells cs t fr) ∧ t ∈ L) : Fr B L w w'' :=
  ⟨h.below.grown hg hB (fun k e => (hr k e).1), fun b cs' t' fr hb ht' => by
    have h1 := h.kept b cs' t' fr hb ht'
    refine (hg.block b (lt_of_heap h1) ?_).trans h1
    intro e
    obtain ⟨_, cs, t, fr2, h2, h3⟩ := hr b e.symm
    rw [h1] at h2
    injection h2 with h2
    injection h2 with _ e2
    exact ht' (e2 ▸ h3)⟩
theorem Fr.grown_own (h : Fr B L w w') {base : Nat} {e : TypeId} {size n : Nat} {v : Value} {xs : List Value} (ho : w'.ownsRow base e size v n xs) (hg : w'.grownBy w'' v.ownBlock) (hB : B ≤ w'.heap.size) (hb : B ≤ base) (he : e ∈ L) : Fr B L w w'' :=
  h.grown hg hB (fun k hk => by
    rcases ho.2 with ⟨rfl, _⟩ | ⟨g, cap, cur, rfl, hbg, hh, _⟩
    · simp [Value.ownBlock] at hk
    · simp [Value.ownBlock] at hk
      subst hk
      exact ⟨by omega, _, _, _, hh, he⟩)
theorem Fr.blk (h : Fr B L w w') {g : Nat} {t : TypeId} {cs : Array Value} (hg : Blk w g t cs) (ht : t ∉ L) : Blk w' g t cs := h.kept g cs t _ hg ht
theorem Fr.own (h : Fr B L w w') {base : Nat} {e : TypeId} {size n : Nat} {v : Value} {xs : List Value} (ho : w.ownsRow base e size v n xs) (ht : e ∉ L) : w'.ownsRow base e size v n xs := by
  refine ⟨ho.1, ?_⟩
  rcases ho.2 with hn | ⟨g, cap, cur, rfl, hb, hgg, rest⟩
  · exact .inl hn
  · exact .inr ⟨g, cap, cur, rfl, hb, h.kept g _ _ _ hgg ht, rest⟩
theorem below_drewN {a : World} (h : Below B a w) (n : Nat) : Below B a (w.drewN n) := ⟨h.os, h.tape, h.output, h.size, h.block⟩
theorem own_far {base : Nat} {e : TypeId} {size n : Nat} {v : Value} {xs : List Value} (ho : w.ownsRow base e size v n xs) {p : Addr} (hp : some p.block ≠ v.ownBlock) (u : Value) : (w.setCell p u).ownsRow base e size v n xs := by
  refine ⟨ho.1, ?_⟩
  rcases ho.2 with hn | ⟨g, cap, cur, rfl, hb, hgg, rest⟩
  · exact .inl hn
  · exact .inr ⟨g, cap, cur, rfl, hb, (Below.heap_setCell w p u g (by simpa [Value.ownBlock, eq_comm] using hp)).trans hgg, rest⟩
theorem own_row_far {base : Nat} {e : TypeId} {size n : Nat} {v : Value} {xs : List Value} (ho : w.ownsRow base e size v n xs) {g : Nat} (hp : some g ≠ v.ownBlock) (cs : Array Value) : (w.setRow g cs).ownsRow base e size v n xs := by
  refine ⟨ho.1, ?_⟩
  rcases ho.2 with hn | ⟨g', cap, cur, rfl, hb, hgg, rest⟩
  · exact .inl hn
  · exact .inr ⟨g', cap, cur, rfl, hb, (setRow_other w g g' cs (by simpa [Value.ownBlock, eq_comm] using hp)).trans hgg, rest⟩
theorem own_drewN {base : Nat} {e : TypeId} {size n : Nat} {v : Value} {xs : List Value} (ho : w.ownsRow base e size v n xs) (k : Nat) : (w.drewN k).ownsRow base e size v n xs := ho
end

/-- Nothing but block g has turned, and none is new. -/
structure Only (g : Nat) (w w' : World) : Prop where
  os : w'.os = w.os
  tape : w'.tape = w.tape
  output : w'.output = w.output
  size : w'.heap.size = w.heap.size
  block : ∀ k, k ≠ g → w'.heap[k]? = w.heap[k]?
section
variable {w w' w'' : World} {g : Nat}
theorem Only.refl (g : Nat) (w : World) : Only g w w := ⟨rfl, rfl, rfl, rfl, fun _ _ => rfl⟩
theorem Only.trans (h : Only g w w') (k : Only g w' w'') : Only g w w'' := ⟨k.os.trans h.os, k.tape.trans h.tape, k.output.trans h.output, k.size.trans h.size, fun i hi => (k.block i hi).trans (h.block i hi)⟩
theorem Only.drew (h : Only g w w') : Only g w w'.drew := ⟨h.os, h.tape, h.output, h.size, h.block⟩
theorem Only.drewN (h : Only g w w') (n : Nat) : Only g w (w'.drewN n) := ⟨h.os, h.tape, h.output, h.size, h.block⟩
theorem Only.set_ (h : Only g w w') (i : Nat) (u : Value) : Only g w (w'.setCell ⟨g, i, none⟩ u) :=
  ⟨h.os, h.tape, h.output, by simp [World.setCell, h.size], fun k hk => (Below.heap_setCell w' ⟨g, i, none⟩ u k (by simpa using hk)).trans (h.block k hk)⟩
theorem Only.row (h : Only g w w') (cs : Array Value) : Only g w (w'.setRow g cs) :=
  ⟨h.os, h.tape, h.output, by simp [World.setRow, h.size], fun k hk => (setRow_other w' g k cs hk).trans (h.block k hk)⟩
theorem Only.below (h : Only g w w') {B : Nat} (hB : B ≤ g) : Below B w w' := ⟨h.os, h.tape, h.output, by rw [h.size]; exact Nat.le_refl _, fun k hk => h.block k (by omega)⟩
theorem Only.blk (h : Only g w w') {g' : Nat} {t : TypeId} {cs : Array Value} (hb : Blk w g' t cs) (hne : g' ≠ g) : Blk w' g' t cs := (h.block g' hne).trans hb
end

/-- Bytes as cells. -/
def u8s (l : List UInt8) : List Value := l.map fun c => .int .u8 c.toNat
theorem u8s_length (l : List UInt8) : (u8s l).length = l.length := by simp [u8s]
theorem u8s_one (l : List UInt8) : ∀ v ∈ u8s l, v.oneCell' = true := by
  intro v hv
  obtain ⟨c, _, rfl⟩ := List.mem_map.1 hv
  rfl
/-- The string of bytes. -/
def str (l : List UInt8) : ByteArray := ⟨l.toArray⟩
theorem str_size (l : List UInt8) : (str l).size = l.length := by simp [str, ByteArray.size]
theorem str_list (l : List UInt8) : (str l).data.toList = l := by simp [str]
theorem str_of (s : ByteArray) : str s.data.toList = s := by cases s; simp [str]

theorem flat_get {α : Type} (k : Nat) : ∀ (L : List (List α)) (_ : ∀ s ∈ L, s.length = k) (i j : Nat), j < k → L.flatten[i * k + j]? = (L[i]?).bind (·[j]?)
  | [], _, i, j, _ => by simp
  | s :: L, h, 0, j, hj => by
    have hs := h s (by simp)
    simp [List.getElem?_append, hs, hj]
  | s :: L, h, i + 1, j, hj => by
    have hs := h s (by simp)
    have ih := flat_get k L (fun s' h' => h s' (by simp [h'])) i j hj
    rw [List.flatten_cons, List.getElem?_append, if_neg (by rw [hs, Nat.add_mul]; omega), hs, show (i + 1) * k + j - k = i * k + j by rw [Nat.add_mul]; omega, ih]
    simp
theorem flat_length {α : Type} (k : Nat) : ∀ (L : List (List α)) (_ : ∀ s ∈ L, s.length = k), L.flatten.length = L.length * k
  | [], _ => by simp
  | s :: L, h => by
    rw [List.flatten_cons, List.length_append, h s (by simp), flat_length k L (fun s' h' => h s' (by simp [h'])), List.length_cons, Nat.add_mul]
    omega
theorem u8s_get (l : List UInt8) (i : Nat) : (u8s l)[i]? = (l[i]?).map fun c => Value.int .u8 c.toNat := by simp [u8s]

theorem splice_set {α : Type} (cur l : List α) (p : Nat) (v : α) (h : p + 1 + l.length ≤ cur.length) : (splice cur (p + 1) l).set p v = splice cur p (v :: l) := by
  simp only [splice]
  have e : List.take (p + 1) cur = List.take p cur ++ [cur[p]'(by omega)] := by
    rw [List.take_add_one, List.getElem?_eq_getElem (by omega)]; rfl
  rw [e, List.append_assoc, List.set_append_right _ _ (by rw [List.length_take]; omega)]
  have : p - (List.take p cur).length = 0 := by rw [List.length_take]; omega
  rw [this]
  simp only [List.cons_append, List.nil_append, List.set_cons_zero, List.length_cons]
  congr 4
  omega
theorem splice_nil {α : Type} (cur : List α) (p : Nat) : splice cur p [] = cur := by simp [splice]
/-- The k low bytes of a number, the highest first. -/
def be : Nat → Nat → List UInt8
  | 0, _ => []
  | k + 1, n => UInt8.ofNat (n / 256 ^ k % 256) :: be k n
theorem be_length (n : Nat) : ∀ k, (be k n).length = k
  | 0 => rfl
  | k + 1 => by simp [be, be_length n k]
theorem splice_pre {α : Type} (A l : List α) (z : α) (r : Nat) (h : l.length ≤ r) : splice (A ++ List.replicate r z) A.length l = A ++ l ++ List.replicate (r - l.length) z := by
  simp [splice, List.drop_append]

theorem and7_i64 (x : Int) : Go.bits .and .i64 x 7 = x % 8 := by
  have e : (BitVec.ofInt 64 x &&& BitVec.ofInt 64 7).toNat = (x % 8).toNat := by
    rw [BitVec.toNat_and, BitVec.toNat_ofInt, show (BitVec.ofInt 64 7).toNat = 2 ^ 3 - 1 from by decide, Nat.and_two_pow_sub_one_eq_mod]
    omega
  show IntKind.i64.wrap ((BitVec.ofInt 64 x &&& BitVec.ofInt 64 7).toNat : Int) = _
  rw [e, IntKind.wrap_i64]
  omega
theorem and1_i64 (x : Int) : Go.bits .and .i64 x 1 = x % 2 := by
  have e : (BitVec.ofInt 64 x &&& BitVec.ofInt 64 1).toNat = (x % 2).toNat := by
    rw [BitVec.toNat_and, BitVec.toNat_ofInt, show (BitVec.ofInt 64 1).toNat = 2 ^ 1 - 1 from by decide, Nat.and_two_pow_sub_one_eq_mod]
    omega
  show IntKind.i64.wrap ((BitVec.ofInt 64 x &&& BitVec.ofInt 64 1).toNat : Int) = _
  rw [e, IntKind.wrap_i64]
  omega
theorem ret_int {k : IntKind} {a b : Int} (h : a = b) : Ending.returned (.int k a) = .returned (.int k b) := by rw [h]
theorem ret_bool {a b : Bool} (h : a = b) : Ending.returned (.bool a) = .returned (.bool b) := by rw [h]
theorem ret_str {a b : ByteArray} (h : a = b) : Ending.returned (.string a) = .returned (.string b) := by rw [h]

end Go.Proofs.YtnofeblcnamfeaaDoor
