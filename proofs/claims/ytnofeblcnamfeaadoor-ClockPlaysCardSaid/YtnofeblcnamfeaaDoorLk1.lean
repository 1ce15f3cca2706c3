/- Laws for operations on whole arrays and structs in memory, for whatever program. -/
import Derived.Test.YtnofeblcnamfeaaDoorLk0
import Derived.Lib.AppendStr
import Derived.OrdersHeld
import Derived.StillTail
namespace Go.Proofs.YtnofeblcnamfeaaDoor
open Go.RowKit

section
variable {P : Program} {ops : Array Oper} {rest : List Oper} {o : Oper} {a : Act} {w w' : World} {Q : Exit → Act → World → Prop}

/-- A region that draws its order: n steps that only read, then a tail in one order. -/
theorem wp_still_tail {id : Nat} {l : List Oper} (n : Nat) (hm : P.follows .mixedOrders = true) (hB : Region.lexTailB .any l.toArray n = true)
    (h : wpStill P l.toArray w.drew (fun a' => wpList P l.toArray Q (l.drop n) a' w.drew) (l.take n) a) : (Code.region id l.toArray true).wp P Q a w := wp_region_still_tail n hm hB h
theorem still_calls {f : FuncId} {args : Array Value} {v : Value} (h : Calls P f args w fun e w' => e = .returned v ∧ w = w') : Calls P f args w fun e w' => e = .returned v ∧ w' = w :=
  h.mono fun _ _ ⟨h1, h2⟩ => ⟨h1, h2.symm⟩
/-- A region that draws its order, gone through by hand. -/
theorem wp_any {id : Nat} {l : List Oper} (hm : P.follows .mixedOrders = true)
    (h : wpAny P .any l.toArray Q l.toArray.size (Array.replicate l.toArray.size false) a w.drew) : (Code.region id l.toArray true).wp P Q a w := wp_region_any hm h
theorem any1 {md : Region.Mode} {fuel : Nat} {listed : Array Bool} (i : Nat) (hr : Region.ready md ops listed = [i]) (h : wpOp P ops Q i (wpAny P md ops Q fuel (listed.setIfInBounds i true)) a w) :
    wpAny P md ops Q (fuel + 1) listed a w := wpAny_all hr (by simp) (by simpa using h)
theorem any2 {md : Region.Mode} {fuel : Nat} {listed : Array Bool} (i j : Nat) (hr : Region.ready md ops listed = [i, j]) (h : wpOp P ops Q i (wpAny P md ops Q fuel (listed.setIfInBounds i true)) a w)
    (h2 : wpOp P ops Q j (wpAny P md ops Q fuel (listed.setIfInBounds j true)) a w) :
    wpAny P md ops Q (fuel + 1) listed a w := wpAny_all hr (by simp) (by simpa using ⟨h, h2⟩)
theorem op_run {i : Nat} {K : Act → World → Prop} (o : Oper) (ho : ops[i]? = some o) (hgd : o.guard = none) {v : Value} (hrun : (execOp a.eval o).run P w = .ok (.value v) w') (h : K (a.put o.dst v) w') : wpOp P ops Q i K a w := by
  unfold wpOp
  have hw : Region.wanted o (yielded ops a.tmps) = true := by simp [Region.wanted, hgd]
  simp only [ho, hw, if_true]
  refine .inl ?_
  unfold Oper.wp
  rw [hrun]
  exact h
theorem op_runu {i : Nat} {K : Act → World → Prop} (o : Oper) (ho : ops[i]? = some o) (hgd : o.guard = none) (hrun : (execOp a.eval o).run P w = .ok .skip w') (h : K (a.put o.dst undef) w') : wpOp P ops Q i K a w := by
  unfold wpOp
  have hw : Region.wanted o (yielded ops a.tmps) = true := by simp [Region.wanted, hgd]
  simp only [ho, hw, if_true]
  refine .inl ?_
  unfold Oper.wp
  rw [hrun]
  exact h
theorem op_at {i : Nat} {K : Act → World → Prop} (d : Tmp) {op : Op} {ty : TypeId} {pos : String} {af : Array Edge} (ho : ops[i]? = some ⟨some d, op, ty, pos, af, none⟩) {v : Value}
    (hrun : (execOp a.eval ⟨some d, op, ty, pos, af, none⟩).run P w = .ok (.value v) w') (h : K (a.put (some d) v) w') : wpOp P ops Q i K a w := op_run _ ho rfl hrun h
theorem op_atu {i : Nat} {K : Act → World → Prop} {op : Op} {ty : TypeId} {pos : String} {af : Array Edge} (ho : ops[i]? = some ⟨none, op, ty, pos, af, none⟩)
    (hrun : (execOp a.eval ⟨none, op, ty, pos, af, none⟩).run P w = .ok .skip w') (h : K a w') : wpOp P ops Q i K a w := op_runu _ ho rfl hrun h
theorem any_take {md : Region.Mode} {fuel : Nat} {listed : Array Bool} (i : Nat) (d : Tmp) (v : Value) {op : Op} {ty : TypeId} {pos : String} {af : Array Edge} (ho : ops[i]? = some ⟨some d, op, ty, pos, af, none⟩)
    (hs : Region.noSelect ops = true) (hf : Region.free md ops listed i = true) (hr : (Region.ready md ops listed).contains i = true) (hQ : ∀ c a w, Q (.panic c) (a.put (some d) v) w → Q (.panic c) a w)
    (hy : ∀ w, (execOp a.eval ⟨some d, op, ty, pos, af, none⟩).run P w = .ok (.value v) w) (h : wpAny P md ops Q fuel (listed.setIfInBounds i true) (a.put (some d) v) w) : wpAny P md ops Q (fuel + 1) listed a w :=
  wpAny_take ho hs hf hr hQ (Or.inl ⟨by simp [Region.wanted], hy⟩) h
/-- What an operation gives in every world, by itself or by a callee that changes nothing. -/
def GivesC (P : Program) (o : Oper) (v : Value) (ev : Operand → Value) : Prop :=
  ∀ w, (execOp ev o).run P w = .ok (.value v) w ∨ ∃ f args, (execOp ev o).run P w = .ok (.enter f args) w ∧ Calls P f args w fun e w' => e = .returned v ∧ w = w'
def TakesC (P : Program) (ops : Array Oper) (o : Oper) (v : Value) (a : Act) : Prop := Region.wanted o (yielded ops a.tmps) = true ∧ GivesC P o v a.eval

theorem TakesC.op {i : Nat} {v : Value} {K : Act → World → Prop} (hi : ops[i]? = some o) (hy : TakesC P ops o v a) (h : K (a.put o.dst v) w) : wpOp P ops Q i K a w := by
  unfold wpOp
  simp only [hi, hy.1, if_true]
  refine .inl ?_
  unfold Oper.wp
  rcases hy.2 w with hr | ⟨f, args, hr, hc⟩
  · rw [hr]; exact h
  · rw [hr]
    refine Calls.mono hc fun e w' he => ?_
    obtain ⟨rfl, rfl⟩ := he
    exact h
theorem TakesC.same {v : Value} {a' : Act} (hy : TakesC P ops o v a) (he : execOp a'.eval o = execOp a.eval o) (hw : Region.wanted o (yielded ops a'.tmps) = Region.wanted o (yielded ops a.tmps)) : TakesC P ops o v a' := by
  refine ⟨by rw [hw]; exact hy.1, fun w => ?_⟩
  rw [he]
  exact hy.2 w
theorem TakesC.past {j : Nat} {oj : Oper} {v : Value} (hj : ops[j]? = some oj) (hap : o.apart ops oj = true) (hsi : ∀ cs b, o.op ≠ .select cs b) (hsj : ∀ cs b, oj.op ≠ .select cs b)
    (hQ : ∀ c a w, Q (.panic c) (a.put o.dst v) w → Q (.panic c) a w) {K : Act → World → Prop} (hy : TakesC P ops o v a) (h : wpOp P ops Q j K (a.put o.dst v) w) :
    wpOp P ops Q j (fun a' w' => TakesC P ops o v a' ∧ K (a'.put o.dst v) w') a w := by
  obtain ⟨h1, h2, h3⟩ := Oper.apart_spec hap
  have keep : ∀ (b : Act), TakesC P ops o v b → ∀ u, TakesC P ops o v (b.put oj.dst u) := fun b hb u => hb.same (execOp_put o hsi b oj.dst u h3) (wanted_put o b oj.dst u h3)
  have keepD : ∀ d, TakesC P ops o v { a with defers := d :: a.defers } := fun d => hy.same rfl rfl
  unfold wpOp at *
  simp only [hj] at *
  rw [wanted_put oj a o.dst v h1] at h
  by_cases hw : Region.wanted oj (yielded ops a.tmps) = true
  · rw [if_pos hw] at h ⊢
    rcases h with h | ⟨has, hlet⟩
    · refine .inl ?_
      unfold Oper.wp at *
      rw [execOp_put oj hsj a o.dst v h1] at h
      generalize (execOp a.eval oj).run P w = r at *
      cases r with
      | halt x w' =>
        cases x <;> simp only [Oper.upon] at h ⊢
        exact hQ _ _ _ h
      | ok n w' =>
        cases n <;> simp only [Oper.upon] at h ⊢
        case value u => exact ⟨keep a hy u, by rw [← Act.put_comm a v u h2]; exact h⟩
        case skip => exact ⟨keep a hy _, by rw [← Act.put_comm a v undef h2]; exact h⟩
        case defer d => exact ⟨keep _ (keepD d) _, by rw [← Act.put_comm _ v undef h2, ← Act.put_defers]; exact h⟩
        case row row args => exact Rows.mono h fun u w'' he => ⟨keep a hy u, by rw [← Act.put_comm a v u h2]; exact he⟩
        case enter f args =>
          refine Calls.mono h fun e w'' he => ?_
          cases e with
          | returned u => exact ⟨keep a hy u, by rw [← Act.put_comm a v u h2]; exact he⟩
          | panicked c => exact hQ _ _ _ he
          | outgrown => exact he
    · exact .inr ⟨by unfold Oper.asks at *; rw [execOp_put oj hsj a o.dst v h1] at has; exact has, hlet⟩
  · rw [if_neg hw] at h ⊢
    exact ⟨keep a hy _, by rw [← Act.put_comm a v undef h2]; exact h⟩
theorem TakesC.first {md : Region.Mode} {i : Nat} {v : Value} (hi : ops[i]? = some o) (hsel : ∀ (j : Nat) (oj : Oper) cs b, ops[j]? = some oj → oj.op ≠ .select cs b)
    (hQ : ∀ c a w, Q (.panic c) (a.put o.dst v) w → Q (.panic c) a w) :
    ∀ (fuel : Nat) (listed : Array Bool) (a : Act) (w : World),
      (∀ j oj, ops[j]? = some oj → j ≠ i → listed.getD j true = false → (∀ e ∈ oj.after, Region.binds md e = true → e.on ≠ i) → o.apart ops oj = true) →
      i ∈ Region.ready md ops listed → TakesC P ops o v a →
      wpAny P md ops Q fuel (listed.setIfInBounds i true) (a.put o.dst v) w → wpAny P md ops Q (fuel + 1) listed a w
  | fuel, listed, a, w, hfree, hr, hy, H => by
    refine ⟨fun h => (by rw [h] at hr; cases hr), fun j hj => ?_⟩
    by_cases hji : j = i
    · subst hji; exact hy.op hi H
    · have hjr := ready_mono hj hji
      cases fuel with
      | zero => rw [H.1] at hjr; cases hjr
      | succ fuel =>
        have h1 := H.2 j hjr
        obtain ⟨hjun, oj, hoj, hall⟩ := mem_ready.1 hj
        have hiun := (mem_ready.1 hr).1
        have hnot : ∀ e ∈ oj.after, Region.binds md e = true → e.on ≠ i := fun e he hb heq => by
          have h5 := hall e he hb
          rw [heq, getD_both hiun] at h5
          cases h5
        have h2 := hy.past hoj (hfree j oj hoj hji hjun hnot) (fun cs b => hsel i o cs b hi) (fun cs b => hsel j oj cs b hoj) hQ h1
        refine wpOp_mono (fun a' w' h3 => TakesC.first hi hsel hQ fuel (listed.setIfInBounds j true) a' w' ?_ (ready_mono hr (Ne.symm hji)) h3.1 ?_) h2
        · intro k ok hk hki hun hno
          refine hfree k ok hk hki ?_ hno
          by_cases hjk : j = k
          · subst hjk; exact hjun
          · rw [getD_set_ne true hjk] at hun; exact hun
        · rw [Array.setIfInBounds_comm _ _ hji]
          exact h3.2
/-- A call that changes nothing, or whatever gives the same in every world, taken ahead of all else. -/
theorem any_call {md : Region.Mode} {fuel : Nat} {listed : Array Bool} (i : Nat) (d : Tmp) (v : Value) {op : Op} {ty : TypeId} {pos : String} {af : Array Edge} (ho : ops[i]? = some ⟨some d, op, ty, pos, af, none⟩)
    (hs : Region.noSelect ops = true) (hf : Region.free md ops listed i = true) (hr : (Region.ready md ops listed).contains i = true) (hQ : ∀ c a w, Q (.panic c) (a.put (some d) v) w → Q (.panic c) a w)
    {f : FuncId} {args : Array Value} (hrun : ∀ w, (execOp a.eval ⟨some d, op, ty, pos, af, none⟩).run P w = .ok (.enter f args) w) (hc : ∀ w, Calls P f args w fun e w' => e = .returned v ∧ w = w')
    (h : wpAny P md ops Q fuel (listed.setIfInBounds i true) (a.put (some d) v) w) : wpAny P md ops Q (fuel + 1) listed a w :=
  TakesC.first ho (Region.noSelect_spec hs) hQ fuel listed a w (Region.free_spec ho hf) (by simpa using hr) ⟨by simp [Region.wanted], fun w => Or.inr ⟨f, args, hrun w, hc w⟩⟩ h
/-! A region that draws its order: n steps that only read, then the rest, whose steps all wait for step n or for one behind it. -/
def waitsIn (md : Region.Mode) (ops : Array Oper) (n t : Nat) : Bool := (List.range t).any fun u => decide (n ≤ u) && Region.waitsFor md ops t u
def chainW (md : Region.Mode) (ops : Array Oper) (n : Nat) : Bool := (List.range ops.size).all fun t => decide (t ≤ n) || waitsIn md ops n t
section
variable {md : Region.Mode}
theorem tailW {n : Nat} {listed : Array Bool} (hs : Region.sinkB md ops n = true) (hc : chainW md ops n = true) (inv : HeadInv md ops n listed) :
    ∀ (d i : Nat), n - i = d → i < n → listed.getD i true = false → ∀ t, n ≤ t → t ∉ Region.ready md ops listed := by
  intro d
  induction d using Nat.strongRecOn with
  | _ d ih =>
    intro i hd hi hun t ht hr
    obtain ⟨_, ot, hot, hall⟩ := mem_ready.1 hr
    have htlt : t < ops.size := (Array.getElem?_eq_some_iff.1 hot).1
    rcases Nat.lt_or_ge n t with hlt | hge
    · have h1 := List.all_eq_true.1 hc t (List.mem_range.2 htlt)
      simp only [Bool.or_eq_true, decide_eq_true_eq] at h1
      rcases h1 with h1 | h1
      · omega
      · obtain ⟨u, hu, hw⟩ := List.any_eq_true.1 h1
        have hut := List.mem_range.1 hu
        simp only [Bool.and_eq_true, decide_eq_true_eq] at hw
        obtain ⟨o', ho', e, he, hb, hon⟩ := Region.waitsFor_spec hw.2
        have h3 : o' = ot := Option.some.inj (ho'.symm.trans hot)
        rw [h3] at he
        have h2 := hall e he hb
        rw [hon, getD_both (inv.tail u hw.1 (by omega))] at h2
        cases h2
    · have htn : t = n := by omega
      rw [htn] at hot hr
      have h1 := List.all_eq_true.1 hs i (List.mem_range.2 hi)
      obtain ⟨j, hj, hj2⟩ := List.any_eq_true.1 h1
      simp only [Bool.and_eq_true, decide_eq_true_eq] at hj2
      obtain ⟨oj, hoj, e, he, hb, hon⟩ := Region.waitsFor_spec hj2.2
      have hjle : j ≤ n := by have := List.mem_range.1 hj; omega
      by_cases hjn : j = n
      · rw [hjn] at hoj
        have h3 : oj = ot := Option.some.inj (hoj.symm.trans hot)
        rw [h3] at he
        have h2 := hall e he hb
        rw [hon, getD_both hun] at h2
        cases h2
      · cases hl : listed.getD j false with
        | true =>
          have h2 := inv.closed j oj hoj hl e he hb
          rw [hon, getD_both hun] at h2
          cases h2
        | false =>
          have hjs : j < listed.size := by rw [inv.size]; exact (Array.getElem?_eq_some_iff.1 hoj).1
          exact ih (n - j) (by omega) j rfl (by omega) (getD_in hjs hl) n (Nat.le_refl _) hr
theorem anyL_first {n i : Nat} {oi : Oper} {v : Value} {L : Array Bool → Act → Prop} (hi : ops[i]? = some oi) (hsel : ∀ (j : Nat) (o : Oper) cs b, ops[j]? = some o → o.op ≠ .select cs b)
    (hs : Region.sinkB md ops n = true) (hc : chainW md ops n = true) (hin : i < n) (hdone : ∀ listed a, L listed a → ∀ j ∈ Region.ready md ops listed, n ≤ j) :
    ∀ (f : Nat) (listed : Array Bool) (a : Act), HeadInv md ops n listed →
      (∀ j oj, ops[j]? = some oj → j ≠ i → listed.getD j true = false → (∀ e ∈ oj.after, Region.binds md e = true → e.on ≠ i) → oi.apart ops oj = true) →
      i ∈ Region.ready md ops listed → YieldsAt P ops w oi v a →
      wpAnyL P md ops w n L f (listed.setIfInBounds i true) (a.put oi.dst v) → wpAnyL P md ops w n L (f + 1) listed a
  | f, listed, a, inv, hfree, hr, hy, H => by
    have hun := (mem_ready.1 hr).1
    refine ⟨fun h => (by rw [h] at hr; cases hr), fun j hj => ?_⟩
    have hjn : j < n := by
      rcases Nat.lt_or_ge j n with h | h
      · exact h
      · exact absurd hj (tailW hs hc inv _ i rfl hin hun j h)
    refine ⟨hjn, ?_⟩
    by_cases hji : j = i
    · subst hji; exact hy.stOp hi H
    · have hjr := ready_mono hj hji
      cases f with
      | zero =>
        have := hdone _ _ H j hjr
        omega
      | succ f =>
        have h1 := (H.2 j hjr).2
        obtain ⟨hjun, oj, hoj, hall⟩ := mem_ready.1 hj
        have hnot : ∀ e ∈ oj.after, Region.binds md e = true → e.on ≠ i := fun e he hb heq => by
          have h5 := hall e he hb
          rw [heq, getD_both hun] at h5
          cases h5
        have h2 := stOp_put hoj (hfree j oj hoj hji hjun hnot) (fun cs b => hsel i oi cs b hi) (fun cs b => hsel j oj cs b hoj) hy h1
        refine stOp_mono (fun a' h3 => anyL_first hi hsel hs hc hin hdone f (listed.setIfInBounds j true) a' (inv.set hj hjn) ?_ (ready_mono hr (Ne.symm hji)) h3.1 ?_) h2
        · intro k ok hk hki hun hno
          refine hfree k ok hk hki ?_ hno
          by_cases hjk : j = k
          · subst hjk; exact hjun
          · rw [getD_set_ne true hjk] at hun; exact hun
        · rw [Array.setIfInBounds_comm _ _ hji]
          exact h3.2
def lexListed : Nat → Nat → Array Bool → Array Bool
  | 0, _, listed => listed
  | f + 1, k, listed => lexListed f (k + 1) (listed.setIfInBounds k true)
def lexB (md : Region.Mode) (ops : Array Oper) : Nat → Nat → Array Bool → Bool
  | 0, k, listed => (Region.ready md ops listed).all fun j => decide (k ≤ j)
  | f + 1, k, listed => (Region.ready md ops listed).contains k && Region.free md ops listed k && lexB md ops f (k + 1) (listed.setIfInBounds k true)
theorem anyL_lex {n : Nat} {X : Array Bool} {Lq : Act → Prop} (hsel : Region.noSelect ops = true) (hs : Region.sinkB md ops n = true) (hc : chainW md ops n = true) (hX : ∀ j ∈ Region.ready md ops X, n ≤ j) :
    ∀ (l : List Oper) (k : Nat) (listed : Array Bool) (a : Act), (∀ j, j < l.length → l[j]? = ops[k + j]?) → k + l.length = n → HeadInv md ops n listed → lexListed l.length k listed = X →
    lexB md ops l.length k listed = true → wpStill P ops w Lq l a → wpAnyL P md ops w n (fun listed' a' => listed' = X ∧ Lq a') l.length listed a
  | [], _, _, _, _, _, _, hx, _, h => ⟨hx, h⟩
  | o :: l, k, listed, a, hl, hk, inv, hx, hB, h => by
    have h0 : ops[k]? = some o := by simpa using (hl 0 (by simp)).symm
    simp only [List.length_cons, lexB, Bool.and_eq_true] at hB
    obtain ⟨⟨hr, hf⟩, hB'⟩ := hB
    have hkn : k < n := by simp only [List.length_cons] at hk; omega
    have hr' : k ∈ Region.ready md ops listed := by simpa using hr
    have hst : stOp P ops w k (wpStill P ops w Lq l) a := by unfold stOp; simp only [h0]; exact h
    obtain ⟨v, hy, hK⟩ := yieldsAt_of_stOp h0 hst
    exact anyL_first h0 (Region.noSelect_spec hsel) hs hc hkn (fun listed' a' hL => by rw [hL.1]; exact hX) l.length listed a inv (Region.free_spec h0 hf) hr' hy
      (anyL_lex hsel hs hc hX l (k + 1) _ _ (fun j hj => by have := hl (j + 1) (by simp; omega); simpa [Nat.add_assoc, Nat.add_comm 1 j] using this) (by simp only [List.length_cons] at hk; omega) (inv.set hr' hkn) hx hB' hK)
end
/-- What 'wp_still_then' asks of a region: computed. -/
def thenB (ops : Array Oper) (n : Nat) : Bool :=
  Region.noSelect ops && decide (n < ops.size) && Region.sinkB .any ops n && chainW .any ops n && lexB .any ops n 0 (Array.replicate ops.size false) &&
    (Region.ready .any ops (lexListed n 0 (Array.replicate ops.size false))).all fun j => decide (n ≤ j)
/-- A region that draws its order: n steps that only read; behind them whatever comes. -/
theorem wp_still_then {id : Nat} {l : List Oper} (n g : Nat) (hm : P.follows .mixedOrders = true) (hB : (thenB l.toArray n && decide (l.toArray.size = n + g)) = true)
    (h : wpStill P l.toArray w.drew (fun a' => wpAny P .any l.toArray Q g (lexListed n 0 (Array.replicate l.toArray.size false)) a' w.drew) (l.take n) a) : (Code.region id l.toArray true).wp P Q a w := by
  simp only [thenB, Bool.and_eq_true, decide_eq_true_eq] at hB
  obtain ⟨⟨⟨⟨⟨⟨hsel, hn⟩, hs⟩, hc⟩, hlex⟩, hX⟩, hg⟩ := hB
  have hn' : n < l.length := by simpa using hn
  have htl : (l.take n).length = n := by simp; omega
  have inv0 : HeadInv .any l.toArray n (Array.replicate l.toArray.size false) :=
    ⟨by simp, fun j oj _ hl => (by rw [getD_replicate_false] at hl; cases hl), fun t _ ht => getD_in (by simpa using ht) (getD_replicate_false _ _)⟩
  have hX' : ∀ j ∈ Region.ready .any l.toArray (lexListed n 0 (Array.replicate l.toArray.size false)), n ≤ j := fun j hj => by simpa using List.all_eq_true.1 hX j hj
  have h1 := anyL_lex (P := P) (w := w.drew) hsel hs hc hX' (l.take n) 0 _ a (fun j hj => by rw [htl] at hj; simp [hj]) (by omega) inv0 (by rw [htl]) (by rw [htl]; exact hlex) h
  rw [htl] at h1
  refine wp_any hm ?_
  have h2 := wpAny_of_head (P := P) (md := .any) (ops := l.toArray) (w := w.drew) (Q' := Q) (g := g) (fun listed a hL => by rw [hL.1]; exact hL.2) n _ a h1
  rwa [← hg] at h2
/-- A call that has come up. -/
theorem op_call {i : Nat} {K : Act → World → Prop} (d : Tmp) {op : Op} {ty : TypeId} {pos : String} {af : Array Edge} (ho : ops[i]? = some ⟨some d, op, ty, pos, af, none⟩) {f : FuncId} {args : Array Value}
    (hrun : (execOp a.eval ⟨some d, op, ty, pos, af, none⟩).run P w = .ok (.enter f args) w) (h : Calls P f args w fun e w' => ∃ v, e = .returned v ∧ K (a.put (some d) v) w') : wpOp P ops Q i K a w := by
  unfold wpOp
  have hw : Region.wanted (⟨some d, op, ty, pos, af, none⟩ : Oper) (yielded ops a.tmps) = true := by simp [Region.wanted]
  simp only [ho, hw, if_true]
  refine .inl ?_
  unfold Oper.wp
  rw [hrun]
  refine Calls.mono h fun e w' he => ?_
  obtain ⟨v, rfl, hK⟩ := he
  exact hK
/-- A region that draws its order, its loads taken first: S says what they read. -/
theorem wp_held {id : Nat} {l : List Oper} (S : World → Prop) (hm : P.follows .mixedOrders = true)
    (h : wpAnyH P .any l.toArray Q S l.toArray.size (Array.replicate l.toArray.size false) a w.drew) : (Code.region id l.toArray true).wp P Q a w := wp_region_held hm h
theorem held_take {S : World → Prop} {md : Region.Mode} {fuel : Nat} {listed : Array Bool} (i : Nat) (d : Tmp) (v : Value) {op : Op} {ty : TypeId} {pos : String} {af : Array Edge} (ho : ops[i]? = some ⟨some d, op, ty, pos, af, none⟩)
    (hs : Region.noSelect ops = true) (hf : Region.free md ops listed i = true) (hr : (Region.ready md ops listed).contains i = true) (hQ : ∀ c a w, Q (.panic c) (a.put (some d) v) w → Q (.panic c) a w) (hS : S w)
    (hy : ∀ w, S w → (execOp a.eval ⟨some d, op, ty, pos, af, none⟩).run P w = .ok (.value v) w) (h : wpAnyH P md ops Q S fuel (listed.setIfInBounds i true) (a.put (some d) v) w) : wpAnyH P md ops Q S (fuel + 1) listed a w :=
  wpAnyH_take ho hs hf hr hQ (Or.inl ⟨by simp [Region.wanted], hy⟩) hS h
theorem held1 {S : World → Prop} {md : Region.Mode} {fuel : Nat} {listed : Array Bool} (i : Nat) (hr : Region.ready md ops listed = [i])
    (h : wpOp P ops Q i (fun a' w' => S w' ∧ wpAnyH P md ops Q S fuel (listed.setIfInBounds i true) a' w') a w) : wpAnyH P md ops Q S (fuel + 1) listed a w := wpAnyH_all hr (by simp) (by simpa using h)
theorem held2 {S : World → Prop} {md : Region.Mode} {fuel : Nat} {listed : Array Bool} (i j : Nat) (hr : Region.ready md ops listed = [i, j])
    (h : wpOp P ops Q i (fun a' w' => S w' ∧ wpAnyH P md ops Q S fuel (listed.setIfInBounds i true) a' w') a w)
    (h2 : wpOp P ops Q j (fun a' w' => S w' ∧ wpAnyH P md ops Q S fuel (listed.setIfInBounds j true) a' w') a w) : wpAnyH P md ops Q S (fuel + 1) listed a w := wpAnyH_all hr (by simp) (by simpa using ⟨h, h2⟩)
/-- To hold more is enough. -/
theorem held_more {S S' : World → Prop} (hS : ∀ w, S' w → S w) {md : Region.Mode} : ∀ (fuel : Nat) (listed : Array Bool) (a : Act) (w : World), wpAnyH P md ops Q S' fuel listed a w → wpAnyH P md ops Q S fuel listed a w
  | 0, _, _, _, h => h
  | fuel + 1, _, _, _, h => ⟨h.1, fun i hi => wpOp_mono (fun a' w' h' => ⟨hS _ h'.1, held_more hS fuel _ a' w' h'.2⟩) (h.2 i hi)⟩
/-- Two strings put together. -/
theorem run_cat {t : TypeId} (x y : Operand) (ho : o.op = .binOp .add t x y t) (A B : List UInt8) (hx : a.eval x = .string (str A)) (hy : a.eval y = .string (str B)) (h : A.length + B.length ≤ 1000000) :
    (execOp a.eval o).run P w = .ok (.value (.string (str (A ++ B)))) w := by
  have hc : str A ++ str B = str (A ++ B) := by
    apply ByteArray.ext
    simp [str, ByteArray.data_append]
  have h1 := str_size A
  have h2 := str_size B
  have h3 : (binOp .add t (.string (str A)) (.string (str B))).run P w = .ok (.string (str A ++ str B)) w := by
    have ha : ((str A).size : Int) ≤ 8388608 := by omega
    have hb : ((str B).size : Int) ≤ 8388608 := by omega
    have h4 := run_string_add (P := P) w (str A) (str B) ha hb
    simp [binOp, h4]
  rw [hc] at h3
  simp [execOp, ho, hx, hy, Sem.run_bind, h3, eqGuard]
/-- It is this step. -/
theorem wpList_is (o : Oper) (h : wpList P ops Q (o :: rest) a w) : wpList P ops Q (o :: rest) a w := h
/-- A step of a region, by what it runs to. -/
theorem wpList_run (hgd : o.guard = none) {v : Value} (hrun : (execOp a.eval o).run P w = .ok (.value v) w') (h : wpList P ops Q rest (a.put o.dst v) w') : wpList P ops Q (o :: rest) a w := by
  refine wpList_plain hgd fun K hK => ?_
  unfold Oper.wp
  rw [hrun]
  exact hK _ _ h
theorem wpList_runu (hgd : o.guard = none) (hrun : (execOp a.eval o).run P w = .ok .skip w') (h : wpList P ops Q rest (a.put o.dst undef) w') : wpList P ops Q (o :: rest) a w := by
  refine wpList_plain hgd fun K hK => ?_
  unfold Oper.wp
  rw [hrun]
  exact hK _ _ h
/-- The same in the still part of a region that draws its order. -/
theorem still_run {K : Act → Prop} {E : Prop} (hgd : o.guard = none) {v : Value} (hrun : (execOp a.eval o).run P w = .ok (.value v) w) (h : K (a.put o.dst v)) :
    if Region.wanted o (yielded ops a.tmps) = true then o.still P a w K else E := by
  have hw : Region.wanted o (yielded ops a.tmps) = true := by simp [Region.wanted, hgd]
  rw [if_pos hw]
  unfold Oper.still
  rw [hrun]
  exact ⟨rfl, h⟩
/-- The same as one step of a region that draws its order ('go_region_law'). -/
theorem step_run {K : Act → World → Prop} {E : Prop} (hgd : o.guard = none) {v : Value} (hrun : (execOp a.eval o).run P w = .ok (.value v) w') (h : K (a.put o.dst v) w') :
    if Region.wanted o (yielded ops a.tmps) = true then Oper.wp P o a w K Q else E := by
  have hw : Region.wanted o (yielded ops a.tmps) = true := by simp [Region.wanted, hgd]
  rw [if_pos hw]
  unfold Oper.wp
  rw [hrun]
  exact h
end

section
variable {P : Program} {w : World}

theorem add_at (g off j : Nat) : (⟨g, off, none⟩ : Addr).add j = ⟨g, off + j, none⟩ := by unfold Addr.add; split <;> simp_all

theorem isAgg_run {ty : TypeId} {d : TypeDesc} (hu : P.underlying ty = some d) (hd : (match d with | .struct _ | .array _ _ => true | _ => false) = true) : (isAgg ty).run P w = .ok true w := by
  unfold isAgg
  rw [Sem.run_bind, run_underlying hu w]
  cases d <;> simp_all

theorem run_loadVar_agg (g off n : Nat) (t ty : TypeId) (cs : Array Value) (fr : Nat × Nat) (hg : w.heap[g]? = some (.cells cs t fr)) (hagg : ∀ w, (isAgg ty).run P w = .ok true w)
    (hi : (P.info? ty).map (·.size) = some n) (l : List Value) (hl : l.length = n) (hc : ∀ (j : Nat) (v : Value), l[j]? = some v → cs[off + j]? = some v) :
    (loadVar ty ⟨g, off, none⟩).run P w = .ok (.agg l.toArray) w := by
  subst hl
  have hload : (loadCells ⟨g, off, none⟩ l.length).run P w = .ok l.toArray w :=
    run_loadCells_list (P := P) w ⟨g, off, none⟩ l (fun j v hv => by
      rw [add_at, cell_of_row w g (off + j) cs t fr hg]
      exact hc j v hv)
  cases hq : P.info? ty with
  | none => simp [hq] at hi
  | some i =>
    have hs : i.size = l.length := by simpa [hq] using hi
    simp [loadVar, Sem.run_bind, hagg w, sizeOf, typeInfo, hq, hs, hload]

theorem run_storeVar_agg (g off : Nat) (t ty : TypeId) (cur : Array Value) (hg : Blk w g t cur) (vs : List Value) (hi : (P.info? ty).map (·.size) = some vs.length) (hfit : off + vs.length ≤ cur.size) (h1 : ∀ v ∈ vs, v.oneCell' = true) :
    (storeVar ty ⟨g, off, none⟩ (.agg vs.toArray)).run P w = .ok () (w.setRow g (splice cur.toList off vs).toArray) := by
  have h := run_storeCells_at P g off t vs 0 cur w hg (by simpa using hfit) h1
  cases hq : P.info? ty with
  | none => simp [hq] at hi
  | some i =>
    have hs : i.size = vs.length := by simpa [hq] using hi
    simp [storeVar, Sem.run_bind, sizeOf, typeInfo, hq, hs, Value.cells, h, splice]

variable {o : Oper} {a : Act}
theorem exec_load_agg (ty : TypeId) (x : Operand) (ho : o.op = .load ty x) (g off n : Nat) (hx : a.eval x = .pointer (some ⟨g, off, none⟩)) (t : TypeId) (cs : Array Value) (fr : Nat × Nat) (hg : w.heap[g]? = some (.cells cs t fr))
    (hagg : ∀ w, (isAgg ty).run P w = .ok true w) (hi : (P.info? ty).map (·.size) = some n) (l : List Value) (hl : l.length = n) (hc : ∀ (j : Nat) (v : Value), l[j]? = some v → cs[off + j]? = some v) :
    (execOp a.eval o).run P w = .ok (.value (.agg l.toArray)) w := by
  simp [execOp, ho, hx, Instr.loadAt, Instr.sureAddr, Sem.run_bind, run_loadVar_agg g off n t ty cs fr hg hagg hi l hl hc]

theorem exec_store_agg (ty : TypeId) (x y : Operand) (ho : o.op = .store ty x y) (g off : Nat) (hx : a.eval x = .pointer (some ⟨g, off, none⟩)) (vs : List Value) (hy : a.eval y = .agg vs.toArray) (t : TypeId) (cur : Array Value) (hg : Blk w g t cur)
    (hi : (P.info? ty).map (·.size) = some vs.length) (hfit : off + vs.length ≤ cur.size) (h1 : ∀ v ∈ vs, v.oneCell' = true) :
    (execOp a.eval o).run P w = .ok .skip (w.setRow g (splice cur.toList off vs).toArray) := by
  simp [execOp, ho, hx, hy, Instr.storeAt, Instr.sureAddr, Sem.run_bind, run_storeVar_agg g off t ty cur hg vs hi hfit h1]

theorem exec_alloc (ty : TypeId) (ho : o.op = .alloc ty) (z : Value) (cs : Array Value) (hi : (P.info? ty).bind (·.zero) = some z) (hz : z.cells = cs) :
    (execOp a.eval o).run P w = .ok (.value (.pointer (some ⟨w.heap.size, 0, none⟩))) (w.alloc (.cells cs ty)) := by
  subst hz
  cases hq : P.info? ty with
  | none => simp [hq] at hi
  | some i =>
    have hs : i.zero = some z := by simpa [hq] using hi
    simp [execOp, ho, Instr.alloc, zeroValue, typeInfo, hq, hs, newVar, newRow, newObj]
    rfl

/-- The same for a whole array, of 'setRow' over the whole. -/
theorem splice_whole {α : Type} (cur vs : List α) (h : vs.length = cur.length) : splice cur 0 vs = vs := by
  simp [splice, h]

theorem setRow_alloc (w0 : World) (zs cs : Array Value) (t : TypeId) : (w0.alloc (.cells zs t)).setRow w0.heap.size cs = w0.alloc (.cells cs t) := by
  unfold World.setRow World.alloc
  simp only [World.mk.injEq, and_true]
  apply Array.ext
  · simp
  · intro k h1 h2
    simp only [Array.getElem_modify]
    split
    · rename_i hk; subst hk; simp
    · rename_i hk
      simp only [Array.size_push, Array.size_modify] at h1 h2
      rw [Array.getElem_push_lt (by omega), Array.getElem_push_lt (by omega)]
theorem u8s_splice (a b : List UInt8) (i : Nat) : u8s (splice a i b) = splice (u8s a) i (u8s b) := by simp [u8s, splice]
theorem blk_pre {A l : List UInt8} {g off r r2 : Nat} {t : TypeId} (hA : A.length = off) (hl : l.length ≤ r) (h : Blk w g t (splice (u8s (A ++ List.replicate r 0)) off (u8s l)).toArray) (hr : r - l.length = r2) :
    Blk w g t (u8s (A ++ l ++ List.replicate r2 0)).toArray := by
  subst hA hr
  rw [← u8s_splice, splice_pre A l 0 r hl] at h
  exact h
theorem blk_u8 {L : List UInt8} {g : Nat} {t : TypeId} (h : Blk w g t (u8s L).toArray) (i : Nat) (c : UInt8) (hc : L[i]? = some c) : w.cell? ⟨g, i, none⟩ = some (.int .u8 c.toNat) := by
  rw [h.cell]
  simp [u8s, hc]
/-- A store of a whole value into the block that was made last. -/
theorem exec_store_new (ty : TypeId) (x y : Operand) (ho : o.op = .store ty x y) (w0 : World) (zs : Array Value) (t : TypeId) (hw : w = w0.alloc (.cells zs t)) (hx : a.eval x = .pointer (some ⟨w0.heap.size, 0, none⟩)) (vs : List Value) (hy : a.eval y = .agg vs.toArray)
    (hi : (P.info? ty).map (·.size) = some vs.length) (hfit : vs.length = zs.size) (h1 : ∀ v ∈ vs, v.oneCell' = true) :
    (execOp a.eval o).run P w = .ok .skip (w0.alloc (.cells vs.toArray t)) := by
  subst hw
  rw [exec_store_agg ty x y ho _ _ hx vs hy t zs (Blk.new w0 t zs) hi (by omega) h1, splice_whole _ _ (by simpa using hfit)]
  congr 1
  unfold World.setRow World.alloc
  simp only [World.mk.injEq, and_true]
  apply Array.ext
  · simp
  · intro k h1 h2
    simp only [Array.getElem_modify]
    split
    · rename_i hk; subst hk; simp
    · rename_i hk
      simp only [Array.size_push, Array.size_modify] at h1 h2
      rw [Array.getElem_push_lt (by omega), Array.getElem_push_lt (by omega)]

theorem exec_make (st e : TypeId) (x y : Operand) (ho : o.op = .makeSlice st x y) (ht : P.underlying st = some (.slice e)) (z : Value) (size bytes : Nat) (hi : (P.info? e).map (fun i => (i.zero, i.size, i.bytes)) = some (some z, size, bytes))
    (n : Nat) (hx : a.eval x = .int .i64 n) (hy : a.eval y = .int .i64 n) (hb : bytes * n ≤ 281474976710656) (h63 : n ≤ 9223372036854775807) (cs : Array Value) (hcs : madeCells z.cells (n * size) = cs) :
    (execOp a.eval o).run P w = .ok (.value (.slice (some ⟨w.heap.size, 0, none⟩) n n)) (w.alloc (.cells cs e)) := by
  subst hcs
  cases hq : P.info? e with
  | none => simp [hq] at hi
  | some i =>
    simp [hq] at hi
    obtain ⟨h1, h2, h3⟩ := hi
    have hb' : (i.bytes : Int) * (n : Int) ≤ 281474976710656 := by
      rw [h3]
      have h : ((bytes * n : Nat) : Int) ≤ 281474976710656 := by omega
      rwa [Int.natCast_mul] at h
    have hr := run_make (P := P) w st e i z ht hq h1 .i64 .i64 n n (by omega) (by omega) hb' (by omega)
    simp only [Int.toNat_natCast, h2] at hr
    simp [execOp, ho, hx, hy, Sem.run_bind, hr]

theorem madeCells_rep (m k : Nat) (z : Value) (hm : 0 < m) : madeCells (Array.replicate m z) (k * m) = Array.replicate (k * m) z := by
  unfold madeCells
  apply Array.ext
  · simp
  · intro i h1 h2
    have : i % m < m := Nat.mod_lt _ hm
    simp [this]

/-- 'copy(b[off:], s)': a text that has room. -/
theorem exec_copy_str (d s : Operand) (dT sT elem : TypeId) (ho : o.op = .call { callee := .builtin .copy, args := #[d, s], argTypes := #[dT, sT] }) (hu : P.underlying dT = some (.slice elem)) (hsz : (P.info? elem).map (·.size) = some 1)
    (g off dLen dCap : Nat) (l : List UInt8) (hd : a.eval d = .slice (some ⟨g, off, none⟩) dLen dCap) (hs : a.eval s = .string (str l)) (hl : l.length ≤ dLen)
    (t : TypeId) (cur : List Value) (hg : Blk w g t cur.toArray) (hfit : off + l.length ≤ cur.length) :
    (execOp a.eval o).run P w = .ok (.value (.int .i64 l.length)) (w.setRow g (splice cur off (u8s l)).toArray) := by
  cases hq : P.info? elem with
  | none => simp [hq] at hsz
  | some i =>
    have hs1 : i.size = 1 := by simpa [hq] using hsz
    have hz : (str l).size = l.length := str_size l
    have hmin : Nat.min (str l).size dLen = l.length := by rw [hz]; exact Nat.min_eq_left hl
    have hf := Lib.run_firstCells_string (P := P) w 1 (str l)
    rw [hz] at hf
    have hcells : Lib.strCells (str l) = u8s l := by simp [Lib.strCells, str, u8s]
    rw [hcells] at hf
    have hst := run_storeCells_at P g off t (u8s l) 0 cur.toArray w hg (by simpa [u8s_length] using hfit) (u8s_one _)
    simp [execOp, ho, hd, hs, resolve, invoke, builtin, Builtin.copy_, run_underlying hu, sizeOf, typeInfo, hq, hs1, Builtin.lenOf, hmin, hf, hst, splice, goInt]

/-- .. into the block that was made last. -/
theorem exec_copy_str_new (d s : Operand) (dT sT elem : TypeId) (ho : o.op = .call { callee := .builtin .copy, args := #[d, s], argTypes := #[dT, sT] }) (hu : P.underlying dT = some (.slice elem)) (hsz : (P.info? elem).map (·.size) = some 1)
    (w0 : World) (cur : List Value) (t : TypeId) (hw : w = w0.alloc (.cells cur.toArray t)) (off dLen dCap : Nat) (l : List UInt8) (hd : a.eval d = .slice (some ⟨w0.heap.size, off, none⟩) dLen dCap) (hs : a.eval s = .string (str l)) (hl : l.length ≤ dLen)
    (hfit : off + l.length ≤ cur.length) (new : List Value) (hn : splice cur off (u8s l) = new) :
    (execOp a.eval o).run P w = .ok (.value (.int .i64 l.length)) (w0.alloc (.cells new.toArray t)) := by
  subst hw hn
  rw [exec_copy_str d s dT sT elem ho hu hsz _ off dLen dCap l hd hs hl t cur (Blk.new w0 t _) hfit, setRow_alloc]

/-- 'copy(b[off:], c[..])': cells that lie in another block. -/
theorem exec_copy_blk (d s : Operand) (dT sT elem : TypeId) (ho : o.op = .call { callee := .builtin .copy, args := #[d, s], argTypes := #[dT, sT] }) (hu : P.underlying dT = some (.slice elem)) (hsz : (P.info? elem).map (·.size) = some 1)
    (g off dLen dCap g2 off2 sLen sCap : Nat) (hd : a.eval d = .slice (some ⟨g, off, none⟩) dLen dCap) (hs : a.eval s = .slice (some ⟨g2, off2, none⟩) sLen sCap) (l : List Value) (hl : l.length = Nat.min sLen dLen)
    (t2 : TypeId) (cs2 : Array Value) (hg2 : Blk w g2 t2 cs2) (hc : ∀ (j : Nat) (v : Value), l[j]? = some v → cs2[off2 + j]? = some v) (h1 : ∀ v ∈ l, v.oneCell' = true)
    (t : TypeId) (cur : List Value) (hg : Blk w g t cur.toArray) (hfit : off + l.length ≤ cur.length) :
    (execOp a.eval o).run P w = .ok (.value (.int .i64 l.length)) (w.setRow g (splice cur off l).toArray) := by
  cases hq : P.info? elem with
  | none => simp [hq] at hsz
  | some i =>
    have hs1 : i.size = 1 := by simpa [hq] using hsz
    have hf := run_firstCells_some (P := P) w 1 l.length ⟨g2, off2, none⟩ sLen sCap l (by simp) (fun j v hv => by rw [add_at, cell_of_row w g2 _ cs2 t2 _ hg2]; exact hc j v hv)
    have hst := run_storeCells_at P g off t l 0 cur.toArray w hg (by simpa using hfit) h1
    simp [execOp, ho, hd, hs, resolve, invoke, builtin, Builtin.copy_, run_underlying hu, sizeOf, typeInfo, hq, hs1, Builtin.lenOf, ← hl, hf, hst, splice, goInt]

theorem fold_set : ∀ (vs : List Value) (k : Nat) (z : Array Value), k + vs.length = z.size →
    ((vs.zipIdx k).foldl (fun (cs : Array Value) (p : Value × Nat) => cs.setIfInBounds p.2 p.1) z).toList = z.toList.take k ++ vs
  | [], k, z, h => by
    have : z.toList.take k = z.toList := List.take_of_length_le (by simp at h ⊢; omega)
    simp [this]
  | v :: vs, k, z, h => by
    simp only [List.zipIdx_cons, List.foldl_cons]
    rw [fold_set vs (k + 1) _ (by simp at h ⊢; omega)]
    have hk : k < z.toList.length := by simp at h ⊢; omega
    have e : (z.setIfInBounds k v).toList.take (k + 1) = z.toList.take k ++ [v] := by
      rw [Array.toList_setIfInBounds, List.take_add_one, List.take_set_of_le (by omega), List.getElem?_set_self hk]
      rfl
    rw [e]
    simp

theorem fill_one (place : Nat → Option (Nat × Nat)) (z : Array Value) (vs : List Value) (h : vs.length = z.size) (hp : place 0 = some (0, vs.length)) :
    Instr.fill place z [(0, .agg vs.toArray)] = some vs.toArray := by
  have h2 : vs.zipIdx.foldl (fun (cs : Array Value) (x : Value × Nat) => cs.setIfInBounds x.2 x.1) z = vs.toArray := by
    have := fold_set vs 0 z (by omega)
    simp only [List.take_zero, List.nil_append] at this
    exact Array.ext' this
  unfold Instr.fill Instr.fill
  simp only [hp, Value.cells, List.size_toArray]
  simp [h, h2]

theorem exec_buildSlice1 (st e : TypeId) (x : Operand) (ho : o.op = .buildSlice st 1 #[(0, x)]) (ht : P.underlying st = some (.slice e)) (z : Value) (size bytes : Nat) (hi : (P.info? e).map (fun i => (i.zero, i.size, i.bytes)) = some (some z, size, bytes))
    (h0 : 0 < size) (h24 : size ≤ 16777216) (cs : List Value) (hx : a.eval x = .agg cs.toArray) (hl : cs.length = size) :
    (execOp a.eval o).run P w = .ok (.value (.slice (some ⟨w.heap.size, 0, none⟩) 1 1)) (w.alloc (.cells cs.toArray e)) := by
  subst hl
  cases hq : P.info? e with
  | none => simp [hq] at hi
  | some i =>
    simp [hq] at hi
    obtain ⟨h1, h2, h3⟩ := hi
    have hf := fill_one (fun i => some (i * cs.length, cs.length)) ((Array.range cs.length).map (z.cells[· % z.cells.size]!)) cs (by simp) (by simp)
    have hn : cs ≠ [] := by intro h; rw [h] at h0; simp at h0
    have h24' : ¬ (16777216 < cs.length) := by omega
    simp [execOp, ho, hx, Sem.run_bind, Instr.buildSlice, run_underlying ht, sizeOf, zeroValue, typeInfo, hq, h1, h2, hn, h24', hf, newRow]

theorem exec_append_own (s x : Operand) (t : TypeId) (ho : o.op = .call { callee := .builtin .append, args := #[s, x], argTypes := #[t, t] })
    (base : Nat) (e : TypeId) (z : Value) (size bytes : Nat) (ht : P.underlying t = some (.slice e)) (hi : (P.info? e).map (fun i => (i.zero, i.size, i.bytes)) = some (some z, size, bytes)) (hzs : z.cells.size = size) (hsz : 0 < size)
    (v : Value) (n : Nat) (xs : List Value) (hs : a.eval s = v) (hown : w.ownsRow base e size v n xs)
    (ad : Addr) (m c : Nat) (news : List Value) (hx : a.eval x = .slice (some ad) m c) (hl : news.length = m * size) (hnews : ∀ (j : Nat) (u : Value), news[j]? = some u → w.cell? (ad.add j) = some u) (h1 : ∀ u ∈ news, u.oneCell' = true)
    (h63 : n + m ≤ maxLen) (hbytes : (n + m) * bytes ≤ 140737488355328) (hbase : base ≤ w.heap.size) :
    ∃ v' w', (execOp a.eval o).run P w = .ok (.value v') w' ∧ w'.ownsRow base e size v' (n + m) (xs ++ news) ∧ w.grownBy w' v.ownBlock := by
  cases hq : P.info? e with
  | none => simp [hq] at hi
  | some i =>
    simp [hq] at hi
    obtain ⟨hz, h2, h3⟩ := hi
    obtain ⟨v', w', hr, ho', hg, _⟩ := run_append_own (P := P) w base t o.type e i z size bytes ht hq hz h2 h3 hzs hsz v n xs hown ad m c news hl hnews h1 h63 hbytes hbase
    refine ⟨v', w', ?_, ho', hg⟩
    simp [execOp, ho, hs, hx, resolve, invoke, builtin, hr]

theorem op_append {ops : Array Oper} {Q : Exit → Act → World → Prop} {i : Nat} {K : Act → World → Prop} (d : Tmp) {ty : TypeId} {pos : String} {af : Array Edge} (s x : Operand) (t : TypeId)
    (ho : ops[i]? = some ⟨some d, .call { callee := .builtin .append, args := #[s, x], argTypes := #[t, t] }, ty, pos, af, none⟩)
    (base : Nat) (e : TypeId) (z : Value) (size bytes : Nat) (ht : P.underlying t = some (.slice e)) (hi : (P.info? e).map (fun i => (i.zero, i.size, i.bytes)) = some (some z, size, bytes)) (hzs : z.cells.size = size) (hsz : 0 < size)
    (v : Value) (n : Nat) (xs : List Value) (hs : a.eval s = v) (hown : w.ownsRow base e size v n xs)
    (ad : Addr) (m c : Nat) (news : List Value) (hx : a.eval x = .slice (some ad) m c) (hl : news.length = m * size) (hnews : ∀ (j : Nat) (u : Value), news[j]? = some u → w.cell? (ad.add j) = some u) (h1 : ∀ u ∈ news, u.oneCell' = true)
    (h63 : n + m ≤ maxLen) (hbytes : (n + m) * bytes ≤ 140737488355328) (hbase : base ≤ w.heap.size)
    (h : ∀ v' w', w'.ownsRow base e size v' (n + m) (xs ++ news) → w.grownBy w' v.ownBlock → K (a.put (some d) v') w') : wpOp P ops Q i K a w := by
  obtain ⟨v', w', hr, h2, h3⟩ := exec_append_own (P := P) (w := w) (a := a) (o := ⟨some d, .call { callee := .builtin .append, args := #[s, x], argTypes := #[t, t] }, ty, pos, af, none⟩) s x t rfl base e z size bytes ht hi hzs hsz v n xs hs hown ad m c news hx hl hnews h1 h63 hbytes hbase
  exact op_at d ho hr (h v' w' h2 h3)

theorem run_bytes_str (src dst e : TypeId) (hs : P.underlying src = some (.slice e)) (he : P.underlying e = some (.int .u8)) (hd : P.underlying dst = some .string) (b off n cap : Nat) (l : List UInt8) (hl : l.length = n)
    (hc : ∀ (j : Nat) (c : UInt8), l[j]? = some c → w.cell? ⟨b, off + j, none⟩ = some (.int .u8 c.toNat)) :
    (convert src dst (.slice (some ⟨b, off, none⟩) n cap)).run P w = .ok (.string (str l)) w := by
  have h := run_convert_bytes_arg (P := P) w src e hs he b off n cap (l.map fun c => (c.toNat : Int)) (by simpa using hl) (fun i hi => by
    have hlt : i < l.length := by omega
    rw [hc i l[i] (List.getElem?_eq_getElem hlt)]
    simp [List.getD, hlt]) dst hd
  rw [h]
  congr 2
  unfold strOfNums str
  congr 2
  rw [List.map_map]
  conv => rhs; rw [← List.map_id l]
  apply List.map_congr_left
  intro c _
  simp
end
end Go.Proofs.YtnofeblcnamfeaaDoor
