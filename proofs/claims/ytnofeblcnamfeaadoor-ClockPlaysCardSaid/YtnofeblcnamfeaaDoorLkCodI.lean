/- Layer 6: taking a number. -/
import Derived.Test.YtnofeblcnamfeaaDoorProg
import Derived.Test.YtnofeblcnamfeaaDoorLkCod
namespace Go.Proofs.YtnofeblcnamfeaaDoor
open Go.RowKit Go.Proofs

theorem atoiM_range (l : List UInt8) (v : Int) (h : atoiM l = some v) : -9223372036854775808 ≤ v ∧ v ≤ 9223372036854775807 := by
  unfold atoiM at h
  split at h
  · rename_i u hu
    injection h with h
    subst h
    unfold Lib.atoiAll at hu
    split at hu
    · cases hu
    · rename_i c r
      simp only at hu
      split at hu
      · cases hu
      · cases hu
      · split at hu
        · cases hu
        · rename_i u' h1 h2
          split at hu
          · cases hu
          · rename_i h3
            injection hu with hu
            split at hu <;> omega
  · cases h

set_option maxHeartbeats 1000000 in
theorem cod_int (r : Nat) (s : List UInt8) (bad : Bool) (lo hi : Int) (B : Nat) (w : World) (he : Env B w) (hB : B ≤ w.heap.size) (hBr : B ≤ r) (hs : s.length < 281474976) (h : RdrAt w r s bad) :
    Calls Tryd.prog 24 #[.pointer (some ⟨r, 0, none⟩), .int .i64 lo, .int .i64 hi] w fun e w' => e = .returned (.int .i64 (intM s bad lo hi).1) ∧ RdrAt w' r (intM s bad lo hi).2.1 (intM s bad lo hi).2.2 ∧ But r w w' := by
  have c0 := h.blk.cell 0
  have c1 := h.blk.cell 1
  have f0 := h.blk.frozen 0
  simp at c0 c1
  cases bad with
  | true =>
    have H := Lib.hid h
    clear h
    have hm : intM s true lo hi = (0, s, true) := rfl
    rw [hm]
    go_enter Tryd.func24, Tryd.ntmps24
    go_wp2
    go_ret
    exact ⟨rfl, H.out, But.refl _ _⟩
  | false =>
    obtain ⟨a, rest, okb, hcut⟩ : ∃ a rest okb, Lib.cut s [44] = (a, rest, okb) := ⟨_, _, _, rfl⟩
    have hal : a.length < 281474976 := by
      have := congrArg (·.1) hcut
      simp only [Lib.cut] at this
      split at this
      · rw [← this, List.length_take]; omega
      · rw [← this]; exact hs
    have hC := std_Cut s [44] (by omega) B w he
    rw [hcut] at hC
    simp only at hC
    have HC := Lib.hid hC
    have HM : Hid (intM s false lo hi = if okb then (match atoiM a with | some v => if Lib.itoa v = a ∧ lo ≤ v ∧ v ≤ hi then (v, rest, false) else (0, s, true) | none => (0, s, true)) else (0, s, true)) := Lib.hid (by unfold intM; rw [hcut]; rfl)
    have hc2 : str [44] = ⟨#[44]⟩ := rfl
    rw [hc2] at HC
    clear hC hc2 hcut
    cases okb with
    | false =>
      have HM2 : Hid (intM s false lo hi = (0, s, true)) := Lib.hid (by rw [HM.out]; rfl)
      have H := Lib.hid h
      clear h HM
      go_enter Tryd.func24, Tryd.ntmps24
      go_wp2_with (first
        | (go_at_call 36; refine HC.out.mono ?_; rintro e w' ⟨rfl, n, rfl⟩)
        | (go_at_call 37; refine (cod_fail r s false _ (Blk.drewN H.out _)).mono ?_; rintro e w' ⟨rfl, hr, hb⟩))
      go_ret
      rw [HM2.out]
      exact ⟨rfl, hr, ((But.refl r w).drewN n).trans hb⟩
    | true =>
      cases hat : atoiM a with
      | none =>
        have HM2 : Hid (intM s false lo hi = (0, s, true)) := Lib.hid (by rw [HM.out, hat]; rfl)
        have H := Lib.hid h
        have HA := Lib.hid (fun W (hE : Env B W) (hW : B ≤ W.heap.size) => std_Atoi a (by omega) B W hE hW)
        rw [hat] at HA
        have HE := Lib.hid he
        clear h HM hat he
        go_enter Tryd.func24, Tryd.ntmps24
        go_wp2_with (first
          | (go_at_call 36; refine HC.out.mono ?_; rintro e w' ⟨rfl, n, rfl⟩)
          | (go_at_call 38; refine (HA.out _ (HE.out.below (below_drewN (Below.refl _ _) n)) hB).mono ?_; rintro e w1 ⟨⟨v, tp, N, rfl⟩, hb1⟩; have hr1 : Hid (RdrAt w1 r s false) := Lib.hid (Blk.below (Blk.drewN H.out n) hb1 H.out.lt))
          | (go_at_call 37; refine (cod_fail r s false _ hr1.out).mono ?_; rintro e w' ⟨rfl, hr, hb⟩))
        go_ret
        rw [HM2.out]
        exact ⟨rfl, hr, (((But.refl r w).drewN n).trans (But.of_below hb1)).trans hb⟩
      | some v =>
        obtain ⟨v0, v1⟩ := atoiM_range a v hat
        have HA := Lib.hid (fun W (hE : Env B W) (hW : B ≤ W.heap.size) => std_Atoi a (by omega) B W hE hW)
        rw [hat] at HA
        have H := Lib.hid h
        have HE := Lib.hid he
        have HI := Lib.hid (fun W (hE : Env B W) (hW : B ≤ W.heap.size) => std_Itoa v v0 v1 B W hE hW)
        have HM2 : Hid (intM s false lo hi = if Lib.itoa v = a ∧ lo ≤ v ∧ v ≤ hi then (v, rest, false) else (0, s, true)) := Lib.hid (by rw [HM.out, hat]; rfl)
        clear h HM hat he
        by_cases hia : Lib.itoa v = a
        · have hne : ((str (Lib.itoa v)).toList == (str a).toList) = true := by rw [hia]; exact beq_self_eq_true _
          by_cases hlo : lo ≤ v
          · by_cases hhi : v ≤ hi
            · have HM3 : Hid (intM s false lo hi = (v, rest, false)) := Lib.hid (by rw [HM2.out, if_pos ⟨hia, hlo, hhi⟩])
              clear HM2 hia
              go_enter Tryd.func24, Tryd.ntmps24
              go_wp2_with (first
                | (go_at_call 36; refine HC.out.mono ?_; rintro e w' ⟨rfl, n, rfl⟩)
                | (go_at_call 38; refine (HA.out _ (HE.out.below (below_drewN (Below.refl _ _) n)) hB).mono ?_; rintro e w1 ⟨rfl, hb1⟩; have hr1 : Hid (RdrAt w1 r s false) := Lib.hid (Blk.below (Blk.drewN H.out n) hb1 H.out.lt))
                | (go_at_call 39; refine (HI.out _ ((HE.out.below (below_drewN (Below.refl _ _) n)).below (hb1.mono hB)) (Nat.le_trans hB hb1.size)).mono ?_; rintro e w2 ⟨rfl, hb2⟩; have hr2 : Hid (RdrAt w2 r s false) := Lib.hid (Blk.below hr1.out hb2 hr1.out.lt); have d0 := Blk.cell hr2.out.blk 0; have d1 := Blk.frozen hr2.out.blk 0; simp at d0))
              go_ret
              rw [HM3.out]
              exact ⟨rfl, hr2.out.blk.set_ 0 _, (((((But.refl r w).drewN n).trans (But.of_below hb1)).trans (But.of_below hb2))).set_ _ _⟩
            · have HM3 : Hid (intM s false lo hi = (0, s, true)) := Lib.hid (by rw [HM2.out, if_neg (fun h => hhi h.2.2)])
              clear HM2 hia
              go_enter Tryd.func24, Tryd.ntmps24
              go_wp2_with (first
                | (go_at_call 36; refine HC.out.mono ?_; rintro e w' ⟨rfl, n, rfl⟩)
                | (go_at_call 38; refine (HA.out _ (HE.out.below (below_drewN (Below.refl _ _) n)) hB).mono ?_; rintro e w1 ⟨rfl, hb1⟩; have hr1 : Hid (RdrAt w1 r s false) := Lib.hid (Blk.below (Blk.drewN H.out n) hb1 H.out.lt))
                | (go_at_call 39; refine (HI.out _ ((HE.out.below (below_drewN (Below.refl _ _) n)).below (hb1.mono hB)) (Nat.le_trans hB hb1.size)).mono ?_; rintro e w2 ⟨rfl, hb2⟩; have hr2 : Hid (RdrAt w2 r s false) := Lib.hid (Blk.below hr1.out hb2 hr1.out.lt))
                | (go_at_call 37; refine (cod_fail r s false _ hr2.out).mono ?_; rintro e w' ⟨rfl, hr, hb⟩))
              go_ret
              rw [HM3.out]
              exact ⟨rfl, hr, ((((But.refl r w).drewN n).trans (But.of_below hb1)).trans (But.of_below hb2)).trans hb⟩
          · have HM3 : Hid (intM s false lo hi = (0, s, true)) := Lib.hid (by rw [HM2.out, if_neg (fun h => hlo h.2.1)])
            clear HM2 hia
            go_enter Tryd.func24, Tryd.ntmps24
            go_wp2_with (first
              | (go_at_call 36; refine HC.out.mono ?_; rintro e w' ⟨rfl, n, rfl⟩)
              | (go_at_call 38; refine (HA.out _ (HE.out.below (below_drewN (Below.refl _ _) n)) hB).mono ?_; rintro e w1 ⟨rfl, hb1⟩; have hr1 : Hid (RdrAt w1 r s false) := Lib.hid (Blk.below (Blk.drewN H.out n) hb1 H.out.lt))
              | (go_at_call 39; refine (HI.out _ ((HE.out.below (below_drewN (Below.refl _ _) n)).below (hb1.mono hB)) (Nat.le_trans hB hb1.size)).mono ?_; rintro e w2 ⟨rfl, hb2⟩; have hr2 : Hid (RdrAt w2 r s false) := Lib.hid (Blk.below hr1.out hb2 hr1.out.lt))
              | (go_at_call 37; refine (cod_fail r s false _ hr2.out).mono ?_; rintro e w' ⟨rfl, hr, hb⟩))
            go_ret
            rw [HM3.out]
            exact ⟨rfl, hr, ((((But.refl r w).drewN n).trans (But.of_below hb1)).trans (But.of_below hb2)).trans hb⟩
        · have HM3 : Hid (intM s false lo hi = (0, s, true)) := Lib.hid (by rw [HM2.out, if_neg (fun h => hia h.1)])
          have hne : ((str (Lib.itoa v)).toList == (str a).toList) = false := by
            rw [beq_eq_false_iff_ne, ByteArray.toList_eq, ByteArray.toList_eq, str_list, str_list]
            exact hia
          clear HM2 hia
          go_enter Tryd.func24, Tryd.ntmps24
          go_wp2_with (first
            | (go_at_call 36; refine HC.out.mono ?_; rintro e w' ⟨rfl, n, rfl⟩)
            | (go_at_call 38; refine (HA.out _ (HE.out.below (below_drewN (Below.refl _ _) n)) hB).mono ?_; rintro e w1 ⟨rfl, hb1⟩; have hr1 : Hid (RdrAt w1 r s false) := Lib.hid (Blk.below (Blk.drewN H.out n) hb1 H.out.lt))
            | (go_at_call 39; refine (HI.out _ ((HE.out.below (below_drewN (Below.refl _ _) n)).below (hb1.mono hB)) (Nat.le_trans hB hb1.size)).mono ?_; rintro e w2 ⟨rfl, hb2⟩; have hr2 : Hid (RdrAt w2 r s false) := Lib.hid (Blk.below hr1.out hb2 hr1.out.lt))
            | (go_at_call 37; refine (cod_fail r s false _ hr2.out).mono ?_; rintro e w' ⟨rfl, hr, hb⟩))
          go_ret
          rw [HM3.out]
          exact ⟨rfl, hr, ((((But.refl r w).drewN n).trans (But.of_below hb1)).trans (But.of_below hb2)).trans hb⟩

theorem intM_len (s : List UInt8) (bad : Bool) (lo hi : Int) : (intM s bad lo hi).2.1.length ≤ s.length := by
  have h : (Lib.cut s [44]).2.1.length ≤ s.length := by
    unfold Lib.cut
    split
    · rw [List.length_drop]; omega
    · simp
  unfold intM
  split
  · exact Nat.le_refl _
  · split
    · split
      · split
        · exact h
        · exact Nat.le_refl _
      · exact Nat.le_refl _
    · exact Nat.le_refl _
end Go.Proofs.YtnofeblcnamfeaaDoor
