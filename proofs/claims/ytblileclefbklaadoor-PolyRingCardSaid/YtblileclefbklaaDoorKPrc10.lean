/-
  The document's answer on monomials, more of it. No condition.
-/
import Derived.Test.YtblileclefbklaaDoorKPrc9
import Derived.Test.YtblileclefbklaaDoorKPrc5

namespace Go.Proofs.YtblileclefbklaaDoor
open Go.RowKit
set_option linter.unusedVariables false
set_option linter.unusedSimpArgs false
set_option maxHeartbeats 4000000

theorem ringCk_3 {r : Rg} (h : ckP r.p = 0) (hn : ¬ (1 ≤ r.n ∧ r.n ≤ 3)) : ringCk r = 3 := by
  unfold ringCk
  rw [if_pos h, if_neg (by simpa using hn)]

theorem ringCk_6 {r : Rg} (h : ckP r.p = 0) (hn : 1 ≤ r.n ∧ r.n ≤ 3) (hk : ¬ ((1 ≤ r.order ∧ r.order ≤ 2) ∧ (1 ≤ r.over ∧ r.over ≤ 2))) : ringCk r = 6 := by
  unfold ringCk
  rw [if_pos h, if_pos (by simpa using hn), if_neg (by simpa using hk)]

theorem ringCk_0 {r : Rg} (h : ckP r.p = 0) (hn : 1 ≤ r.n ∧ r.n ≤ 3) (hk : (1 ≤ r.order ∧ r.order ≤ 2) ∧ (1 ≤ r.over ∧ r.over ≤ 2)) : ringCk r = 0 := by
  unfold ringCk
  rw [if_pos h, if_pos (by simpa using hn), if_pos (by simpa using hk)]

theorem Ring_pure (r : Rg) : Pure Tryd.prog 34 [rgD r] (I (ringCk r)) := by
  intro H
  refine PureH.of_body Tryd.func34 rfl (by decide) (Nat.le_of_ble_eq_true rfl) fun w0 => ?_
  (repeat (first | refine RO.S ?_ | refine RO.Y ?_ | refine RO.no rfl (by decide) rfl ?_ | refine RO.nil ?_ | refine DW.region ?_ | refine DW.seq ?_ | refine DW.block ?_ | refine DW.skip ?_ | refine DW.exit ?_ | refine DW.condT rfl ?_ | refine DW.condF rfl ?_))
  refine RO.sta (sta_call rfl rfl (check_pure _ _)) rfl ?_
  (repeat (first | refine RO.S ?_ | refine RO.Y ?_ | refine RO.no rfl (by decide) rfl ?_ | refine RO.nil ?_ | refine DW.region ?_ | refine DW.seq ?_ | refine DW.block ?_ | refine DW.skip ?_ | refine DW.exit ?_ | refine DW.condT rfl ?_ | refine DW.condF rfl ?_))
  refine DW.cond rfl (fun hb => ?_) (fun hb => ?_)
  · have h : ¬ ckP r.p = 0 := by simpa using hb
    have : ringCk r = ckP r.p := by unfold ringCk; rw [if_neg h]
    rw [this]
    (repeat (first | refine RO.S ?_ | refine RO.Y ?_ | refine RO.no rfl (by decide) rfl ?_ | refine RO.nil ?_ | refine DW.region ?_ | refine DW.seq ?_ | refine DW.block ?_ | refine DW.skip ?_ | refine DW.exit ?_ | refine DW.condT rfl ?_ | refine DW.condF rfl ?_))
    exact DW.ret ⟨.inl rfl, _, rfl, Over.refl _, .same _⟩
  · have h : ckP r.p = 0 := by simpa using hb
    (repeat (first | refine RO.S ?_ | refine RO.Y ?_ | refine RO.no rfl (by decide) rfl ?_ | refine RO.nil ?_ | refine DW.region ?_ | refine DW.seq ?_ | refine DW.block ?_ | refine DW.skip ?_ | refine DW.exit ?_ | refine DW.condT rfl ?_ | refine DW.condF rfl ?_))
    cases hc : decide (r.n < 1)
    · (repeat (first | refine RO.S ?_ | refine RO.Y ?_ | refine RO.no rfl (by decide) rfl ?_ | refine RO.nil ?_ | refine DW.region ?_ | refine DW.seq ?_ | refine DW.block ?_ | refine DW.skip ?_ | refine DW.exit ?_ | refine DW.condT rfl ?_ | refine DW.condF rfl ?_))
      refine DW.cond rfl (fun hb => ?_) (fun hb => ?_)
      · have : ringCk r = 3 := ringCk_3 h (by simp at hb hc; omega)
        rw [this]
        (repeat (first | refine RO.S ?_ | refine RO.Y ?_ | refine RO.no rfl (by decide) rfl ?_ | refine RO.nil ?_ | refine DW.region ?_ | refine DW.seq ?_ | refine DW.block ?_ | refine DW.skip ?_ | refine DW.exit ?_ | refine DW.condT rfl ?_ | refine DW.condF rfl ?_))
        exact DW.ret ⟨.inl rfl, _, rfl, Over.refl _, .same _⟩
      · have hn : 1 ≤ r.n ∧ r.n ≤ 3 := by simp at hb hc; omega
        (repeat (first | refine RO.S ?_ | refine RO.Y ?_ | refine RO.no rfl (by decide) rfl ?_ | refine RO.nil ?_ | refine DW.region ?_ | refine DW.seq ?_ | refine DW.block ?_ | refine DW.skip ?_ | refine DW.exit ?_ | refine DW.condT rfl ?_ | refine DW.condF rfl ?_))
        cases hc1 : (r.order != 1)
        · (repeat (first | refine RO.S ?_ | refine RO.Y ?_ | refine RO.no rfl (by decide) rfl ?_ | refine RO.nil ?_ | refine DW.region ?_ | refine DW.seq ?_ | refine DW.block ?_ | refine DW.skip ?_ | refine DW.exit ?_ | refine DW.condT rfl ?_ | refine DW.condF rfl ?_))
          cases hc3 : (r.over != 1)
          · rw [ringCk_0 h hn (by simp at hc1 hc3; omega)]
            (repeat (first | refine RO.S ?_ | refine RO.Y ?_ | refine RO.no rfl (by decide) rfl ?_ | refine RO.nil ?_ | refine DW.region ?_ | refine DW.seq ?_ | refine DW.block ?_ | refine DW.skip ?_ | refine DW.exit ?_ | refine DW.condT rfl ?_ | refine DW.condF rfl ?_))
            exact DW.ret ⟨.inl rfl, _, rfl, Over.refl _, .same _⟩
          · (repeat (first | refine RO.S ?_ | refine RO.Y ?_ | refine RO.no rfl (by decide) rfl ?_ | refine RO.nil ?_ | refine DW.region ?_ | refine DW.seq ?_ | refine DW.block ?_ | refine DW.skip ?_ | refine DW.exit ?_ | refine DW.condT rfl ?_ | refine DW.condF rfl ?_))
            cases hc4 : (r.over != 2)
            · rw [ringCk_0 h hn (by simp at hc1 hc3 hc4; omega)]
              (repeat (first | refine RO.S ?_ | refine RO.Y ?_ | refine RO.no rfl (by decide) rfl ?_ | refine RO.nil ?_ | refine DW.region ?_ | refine DW.seq ?_ | refine DW.block ?_ | refine DW.skip ?_ | refine DW.exit ?_ | refine DW.condT rfl ?_ | refine DW.condF rfl ?_))
              exact DW.ret ⟨.inl rfl, _, rfl, Over.refl _, .same _⟩
            · rw [ringCk_6 h hn (by simp at hc1 hc3 hc4; omega)]
              (repeat (first | refine RO.S ?_ | refine RO.Y ?_ | refine RO.no rfl (by decide) rfl ?_ | refine RO.nil ?_ | refine DW.region ?_ | refine DW.seq ?_ | refine DW.block ?_ | refine DW.skip ?_ | refine DW.exit ?_ | refine DW.condT rfl ?_ | refine DW.condF rfl ?_))
              exact DW.ret ⟨.inl rfl, _, rfl, Over.refl _, .same _⟩
        · (repeat (first | refine RO.S ?_ | refine RO.Y ?_ | refine RO.no rfl (by decide) rfl ?_ | refine RO.nil ?_ | refine DW.region ?_ | refine DW.seq ?_ | refine DW.block ?_ | refine DW.skip ?_ | refine DW.exit ?_ | refine DW.condT rfl ?_ | refine DW.condF rfl ?_))
          cases hc2 : (r.order != 2)
          · (repeat (first | refine RO.S ?_ | refine RO.Y ?_ | refine RO.no rfl (by decide) rfl ?_ | refine RO.nil ?_ | refine DW.region ?_ | refine DW.seq ?_ | refine DW.block ?_ | refine DW.skip ?_ | refine DW.exit ?_ | refine DW.condT rfl ?_ | refine DW.condF rfl ?_))
            cases hc3 : (r.over != 1)
            · rw [ringCk_0 h hn (by simp at hc1 hc2 hc3; omega)]
              (repeat (first | refine RO.S ?_ | refine RO.Y ?_ | refine RO.no rfl (by decide) rfl ?_ | refine RO.nil ?_ | refine DW.region ?_ | refine DW.seq ?_ | refine DW.block ?_ | refine DW.skip ?_ | refine DW.exit ?_ | refine DW.condT rfl ?_ | refine DW.condF rfl ?_))
              exact DW.ret ⟨.inl rfl, _, rfl, Over.refl _, .same _⟩
            · (repeat (first | refine RO.S ?_ | refine RO.Y ?_ | refine RO.no rfl (by decide) rfl ?_ | refine RO.nil ?_ | refine DW.region ?_ | refine DW.seq ?_ | refine DW.block ?_ | refine DW.skip ?_ | refine DW.exit ?_ | refine DW.condT rfl ?_ | refine DW.condF rfl ?_))
              cases hc4 : (r.over != 2)
              · rw [ringCk_0 h hn (by simp at hc1 hc2 hc3 hc4; omega)]
                (repeat (first | refine RO.S ?_ | refine RO.Y ?_ | refine RO.no rfl (by decide) rfl ?_ | refine RO.nil ?_ | refine DW.region ?_ | refine DW.seq ?_ | refine DW.block ?_ | refine DW.skip ?_ | refine DW.exit ?_ | refine DW.condT rfl ?_ | refine DW.condF rfl ?_))
                exact DW.ret ⟨.inl rfl, _, rfl, Over.refl _, .same _⟩
              · rw [ringCk_6 h hn (by simp at hc1 hc2 hc3 hc4; omega)]
                (repeat (first | refine RO.S ?_ | refine RO.Y ?_ | refine RO.no rfl (by decide) rfl ?_ | refine RO.nil ?_ | refine DW.region ?_ | refine DW.seq ?_ | refine DW.block ?_ | refine DW.skip ?_ | refine DW.exit ?_ | refine DW.condT rfl ?_ | refine DW.condF rfl ?_))
                exact DW.ret ⟨.inl rfl, _, rfl, Over.refl _, .same _⟩
          · rw [ringCk_6 h hn (by simp at hc1 hc2; omega)]
            (repeat (first | refine RO.S ?_ | refine RO.Y ?_ | refine RO.no rfl (by decide) rfl ?_ | refine RO.nil ?_ | refine DW.region ?_ | refine DW.seq ?_ | refine DW.block ?_ | refine DW.skip ?_ | refine DW.exit ?_ | refine DW.condT rfl ?_ | refine DW.condF rfl ?_))
            exact DW.ret ⟨.inl rfl, _, rfl, Over.refl _, .same _⟩
    · have : ringCk r = 3 := ringCk_3 h (by simp at hc; omega)
      rw [this]
      (repeat (first | refine RO.S ?_ | refine RO.Y ?_ | refine RO.no rfl (by decide) rfl ?_ | refine RO.nil ?_ | refine DW.region ?_ | refine DW.seq ?_ | refine DW.block ?_ | refine DW.skip ?_ | refine DW.exit ?_ | refine DW.condT rfl ?_ | refine DW.condF rfl ?_))
      exact DW.ret ⟨.inl rfl, _, rfl, Over.refl _, .same _⟩

theorem Degree_pure {e : List Int} (h : MOk e) : Pure Tryd.prog 53 [intsD e] (I e.sum) := by
  intro H
  refine PureH.of_body Tryd.func53 rfl (by decide) (Nat.le_of_ble_eq_true rfl) fun w0 => ?_
  (repeat (first | refine RO.S ?_ | refine RO.Y ?_ | refine RO.no rfl (by decide) rfl ?_ | refine RO.nil ?_ | refine DW.region ?_ | refine DW.seq ?_ | refine DW.block ?_ | refine DW.skip ?_ | refine DW.exit ?_ | refine DW.condT rfl ?_ | refine DW.condF rfl ?_))
  refine DW.loopI (fun k : Nat => k ≤ e.length) (fun k => [(6, intsD e), (7, I e.length), (8, I k), (3, I (e.take k).sum)]) (fun _ => H) (fun k => e.length - k) 0 (Nat.zero_le _) rfl ⟨rfl, rfl, rfl, rfl, trivial⟩ fun k hk => ?_
  have hl := h.len
  have hs := (h.take k).sum
  (repeat (first | refine RO.S ?_ | refine RO.Y ?_ | refine RO.no rfl (by decide) rfl ?_ | refine RO.nil ?_ | refine DW.region ?_ | refine DW.seq ?_ | refine DW.block ?_ | refine DW.skip ?_ | refine DW.exit ?_ | refine DW.condT rfl ?_ | refine DW.condF rfl ?_))
  refine DW.cond rfl (fun hb => ?_) (fun hb => ?_)
  · have hlt : k < e.length := by have := of_decide_eq_true hb; omega
    have hx := h.at hlt
    (repeat (first | refine RO.S ?_ | refine RO.Y ?_ | refine RO.no rfl (by decide) rfl ?_ | refine RO.nil ?_ | refine DW.region ?_ | refine DW.seq ?_ | refine DW.block ?_ | refine DW.skip ?_ | refine DW.exit ?_ | refine DW.condT rfl ?_ | refine DW.condF rfl ?_))
    rw [← sum_take_succ e hlt]
    exact ⟨k + 1, hlt, by dsimp only; omega, rfl, rfl, rfl, rfl, rfl, trivial⟩
  · have hge : k = e.length := by have := of_decide_eq_false hb; omega
    subst hge
    (repeat (first | refine RO.S ?_ | refine RO.Y ?_ | refine RO.no rfl (by decide) rfl ?_ | refine RO.nil ?_ | refine DW.region ?_ | refine DW.seq ?_ | refine DW.block ?_ | refine DW.skip ?_ | refine DW.exit ?_ | refine DW.condT rfl ?_ | refine DW.condF rfl ?_))
    rw [List.take_length]
    exact DW.ret ⟨.inl rfl, _, rfl, Over.refl _, .same _⟩

/-- One's own monomial. -/
theorem Own_pure (r : Rg) (e : List Int) (hr : r.n ≤ 3) : Pure Tryd.prog 36 [rgD r, intsD e] (I (monoCk r e)) := by
  intro H
  refine PureH.of_body Tryd.func36 rfl (by decide) (Nat.le_of_ble_eq_true rfl) fun w0 => ?_
  (repeat (first | refine RO.S ?_ | refine RO.Y ?_ | refine RO.no rfl (by decide) rfl ?_ | refine RO.nil ?_ | refine DW.region ?_ | refine DW.seq ?_ | refine DW.block ?_ | refine DW.skip ?_ | refine DW.exit ?_ | refine DW.condT rfl ?_ | refine DW.condF rfl ?_))
  refine DW.cond rfl (fun hb => ?_) (fun hb => ?_)
  · have h : ¬ (e.length : Int) = r.n := by simp at hb; exact hb
    have : monoCk r e = 1 := by unfold monoCk; rw [if_neg h]
    rw [this]
    (repeat (first | refine RO.S ?_ | refine RO.Y ?_ | refine RO.no rfl (by decide) rfl ?_ | refine RO.nil ?_ | refine DW.region ?_ | refine DW.seq ?_ | refine DW.block ?_ | refine DW.skip ?_ | refine DW.exit ?_ | refine DW.condT rfl ?_ | refine DW.condF rfl ?_))
    exact DW.ret ⟨.inl rfl, _, rfl, Over.refl _, .same _⟩
  · have h : (e.length : Int) = r.n := by simp at hb; exact hb
    have hl : e.length ≤ 3 := by omega
    (repeat (first | refine RO.S ?_ | refine RO.Y ?_ | refine RO.no rfl (by decide) rfl ?_ | refine RO.nil ?_ | refine DW.region ?_ | refine DW.seq ?_ | refine DW.block ?_ | refine DW.skip ?_ | refine DW.exit ?_ | refine DW.condT rfl ?_ | refine DW.condF rfl ?_))
    refine DW.loopI (fun k : Nat => k ≤ e.length ∧ (e.take k).all inE = true) (fun k => [(13, intsD e), (14, I e.length), (15, I k), (5, I (e.take k).sum)]) (fun _ => H) (fun k => e.length - k) 0 ⟨Nat.zero_le _, rfl⟩ rfl ⟨rfl, rfl, rfl, rfl, trivial⟩ fun k ⟨hk, ha⟩ => ?_
    have hs := ownSum _ ha k
    rw [List.take_take, Nat.min_self] at hs
    have hs2 : (e.take k).length ≤ 3 := by rw [List.length_take]; omega
    (repeat (first | refine RO.S ?_ | refine RO.Y ?_ | refine RO.no rfl (by decide) rfl ?_ | refine RO.nil ?_ | refine DW.region ?_ | refine DW.seq ?_ | refine DW.block ?_ | refine DW.skip ?_ | refine DW.exit ?_ | refine DW.condT rfl ?_ | refine DW.condF rfl ?_))
    refine DW.cond rfl (fun hb => ?_) (fun hb => ?_)
    · have hlt : k < e.length := by have := of_decide_eq_true hb; omega
      (repeat (first | refine RO.S ?_ | refine RO.Y ?_ | refine RO.no rfl (by decide) rfl ?_ | refine RO.nil ?_ | refine DW.region ?_ | refine DW.seq ?_ | refine DW.block ?_ | refine DW.skip ?_ | refine DW.exit ?_ | refine DW.condT rfl ?_ | refine DW.condF rfl ?_))
      cases hc : decide (e[k] < 0)
      · (repeat (first | refine RO.S ?_ | refine RO.Y ?_ | refine RO.no rfl (by decide) rfl ?_ | refine RO.nil ?_ | refine DW.region ?_ | refine DW.seq ?_ | refine DW.block ?_ | refine DW.skip ?_ | refine DW.exit ?_ | refine DW.condT rfl ?_ | refine DW.condF rfl ?_))
        refine DW.cond rfl (fun hb => ?_) (fun hb => ?_)
        · have hc1 : inE e[k] = false := by simp [inE]; simp at hb; omega
          have : monoCk r e = 3 := by
            unfold monoCk
            rw [if_pos h, if_neg]
            intro hh
            simp only [Bool.and_eq_true] at hh
            have := List.all_eq_true.1 hh.1 _ (List.getElem_mem hlt)
            rw [hc1] at this; cases this
          rw [this]
          (repeat (first | refine RO.S ?_ | refine RO.Y ?_ | refine RO.no rfl (by decide) rfl ?_ | refine RO.nil ?_ | refine DW.region ?_ | refine DW.seq ?_ | refine DW.block ?_ | refine DW.skip ?_ | refine DW.exit ?_ | refine DW.condT rfl ?_ | refine DW.condF rfl ?_))
          exact DW.ret ⟨.inl rfl, _, rfl, Over.refl _, .same _⟩
        · have hc1 : inE e[k] = true := by simp [inE]; simp at hb hc; omega
          have hc2 := inE_iff.1 hc1
          (repeat (first | refine RO.S ?_ | refine RO.Y ?_ | refine RO.no rfl (by decide) rfl ?_ | refine RO.nil ?_ | refine DW.region ?_ | refine DW.seq ?_ | refine DW.block ?_ | refine DW.skip ?_ | refine DW.exit ?_ | refine DW.condT rfl ?_ | refine DW.condF rfl ?_))
          rw [← sum_take_succ e hlt]
          refine ⟨k + 1, ⟨hlt, ?_⟩, by dsimp only; omega, rfl, rfl, rfl, rfl, rfl, trivial⟩
          rw [List.take_succ_eq_append_getElem hlt, List.all_append, ha]
          simp [hc1]
      · have hc1 : inE e[k] = false := by simp [inE]; simp at hc; omega
        have : monoCk r e = 3 := by
          unfold monoCk
          rw [if_pos h, if_neg]
          intro hh
          simp only [Bool.and_eq_true] at hh
          have := List.all_eq_true.1 hh.1 _ (List.getElem_mem hlt)
          rw [hc1] at this; cases this
        rw [this]
        (repeat (first | refine RO.S ?_ | refine RO.Y ?_ | refine RO.no rfl (by decide) rfl ?_ | refine RO.nil ?_ | refine DW.region ?_ | refine DW.seq ?_ | refine DW.block ?_ | refine DW.skip ?_ | refine DW.exit ?_ | refine DW.condT rfl ?_ | refine DW.condF rfl ?_))
        exact DW.ret ⟨.inl rfl, _, rfl, Over.refl _, .same _⟩
    · have hge : k = e.length := by have := of_decide_eq_false hb; omega
      subst hge
      rw [List.take_length] at ha
      (repeat (first | refine RO.S ?_ | refine RO.Y ?_ | refine RO.no rfl (by decide) rfl ?_ | refine RO.nil ?_ | refine DW.region ?_ | refine DW.seq ?_ | refine DW.block ?_ | refine DW.skip ?_ | refine DW.exit ?_ | refine DW.condT rfl ?_ | refine DW.condF rfl ?_))
      rw [List.take_length]
      refine DW.cond rfl (fun hb => ?_) (fun hb => ?_)
      · have : monoCk r e = 3 := by
          unfold monoCk
          rw [if_pos h, if_neg]
          rw [ha]; simp at hb ⊢; exact hb
        rw [this]
        (repeat (first | refine RO.S ?_ | refine RO.Y ?_ | refine RO.no rfl (by decide) rfl ?_ | refine RO.nil ?_ | refine DW.region ?_ | refine DW.seq ?_ | refine DW.block ?_ | refine DW.skip ?_ | refine DW.exit ?_ | refine DW.condT rfl ?_ | refine DW.condF rfl ?_))
        exact DW.ret ⟨.inl rfl, _, rfl, Over.refl _, .same _⟩
      · have : monoCk r e = 0 := by
          unfold monoCk
          rw [if_pos h, if_pos]
          rw [ha]; simp at hb ⊢; exact hb
        rw [this]
        (repeat (first | refine RO.S ?_ | refine RO.Y ?_ | refine RO.no rfl (by decide) rfl ?_ | refine RO.nil ?_ | refine DW.region ?_ | refine DW.seq ?_ | refine DW.block ?_ | refine DW.skip ?_ | refine DW.exit ?_ | refine DW.condT rfl ?_ | refine DW.condF rfl ?_))
        exact DW.ret ⟨.inl rfl, _, rfl, Over.refl _, .same _⟩

end Go.Proofs.YtblileclefbklaaDoor

namespace Go.Proofs.YtblileclefbklaaDoor
open Go.RowKit
set_option linter.unusedVariables false
set_option linter.unusedSimpArgs false
set_option maxHeartbeats 4000000

theorem CheckRing_pure (r : Rg) : Pure Tryd.prog 28 [rgD r] (I (ringCk r)) := by
  intro H
  refine PureH.of_body Tryd.func28 rfl (by decide) (Nat.le_of_ble_eq_true rfl) fun w0 => ?_
  (repeat (first | refine RO.S ?_ | refine RO.Y ?_ | refine RO.no rfl (by decide) rfl ?_ | refine RO.nil ?_ | refine DW.region ?_ | refine DW.seq ?_ | refine DW.block ?_ | refine DW.skip ?_ | refine DW.exit ?_ | refine DW.condT rfl ?_ | refine DW.condF rfl ?_))
  refine RO.sta (sta_call rfl rfl (checkPrime_pure _ _)) rfl ?_
  (repeat (first | refine RO.S ?_ | refine RO.Y ?_ | refine RO.no rfl (by decide) rfl ?_ | refine RO.nil ?_ | refine DW.region ?_ | refine DW.seq ?_ | refine DW.block ?_ | refine DW.skip ?_ | refine DW.exit ?_ | refine DW.condT rfl ?_ | refine DW.condF rfl ?_))
  refine DW.cond rfl (fun hb => ?_) (fun hb => ?_)
  · have h : ¬ ckP r.p = 0 := by simpa using hb
    have : ringCk r = ckP r.p := by unfold ringCk; rw [if_neg h]
    rw [this]
    (repeat (first | refine RO.S ?_ | refine RO.Y ?_ | refine RO.no rfl (by decide) rfl ?_ | refine RO.nil ?_ | refine DW.region ?_ | refine DW.seq ?_ | refine DW.block ?_ | refine DW.skip ?_ | refine DW.exit ?_ | refine DW.condT rfl ?_ | refine DW.condF rfl ?_))
    exact DW.ret ⟨.inl rfl, _, rfl, Over.refl _, .same _⟩
  · have h : ckP r.p = 0 := by simpa using hb
    (repeat (first | refine RO.S ?_ | refine RO.Y ?_ | refine RO.no rfl (by decide) rfl ?_ | refine RO.nil ?_ | refine DW.region ?_ | refine DW.seq ?_ | refine DW.block ?_ | refine DW.skip ?_ | refine DW.exit ?_ | refine DW.condT rfl ?_ | refine DW.condF rfl ?_))
    refine RO.sta (sta_call rfl rfl (between_pure _ _ _ _)) rfl ?_
    (repeat (first | refine RO.S ?_ | refine RO.Y ?_ | refine RO.no rfl (by decide) rfl ?_ | refine RO.nil ?_ | refine DW.region ?_ | refine DW.seq ?_ | refine DW.block ?_ | refine DW.skip ?_ | refine DW.exit ?_ | refine DW.condT rfl ?_ | refine DW.condF rfl ?_))
    refine DW.cond rfl (fun hb => ?_) (fun hb => ?_)
    · have : ringCk r = 3 := ringCk_3 h (by simp at hb; omega)
      rw [this]
      (repeat (first | refine RO.S ?_ | refine RO.Y ?_ | refine RO.no rfl (by decide) rfl ?_ | refine RO.nil ?_ | refine DW.region ?_ | refine DW.seq ?_ | refine DW.block ?_ | refine DW.skip ?_ | refine DW.exit ?_ | refine DW.condT rfl ?_ | refine DW.condF rfl ?_))
      exact DW.ret ⟨.inl rfl, _, rfl, Over.refl _, .same _⟩
    · have hn : 1 ≤ r.n ∧ r.n ≤ 3 := by simp at hb; omega
      (repeat (first | refine RO.S ?_ | refine RO.Y ?_ | refine RO.no rfl (by decide) rfl ?_ | refine RO.nil ?_ | refine DW.region ?_ | refine DW.seq ?_ | refine DW.block ?_ | refine DW.skip ?_ | refine DW.exit ?_ | refine DW.condT rfl ?_ | refine DW.condF rfl ?_))
      refine RO.sta (sta_call rfl rfl (between_pure _ _ _ _)) rfl ?_
      (repeat (first | refine RO.S ?_ | refine RO.Y ?_ | refine RO.no rfl (by decide) rfl ?_ | refine RO.nil ?_ | refine DW.region ?_ | refine DW.seq ?_ | refine DW.block ?_ | refine DW.skip ?_ | refine DW.exit ?_ | refine DW.condT rfl ?_ | refine DW.condF rfl ?_))
      cases hc : (decide (1 ≤ r.order) && decide (r.order ≤ 2))
      · rw [ringCk_6 h hn (by simp at hc; omega)]
        (repeat (first | refine RO.S ?_ | refine RO.Y ?_ | refine RO.no rfl (by decide) rfl ?_ | refine RO.nil ?_ | refine DW.region ?_ | refine DW.seq ?_ | refine DW.block ?_ | refine DW.skip ?_ | refine DW.exit ?_ | refine DW.condT rfl ?_ | refine DW.condF rfl ?_))
        exact DW.ret ⟨.inl rfl, _, rfl, Over.refl _, .same _⟩
      · (repeat (first | refine RO.S ?_ | refine RO.Y ?_ | refine RO.no rfl (by decide) rfl ?_ | refine RO.nil ?_ | refine DW.region ?_ | refine DW.seq ?_ | refine DW.block ?_ | refine DW.skip ?_ | refine DW.exit ?_ | refine DW.condT rfl ?_ | refine DW.condF rfl ?_))
        refine RO.yes rfl rfl (OpD.of_sta (sta_call rfl rfl (between_pure _ _ _ _)) ?_)
        (repeat (first | refine RO.S ?_ | refine RO.Y ?_ | refine RO.no rfl (by decide) rfl ?_ | refine RO.nil ?_ | refine DW.region ?_ | refine DW.seq ?_ | refine DW.block ?_ | refine DW.skip ?_ | refine DW.exit ?_ | refine DW.condT rfl ?_ | refine DW.condF rfl ?_))
        refine DW.cond rfl (fun hb => ?_) (fun hb => ?_)
        · rw [ringCk_6 h hn (by simp at hc hb; omega)]
          (repeat (first | refine RO.S ?_ | refine RO.Y ?_ | refine RO.no rfl (by decide) rfl ?_ | refine RO.nil ?_ | refine DW.region ?_ | refine DW.seq ?_ | refine DW.block ?_ | refine DW.skip ?_ | refine DW.exit ?_ | refine DW.condT rfl ?_ | refine DW.condF rfl ?_))
          exact DW.ret ⟨.inl rfl, _, rfl, Over.refl _, .same _⟩
        · rw [ringCk_0 h hn (by simp at hc hb; omega)]
          (repeat (first | refine RO.S ?_ | refine RO.Y ?_ | refine RO.no rfl (by decide) rfl ?_ | refine RO.nil ?_ | refine DW.region ?_ | refine DW.seq ?_ | refine DW.block ?_ | refine DW.skip ?_ | refine DW.exit ?_ | refine DW.condT rfl ?_ | refine DW.condF rfl ?_))
          exact DW.ret ⟨.inl rfl, _, rfl, Over.refl _, .same _⟩

theorem DegreeOf_pure {e : List Int} (h : MOk e) : Pure Tryd.prog 45 [intsD e] (I e.sum) := by
  intro H
  refine PureH.of_body Tryd.func45 rfl (by decide) (Nat.le_of_ble_eq_true rfl) fun w0 => ?_
  (repeat (first | refine RO.S ?_ | refine RO.Y ?_ | refine RO.no rfl (by decide) rfl ?_ | refine RO.nil ?_ | refine DW.region ?_ | refine DW.seq ?_ | refine DW.block ?_ | refine DW.skip ?_ | refine DW.exit ?_ | refine DW.condT rfl ?_ | refine DW.condF rfl ?_))
  refine DW.loopI (fun k : Nat => k ≤ e.length) (fun k => [(0, intsD e), (4, I k), (3, I (e.take k).sum)]) (fun _ => H) (fun k => e.length - k) 0 (Nat.zero_le _) rfl ⟨rfl, rfl, rfl, trivial⟩ fun k hk => ?_
  have hl := h.len
  have hs := (h.take k).sum
  (repeat (first | refine RO.S ?_ | refine RO.Y ?_ | refine RO.no rfl (by decide) rfl ?_ | refine RO.nil ?_ | refine DW.region ?_ | refine DW.seq ?_ | refine DW.block ?_ | refine DW.skip ?_ | refine DW.exit ?_ | refine DW.condT rfl ?_ | refine DW.condF rfl ?_))
  refine DW.cond rfl (fun hb => ?_) (fun hb => ?_)
  · have hlt : k < e.length := by have := of_decide_eq_true hb; omega
    have hx := h.at hlt
    (repeat (first | refine RO.S ?_ | refine RO.Y ?_ | refine RO.no rfl (by decide) rfl ?_ | refine RO.nil ?_ | refine DW.region ?_ | refine DW.seq ?_ | refine DW.block ?_ | refine DW.skip ?_ | refine DW.exit ?_ | refine DW.condT rfl ?_ | refine DW.condF rfl ?_))
    rw [← sum_take_succ e hlt]
    exact ⟨k + 1, hlt, by dsimp only; omega, rfl, rfl, rfl, rfl, trivial⟩
  · have hge : k = e.length := by have := of_decide_eq_false hb; omega
    subst hge
    (repeat (first | refine RO.S ?_ | refine RO.Y ?_ | refine RO.no rfl (by decide) rfl ?_ | refine RO.nil ?_ | refine DW.region ?_ | refine DW.seq ?_ | refine DW.block ?_ | refine DW.skip ?_ | refine DW.exit ?_ | refine DW.condT rfl ?_ | refine DW.condF rfl ?_))
    rw [List.take_length]
    exact DW.ret ⟨.inl rfl, _, rfl, Over.refl _, .same _⟩

theorem CheckMono_pure (r : Rg) (e : List Int) (hr : r.n ≤ 3) : Pure Tryd.prog 42 [rgD r, intsD e] (I (monoCk r e)) := by
  intro H
  refine PureH.of_body Tryd.func42 rfl (by decide) (Nat.le_of_ble_eq_true rfl) fun w0 => ?_
  (repeat (first | refine RO.S ?_ | refine RO.Y ?_ | refine RO.no rfl (by decide) rfl ?_ | refine RO.nil ?_ | refine DW.region ?_ | refine DW.seq ?_ | refine DW.block ?_ | refine DW.skip ?_ | refine DW.exit ?_ | refine DW.condT rfl ?_ | refine DW.condF rfl ?_))
  refine DW.cond rfl (fun hb => ?_) (fun hb => ?_)
  · have h : ¬ (e.length : Int) = r.n := by simp at hb; exact hb
    have : monoCk r e = 1 := by unfold monoCk; rw [if_neg h]
    rw [this]
    (repeat (first | refine RO.S ?_ | refine RO.Y ?_ | refine RO.no rfl (by decide) rfl ?_ | refine RO.nil ?_ | refine DW.region ?_ | refine DW.seq ?_ | refine DW.block ?_ | refine DW.skip ?_ | refine DW.exit ?_ | refine DW.condT rfl ?_ | refine DW.condF rfl ?_))
    exact DW.ret ⟨.inl rfl, _, rfl, Over.refl _, .same _⟩
  · have h : (e.length : Int) = r.n := by simp at hb; exact hb
    have hl : e.length ≤ 3 := by omega
    (repeat (first | refine RO.S ?_ | refine RO.Y ?_ | refine RO.no rfl (by decide) rfl ?_ | refine RO.nil ?_ | refine DW.region ?_ | refine DW.seq ?_ | refine DW.block ?_ | refine DW.skip ?_ | refine DW.exit ?_ | refine DW.condT rfl ?_ | refine DW.condF rfl ?_))
    refine DW.loopI (fun k : Nat => k ≤ e.length ∧ (e.take k).all inE = true) (fun k => [(1, intsD e), (5, I k)]) (fun _ => H) (fun k => e.length - k) 0 ⟨Nat.zero_le _, rfl⟩ rfl ⟨rfl, rfl, trivial⟩ fun k ⟨hk, ha⟩ => ?_
    (repeat (first | refine RO.S ?_ | refine RO.Y ?_ | refine RO.no rfl (by decide) rfl ?_ | refine RO.nil ?_ | refine DW.region ?_ | refine DW.seq ?_ | refine DW.block ?_ | refine DW.skip ?_ | refine DW.exit ?_ | refine DW.condT rfl ?_ | refine DW.condF rfl ?_))
    refine DW.cond rfl (fun hb => ?_) (fun hb => ?_)
    · have hlt : k < e.length := by have := of_decide_eq_true hb; omega
      (repeat (first | refine RO.S ?_ | refine RO.Y ?_ | refine RO.no rfl (by decide) rfl ?_ | refine RO.nil ?_ | refine DW.region ?_ | refine DW.seq ?_ | refine DW.block ?_ | refine DW.skip ?_ | refine DW.exit ?_ | refine DW.condT rfl ?_ | refine DW.condF rfl ?_))
      refine RO.sta (sta_call rfl rfl (between_pure _ _ _ _)) rfl ?_
      (repeat (first | refine RO.S ?_ | refine RO.Y ?_ | refine RO.no rfl (by decide) rfl ?_ | refine RO.nil ?_ | refine DW.region ?_ | refine DW.seq ?_ | refine DW.block ?_ | refine DW.skip ?_ | refine DW.exit ?_ | refine DW.condT rfl ?_ | refine DW.condF rfl ?_))
      refine DW.cond rfl (fun hb => ?_) (fun hb => ?_)
      · have hc1 : inE e[k] = false := by simp [inE]; simp at hb; omega
        have : monoCk r e = 3 := by
          unfold monoCk
          rw [if_pos h, if_neg]
          intro hh
          simp only [Bool.and_eq_true] at hh
          have := List.all_eq_true.1 hh.1 _ (List.getElem_mem hlt)
          rw [hc1] at this; cases this
        rw [this]
        (repeat (first | refine RO.S ?_ | refine RO.Y ?_ | refine RO.no rfl (by decide) rfl ?_ | refine RO.nil ?_ | refine DW.region ?_ | refine DW.seq ?_ | refine DW.block ?_ | refine DW.skip ?_ | refine DW.exit ?_ | refine DW.condT rfl ?_ | refine DW.condF rfl ?_))
        exact DW.ret ⟨.inl rfl, _, rfl, Over.refl _, .same _⟩
      · have hc1 : inE e[k] = true := by simpa [inE] using hb
        (repeat (first | refine RO.S ?_ | refine RO.Y ?_ | refine RO.no rfl (by decide) rfl ?_ | refine RO.nil ?_ | refine DW.region ?_ | refine DW.seq ?_ | refine DW.block ?_ | refine DW.skip ?_ | refine DW.exit ?_ | refine DW.condT rfl ?_ | refine DW.condF rfl ?_))
        refine ⟨k + 1, ⟨hlt, ?_⟩, by dsimp only; omega, rfl, rfl, rfl, trivial⟩
        rw [List.take_succ_eq_append_getElem hlt, List.all_append, ha]
        simp [hc1]
    · have hge : k = e.length := by have := of_decide_eq_false hb; omega
      subst hge
      rw [List.take_length] at ha
      have hok : MOk e := ⟨hl, fun x hx => by have := inE_iff.1 (List.all_eq_true.1 ha x hx); omega⟩
      (repeat (first | refine RO.S ?_ | refine RO.Y ?_ | refine RO.no rfl (by decide) rfl ?_ | refine RO.nil ?_ | refine DW.region ?_ | refine DW.seq ?_ | refine DW.block ?_ | refine DW.skip ?_ | refine DW.exit ?_ | refine DW.condT rfl ?_ | refine DW.condF rfl ?_))
      refine RO.sta (sta_call rfl rfl (DegreeOf_pure hok _)) rfl ?_
      (repeat (first | refine RO.S ?_ | refine RO.Y ?_ | refine RO.no rfl (by decide) rfl ?_ | refine RO.nil ?_ | refine DW.region ?_ | refine DW.seq ?_ | refine DW.block ?_ | refine DW.skip ?_ | refine DW.exit ?_ | refine DW.condT rfl ?_ | refine DW.condF rfl ?_))
      refine DW.cond rfl (fun hb => ?_) (fun hb => ?_)
      · have : monoCk r e = 3 := by
          unfold monoCk
          rw [if_pos h, if_neg]
          rw [ha]; simp at hb ⊢; exact hb
        rw [this]
        (repeat (first | refine RO.S ?_ | refine RO.Y ?_ | refine RO.no rfl (by decide) rfl ?_ | refine RO.nil ?_ | refine DW.region ?_ | refine DW.seq ?_ | refine DW.block ?_ | refine DW.skip ?_ | refine DW.exit ?_ | refine DW.condT rfl ?_ | refine DW.condF rfl ?_))
        exact DW.ret ⟨.inl rfl, _, rfl, Over.refl _, .same _⟩
      · have : monoCk r e = 0 := by
          unfold monoCk
          rw [if_pos h, if_pos]
          rw [ha]; simp at hb ⊢; exact hb
        rw [this]
        (repeat (first | refine RO.S ?_ | refine RO.Y ?_ | refine RO.no rfl (by decide) rfl ?_ | refine RO.nil ?_ | refine DW.region ?_ | refine DW.seq ?_ | refine DW.block ?_ | refine DW.skip ?_ | refine DW.exit ?_ | refine DW.condT rfl ?_ | refine DW.condF rfl ?_))
        exact DW.ret ⟨.inl rfl, _, rfl, Over.refl _, .same _⟩

theorem SameInts_pure (a b : List Int) (hl : a.length ≤ 1000000000000000000) : Pure Tryd.prog 44 [intsD a, intsD b] (.bool (a == b)) := by
  intro H
  refine PureH.of_body Tryd.func44 rfl (by decide) (Nat.le_of_ble_eq_true rfl) fun w0 => ?_
  (repeat (first | refine RO.S ?_ | refine RO.Y ?_ | refine RO.no rfl (by decide) rfl ?_ | refine RO.nil ?_ | refine DW.region ?_ | refine DW.seq ?_ | refine DW.block ?_ | refine DW.skip ?_ | refine DW.exit ?_ | refine DW.condT rfl ?_ | refine DW.condF rfl ?_))
  refine DW.cond rfl (fun hb => ?_) (fun hb => ?_)
  · have h : a.length ≠ b.length := by simp at hb; omega
    have : (a == b) = false := by
      rw [beq_eq_false_iff_ne]
      intro hh
      rw [hh] at h
      exact h rfl
    rw [this]
    (repeat (first | refine RO.S ?_ | refine RO.Y ?_ | refine RO.no rfl (by decide) rfl ?_ | refine RO.nil ?_ | refine DW.region ?_ | refine DW.seq ?_ | refine DW.block ?_ | refine DW.skip ?_ | refine DW.exit ?_ | refine DW.condT rfl ?_ | refine DW.condF rfl ?_))
    exact DW.ret ⟨.inl rfl, _, rfl, Over.refl _, .same _⟩
  · have h : a.length = b.length := by simp at hb; omega
    (repeat (first | refine RO.S ?_ | refine RO.Y ?_ | refine RO.no rfl (by decide) rfl ?_ | refine RO.nil ?_ | refine DW.region ?_ | refine DW.seq ?_ | refine DW.block ?_ | refine DW.skip ?_ | refine DW.exit ?_ | refine DW.condT rfl ?_ | refine DW.condF rfl ?_))
    refine DW.loopI (fun k : Nat => k ≤ a.length ∧ a.take k = b.take k) (fun k => [(0, intsD a), (1, intsD b), (5, I k)]) (fun _ => H) (fun k => a.length - k) 0 ⟨Nat.zero_le _, rfl⟩ rfl ⟨rfl, rfl, rfl, trivial⟩ fun k ⟨hk, hg⟩ => ?_
    (repeat (first | refine RO.S ?_ | refine RO.Y ?_ | refine RO.no rfl (by decide) rfl ?_ | refine RO.nil ?_ | refine DW.region ?_ | refine DW.seq ?_ | refine DW.block ?_ | refine DW.skip ?_ | refine DW.exit ?_ | refine DW.condT rfl ?_ | refine DW.condF rfl ?_))
    refine DW.cond rfl (fun hb => ?_) (fun hb => ?_)
    · have hlt : k < a.length := by have := of_decide_eq_true hb; omega
      have hlt2 : k < b.length := by omega
      (repeat (first | refine RO.S ?_ | refine RO.Y ?_ | refine RO.no rfl (by decide) rfl ?_ | refine RO.nil ?_ | refine DW.region ?_ | refine DW.seq ?_ | refine DW.block ?_ | refine DW.skip ?_ | refine DW.exit ?_ | refine DW.condT rfl ?_ | refine DW.condF rfl ?_))
      refine DW.drawS 9 Tryd.mixed (by kernel_rfl) (by decide) ?_
      dsimp only [List.take, List.drop]
      (repeat (first | refine RS.S ?_ | refine RS.Y ?_ | refine RS.no rfl (by decide) rfl ?_ | refine RS.nil ?_))
      (repeat (first | refine RO.S ?_ | refine RO.Y ?_ | refine RO.no rfl (by decide) rfl ?_ | refine RO.nil ?_ | refine DW.region ?_ | refine DW.seq ?_ | refine DW.block ?_ | refine DW.skip ?_ | refine DW.exit ?_ | refine DW.condT rfl ?_ | refine DW.condF rfl ?_))
      refine DW.cond rfl (fun hb => ?_) (fun hb => ?_)
      · have hc : a[k] ≠ b[k] := by simpa using hb
        have : (a == b) = false := by
          rw [beq_eq_false_iff_ne]
          intro hh
          subst hh
          exact hc rfl
        rw [this]
        (repeat (first | refine RO.S ?_ | refine RO.Y ?_ | refine RO.no rfl (by decide) rfl ?_ | refine RO.nil ?_ | refine DW.region ?_ | refine DW.seq ?_ | refine DW.block ?_ | refine DW.skip ?_ | refine DW.exit ?_ | refine DW.condT rfl ?_ | refine DW.condF rfl ?_))
        exact DW.ret ⟨.inl rfl, _, rfl, Over.refl _, .same _⟩
      · have hc : a[k] = b[k] := by simpa using hb
        (repeat (first | refine RO.S ?_ | refine RO.Y ?_ | refine RO.no rfl (by decide) rfl ?_ | refine RO.nil ?_ | refine DW.region ?_ | refine DW.seq ?_ | refine DW.block ?_ | refine DW.skip ?_ | refine DW.exit ?_ | refine DW.condT rfl ?_ | refine DW.condF rfl ?_))
        refine ⟨k + 1, ⟨hlt, ?_⟩, by dsimp only; omega, rfl, rfl, rfl, rfl, trivial⟩
        rw [List.take_succ_eq_append_getElem hlt, List.take_succ_eq_append_getElem hlt2, hg, hc]
    · have hge : k = a.length := by have := of_decide_eq_false hb; omega
      subst hge
      rw [List.take_length, h, List.take_length] at hg
      have : (a == b) = true := by rw [hg]; simp
      rw [this]
      (repeat (first | refine RO.S ?_ | refine RO.Y ?_ | refine RO.no rfl (by decide) rfl ?_ | refine RO.nil ?_ | refine DW.region ?_ | refine DW.seq ?_ | refine DW.block ?_ | refine DW.skip ?_ | refine DW.exit ?_ | refine DW.condT rfl ?_ | refine DW.condF rfl ?_))
      exact DW.ret ⟨.inl rfl, _, rfl, Over.refl _, .same _⟩

end Go.Proofs.YtblileclefbklaaDoor

namespace Go.Proofs.YtblileclefbklaaDoor
open Go.RowKit
set_option linter.unusedVariables false
set_option linter.unusedSimpArgs false
set_option maxHeartbeats 4000000

theorem monosGo_drop {r : Rg} {l : List (List Int)} {k : Nat} (h : k < l.length) : monosGo r (l.drop k) = if monoCk r l[k] = 0 then monosGo r (l.drop (k + 1)) else monoCk r l[k] := by
  rw [List.drop_eq_getElem_cons h]
  rfl

/-- Each exponent of two. -/
theorem each_pure {f : FuncId} {caps : List D} (g : Int → Int → Int) (a b : List Int) (hab : a.length = b.length) (hl : a.length ≤ 3) (hg : ∀ (i : Nat) (h1 : i < a.length) (h2 : i < b.length), Pure Tryd.prog f (I a[i] :: I b[i] :: caps) (I (g a[i] b[i]))) :
    Pure Tryd.prog 82 [intsD a, intsD b, .fn f caps] (intsD (zipE g a b)) := by
  intro H
  refine PureH.of_body Tryd.func82 rfl (by decide) (Nat.le_of_ble_eq_true rfl) fun w0 => ?_
  have hz := zipE_len (g := g) hab
  (repeat (first | refine RO.S ?_ | refine RO.Y ?_ | refine RO.no rfl (by decide) rfl ?_ | refine RO.nil ?_ | refine DW.region ?_ | refine DW.seq ?_ | refine DW.block ?_ | refine DW.skip ?_ | refine DW.exit ?_ | refine DW.condT rfl ?_ | refine DW.condF rfl ?_))
  refine RO.dyn rfl (d_make rfl rfl (Nat.le_refl _) (by omega) (by omega) fun x hx => ?_)
  (repeat (first | refine RO.S ?_ | refine RO.Y ?_ | refine RO.no rfl (by decide) rfl ?_ | refine RO.nil ?_ | refine DW.region ?_ | refine DW.seq ?_ | refine DW.block ?_ | refine DW.skip ?_ | refine DW.exit ?_ | refine DW.condT rfl ?_ | refine DW.condF rfl ?_))
  rw [flatten_replicate1]
  refine DW.loopI (fun k : Nat => k ≤ a.length) (fun k => [(0, intsD a), (1, intsD b), (2, .fn f caps), (12, intsD a), (13, I a.length), (14, I k), (7, .ref x 0 a.length 1)]) (fun k => H.set x (3, rowTo ((zipE g a b).map I) (I 0) k)) (fun k => a.length - k) 0 (Nat.zero_le _)
    (by rw [rowTo_zero, List.length_map, hz]) ⟨rfl, rfl, rfl, rfl, rfl, rfl, rfl, trivial⟩ fun k hk => ?_
  (repeat (first | refine RO.S ?_ | refine RO.Y ?_ | refine RO.no rfl (by decide) rfl ?_ | refine RO.nil ?_ | refine DW.region ?_ | refine DW.seq ?_ | refine DW.block ?_ | refine DW.skip ?_ | refine DW.exit ?_ | refine DW.condT rfl ?_ | refine DW.condF rfl ?_))
  refine DW.cond rfl (fun hb => ?_) (fun hb => ?_)
  · have hlt : k < a.length := by have := of_decide_eq_true hb; omega
    have hlt2 : k < b.length := by omega
    have hlt3 : k < (zipE g a b).length := by omega
    (repeat (first | refine RO.S ?_ | refine RO.Y ?_ | refine RO.no rfl (by decide) rfl ?_ | refine RO.nil ?_ | refine DW.region ?_ | refine DW.seq ?_ | refine DW.block ?_ | refine DW.skip ?_ | refine DW.exit ?_ | refine DW.condT rfl ?_ | refine DW.condF rfl ?_))
    refine DW.drawS 13 Tryd.mixed (by kernel_rfl) (by decide) ?_
    dsimp only [List.take, List.drop]
    (repeat (first | refine RS.S ?_ | refine RS.Y ?_ | refine RS.no rfl (by decide) rfl ?_ | refine RS.nil ?_))
    refine RS.sta (fun H' hov => sta_call rfl rfl (hg k hlt hlt2 H')) rfl ?_
    refine RS.sta (fun H' hov => s_indexRef rfl rfl hlt) rfl ?_
    (repeat (first | refine RS.S ?_ | refine RS.Y ?_ | refine RS.no rfl (by decide) rfl ?_ | refine RS.nil ?_))
    refine RO.dyn rfl (d_store (k := 1) rfl rfl rfl (Heap.set_self _ _ _) (by rw [rowTo_len _ _ (by simp; omega)]; simp [cellsOf]; omega) (by simp [cellsOf, D.isCell]) ?_)
    (repeat (first | refine RO.S ?_ | refine RO.Y ?_ | refine RO.no rfl (by decide) rfl ?_ | refine RO.nil ?_ | refine DW.region ?_ | refine DW.seq ?_ | refine DW.block ?_ | refine DW.skip ?_ | refine DW.exit ?_ | refine DW.condT rfl ?_ | refine DW.condF rfl ?_))
    refine ⟨k + 1, hlt, by dsimp only; omega, ?_, rfl, rfl, rfl, rfl, rfl, rfl, rfl, trivial⟩
    rw [Heap.set_set]
    dsimp only
    have h1 := rowTo_set (l := (zipE g a b).map I) (z := I 0) (k := k) (by simp; omega)
    rw [← h1]
    simp only [List.getElem_map, zipE_get, cellsOf, Nat.zero_add, Nat.mul_one]
  · have hge : k = a.length := by have := of_decide_eq_false hb; omega
    subst hge
    (repeat (first | refine RO.S ?_ | refine RO.Y ?_ | refine RO.no rfl (by decide) rfl ?_ | refine RO.nil ?_ | refine DW.region ?_ | refine DW.seq ?_ | refine DW.block ?_ | refine DW.skip ?_ | refine DW.exit ?_ | refine DW.condT rfl ?_ | refine DW.condF rfl ?_))
    refine DW.ret ⟨.inl rfl, _, rfl, (Over.refl _).set hx, ?_⟩
    have : rowTo ((zipE g a b).map I) (I 0) a.length = ((zipE g a b).map I).flatMap cellsOf := by
      rw [flat_cells1 (fun _ => rfl)]
      have := rowTo_all ((zipE g a b).map I) (I 0)
      rwa [List.length_map, hz] at this
    refine Frz.list (T := 3) (by rw [Heap.set_self, this]) hx (uni_I _) (by simp [hz])

theorem addE_pure (x y : Int) (hx : 0 ≤ x ∧ x ≤ 1000000) (hy : 0 ≤ y ∧ y ≤ 1000000) : Pure Tryd.prog 83 [I x, I y] (I (x + y)) := by
  intro H
  refine PureH.of_body Tryd.func83 rfl (by decide) (Nat.le_of_ble_eq_true rfl) fun w0 => ?_
  (repeat (first | refine RO.S ?_ | refine RO.Y ?_ | refine RO.no rfl (by decide) rfl ?_ | refine RO.nil ?_ | refine DW.region ?_ | refine DW.seq ?_ | refine DW.block ?_ | refine DW.skip ?_ | refine DW.exit ?_ | refine DW.condT rfl ?_ | refine DW.condF rfl ?_))
  exact DW.ret ⟨.inl rfl, _, rfl, Over.refl _, .same _⟩

theorem Product_pure {a b : List Int} (ha : MOk a) (hb : MOk b) (hab : a.length = b.length) : Pure Tryd.prog 74 [intsD a, intsD b] (intsD (zipE (· + ·) a b)) := by
  intro H
  refine PureH.of_body Tryd.func74 rfl (by decide) (Nat.le_of_ble_eq_true rfl) fun w0 => ?_
  (repeat (first | refine RO.S ?_ | refine RO.Y ?_ | refine RO.no rfl (by decide) rfl ?_ | refine RO.nil ?_ | refine DW.region ?_ | refine DW.seq ?_ | refine DW.block ?_ | refine DW.skip ?_ | refine DW.exit ?_ | refine DW.condT rfl ?_ | refine DW.condF rfl ?_))
  refine RO.sta (sta_call rfl rfl (each_pure (· + ·) a b hab ha.len (fun i h1 h2 => addE_pure _ _ (ha.at h1) (hb.at h2)) _)) rfl ?_
  (repeat (first | refine RO.S ?_ | refine RO.Y ?_ | refine RO.no rfl (by decide) rfl ?_ | refine RO.nil ?_ | refine DW.region ?_ | refine DW.seq ?_ | refine DW.block ?_ | refine DW.skip ?_ | refine DW.exit ?_ | refine DW.condT rfl ?_ | refine DW.condF rfl ?_))
  exact DW.ret ⟨.inl rfl, _, rfl, Over.refl _, .same _⟩

/-- What comes of two, and what is wrong. -/
def liD (x : List Int × Int) : D := .tup [intsD x.1, I x.2]

def madeR (r : Rg) (a b out : List Int) : List Int × Int := if monosCk r [a, b] = 0 then (if 200 < out.sum then ([], 2) else (out, 0)) else ([], monosCk r [a, b])

theorem two_ok {r : Rg} {a b : List Int} (h : monosCk r [a, b] = 0) : ringCk r = 0 ∧ MOk a ∧ MOk b ∧ a.length = b.length ∧ (a.length : Int) = r.n := by
  obtain ⟨h1, h2⟩ := monosCk_ok h
  have h3 := ringCk_ok h1
  obtain ⟨ha, ha2, _⟩ := MOk.of h3.2.1.2 (h2 a (by simp))
  obtain ⟨hb, hb2, _⟩ := MOk.of h3.2.1.2 (h2 b (by simp))
  exact ⟨h1, ha, hb, by omega, ha2⟩

theorem prod_mok {a b : List Int} (ha : ∀ x ∈ a, 0 ≤ x ∧ x ≤ 200) (hb : ∀ x ∈ b, 0 ≤ x ∧ x ≤ 200) (hab : a.length = b.length) (hl : a.length ≤ 3) : MOk (zipE (· + ·) a b) ∧ MOk (zipE max a b) :=
  ⟨zipE_mok hab hl fun i h1 h2 => by have := ha _ (List.getElem_mem h1); have := hb _ (List.getElem_mem h2); (try dsimp only); omega, zipE_mok hab hl fun i h1 h2 => by have := ha _ (List.getElem_mem h1); have := hb _ (List.getElem_mem h2); omega⟩

theorem two_in {r : Rg} {a b : List Int} (h : monosCk r [a, b] = 0) : (∀ x ∈ a, 0 ≤ x ∧ x ≤ 200) ∧ (∀ x ∈ b, 0 ≤ x ∧ x ≤ 200) := by
  obtain ⟨h1, h2⟩ := monosCk_ok h
  have h3 := ringCk_ok h1
  obtain ⟨_, _, ha, _⟩ := MOk.of h3.2.1.2 (h2 a (by simp))
  obtain ⟨_, _, hb, _⟩ := MOk.of h3.2.1.2 (h2 b (by simp))
  exact ⟨fun x hx => inE_iff.1 (List.all_eq_true.1 ha x hx), fun x hx => inE_iff.1 (List.all_eq_true.1 hb x hx)⟩

def overR (r : Rg) (a b : List Int) : List Int × Int := if monosCk r [a, b] = 0 then (if goesM a b then (zipE (· - ·) a b, 0) else ([], 5)) else ([], monosCk r [a, b])

end Go.Proofs.YtblileclefbklaaDoor

namespace Go.Proofs.YtblileclefbklaaDoor
open Go.RowKit
set_option linter.unusedVariables false
set_option linter.unusedSimpArgs false
set_option maxHeartbeats 4000000

/-- How two exponents are put together. -/
def putE (how x y : Int) : Int := if how = 1 then x + y else if how = 2 then x - y else if how = 3 then max x y else x

theorem Put_pure {a b : List Int} (how : Int) (ha : MOk a) (hb : MOk b) (hab : a.length = b.length) : Pure Tryd.prog 30 [intsD a, intsD b, I how] (intsD (zipE (putE how) a b)) := by
  intro H
  have hl := ha.len
  have hz := zipE_len (g := putE how) hab
  refine PureH.of_body Tryd.func30 rfl (by decide) (Nat.le_of_ble_eq_true rfl) fun w0 => ?_
  (repeat (first | refine RO.S ?_ | refine RO.Y ?_ | refine RO.no rfl (by decide) rfl ?_ | refine RO.nil ?_ | refine DW.region ?_ | refine DW.seq ?_ | refine DW.block ?_ | refine DW.skip ?_ | refine DW.exit ?_ | refine DW.condT rfl ?_ | refine DW.condF rfl ?_))
  refine DW.loopI (fun x : Nat × D × Heap => x.1 ≤ a.length ∧ Acc H x.2.2 x.2.1 1 3 (((zipE (putE how) a b).take x.1).map I) ∧ Over H x.2.2) (fun x => [(0, intsD a), (1, intsD b), (2, I how), (7, x.2.1), (8, I x.1)]) (fun x => x.2.2) (fun x => a.length - x.1) (0, .nil, H)
    ⟨Nat.zero_le _, Acc.nil _ _ _ _, Over.refl _⟩ rfl ⟨rfl, rfl, rfl, rfl, rfl, trivial⟩ fun ⟨k, d, H1⟩ ⟨hk, hacc, hov⟩ => ?_
  dsimp only at hk hacc hov
  dsimp only
  (repeat (first | refine RO.S ?_ | refine RO.Y ?_ | refine RO.no rfl (by decide) rfl ?_ | refine RO.nil ?_ | refine DW.region ?_ | refine DW.seq ?_ | refine DW.block ?_ | refine DW.skip ?_ | refine DW.exit ?_ | refine DW.condT rfl ?_ | refine DW.condF rfl ?_))
  refine DW.cond rfl (fun hc => ?_) (fun hc => ?_)
  · have hlt : k < a.length := by have := of_decide_eq_true hc; omega
    have hlt2 : k < b.length := by omega
    have hxa := ha.at hlt
    have hxb := hb.at hlt2
    have hlt3 : k < (zipE (putE how) a b).length := by omega
    have hget : (zipE (putE how) a b)[k] = putE how a[k] b[k] := zipE_get hlt3
    have htk : ((zipE (putE how) a b).take (k + 1)).map I = ((zipE (putE how) a b).take k).map I ++ [I (putE how a[k] b[k])] := by
      rw [List.take_succ_eq_append_getElem hlt3, List.map_append, hget]; rfl
    have hl2 : (((zipE (putE how) a b).take k).map I).length ≤ 3 := by simp; omega
    clear hlt3 hget
    have fin : ∀ (P : Heap → D → Prop), (∀ d' H', Acc H H' d' 1 3 (((zipE (putE how) a b).take (k + 1)).map I) → Over H H' → P H' d') → ∀ d' H', Acc H H' d' 1 3 (((zipE (putE how) a b).take k).map I ++ [I (putE how a[k] b[k])]) → Over H H' → P H' d' := by
      intro P h d' H'
      rw [← htk]
      exact h d' H'
    (repeat (first | refine RO.S ?_ | refine RO.Y ?_ | refine RO.no rfl (by decide) rfl ?_ | refine RO.nil ?_ | refine DW.region ?_ | refine DW.seq ?_ | refine DW.block ?_ | refine DW.skip ?_ | refine DW.exit ?_ | refine DW.condT rfl ?_ | refine DW.condF rfl ?_))
    refine DW.cond rfl (fun hc1 => ?_) (fun hc1 => ?_)
    · have h1 : how = 1 := by simpa using hc1
      have hp : putE how a[k] b[k] = a[k] + b[k] := by unfold putE; rw [if_pos h1]
      (repeat (first | refine RO.S ?_ | refine RO.Y ?_ | refine RO.no rfl (by decide) rfl ?_ | refine RO.nil ?_ | refine DW.region ?_ | refine DW.seq ?_ | refine DW.block ?_ | refine DW.skip ?_ | refine DW.exit ?_ | refine DW.condT rfl ?_ | refine DW.condF rfl ?_))
      rw [← hp]
      refine RO.dyn rfl (d_append (H0 := H) rfl hacc hov rfl (.inl rfl) (uni_I [_]) (by simp; omega) (by simp; omega) fun d' H' hacc' hov' _ => ?_)
      rw [← htk] at hacc'
      (repeat (first | refine RO.S ?_ | refine RO.Y ?_ | refine RO.no rfl (by decide) rfl ?_ | refine RO.nil ?_ | refine DW.region ?_ | refine DW.seq ?_ | refine DW.block ?_ | refine DW.skip ?_ | refine DW.exit ?_ | refine DW.condT rfl ?_ | refine DW.condF rfl ?_))
      exact ⟨(k + 1, d', H'), ⟨hlt, hacc', hov'⟩, by dsimp only; omega, rfl, rfl, rfl, rfl, rfl, rfl, trivial⟩
    · have h1 : ¬ how = 1 := by simpa using hc1
      (repeat (first | refine RO.S ?_ | refine RO.Y ?_ | refine RO.no rfl (by decide) rfl ?_ | refine RO.nil ?_ | refine DW.region ?_ | refine DW.seq ?_ | refine DW.block ?_ | refine DW.skip ?_ | refine DW.exit ?_ | refine DW.condT rfl ?_ | refine DW.condF rfl ?_))
      refine DW.cond rfl (fun hc2 => ?_) (fun hc2 => ?_)
      · have h2 : how = 2 := by simpa using hc2
        have hp : putE how a[k] b[k] = a[k] - b[k] := by unfold putE; rw [if_neg h1, if_pos h2]
        (repeat (first | refine RO.S ?_ | refine RO.Y ?_ | refine RO.no rfl (by decide) rfl ?_ | refine RO.nil ?_ | refine DW.region ?_ | refine DW.seq ?_ | refine DW.block ?_ | refine DW.skip ?_ | refine DW.exit ?_ | refine DW.condT rfl ?_ | refine DW.condF rfl ?_))
        rw [← hp]
        refine RO.dyn rfl (d_append (H0 := H) rfl hacc hov rfl (.inl rfl) (uni_I [_]) (by simp; omega) (by simp; omega) fun d' H' hacc' hov' _ => ?_)
        rw [← htk] at hacc'
        (repeat (first | refine RO.S ?_ | refine RO.Y ?_ | refine RO.no rfl (by decide) rfl ?_ | refine RO.nil ?_ | refine DW.region ?_ | refine DW.seq ?_ | refine DW.block ?_ | refine DW.skip ?_ | refine DW.exit ?_ | refine DW.condT rfl ?_ | refine DW.condF rfl ?_))
        exact ⟨(k + 1, d', H'), ⟨hlt, hacc', hov'⟩, by dsimp only; omega, rfl, rfl, rfl, rfl, rfl, rfl, trivial⟩
      · have h2 : ¬ how = 2 := by simpa using hc2
        (repeat (first | refine RO.S ?_ | refine RO.Y ?_ | refine RO.no rfl (by decide) rfl ?_ | refine RO.nil ?_ | refine DW.region ?_ | refine DW.seq ?_ | refine DW.block ?_ | refine DW.skip ?_ | refine DW.exit ?_ | refine DW.condT rfl ?_ | refine DW.condF rfl ?_))
        refine DW.cond rfl (fun hc3 => ?_) (fun hc3 => ?_)
        · have h3 : how = 3 := by simpa using hc3
          (repeat (first | refine RO.S ?_ | refine RO.Y ?_ | refine RO.no rfl (by decide) rfl ?_ | refine RO.nil ?_ | refine DW.region ?_ | refine DW.seq ?_ | refine DW.block ?_ | refine DW.skip ?_ | refine DW.exit ?_ | refine DW.condT rfl ?_ | refine DW.condF rfl ?_))
          refine DW.cond rfl (fun hc4 => ?_) (fun hc4 => ?_)
          · have hp : putE how a[k] b[k] = b[k] := by have := of_decide_eq_true hc4; unfold putE; rw [if_neg h1, if_neg h2, if_pos h3]; omega
            (repeat (first | refine RO.S ?_ | refine RO.Y ?_ | refine RO.no rfl (by decide) rfl ?_ | refine RO.nil ?_ | refine DW.region ?_ | refine DW.seq ?_ | refine DW.block ?_ | refine DW.skip ?_ | refine DW.exit ?_ | refine DW.condT rfl ?_ | refine DW.condF rfl ?_))
            rw [← hp]
            refine RO.dyn rfl (d_append (H0 := H) rfl hacc hov rfl (.inl rfl) (uni_I [_]) (by simp; omega) (by simp; omega) fun d' H' hacc' hov' _ => ?_)
            rw [← htk] at hacc'
            (repeat (first | refine RO.S ?_ | refine RO.Y ?_ | refine RO.no rfl (by decide) rfl ?_ | refine RO.nil ?_ | refine DW.region ?_ | refine DW.seq ?_ | refine DW.block ?_ | refine DW.skip ?_ | refine DW.exit ?_ | refine DW.condT rfl ?_ | refine DW.condF rfl ?_))
            exact ⟨(k + 1, d', H'), ⟨hlt, hacc', hov'⟩, by dsimp only; omega, rfl, rfl, rfl, rfl, rfl, rfl, trivial⟩
          · have hp : putE how a[k] b[k] = a[k] := by have := of_decide_eq_false hc4; unfold putE; rw [if_neg h1, if_neg h2, if_pos h3]; omega
            (repeat (first | refine RO.S ?_ | refine RO.Y ?_ | refine RO.no rfl (by decide) rfl ?_ | refine RO.nil ?_ | refine DW.region ?_ | refine DW.seq ?_ | refine DW.block ?_ | refine DW.skip ?_ | refine DW.exit ?_ | refine DW.condT rfl ?_ | refine DW.condF rfl ?_))
            rw [← hp]
            refine RO.dyn rfl (d_append (H0 := H) rfl hacc hov rfl (.inl rfl) (uni_I [_]) (by simp; omega) (by simp; omega) fun d' H' hacc' hov' _ => ?_)
            rw [← htk] at hacc'
            (repeat (first | refine RO.S ?_ | refine RO.Y ?_ | refine RO.no rfl (by decide) rfl ?_ | refine RO.nil ?_ | refine DW.region ?_ | refine DW.seq ?_ | refine DW.block ?_ | refine DW.skip ?_ | refine DW.exit ?_ | refine DW.condT rfl ?_ | refine DW.condF rfl ?_))
            exact ⟨(k + 1, d', H'), ⟨hlt, hacc', hov'⟩, by dsimp only; omega, rfl, rfl, rfl, rfl, rfl, rfl, trivial⟩
        · have h3 : ¬ how = 3 := by simpa using hc3
          have hp : putE how a[k] b[k] = a[k] := by unfold putE; rw [if_neg h1, if_neg h2, if_neg h3]
          (repeat (first | refine RO.S ?_ | refine RO.Y ?_ | refine RO.no rfl (by decide) rfl ?_ | refine RO.nil ?_ | refine DW.region ?_ | refine DW.seq ?_ | refine DW.block ?_ | refine DW.skip ?_ | refine DW.exit ?_ | refine DW.condT rfl ?_ | refine DW.condF rfl ?_))
          rw [← hp]
          refine RO.dyn rfl (d_append (H0 := H) rfl hacc hov rfl (.inl rfl) (uni_I [_]) (by simp; omega) (by simp; omega) fun d' H' hacc' hov' _ => ?_)
          rw [← htk] at hacc'
          (repeat (first | refine RO.S ?_ | refine RO.Y ?_ | refine RO.no rfl (by decide) rfl ?_ | refine RO.nil ?_ | refine DW.region ?_ | refine DW.seq ?_ | refine DW.block ?_ | refine DW.skip ?_ | refine DW.exit ?_ | refine DW.condT rfl ?_ | refine DW.condF rfl ?_))
          exact ⟨(k + 1, d', H'), ⟨hlt, hacc', hov'⟩, by dsimp only; omega, rfl, rfl, rfl, rfl, rfl, rfl, trivial⟩
  · have hge : k = a.length := by have := of_decide_eq_false hc; omega
    subst hge
    rw [← hz, List.take_length] at hacc
    (repeat (first | refine RO.S ?_ | refine RO.Y ?_ | refine RO.no rfl (by decide) rfl ?_ | refine RO.nil ?_ | refine DW.region ?_ | refine DW.seq ?_ | refine DW.block ?_ | refine DW.skip ?_ | refine DW.exit ?_ | refine DW.condT rfl ?_ | refine DW.condF rfl ?_))
    refine DW.ret ⟨.inl rfl, _, rfl, hov, hacc.frz ?_⟩
    intro x hx
    rcases hacc.is with ⟨h, _⟩ | ⟨b', h1, h2, h3⟩
    · rw [h] at hx; cases hx
    · rw [h2] at hx; cases hx; exact h1

end Go.Proofs.YtblileclefbklaaDoor
