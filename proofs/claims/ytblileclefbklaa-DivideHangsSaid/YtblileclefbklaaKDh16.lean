/-
  Leads of vectors, in plain Lean. No condition.
-/
import Derived.Test.YtblileclefbklaaKDh15

namespace Go.Proofs.Ytblileclefbklaa
open Go.RowKit
set_option linter.unusedVariables false
set_option linter.unusedSimpArgs false
set_option maxHeartbeats 8000000

theorem vpolys_pure (r : Rg) (l : Vc) (hr : ringCk r = 0) (hl : l.length ≤ 4611686018427387904) (hf : ∀ f ∈ l, f.length ≤ 4611686018427387904) : Pure Try.prog 66 [rgD r, vcD l] (I (polysGo r l)) := by
  intro H
  refine PureH.of_body Try.func66 rfl (by decide) (Nat.le_of_ble_eq_true rfl) fun w0 => ?_
  (repeat (first | refine RO.Sv ?_ | refine RO.Yv ?_ | refine RO.no rfl (by decide) rfl ?_ | refine RO.nil ?_ | refine DW.region ?_ | refine DW.seq ?_ | refine DW.block ?_ | refine DW.skip ?_ | refine DW.exit ?_ | refine DW.condT rfl ?_ | refine DW.condF rfl ?_))
  refine DW.loopI (fun k : Nat => k ≤ l.length ∧ polysGo r (l.drop k) = polysGo r l) (fun k => [(2, .ipt 4 [rgD r] 0 0), (8, vcD l), (9, I l.length), (10, I k)]) (fun _ => H) (fun k => l.length - k) 0 ⟨Nat.zero_le _, rfl⟩ rfl ⟨rfl, rfl, rfl, rfl, trivial⟩ fun k ⟨hk, hg⟩ => ?_
  (repeat (first | refine RO.Sv ?_ | refine RO.Yv ?_ | refine RO.no rfl (by decide) rfl ?_ | refine RO.nil ?_ | refine DW.region ?_ | refine DW.seq ?_ | refine DW.block ?_ | refine DW.skip ?_ | refine DW.exit ?_ | refine DW.condT rfl ?_ | refine DW.condF rfl ?_))
  refine DW.cond rfl (fun hb => ?_) (fun hb => ?_)
  · have hlt : k < l.length := by have := of_decide_eq_true hb; omega
    rw [polysGo_drop hlt] at hg
    (repeat (first | refine RO.Sv ?_ | refine RO.Yv ?_ | refine RO.no rfl (by decide) rfl ?_ | refine RO.nil ?_ | refine DW.region ?_ | refine DW.seq ?_ | refine DW.block ?_ | refine DW.skip ?_ | refine DW.exit ?_ | refine DW.condT rfl ?_ | refine DW.condF rfl ?_))
    refine RO.sta (sta_call rfl rfl (pOwn_pure r l[k] hr (hf _ (List.getElem_mem hlt)) _)) rfl ?_
    (repeat (first | refine RO.Sv ?_ | refine RO.Yv ?_ | refine RO.no rfl (by decide) rfl ?_ | refine RO.nil ?_ | refine DW.region ?_ | refine DW.seq ?_ | refine DW.block ?_ | refine DW.skip ?_ | refine DW.exit ?_ | refine DW.condT rfl ?_ | refine DW.condF rfl ?_))
    by_cases hc : polyCk r l[k] = 0
    · rw [if_pos hc] at hg
      rw [show (polyCk r l[k] != 0) = false by simpa using hc]
      (repeat (first | refine RO.Sv ?_ | refine RO.Yv ?_ | refine RO.no rfl (by decide) rfl ?_ | refine RO.nil ?_ | refine DW.region ?_ | refine DW.seq ?_ | refine DW.block ?_ | refine DW.skip ?_ | refine DW.exit ?_ | refine DW.condT rfl ?_ | refine DW.condF rfl ?_))
      exact ⟨k + 1, ⟨hlt, hg⟩, by dsimp only; omega, rfl, rfl, rfl, rfl, rfl, trivial⟩
    · rw [if_neg hc] at hg
      rw [← hg, show (polyCk r l[k] != 0) = true by simpa using hc]
      (repeat (first | refine RO.Sv ?_ | refine RO.Yv ?_ | refine RO.no rfl (by decide) rfl ?_ | refine RO.nil ?_ | refine DW.region ?_ | refine DW.seq ?_ | refine DW.block ?_ | refine DW.skip ?_ | refine DW.exit ?_ | refine DW.condT rfl ?_ | refine DW.condF rfl ?_))
      exact DW.ret ⟨.inl rfl, _, rfl, Over.refl _, .same _⟩
  · have hge : k = l.length := by have := of_decide_eq_false hb; omega
    subst hge
    have : polysGo r l = 0 := by rw [← hg]; simp [polysGo]
    rw [this]
    (repeat (first | refine RO.Sv ?_ | refine RO.Yv ?_ | refine RO.no rfl (by decide) rfl ?_ | refine RO.nil ?_ | refine DW.region ?_ | refine DW.seq ?_ | refine DW.block ?_ | refine DW.skip ?_ | refine DW.exit ?_ | refine DW.condT rfl ?_ | refine DW.condF rfl ?_))
    exact DW.ret ⟨.inl rfl, _, rfl, Over.refl _, .same _⟩

theorem vOwn_pure (r : Rg) (rank : Int) (l : List Vc) (hr : ringCk r = 0) (hl : l.length ≤ 4611686018427387904) (hv : ∀ v ∈ l, v.length ≤ 4611686018427387904 ∧ ∀ f ∈ v, f.length ≤ 4611686018427387904) : Pure Try.prog 65 [rgD r, I rank, vcsD l] (I (ownCk r rank l)) := by
  intro H
  refine PureH.of_body Try.func65 rfl (by decide) (Nat.le_of_ble_eq_true rfl) fun w0 => ?_
  (repeat (first | refine RO.Sv ?_ | refine RO.Yv ?_ | refine RO.no rfl (by decide) rfl ?_ | refine RO.nil ?_ | refine DW.region ?_ | refine DW.seq ?_ | refine DW.block ?_ | refine DW.skip ?_ | refine DW.exit ?_ | refine DW.condT rfl ?_ | refine DW.condF rfl ?_))
  have hm : (decide (rank < 1) || decide (40 < rank)) = true ∨ (1 ≤ rank ∧ rank ≤ 40) := by
    rcases Int.lt_or_le rank 1 with h | h
    · exact .inl (by rw [decide_eq_true h]; rfl)
    · rcases Int.lt_or_le 40 rank with h2 | h2
      · exact .inl (by rw [decide_eq_true h2]; simp)
      · exact .inr ⟨h, h2⟩
  cases h1 : decide (rank < 1)
  case true =>
    have : ownCk r rank l = 3 := by unfold ownCk; rw [if_pos (.inl (of_decide_eq_true h1))]
    rw [this]
    (repeat (first | refine RO.Sv ?_ | refine RO.Yv ?_ | refine RO.no rfl (by decide) rfl ?_ | refine RO.nil ?_ | refine DW.region ?_ | refine DW.seq ?_ | refine DW.block ?_ | refine DW.skip ?_ | refine DW.exit ?_ | refine DW.condT rfl ?_ | refine DW.condF rfl ?_))
    exact DW.ret ⟨.inl rfl, _, rfl, Over.refl _, .same _⟩
  (repeat (first | refine RO.Sv ?_ | refine RO.Yv ?_ | refine RO.no rfl (by decide) rfl ?_ | refine RO.nil ?_ | refine DW.region ?_ | refine DW.seq ?_ | refine DW.block ?_ | refine DW.skip ?_ | refine DW.exit ?_ | refine DW.condT rfl ?_ | refine DW.condF rfl ?_))
  cases h2 : decide (40 < rank)
  case true =>
    have : ownCk r rank l = 3 := by unfold ownCk; rw [if_pos (.inr (of_decide_eq_true h2))]
    rw [this]
    (repeat (first | refine RO.Sv ?_ | refine RO.Yv ?_ | refine RO.no rfl (by decide) rfl ?_ | refine RO.nil ?_ | refine DW.region ?_ | refine DW.seq ?_ | refine DW.block ?_ | refine DW.skip ?_ | refine DW.exit ?_ | refine DW.condT rfl ?_ | refine DW.condF rfl ?_))
    exact DW.ret ⟨.inl rfl, _, rfl, Over.refl _, .same _⟩
  have hrk : ¬ (rank < 1 ∨ 40 < rank) := by have := of_decide_eq_false h1; have := of_decide_eq_false h2; omega
  (repeat (first | refine RO.Sv ?_ | refine RO.Yv ?_ | refine RO.no rfl (by decide) rfl ?_ | refine RO.nil ?_ | refine DW.region ?_ | refine DW.seq ?_ | refine DW.block ?_ | refine DW.skip ?_ | refine DW.exit ?_ | refine DW.condT rfl ?_ | refine DW.condF rfl ?_))
  cases h3 : decide ((60 : Int) < (l.length : Int))
  case true =>
    have : ownCk r rank l = 2 := by unfold ownCk; rw [if_neg hrk, if_pos (by have := of_decide_eq_true h3; omega)]
    rw [this]
    (repeat (first | refine RO.Sv ?_ | refine RO.Yv ?_ | refine RO.no rfl (by decide) rfl ?_ | refine RO.nil ?_ | refine DW.region ?_ | refine DW.seq ?_ | refine DW.block ?_ | refine DW.skip ?_ | refine DW.exit ?_ | refine DW.condT rfl ?_ | refine DW.condF rfl ?_))
    exact DW.ret ⟨.inl rfl, _, rfl, Over.refl _, .same _⟩
  have : ownCk r rank l = vecsGo r rank l := by unfold ownCk; rw [if_neg hrk, if_neg (by have := of_decide_eq_false h3; omega)]
  rw [this]
  (repeat (first | refine RO.Sv ?_ | refine RO.Yv ?_ | refine RO.no rfl (by decide) rfl ?_ | refine RO.nil ?_ | refine DW.region ?_ | refine DW.seq ?_ | refine DW.block ?_ | refine DW.skip ?_ | refine DW.exit ?_ | refine DW.condT rfl ?_ | refine DW.condF rfl ?_))
  refine DW.loopI (fun k : Nat => k ≤ l.length ∧ vecsGo r rank (l.drop k) = vecsGo r rank l) (fun k => [(1, I rank), (3, .ipt 4 [rgD r] 0 0), (21, vcsD l), (22, I l.length), (23, I k)]) (fun _ => H) (fun k => l.length - k) 0 ⟨Nat.zero_le _, rfl⟩ rfl ⟨rfl, rfl, rfl, rfl, rfl, trivial⟩ fun k ⟨hk, hg⟩ => ?_
  (repeat (first | refine RO.Sv ?_ | refine RO.Yv ?_ | refine RO.no rfl (by decide) rfl ?_ | refine RO.nil ?_ | refine DW.region ?_ | refine DW.seq ?_ | refine DW.block ?_ | refine DW.skip ?_ | refine DW.exit ?_ | refine DW.condT rfl ?_ | refine DW.condF rfl ?_))
  refine DW.cond rfl (fun hb => ?_) (fun hb => ?_)
  · have hlt : k < l.length := by have := of_decide_eq_true hb; omega
    obtain ⟨hv1, hv2⟩ := hv _ (List.getElem_mem hlt)
    rw [vecsGo_drop hlt] at hg
    clear hb
    (repeat (first | refine RO.Sv ?_ | refine RO.Yv ?_ | refine RO.no rfl (by decide) rfl ?_ | refine RO.nil ?_ | refine DW.region ?_ | refine DW.seq ?_ | refine DW.block ?_ | refine DW.skip ?_ | refine DW.exit ?_ | refine DW.condT rfl ?_ | refine DW.condF rfl ?_))
    by_cases hc : (l[k].length : Int) = rank
    case neg =>
      rw [if_pos hc] at hg
      rw [← hg, show ((l[k].length : Int) != rank) = true by simpa using hc]
      (repeat (first | refine RO.Sv ?_ | refine RO.Yv ?_ | refine RO.no rfl (by decide) rfl ?_ | refine RO.nil ?_ | refine DW.region ?_ | refine DW.seq ?_ | refine DW.block ?_ | refine DW.skip ?_ | refine DW.exit ?_ | refine DW.condT rfl ?_ | refine DW.condF rfl ?_))
      exact DW.ret ⟨.inl rfl, _, rfl, Over.refl _, .same _⟩
    rw [if_neg (by simpa using hc)] at hg
    rw [show ((l[k].length : Int) != rank) = false by simpa using hc]
    (repeat (first | refine RO.Sv ?_ | refine RO.Yv ?_ | refine RO.no rfl (by decide) rfl ?_ | refine RO.nil ?_ | refine DW.region ?_ | refine DW.seq ?_ | refine DW.block ?_ | refine DW.skip ?_ | refine DW.exit ?_ | refine DW.condT rfl ?_ | refine DW.condF rfl ?_))
    refine RO.sta (sta_call rfl rfl (vpolys_pure r l[k] hr hv1 hv2 _)) rfl ?_
    (repeat (first | refine RO.Sv ?_ | refine RO.Yv ?_ | refine RO.no rfl (by decide) rfl ?_ | refine RO.nil ?_ | refine DW.region ?_ | refine DW.seq ?_ | refine DW.block ?_ | refine DW.skip ?_ | refine DW.exit ?_ | refine DW.condT rfl ?_ | refine DW.condF rfl ?_))
    by_cases hc2 : polysGo r l[k] = 0
    · rw [if_pos hc2] at hg
      rw [show (polysGo r l[k] != 0) = false by simpa using hc2]
      (repeat (first | refine RO.Sv ?_ | refine RO.Yv ?_ | refine RO.no rfl (by decide) rfl ?_ | refine RO.nil ?_ | refine DW.region ?_ | refine DW.seq ?_ | refine DW.block ?_ | refine DW.skip ?_ | refine DW.exit ?_ | refine DW.condT rfl ?_ | refine DW.condF rfl ?_))
      exact ⟨k + 1, ⟨hlt, hg⟩, by dsimp only; omega, rfl, rfl, rfl, rfl, rfl, rfl, trivial⟩
    · rw [if_neg hc2] at hg
      rw [← hg, show (polysGo r l[k] != 0) = true by simpa using hc2]
      (repeat (first | refine RO.Sv ?_ | refine RO.Yv ?_ | refine RO.no rfl (by decide) rfl ?_ | refine RO.nil ?_ | refine DW.region ?_ | refine DW.seq ?_ | refine DW.block ?_ | refine DW.skip ?_ | refine DW.exit ?_ | refine DW.condT rfl ?_ | refine DW.condF rfl ?_))
      exact DW.ret ⟨.inl rfl, _, rfl, Over.refl _, .same _⟩
  · have hge : k = l.length := by have := of_decide_eq_false hb; omega
    subst hge
    have : vecsGo r rank l = 0 := by rw [← hg]; simp [vecsGo]
    rw [this]
    (repeat (first | refine RO.Sv ?_ | refine RO.Yv ?_ | refine RO.no rfl (by decide) rfl ?_ | refine RO.nil ?_ | refine DW.region ?_ | refine DW.seq ?_ | refine DW.block ?_ | refine DW.skip ?_ | refine DW.exit ?_ | refine DW.condT rfl ?_ | refine DW.condF rfl ?_))
    exact DW.ret ⟨.inl rfl, _, rfl, Over.refl _, .same _⟩

theorem vCheck_pure (r : Rg) (rank : Int) (l : List Vc) (hl : l.length ≤ 4611686018427387904) (hv : ∀ v ∈ l, v.length ≤ 4611686018427387904 ∧ ∀ f ∈ v, f.length ≤ 4611686018427387904) : Pure Try.prog 24 [rgD r, I rank, vcsD l] (I (vecsCk r rank l)) := by
  intro H
  refine PureH.of_body Try.func24 rfl (by decide) (Nat.le_of_ble_eq_true rfl) fun w0 => ?_
  (repeat (first | refine RO.Sv ?_ | refine RO.Yv ?_ | refine RO.no rfl (by decide) rfl ?_ | refine RO.nil ?_ | refine DW.region ?_ | refine DW.seq ?_ | refine DW.block ?_ | refine DW.skip ?_ | refine DW.exit ?_ | refine DW.condT rfl ?_ | refine DW.condF rfl ?_))
  refine RO.sta (sta_call rfl rfl (Ring_pure _ _)) rfl ?_
  (repeat (first | refine RO.Sv ?_ | refine RO.Yv ?_ | refine RO.no rfl (by decide) rfl ?_ | refine RO.nil ?_ | refine DW.region ?_ | refine DW.seq ?_ | refine DW.block ?_ | refine DW.skip ?_ | refine DW.exit ?_ | refine DW.condT rfl ?_ | refine DW.condF rfl ?_))
  by_cases hr : ringCk r = 0
  case neg =>
    have h : vecsCk r rank l = ringCk r := by unfold vecsCk; rw [if_neg hr]
    rw [h, show (ringCk r != 0) = true by simpa using hr]
    (repeat (first | refine RO.Sv ?_ | refine RO.Yv ?_ | refine RO.no rfl (by decide) rfl ?_ | refine RO.nil ?_ | refine DW.region ?_ | refine DW.seq ?_ | refine DW.block ?_ | refine DW.skip ?_ | refine DW.exit ?_ | refine DW.condT rfl ?_ | refine DW.condF rfl ?_))
    exact DW.ret ⟨.inl rfl, _, rfl, Over.refl _, .same _⟩
  have h : vecsCk r rank l = ownCk r rank l := by unfold vecsCk; rw [if_pos hr]
  rw [h, show (ringCk r != 0) = false by simpa using hr]
  (repeat (first | refine RO.Sv ?_ | refine RO.Yv ?_ | refine RO.no rfl (by decide) rfl ?_ | refine RO.nil ?_ | refine DW.region ?_ | refine DW.seq ?_ | refine DW.block ?_ | refine DW.skip ?_ | refine DW.exit ?_ | refine DW.condT rfl ?_ | refine DW.condF rfl ?_))
  refine RO.sta (sta_call rfl rfl (vOwn_pure r rank l hr hl hv _)) rfl ?_
  (repeat (first | refine RO.Sv ?_ | refine RO.Yv ?_ | refine RO.no rfl (by decide) rfl ?_ | refine RO.nil ?_ | refine DW.region ?_ | refine DW.seq ?_ | refine DW.block ?_ | refine DW.skip ?_ | refine DW.exit ?_ | refine DW.condT rfl ?_ | refine DW.condF rfl ?_))
  exact DW.ret ⟨.inl rfl, _, rfl, Over.refl _, .same _⟩

theorem alike_pure (r : Rg) (l : List Vc) (hl : l.length ≤ 4611686018427387904) (hv : ∀ v ∈ l, v.length ≤ 4611686018427387904 ∧ ∀ f ∈ v, f.length ≤ 4611686018427387904) : Pure Try.prog 51 [rgD r, vcsD l] (I (alikeCk r l)) := by
  intro H
  refine PureH.of_body Try.func51 rfl (by decide) (Nat.le_of_ble_eq_true rfl) fun w0 => ?_
  (repeat (first | refine RO.Sv ?_ | refine RO.Yv ?_ | refine RO.no rfl (by decide) rfl ?_ | refine RO.nil ?_ | refine DW.region ?_ | refine DW.seq ?_ | refine DW.block ?_ | refine DW.skip ?_ | refine DW.exit ?_ | refine DW.condT rfl ?_ | refine DW.condF rfl ?_))
  refine RO.sta (sta_call rfl rfl (Ring_pure _ _)) rfl ?_
  (repeat (first | refine RO.Sv ?_ | refine RO.Yv ?_ | refine RO.no rfl (by decide) rfl ?_ | refine RO.nil ?_ | refine DW.region ?_ | refine DW.seq ?_ | refine DW.block ?_ | refine DW.skip ?_ | refine DW.exit ?_ | refine DW.condT rfl ?_ | refine DW.condF rfl ?_))
  by_cases hr : ringCk r = 0
  case neg =>
    have h : alikeCk r l = ringCk r := by unfold alikeCk; rw [if_pos hr]
    rw [h, show (ringCk r != 0) = true by simpa using hr]
    (repeat (first | refine RO.Sv ?_ | refine RO.Yv ?_ | refine RO.no rfl (by decide) rfl ?_ | refine RO.nil ?_ | refine DW.region ?_ | refine DW.seq ?_ | refine DW.block ?_ | refine DW.skip ?_ | refine DW.exit ?_ | refine DW.condT rfl ?_ | refine DW.condF rfl ?_))
    exact DW.ret ⟨.inl rfl, _, rfl, Over.refl _, .same _⟩
  rw [show (ringCk r != 0) = false by simpa using hr]
  (repeat (first | refine RO.Sv ?_ | refine RO.Yv ?_ | refine RO.no rfl (by decide) rfl ?_ | refine RO.nil ?_ | refine DW.region ?_ | refine DW.seq ?_ | refine DW.block ?_ | refine DW.skip ?_ | refine DW.exit ?_ | refine DW.condT rfl ?_ | refine DW.condF rfl ?_))
  refine DW.loopI (fun k : Nat => k ≤ l.length ∧ (l.drop k).any badLen = l.any badLen) (fun k => [(1, vcsD l), (2, .ipt 4 [rgD r] 0 0), (18, vcsD l), (19, I l.length), (20, I k)]) (fun _ => H) (fun k => l.length - k) 0 ⟨Nat.zero_le _, rfl⟩ rfl ⟨rfl, rfl, rfl, rfl, rfl, trivial⟩ fun k ⟨hk, hg⟩ => ?_
  (repeat (first | refine RO.Sv ?_ | refine RO.Yv ?_ | refine RO.no rfl (by decide) rfl ?_ | refine RO.nil ?_ | refine DW.region ?_ | refine DW.seq ?_ | refine DW.block ?_ | refine DW.skip ?_ | refine DW.exit ?_ | refine DW.condT rfl ?_ | refine DW.condF rfl ?_))
  refine DW.cond rfl (fun hb => ?_) (fun hb => ?_)
  · have hlt : k < l.length := by have := of_decide_eq_true hb; omega
    obtain ⟨hv1, hv2⟩ := hv _ (List.getElem_mem hlt)
    rw [any_drop hlt] at hg
    clear hb
    (repeat (first | refine RO.Sv ?_ | refine RO.Yv ?_ | refine RO.no rfl (by decide) rfl ?_ | refine RO.nil ?_ | refine DW.region ?_ | refine DW.seq ?_ | refine DW.block ?_ | refine DW.skip ?_ | refine DW.exit ?_ | refine DW.condT rfl ?_ | refine DW.condF rfl ?_))
    cases h1 : decide ((l[k].length : Int) < 1)
    case true =>
      rw [show badLen l[k] = true by unfold badLen; rw [h1]; rfl, Bool.true_or] at hg
      have : alikeCk r l = 3 := by unfold alikeCk; rw [if_neg (by simpa using hr), if_pos hg.symm]
      rw [this]
      (repeat (first | refine RO.Sv ?_ | refine RO.Yv ?_ | refine RO.no rfl (by decide) rfl ?_ | refine RO.nil ?_ | refine DW.region ?_ | refine DW.seq ?_ | refine DW.block ?_ | refine DW.skip ?_ | refine DW.exit ?_ | refine DW.condT rfl ?_ | refine DW.condF rfl ?_))
      exact DW.ret ⟨.inl rfl, _, rfl, Over.refl _, .same _⟩
    (repeat (first | refine RO.Sv ?_ | refine RO.Yv ?_ | refine RO.no rfl (by decide) rfl ?_ | refine RO.nil ?_ | refine DW.region ?_ | refine DW.seq ?_ | refine DW.block ?_ | refine DW.skip ?_ | refine DW.exit ?_ | refine DW.condT rfl ?_ | refine DW.condF rfl ?_))
    cases h2 : decide ((40 : Int) < (l[k].length : Int))
    case true =>
      rw [show badLen l[k] = true by unfold badLen; rw [h2]; simp, Bool.true_or] at hg
      have : alikeCk r l = 3 := by unfold alikeCk; rw [if_neg (by simpa using hr), if_pos hg.symm]
      rw [this]
      (repeat (first | refine RO.Sv ?_ | refine RO.Yv ?_ | refine RO.no rfl (by decide) rfl ?_ | refine RO.nil ?_ | refine DW.region ?_ | refine DW.seq ?_ | refine DW.block ?_ | refine DW.skip ?_ | refine DW.exit ?_ | refine DW.condT rfl ?_ | refine DW.condF rfl ?_))
      exact DW.ret ⟨.inl rfl, _, rfl, Over.refl _, .same _⟩
    rw [show badLen l[k] = false by unfold badLen; rw [h1, h2]; rfl, Bool.false_or] at hg
    (repeat (first | refine RO.Sv ?_ | refine RO.Yv ?_ | refine RO.no rfl (by decide) rfl ?_ | refine RO.nil ?_ | refine DW.region ?_ | refine DW.seq ?_ | refine DW.block ?_ | refine DW.skip ?_ | refine DW.exit ?_ | refine DW.condT rfl ?_ | refine DW.condF rfl ?_))
    exact ⟨k + 1, ⟨hlt, hg⟩, by dsimp only; omega, rfl, rfl, rfl, rfl, rfl, rfl, trivial⟩
  have hbad : l.any badLen = false := by
    rw [← hg, show k = l.length by have := of_decide_eq_false hb; omega, List.drop_length]
    rfl
  clear hg hb hk
  (repeat (first | refine RO.Sv ?_ | refine RO.Yv ?_ | refine RO.no rfl (by decide) rfl ?_ | refine RO.nil ?_ | refine DW.region ?_ | refine DW.seq ?_ | refine DW.block ?_ | refine DW.skip ?_ | refine DW.exit ?_ | refine DW.condT rfl ?_ | refine DW.condF rfl ?_))
  refine DW.loopI (fun k : Nat => k ≤ l.length ∧ (l.drop k).any (unlike l) = l.any (unlike l)) (fun k => [(1, vcsD l), (2, .ipt 4 [rgD r] 0 0), (33, vcsD l), (34, I l.length), (35, I k)]) (fun _ => H) (fun k => l.length - k) 0 ⟨Nat.zero_le _, rfl⟩ rfl ⟨rfl, rfl, rfl, rfl, rfl, trivial⟩ fun k ⟨hk, hg⟩ => ?_
  (repeat (first | refine RO.Sv ?_ | refine RO.Yv ?_ | refine RO.no rfl (by decide) rfl ?_ | refine RO.nil ?_ | refine DW.region ?_ | refine DW.seq ?_ | refine DW.block ?_ | refine DW.skip ?_ | refine DW.exit ?_ | refine DW.condT rfl ?_ | refine DW.condF rfl ?_))
  refine DW.cond rfl (fun hb => ?_) (fun hb => ?_)
  · have hlt : k < l.length := by have := of_decide_eq_true hb; omega
    have h0 : 0 < l.length := by omega
    have hh : l.headD [] = l[0] := by
      cases l with
      | nil => simp at h0
      | cons a l => rfl
    rw [any_drop hlt] at hg
    clear hb
    have hun : unlike l l[k] = ((l[k].length : Int) != (l[0].length : Int)) := by unfold unlike; rw [hh]
    (repeat (first | refine RO.Sv ?_ | refine RO.Yv ?_ | refine RO.no rfl (by decide) rfl ?_ | refine RO.nil ?_ | refine DW.region ?_ | refine DW.seq ?_ | refine DW.block ?_ | refine DW.skip ?_ | refine DW.exit ?_ | refine DW.condT rfl ?_ | refine DW.condF rfl ?_))
    cases h1 : unlike l l[k]
    case true =>
      rw [h1, Bool.true_or] at hg
      have : alikeCk r l = 1 := by unfold alikeCk; rw [if_neg (by simpa using hr), if_neg (by simp [hbad]), if_pos hg.symm]
      rw [this]
      rw [hun] at h1
      rw [h1]
      (repeat (first | refine RO.Sv ?_ | refine RO.Yv ?_ | refine RO.no rfl (by decide) rfl ?_ | refine RO.nil ?_ | refine DW.region ?_ | refine DW.seq ?_ | refine DW.block ?_ | refine DW.skip ?_ | refine DW.exit ?_ | refine DW.condT rfl ?_ | refine DW.condF rfl ?_))
      exact DW.ret ⟨.inl rfl, _, rfl, Over.refl _, .same _⟩
    rw [h1, Bool.false_or] at hg
    rw [hun] at h1
    rw [h1]
    (repeat (first | refine RO.Sv ?_ | refine RO.Yv ?_ | refine RO.no rfl (by decide) rfl ?_ | refine RO.nil ?_ | refine DW.region ?_ | refine DW.seq ?_ | refine DW.block ?_ | refine DW.skip ?_ | refine DW.exit ?_ | refine DW.condT rfl ?_ | refine DW.condF rfl ?_))
    exact ⟨k + 1, ⟨hlt, hg⟩, by dsimp only; omega, rfl, rfl, rfl, rfl, rfl, rfl, trivial⟩
  have hun : l.any (unlike l) = false := by
    rw [← hg, show k = l.length by have := of_decide_eq_false hb; omega, List.drop_length]
    rfl
  clear hg hb hk
  have : alikeCk r l = vGo r l := by unfold alikeCk; rw [if_neg (by simpa using hr), if_neg (by simp [hbad]), if_neg (by simp [hun])]
  rw [this]
  (repeat (first | refine RO.Sv ?_ | refine RO.Yv ?_ | refine RO.no rfl (by decide) rfl ?_ | refine RO.nil ?_ | refine DW.region ?_ | refine DW.seq ?_ | refine DW.block ?_ | refine DW.skip ?_ | refine DW.exit ?_ | refine DW.condT rfl ?_ | refine DW.condF rfl ?_))
  refine DW.loopI (fun k : Nat => k ≤ l.length ∧ vGo r (l.drop k) = vGo r l) (fun k => [(2, .ipt 4 [rgD r] 0 0), (47, vcsD l), (48, I l.length), (49, I k)]) (fun _ => H) (fun k => l.length - k) 0 ⟨Nat.zero_le _, rfl⟩ rfl ⟨rfl, rfl, rfl, rfl, trivial⟩ fun k ⟨hk, hg⟩ => ?_
  (repeat (first | refine RO.Sv ?_ | refine RO.Yv ?_ | refine RO.no rfl (by decide) rfl ?_ | refine RO.nil ?_ | refine DW.region ?_ | refine DW.seq ?_ | refine DW.block ?_ | refine DW.skip ?_ | refine DW.exit ?_ | refine DW.condT rfl ?_ | refine DW.condF rfl ?_))
  refine DW.cond rfl (fun hb => ?_) (fun hb => ?_)
  · have hlt : k < l.length := by have := of_decide_eq_true hb; omega
    obtain ⟨hv1, hv2⟩ := hv _ (List.getElem_mem hlt)
    rw [vGo_drop hlt] at hg
    clear hb
    (repeat (first | refine RO.Sv ?_ | refine RO.Yv ?_ | refine RO.no rfl (by decide) rfl ?_ | refine RO.nil ?_ | refine DW.region ?_ | refine DW.seq ?_ | refine DW.block ?_ | refine DW.skip ?_ | refine DW.exit ?_ | refine DW.condT rfl ?_ | refine DW.condF rfl ?_))
    refine RO.sta (sta_call rfl rfl (vpolys_pure r l[k] hr hv1 hv2 _)) rfl ?_
    (repeat (first | refine RO.Sv ?_ | refine RO.Yv ?_ | refine RO.no rfl (by decide) rfl ?_ | refine RO.nil ?_ | refine DW.region ?_ | refine DW.seq ?_ | refine DW.block ?_ | refine DW.skip ?_ | refine DW.exit ?_ | refine DW.condT rfl ?_ | refine DW.condF rfl ?_))
    by_cases hc2 : polysGo r l[k] = 0
    · rw [if_pos hc2] at hg
      rw [show (polysGo r l[k] != 0) = false by simpa using hc2]
      (repeat (first | refine RO.Sv ?_ | refine RO.Yv ?_ | refine RO.no rfl (by decide) rfl ?_ | refine RO.nil ?_ | refine DW.region ?_ | refine DW.seq ?_ | refine DW.block ?_ | refine DW.skip ?_ | refine DW.exit ?_ | refine DW.condT rfl ?_ | refine DW.condF rfl ?_))
      exact ⟨k + 1, ⟨hlt, hg⟩, by dsimp only; omega, rfl, rfl, rfl, rfl, rfl, trivial⟩
    · rw [if_neg hc2] at hg
      rw [← hg, show (polysGo r l[k] != 0) = true by simpa using hc2]
      (repeat (first | refine RO.Sv ?_ | refine RO.Yv ?_ | refine RO.no rfl (by decide) rfl ?_ | refine RO.nil ?_ | refine DW.region ?_ | refine DW.seq ?_ | refine DW.block ?_ | refine DW.skip ?_ | refine DW.exit ?_ | refine DW.condT rfl ?_ | refine DW.condF rfl ?_))
      exact DW.ret ⟨.inl rfl, _, rfl, Over.refl _, .same _⟩
  · have hge : k = l.length := by have := of_decide_eq_false hb; omega
    subst hge
    have : vGo r l = 0 := by rw [← hg]; simp [vGo]
    rw [this]
    (repeat (first | refine RO.Sv ?_ | refine RO.Yv ?_ | refine RO.no rfl (by decide) rfl ?_ | refine RO.nil ?_ | refine DW.region ?_ | refine DW.seq ?_ | refine DW.block ?_ | refine DW.skip ?_ | refine DW.exit ?_ | refine DW.condT rfl ?_ | refine DW.condF rfl ?_))
    exact DW.ret ⟨.inl rfl, _, rfl, Over.refl _, .same _⟩

theorem CheckList_pure (r : Rg) (rank : Int) (l : List Vc) (hr : ringCk r = 0) (hl : l.length ≤ 4611686018427387904) (hv : ∀ v ∈ l, v.length ≤ 4611686018427387904 ∧ ∀ f ∈ v, f.length ≤ 4611686018427387904) : Pure Try.prog 41 [rgD r, I rank, vcsD l] (I (ownCk r rank l)) := by
  intro H
  refine PureH.of_body Try.func41 rfl (by decide) (Nat.le_of_ble_eq_true rfl) fun w0 => ?_
  (repeat (first | refine RO.Sv ?_ | refine RO.Yv ?_ | refine RO.no rfl (by decide) rfl ?_ | refine RO.nil ?_ | refine DW.region ?_ | refine DW.seq ?_ | refine DW.block ?_ | refine DW.skip ?_ | refine DW.exit ?_ | refine DW.condT rfl ?_ | refine DW.condF rfl ?_))
  refine RO.sta (sta_call rfl rfl (between_pure _ _ _ _)) rfl ?_
  (repeat (first | refine RO.Sv ?_ | refine RO.Yv ?_ | refine RO.no rfl (by decide) rfl ?_ | refine RO.nil ?_ | refine DW.region ?_ | refine DW.seq ?_ | refine DW.block ?_ | refine DW.skip ?_ | refine DW.exit ?_ | refine DW.condT rfl ?_ | refine DW.condF rfl ?_))
  cases h1 : (decide (1 ≤ rank) && decide (rank ≤ 40))
  case false =>
    have : ownCk r rank l = 3 := by
      unfold ownCk
      rw [if_pos]
      simp only [Bool.and_eq_false_iff, decide_eq_false_iff_not] at h1
      omega
    rw [this]
    (repeat (first | refine RO.Sv ?_ | refine RO.Yv ?_ | refine RO.no rfl (by decide) rfl ?_ | refine RO.nil ?_ | refine DW.region ?_ | refine DW.seq ?_ | refine DW.block ?_ | refine DW.skip ?_ | refine DW.exit ?_ | refine DW.condT rfl ?_ | refine DW.condF rfl ?_))
    exact DW.ret ⟨.inl rfl, _, rfl, Over.refl _, .same _⟩
  have hrk : ¬ (rank < 1 ∨ 40 < rank) := by
    simp only [Bool.and_eq_true, decide_eq_true_eq] at h1
    omega
  (repeat (first | refine RO.Sv ?_ | refine RO.Yv ?_ | refine RO.no rfl (by decide) rfl ?_ | refine RO.nil ?_ | refine DW.region ?_ | refine DW.seq ?_ | refine DW.block ?_ | refine DW.skip ?_ | refine DW.exit ?_ | refine DW.condT rfl ?_ | refine DW.condF rfl ?_))
  cases h3 : decide ((60 : Int) < (l.length : Int))
  case true =>
    have : ownCk r rank l = 2 := by unfold ownCk; rw [if_neg hrk, if_pos (by have := of_decide_eq_true h3; omega)]
    rw [this]
    (repeat (first | refine RO.Sv ?_ | refine RO.Yv ?_ | refine RO.no rfl (by decide) rfl ?_ | refine RO.nil ?_ | refine DW.region ?_ | refine DW.seq ?_ | refine DW.block ?_ | refine DW.skip ?_ | refine DW.exit ?_ | refine DW.condT rfl ?_ | refine DW.condF rfl ?_))
    exact DW.ret ⟨.inl rfl, _, rfl, Over.refl _, .same _⟩
  have : ownCk r rank l = vecsGo r rank l := by unfold ownCk; rw [if_neg hrk, if_neg (by have := of_decide_eq_false h3; omega)]
  rw [this]
  (repeat (first | refine RO.Sv ?_ | refine RO.Yv ?_ | refine RO.no rfl (by decide) rfl ?_ | refine RO.nil ?_ | refine DW.region ?_ | refine DW.seq ?_ | refine DW.block ?_ | refine DW.skip ?_ | refine DW.exit ?_ | refine DW.condT rfl ?_ | refine DW.condF rfl ?_))
  refine DW.loopI (fun k : Nat => k ≤ l.length ∧ vecsGo r rank (l.drop k) = vecsGo r rank l) (fun k => [(1, I rank), (2, vcsD l), (3, .ipt 4 [rgD r] 0 0), (7, I k)]) (fun _ => H) (fun k => l.length - k) 0 ⟨Nat.zero_le _, rfl⟩ rfl ⟨rfl, rfl, rfl, rfl, trivial⟩ fun k ⟨hk, hg⟩ => ?_
  (repeat (first | refine RO.Sv ?_ | refine RO.Yv ?_ | refine RO.no rfl (by decide) rfl ?_ | refine RO.nil ?_ | refine DW.region ?_ | refine DW.seq ?_ | refine DW.block ?_ | refine DW.skip ?_ | refine DW.exit ?_ | refine DW.condT rfl ?_ | refine DW.condF rfl ?_))
  refine DW.cond rfl (fun hb => ?_) (fun hb => ?_)
  · have hlt : k < l.length := by have := of_decide_eq_true hb; omega
    obtain ⟨hv1, hv2⟩ := hv _ (List.getElem_mem hlt)
    rw [vecsGo_drop hlt] at hg
    clear hb
    (repeat (first | refine RO.Sv ?_ | refine RO.Yv ?_ | refine RO.no rfl (by decide) rfl ?_ | refine RO.nil ?_ | refine DW.region ?_ | refine DW.seq ?_ | refine DW.block ?_ | refine DW.skip ?_ | refine DW.exit ?_ | refine DW.condT rfl ?_ | refine DW.condF rfl ?_))
    by_cases hc : (l[k].length : Int) = rank
    case neg =>
      rw [if_pos hc] at hg
      rw [← hg, show ((l[k].length : Int) != rank) = true by simpa using hc]
      (repeat (first | refine RO.Sv ?_ | refine RO.Yv ?_ | refine RO.no rfl (by decide) rfl ?_ | refine RO.nil ?_ | refine DW.region ?_ | refine DW.seq ?_ | refine DW.block ?_ | refine DW.skip ?_ | refine DW.exit ?_ | refine DW.condT rfl ?_ | refine DW.condF rfl ?_))
      exact DW.ret ⟨.inl rfl, _, rfl, Over.refl _, .same _⟩
    rw [if_neg (by simpa using hc)] at hg
    rw [show ((l[k].length : Int) != rank) = false by simpa using hc]
    (repeat (first | refine RO.Sv ?_ | refine RO.Yv ?_ | refine RO.no rfl (by decide) rfl ?_ | refine RO.nil ?_ | refine DW.region ?_ | refine DW.seq ?_ | refine DW.block ?_ | refine DW.skip ?_ | refine DW.exit ?_ | refine DW.condT rfl ?_ | refine DW.condF rfl ?_))
    refine DW.loopI (fun j : Nat => j ≤ l[k].length ∧ polysGo r (l[k].drop j) = polysGo r l[k]) (fun j => [(1, I rank), (2, vcsD l), (3, .ipt 4 [rgD r] 0 0), (7, I k), (8, I j)]) (fun _ => H) (fun j => l[k].length - j) 0 ⟨Nat.zero_le _, rfl⟩ rfl ⟨rfl, rfl, rfl, rfl, rfl, trivial⟩ fun j ⟨hj, hgj⟩ => ?_
    (repeat (first | refine RO.Sv ?_ | refine RO.Yv ?_ | refine RO.no rfl (by decide) rfl ?_ | refine RO.nil ?_ | refine DW.region ?_ | refine DW.seq ?_ | refine DW.block ?_ | refine DW.skip ?_ | refine DW.exit ?_ | refine DW.condT rfl ?_ | refine DW.condF rfl ?_))
    refine DW.cond rfl (fun hb => ?_) (fun hb => ?_)
    · have hjl : j < l[k].length := by have := of_decide_eq_true hb; omega
      rw [polysGo_drop hjl] at hgj
      clear hb
      (repeat (first | refine RO.Sv ?_ | refine RO.Yv ?_ | refine RO.no rfl (by decide) rfl ?_ | refine RO.nil ?_ | refine DW.region ?_ | refine DW.seq ?_ | refine DW.block ?_ | refine DW.skip ?_ | refine DW.exit ?_ | refine DW.condT rfl ?_ | refine DW.condF rfl ?_))
      refine DW.drawS 10 Try.mixed (by kernel_rfl) (by decide) ?_
      dsimp only [List.take, List.drop]
      (repeat (first | refine RS.Sv ?_ | refine RS.Yv ?_ | refine RS.no rfl (by decide) rfl ?_ | refine RS.nil ?_))
      refine RS.sta (fun H' hov => sta_call rfl rfl (CheckOne_pure r l[k][j] hr (hv2 _ (List.getElem_mem hjl)) _)) rfl ?_
      (repeat (first | refine RS.Sv ?_ | refine RS.Yv ?_ | refine RS.no rfl (by decide) rfl ?_ | refine RS.nil ?_))
      (repeat (first | refine RO.Sv ?_ | refine RO.Yv ?_ | refine RO.no rfl (by decide) rfl ?_ | refine RO.nil ?_ | refine DW.region ?_ | refine DW.seq ?_ | refine DW.block ?_ | refine DW.skip ?_ | refine DW.exit ?_ | refine DW.condT rfl ?_ | refine DW.condF rfl ?_))
      by_cases hc2 : polyCk r l[k][j] = 0
      · rw [if_pos hc2] at hgj
        rw [show (polyCk r l[k][j] != 0) = false by simpa using hc2]
        (repeat (first | refine RO.Sv ?_ | refine RO.Yv ?_ | refine RO.no rfl (by decide) rfl ?_ | refine RO.nil ?_ | refine DW.region ?_ | refine DW.seq ?_ | refine DW.block ?_ | refine DW.skip ?_ | refine DW.exit ?_ | refine DW.condT rfl ?_ | refine DW.condF rfl ?_))
        exact ⟨j + 1, ⟨hjl, hgj⟩, by dsimp only; omega, rfl, rfl, rfl, rfl, rfl, rfl, trivial⟩
      · rw [if_neg hc2] at hgj
        rw [← hgj, if_neg hc2] at hg
        rw [← hg, show (polyCk r l[k][j] != 0) = true by simpa using hc2]
        (repeat (first | refine RO.Sv ?_ | refine RO.Yv ?_ | refine RO.no rfl (by decide) rfl ?_ | refine RO.nil ?_ | refine DW.region ?_ | refine DW.seq ?_ | refine DW.block ?_ | refine DW.skip ?_ | refine DW.exit ?_ | refine DW.condT rfl ?_ | refine DW.condF rfl ?_))
        exact DW.ret ⟨.inl rfl, _, rfl, Over.refl _, .same _⟩
    · have hje : j = l[k].length := by have := of_decide_eq_false hb; omega
      have hz : polysGo r l[k] = 0 := by rw [← hgj, hje, List.drop_length]; rfl
      rw [if_pos hz] at hg
      (repeat (first | refine RO.Sv ?_ | refine RO.Yv ?_ | refine RO.no rfl (by decide) rfl ?_ | refine RO.nil ?_ | refine DW.region ?_ | refine DW.seq ?_ | refine DW.block ?_ | refine DW.skip ?_ | refine DW.exit ?_ | refine DW.condT rfl ?_ | refine DW.condF rfl ?_))
      exact ⟨k + 1, ⟨hlt, hg⟩, by dsimp only; omega, rfl, rfl, rfl, rfl, rfl, trivial⟩
  · have hge : k = l.length := by have := of_decide_eq_false hb; omega
    subst hge
    have : vecsGo r rank l = 0 := by rw [← hg]; simp [vecsGo]
    rw [this]
    (repeat (first | refine RO.Sv ?_ | refine RO.Yv ?_ | refine RO.no rfl (by decide) rfl ?_ | refine RO.nil ?_ | refine DW.region ?_ | refine DW.seq ?_ | refine DW.block ?_ | refine DW.skip ?_ | refine DW.exit ?_ | refine DW.condT rfl ?_ | refine DW.condF rfl ?_))
    exact DW.ret ⟨.inl rfl, _, rfl, Over.refl _, .same _⟩

theorem CheckVectors_pure (r : Rg) (rank : Int) (l : List Vc) (hl : l.length ≤ 4611686018427387904) (hv : ∀ v ∈ l, v.length ≤ 4611686018427387904 ∧ ∀ f ∈ v, f.length ≤ 4611686018427387904) : Pure Try.prog 25 [rgD r, I rank, vcsD l] (I (vecsCk r rank l)) := by
  intro H
  refine PureH.of_body Try.func25 rfl (by decide) (Nat.le_of_ble_eq_true rfl) fun w0 => ?_
  (repeat (first | refine RO.Sv ?_ | refine RO.Yv ?_ | refine RO.no rfl (by decide) rfl ?_ | refine RO.nil ?_ | refine DW.region ?_ | refine DW.seq ?_ | refine DW.block ?_ | refine DW.skip ?_ | refine DW.exit ?_ | refine DW.condT rfl ?_ | refine DW.condF rfl ?_))
  refine RO.sta (sta_call rfl rfl (CheckRing_pure _ _)) rfl ?_
  (repeat (first | refine RO.Sv ?_ | refine RO.Yv ?_ | refine RO.no rfl (by decide) rfl ?_ | refine RO.nil ?_ | refine DW.region ?_ | refine DW.seq ?_ | refine DW.block ?_ | refine DW.skip ?_ | refine DW.exit ?_ | refine DW.condT rfl ?_ | refine DW.condF rfl ?_))
  by_cases hr : ringCk r = 0
  case neg =>
    have h : vecsCk r rank l = ringCk r := by unfold vecsCk; rw [if_neg hr]
    rw [h, show (ringCk r == 0) = false by simpa using hr]
    (repeat (first | refine RO.Sv ?_ | refine RO.Yv ?_ | refine RO.no rfl (by decide) rfl ?_ | refine RO.nil ?_ | refine DW.region ?_ | refine DW.seq ?_ | refine DW.block ?_ | refine DW.skip ?_ | refine DW.exit ?_ | refine DW.condT rfl ?_ | refine DW.condF rfl ?_))
    exact DW.ret ⟨.inl rfl, _, rfl, Over.refl _, .same _⟩
  have h : vecsCk r rank l = ownCk r rank l := by unfold vecsCk; rw [if_pos hr]
  rw [h, show (ringCk r == 0) = true by simpa using hr]
  (repeat (first | refine RO.Sv ?_ | refine RO.Yv ?_ | refine RO.no rfl (by decide) rfl ?_ | refine RO.nil ?_ | refine DW.region ?_ | refine DW.seq ?_ | refine DW.block ?_ | refine DW.skip ?_ | refine DW.exit ?_ | refine DW.condT rfl ?_ | refine DW.condF rfl ?_))
  refine RO.sta (sta_call rfl rfl (CheckList_pure r rank l hr hl hv _)) rfl ?_
  (repeat (first | refine RO.Sv ?_ | refine RO.Yv ?_ | refine RO.no rfl (by decide) rfl ?_ | refine RO.nil ?_ | refine DW.region ?_ | refine DW.seq ?_ | refine DW.block ?_ | refine DW.skip ?_ | refine DW.exit ?_ | refine DW.condT rfl ?_ | refine DW.condF rfl ?_))
  exact DW.ret ⟨.inl rfl, _, rfl, Over.refl _, .same _⟩

theorem CheckAlike_pure (r : Rg) (l : List Vc) (hl : l.length ≤ 4611686018427387904) (hv : ∀ v ∈ l, v.length ≤ 4611686018427387904 ∧ ∀ f ∈ v, f.length ≤ 4611686018427387904) : Pure Try.prog 18 [rgD r, vcsD l] (I (alikeCk r l)) := by
  intro H
  refine PureH.of_body Try.func18 rfl (by decide) (Nat.le_of_ble_eq_true rfl) fun w0 => ?_
  (repeat (first | refine RO.Sv ?_ | refine RO.Yv ?_ | refine RO.no rfl (by decide) rfl ?_ | refine RO.nil ?_ | refine DW.region ?_ | refine DW.seq ?_ | refine DW.block ?_ | refine DW.skip ?_ | refine DW.exit ?_ | refine DW.condT rfl ?_ | refine DW.condF rfl ?_))
  refine RO.sta (sta_call rfl rfl (CheckRing_pure _ _)) rfl ?_
  (repeat (first | refine RO.Sv ?_ | refine RO.Yv ?_ | refine RO.no rfl (by decide) rfl ?_ | refine RO.nil ?_ | refine DW.region ?_ | refine DW.seq ?_ | refine DW.block ?_ | refine DW.skip ?_ | refine DW.exit ?_ | refine DW.condT rfl ?_ | refine DW.condF rfl ?_))
  by_cases hr : ringCk r = 0
  case neg =>
    have h : alikeCk r l = ringCk r := by unfold alikeCk; rw [if_pos hr]
    rw [h, show (ringCk r != 0) = true by simpa using hr]
    (repeat (first | refine RO.Sv ?_ | refine RO.Yv ?_ | refine RO.no rfl (by decide) rfl ?_ | refine RO.nil ?_ | refine DW.region ?_ | refine DW.seq ?_ | refine DW.block ?_ | refine DW.skip ?_ | refine DW.exit ?_ | refine DW.condT rfl ?_ | refine DW.condF rfl ?_))
    exact DW.ret ⟨.inl rfl, _, rfl, Over.refl _, .same _⟩
  rw [show (ringCk r != 0) = false by simpa using hr]
  (repeat (first | refine RO.Sv ?_ | refine RO.Yv ?_ | refine RO.no rfl (by decide) rfl ?_ | refine RO.nil ?_ | refine DW.region ?_ | refine DW.seq ?_ | refine DW.block ?_ | refine DW.skip ?_ | refine DW.exit ?_ | refine DW.condT rfl ?_ | refine DW.condF rfl ?_))
  refine DW.loopI (fun k : Nat => k ≤ l.length ∧ (l.drop k).any badLen = l.any badLen) (fun k => [(1, vcsD l), (2, .ipt 4 [rgD r] 0 0), (6, I k)]) (fun _ => H) (fun k => l.length - k) 0 ⟨Nat.zero_le _, rfl⟩ rfl ⟨rfl, rfl, rfl, trivial⟩ fun k ⟨hk, hg⟩ => ?_
  (repeat (first | refine RO.Sv ?_ | refine RO.Yv ?_ | refine RO.no rfl (by decide) rfl ?_ | refine RO.nil ?_ | refine DW.region ?_ | refine DW.seq ?_ | refine DW.block ?_ | refine DW.skip ?_ | refine DW.exit ?_ | refine DW.condT rfl ?_ | refine DW.condF rfl ?_))
  refine DW.cond rfl (fun hb => ?_) (fun hb => ?_)
  · have hlt : k < l.length := by have := of_decide_eq_true hb; omega
    obtain ⟨hv1, hv2⟩ := hv _ (List.getElem_mem hlt)
    rw [any_drop hlt] at hg
    clear hb
    (repeat (first | refine RO.Sv ?_ | refine RO.Yv ?_ | refine RO.no rfl (by decide) rfl ?_ | refine RO.nil ?_ | refine DW.region ?_ | refine DW.seq ?_ | refine DW.block ?_ | refine DW.skip ?_ | refine DW.exit ?_ | refine DW.condT rfl ?_ | refine DW.condF rfl ?_))
    refine RO.sta (sta_call rfl rfl (between_pure _ _ _ _)) rfl ?_
    (repeat (first | refine RO.Sv ?_ | refine RO.Yv ?_ | refine RO.no rfl (by decide) rfl ?_ | refine RO.nil ?_ | refine DW.region ?_ | refine DW.seq ?_ | refine DW.block ?_ | refine DW.skip ?_ | refine DW.exit ?_ | refine DW.condT rfl ?_ | refine DW.condF rfl ?_))
    have hbl : badLen l[k] = !(decide ((1 : Int) ≤ (l[k].length : Int)) && decide ((l[k].length : Int) ≤ 40)) := by
      unfold badLen
      rw [Bool.not_and]
      congr 1
      · rw [← decide_not, decide_eq_decide]; omega
      · rw [← decide_not, decide_eq_decide]; omega
    rw [← hbl]
    cases h1 : badLen l[k]
    case true =>
      rw [h1, Bool.true_or] at hg
      have : alikeCk r l = 3 := by unfold alikeCk; rw [if_neg (by simpa using hr), if_pos hg.symm]
      rw [this]
      (repeat (first | refine RO.Sv ?_ | refine RO.Yv ?_ | refine RO.no rfl (by decide) rfl ?_ | refine RO.nil ?_ | refine DW.region ?_ | refine DW.seq ?_ | refine DW.block ?_ | refine DW.skip ?_ | refine DW.exit ?_ | refine DW.condT rfl ?_ | refine DW.condF rfl ?_))
      exact DW.ret ⟨.inl rfl, _, rfl, Over.refl _, .same _⟩
    rw [h1, Bool.false_or] at hg
    (repeat (first | refine RO.Sv ?_ | refine RO.Yv ?_ | refine RO.no rfl (by decide) rfl ?_ | refine RO.nil ?_ | refine DW.region ?_ | refine DW.seq ?_ | refine DW.block ?_ | refine DW.skip ?_ | refine DW.exit ?_ | refine DW.condT rfl ?_ | refine DW.condF rfl ?_))
    exact ⟨k + 1, ⟨hlt, hg⟩, by dsimp only; omega, rfl, rfl, rfl, rfl, trivial⟩
  have hbad : l.any badLen = false := by
    rw [← hg, show k = l.length by have := of_decide_eq_false hb; omega, List.drop_length]
    rfl
  clear hg hb hk
  (repeat (first | refine RO.Sv ?_ | refine RO.Yv ?_ | refine RO.no rfl (by decide) rfl ?_ | refine RO.nil ?_ | refine DW.region ?_ | refine DW.seq ?_ | refine DW.block ?_ | refine DW.skip ?_ | refine DW.exit ?_ | refine DW.condT rfl ?_ | refine DW.condF rfl ?_))
  have hfirst : (l.drop 1).any (unlike l) = l.any (unlike l) := by
    cases l with
    | nil => rfl
    | cons a l =>
      have : unlike (a :: l) a = false := by unfold unlike; simp
      simp only [List.drop_succ_cons, List.drop_zero, List.any_cons, this, Bool.false_or]
  refine DW.loopI (fun k : Nat => 1 ≤ k ∧ (l.drop k).any (unlike l) = l.any (unlike l)) (fun k => [(1, vcsD l), (2, .ipt 4 [rgD r] 0 0), (7, I k)]) (fun _ => H) (fun k => l.length - k) 1 ⟨Nat.le_refl _, hfirst⟩ rfl ⟨rfl, rfl, rfl, trivial⟩ fun k ⟨hk, hg⟩ => ?_
  (repeat (first | refine RO.Sv ?_ | refine RO.Yv ?_ | refine RO.no rfl (by decide) rfl ?_ | refine RO.nil ?_ | refine DW.region ?_ | refine DW.seq ?_ | refine DW.block ?_ | refine DW.skip ?_ | refine DW.exit ?_ | refine DW.condT rfl ?_ | refine DW.condF rfl ?_))
  refine DW.cond rfl (fun hb => ?_) (fun hb => ?_)
  · have hlt : k < l.length := by have := of_decide_eq_true hb; omega
    have h0 : 0 < l.length := by omega
    have hh : l.headD [] = l[0] := by
      cases l with
      | nil => simp at h0
      | cons a l => rfl
    rw [any_drop hlt] at hg
    clear hb
    have hun : unlike l l[k] = ((l[k].length : Int) != (l[0].length : Int)) := by unfold unlike; rw [hh]
    (repeat (first | refine RO.Sv ?_ | refine RO.Yv ?_ | refine RO.no rfl (by decide) rfl ?_ | refine RO.nil ?_ | refine DW.region ?_ | refine DW.seq ?_ | refine DW.block ?_ | refine DW.skip ?_ | refine DW.exit ?_ | refine DW.condT rfl ?_ | refine DW.condF rfl ?_))
    refine DW.drawS 10 Try.mixed (by kernel_rfl) (by decide) ?_
    dsimp only [List.take, List.drop]
    (repeat (first | refine RS.Sv ?_ | refine RS.Yv ?_ | refine RS.no rfl (by decide) rfl ?_ | refine RS.nil ?_))
    cases h1 : unlike l l[k]
    case true =>
      rw [h1, Bool.true_or] at hg
      have : alikeCk r l = 1 := by unfold alikeCk; rw [if_neg (by simpa using hr), if_neg (by simp [hbad]), if_pos hg.symm]
      rw [this]
      rw [hun] at h1
      rw [h1]
      (repeat (first | refine RO.Sv ?_ | refine RO.Yv ?_ | refine RO.no rfl (by decide) rfl ?_ | refine RO.nil ?_ | refine DW.region ?_ | refine DW.seq ?_ | refine DW.block ?_ | refine DW.skip ?_ | refine DW.exit ?_ | refine DW.condT rfl ?_ | refine DW.condF rfl ?_))
      exact DW.ret ⟨.inl rfl, _, rfl, Over.refl _, .same _⟩
    rw [h1, Bool.false_or] at hg
    rw [hun] at h1
    rw [h1]
    (repeat (first | refine RO.Sv ?_ | refine RO.Yv ?_ | refine RO.no rfl (by decide) rfl ?_ | refine RO.nil ?_ | refine DW.region ?_ | refine DW.seq ?_ | refine DW.block ?_ | refine DW.skip ?_ | refine DW.exit ?_ | refine DW.condT rfl ?_ | refine DW.condF rfl ?_))
    exact ⟨k + 1, ⟨by omega, hg⟩, by dsimp only; omega, rfl, rfl, rfl, rfl, trivial⟩
  have hun : l.any (unlike l) = false := by
    rw [← hg, List.drop_eq_nil_of_le (by have := of_decide_eq_false hb; omega)]
    rfl
  clear hg hb hk
  have : alikeCk r l = vGo r l := by unfold alikeCk; rw [if_neg (by simpa using hr), if_neg (by simp [hbad]), if_neg (by simp [hun])]
  rw [this]
  (repeat (first | refine RO.Sv ?_ | refine RO.Yv ?_ | refine RO.no rfl (by decide) rfl ?_ | refine RO.nil ?_ | refine DW.region ?_ | refine DW.seq ?_ | refine DW.block ?_ | refine DW.skip ?_ | refine DW.exit ?_ | refine DW.condT rfl ?_ | refine DW.condF rfl ?_))
  refine DW.loopI (fun k : Nat => k ≤ l.length ∧ vGo r (l.drop k) = vGo r l) (fun k => [(1, vcsD l), (2, .ipt 4 [rgD r] 0 0), (8, I k)]) (fun _ => H) (fun k => l.length - k) 0 ⟨Nat.zero_le _, rfl⟩ rfl ⟨rfl, rfl, rfl, trivial⟩ fun k ⟨hk, hg⟩ => ?_
  (repeat (first | refine RO.Sv ?_ | refine RO.Yv ?_ | refine RO.no rfl (by decide) rfl ?_ | refine RO.nil ?_ | refine DW.region ?_ | refine DW.seq ?_ | refine DW.block ?_ | refine DW.skip ?_ | refine DW.exit ?_ | refine DW.condT rfl ?_ | refine DW.condF rfl ?_))
  refine DW.cond rfl (fun hb => ?_) (fun hb => ?_)
  · have hlt : k < l.length := by have := of_decide_eq_true hb; omega
    obtain ⟨hv1, hv2⟩ := hv _ (List.getElem_mem hlt)
    rw [vGo_drop hlt] at hg
    clear hb
    have hpc : polysCk r l[k] = polysGo r l[k] := by unfold polysCk; rw [if_pos hr]
    (repeat (first | refine RO.Sv ?_ | refine RO.Yv ?_ | refine RO.no rfl (by decide) rfl ?_ | refine RO.nil ?_ | refine DW.region ?_ | refine DW.seq ?_ | refine DW.block ?_ | refine DW.skip ?_ | refine DW.exit ?_ | refine DW.condT rfl ?_ | refine DW.condF rfl ?_))
    refine DW.drawS 7 Try.mixed (by kernel_rfl) (by decide) ?_
    dsimp only [List.take, List.drop]
    (repeat (first | refine RS.Sv ?_ | refine RS.Yv ?_ | refine RS.no rfl (by decide) rfl ?_ | refine RS.nil ?_))
    refine RS.sta (fun H' hov => sta_call rfl rfl (CheckPolys_pure r l[k] hv1 hv2 _)) rfl ?_
    (repeat (first | refine RS.Sv ?_ | refine RS.Yv ?_ | refine RS.no rfl (by decide) rfl ?_ | refine RS.nil ?_))
    rw [hpc]
    (repeat (first | refine RO.Sv ?_ | refine RO.Yv ?_ | refine RO.no rfl (by decide) rfl ?_ | refine RO.nil ?_ | refine DW.region ?_ | refine DW.seq ?_ | refine DW.block ?_ | refine DW.skip ?_ | refine DW.exit ?_ | refine DW.condT rfl ?_ | refine DW.condF rfl ?_))
    by_cases hc2 : polysGo r l[k] = 0
    · rw [if_pos hc2] at hg
      rw [show (polysGo r l[k] != 0) = false by simpa using hc2]
      (repeat (first | refine RO.Sv ?_ | refine RO.Yv ?_ | refine RO.no rfl (by decide) rfl ?_ | refine RO.nil ?_ | refine DW.region ?_ | refine DW.seq ?_ | refine DW.block ?_ | refine DW.skip ?_ | refine DW.exit ?_ | refine DW.condT rfl ?_ | refine DW.condF rfl ?_))
      exact ⟨k + 1, ⟨hlt, hg⟩, by dsimp only; omega, rfl, rfl, rfl, rfl, trivial⟩
    · rw [if_neg hc2] at hg
      rw [← hg, show (polysGo r l[k] != 0) = true by simpa using hc2]
      (repeat (first | refine RO.Sv ?_ | refine RO.Yv ?_ | refine RO.no rfl (by decide) rfl ?_ | refine RO.nil ?_ | refine DW.region ?_ | refine DW.seq ?_ | refine DW.block ?_ | refine DW.skip ?_ | refine DW.exit ?_ | refine DW.condT rfl ?_ | refine DW.condF rfl ?_))
      exact DW.ret ⟨.inl rfl, _, rfl, Over.refl _, .same _⟩
  · have hge : k = l.length := by have := of_decide_eq_false hb; omega
    subst hge
    have : vGo r l = 0 := by rw [← hg]; simp [vGo]
    rw [this]
    (repeat (first | refine RO.Sv ?_ | refine RO.Yv ?_ | refine RO.no rfl (by decide) rfl ?_ | refine RO.nil ?_ | refine DW.region ?_ | refine DW.seq ?_ | refine DW.block ?_ | refine DW.skip ?_ | refine DW.exit ?_ | refine DW.condT rfl ?_ | refine DW.condF rfl ?_))
    exact DW.ret ⟨.inl rfl, _, rfl, Over.refl _, .same _⟩

end Go.Proofs.Ytblileclefbklaa

namespace Go.Proofs.Ytblileclefbklaa
set_option linter.unusedVariables false
set_option linter.unusedSimpArgs false

/-- Each polynomial of a vector is bounded. -/
def VB (r : Rg) (n : Nat) (B : Int) (L : Nat) (v : Vc) : Prop := ∀ f ∈ v, PB 1 r.p r.order n B f ∧ f.length ≤ L

theorem VOk.vb {r : Rg} {k : Nat} {v : Vc} (h : VOk r k v) : VB r r.n.toNat 200 2000 v := fun f hf => ⟨(h.all f hf).ok, (h.all f hf).len⟩

theorem topT_bounds {f : Pl} (h : ∀ t ∈ f, MOk t.e) : -1 ≤ topT f ∧ topT f ≤ 3000000 := by
  cases f with
  | nil => exact ⟨Int.le_refl _, by decide⟩
  | cons t f => have := (h t (by simp)).sum; exact ⟨by show -1 ≤ t.e.sum; omega, this.2⟩

def firstT (r : Rg) (i : Int) (a : List Int) (k : Int) (b : List Int) : Bool := if (r.over = 2 ∧ i ≠ k) ∨ cmpM r.order a b = 0 then decide (i < k) else decide (0 < cmpM r.order a b)

def topStep (r : Rg) (x : Option (Nat × Tm)) (i : Nat) : Pl → Option (Nat × Tm)
  | [] => x
  | t :: _ => match x with
    | none => some (i, t)
    | some (a, u) => if firstT r i t.e a u.e = true then some (i, t) else some (a, u)

def topAt (r : Rg) (v : Vc) : Nat → Option (Nat × Tm)
  | 0 => none
  | k + 1 => topStep r (topAt r v k) k (v.getD k [])

/-- The lead of a vector: its place, and its term. -/
def topV (r : Rg) (v : Vc) : Option (Nat × Tm) := topAt r v v.length

def atOf : Option (Nat × Tm) → Int
  | none => -1
  | some x => x.1

def tmOf : Option (Nat × Tm) → Tm
  | none => ⟨0, []⟩
  | some x => x.2

theorem topAt_succ {r : Rg} {v : Vc} {k : Nat} (h : k < v.length) : topAt r v (k + 1) = topStep r (topAt r v k) k v[k] := by
  show topStep r (topAt r v k) k (v.getD k []) = _
  rw [List.getD_eq_getElem?_getD, List.getElem?_eq_getElem h]
  rfl

theorem topStep_none {r : Rg} {k : Nat} {f : Pl} (h : 0 < f.length) : topStep r none k f = some (k, f[0]) := by
  cases f with
  | nil => simp at h
  | cons t g => rfl

theorem topStep_some {r : Rg} {k a : Nat} {u : Tm} {f : Pl} (h : 0 < f.length) : topStep r (some (a, u)) k f = if firstT r k f[0].e a u.e = true then some (k, f[0]) else some (a, u) := by
  cases f with
  | nil => simp at h
  | cons t g => rfl

theorem topAt_ok {r : Rg} {v : Vc} : ∀ {k : Nat}, k ≤ v.length → ∀ {a : Nat} {u : Tm}, topAt r v k = some (a, u) → a < k ∧ ∃ (h : a < v.length) (h2 : 0 < v[a].length), v[a][0] = u
  | 0, _, a, u, h => by cases h
  | k + 1, hk, a, u, h => by
    rw [topAt_succ hk] at h
    have old : ∀ {a u}, topAt r v k = some (a, u) → a < k + 1 ∧ ∃ (h : a < v.length) (h2 : 0 < v[a].length), v[a][0] = u := fun hx => by
      obtain ⟨h1, h2⟩ := topAt_ok (by omega) hx
      exact ⟨by omega, h2⟩
    unfold topStep at h
    split at h
    · exact old h
    · rename_i t g hv
      have new : k < k + 1 ∧ ∃ (h : k < v.length) (h2 : 0 < v[k].length), v[k][0] = t := ⟨by omega, hk, by rw [hv]; simp, by simp [hv]⟩
      split at h
      · cases h; exact new
      · rename_i a' u' hx
        split at h
        · cases h; exact new
        · cases h; exact old hx

/-- A term behind the first one is never ahead. -/
theorem ahead_no {r : Rg} {v : Vc} {n : Nat} {B : Int} {L : Nat} (hv : VB r n B L v) {i j : Nat} (hi : i < v.length) (hj0 : 0 < j) (hj : j < v[i].length) : ∃ a u, topAt r v (i + 1) = some (a, u) ∧ firstT r i v[i][j].e a u.e = false := by
  have hvi := (hv _ (List.getElem_mem hi)).1
  rw [topAt_succ hi]
  match hf : v[i], hj with
  | [], hj => simp at hj
  | t :: g, hj =>
    have hpb : PB 1 r.p r.order n B (t :: g) := hf ▸ hvi
    have hjm : (t :: g)[j] ∈ g := by
      match j, hj0, hj with
      | j + 1, _, hj => simp
    have hlt : 0 < cmpM r.order t.e (t :: g)[j].e := hpb.below _ hjm
    have hanti := cmpM_anti r.order (t :: g)[j].e t.e
    have hlen : (t :: g)[j].e.length = t.e.length := by rw [(hpb.all _ (List.getElem_mem hj)).len, hpb.head.len]
    generalize hs : (t :: g)[j] = s at *
    have self : firstT r i s.e i t.e = false := by
      unfold firstT
      rw [if_neg (by omega)]
      exact decide_eq_false (by omega)
    unfold topStep
    cases hx : topAt r v i with
    | none => exact ⟨i, t, rfl, self⟩
    | some x =>
      obtain ⟨a, u⟩ := x
      dsimp only
      split
      · exact ⟨i, t, rfl, self⟩
      · rename_i hno
        refine ⟨a, u, rfl, ?_⟩
        obtain ⟨_, ha, ha2, hau⟩ := topAt_ok (Nat.le_of_lt hi) hx
        have hul : u.e.length = t.e.length := by
          have h1 := ((hv _ (List.getElem_mem ha)).1.all _ (List.getElem_mem ha2)).len
          rw [hau] at h1
          rw [h1, hpb.head.len]
        have hanti2 := cmpM_anti r.order t.e u.e
        have hanti3 := cmpM_anti r.order s.e u.e
        unfold firstT at hno ⊢
        by_cases hov : r.over = 2 ∧ (i : Int) ≠ a
        · rw [if_pos (.inl hov)] at hno ⊢
          simpa using hno
        · by_cases h0 : cmpM r.order t.e u.e = 0
          · rw [if_pos (.inr h0)] at hno
            have hteq := cmpM_zero hul.symm h0
            rw [← hteq, if_neg (by simp only [hov, false_or]; omega)]
            exact decide_eq_false (by omega)
          · rw [if_neg (by simp only [hov, false_or]; exact h0)] at hno
            have hno' : ¬ 0 < cmpM r.order t.e u.e := by simpa using hno
            have := (cmpM_trans (o := r.order) (a := u.e) (b := t.e) (c := s.e) hul hlen.symm (by omega) (by omega)).2 (.inr hlt)
            rw [if_neg (by simp only [hov, false_or]; omega)]
            exact decide_eq_false (by omega)

/-- What Lead answers. -/
def leadT (r : Rg) (v : Vc) : Int × Tm × Int := if alikeCk r [v] ≠ 0 then (0, ⟨0, []⟩, alikeCk r [v]) else match topV r v with
  | none => (0, ⟨0, []⟩, 5)
  | some (a, t) => (a, t, 0)

end Go.Proofs.Ytblileclefbklaa
