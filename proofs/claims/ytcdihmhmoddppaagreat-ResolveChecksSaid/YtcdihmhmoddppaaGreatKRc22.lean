/-
  Package vector: Each, Sum, By, Copied, Nought, Done; the document's VSum, VTimes, VGreat. No condition.
-/
import Derived.Test.YtcdihmhmoddppaaGreatKRc21
import Derived.Test.YtcdihmhmoddppaaGreatKRc10

namespace Go.Proofs.YtcdihmhmoddppaaGreat
open Go.RowKit
set_option linter.unusedVariables false
set_option linter.unusedSimpArgs false
set_option maxHeartbeats 8000000

theorem vpolys_pure (r : Rg) (l : Vc) (hr : ringCk r = 0) (hl : l.length ≤ 4611686018427387904) (hf : ∀ f ∈ l, f.length ≤ 4611686018427387904) : Pure Tryz.prog 78 [rgD r, vcD l] (I (polysGo r l)) := by
  intro H
  refine PureH.of_body Tryz.func78 rfl (by decide) (Nat.le_of_ble_eq_true rfl) fun w0 => ?_
  (repeat (first | refine RO.Sv ?_ | refine RO.Yv ?_ | refine RO.no rfl (by decide) rfl ?_ | refine RO.nil ?_ | refine DW.region ?_ | refine DW.seq ?_ | refine DW.block ?_ | refine DW.skip ?_ | refine DW.exit ?_ | refine DW.condT rfl ?_ | refine DW.condF rfl ?_))
  refine DW.loopI (fun k : Nat => k ≤ l.length ∧ polysGo r (l.drop k) = polysGo r l) (fun k => [(2, .ipt 4 [rgD r] 0 0), (8, vcD l), (9, I l.length), (10, I k)]) (fun _ => H) (fun k => l.length - k) 0 ⟨Nat.zero_le _, rfl⟩ rfl ⟨rfl, rfl, rfl, rfl, trivial⟩ fun k ⟨hk, hg⟩ => ?_
  (repeat (first | refine RO.Sv ?_ | refine RO.Yv ?_ | refine RO.no rfl (by decide) rfl ?_ | refine RO.nil ?_ | refine DW.region ?_ | refine DW.seq ?_ | refine DW.block ?_ | refine DW.skip ?_ | refine DW.exit ?_ | refine DW.condT rfl ?_ | refine DW.condF rfl ?_))
  refine DW.cond rfl (fun hb => ?_) (fun hb => ?_)
  · have hlt : k < l.length := by have := of_decide_eq_true hb; omega
    rw [polysGo_drop hlt] at hg
    (repeat (first | refine RO.Sv ?_ | refine RO.Yv ?_ | refine RO.no rfl (by decide) rfl ?_ | refine RO.nil ?_ | refine DW.region ?_ | refine DW.seq ?_ | refine DW.block ?_ | refine DW.skip ?_ | refine DW.exit ?_ | refine DW.condT rfl ?_ | refine DW.condF rfl ?_))
    refine RO.sta (sta_call rfl rfl (pOwn_pure r l[k] hr (hf _ (List.getElem_mem hlt)) _)) rfl ?_
    (repeat (first | refine RO.Sv ?_ | refine RO.Yv ?_ | refine RO.no rfl (by decide) rfl ?_ | refine RO.nil ?_ | refine DW.region ?_ | refine DW.seq ?_ | refine DW.block ?_ | refine DW.skip ?_ | refine DW.exit ?_ | refine DW.condT rfl ?_ | refine DW.condF rfl ?_))
    by_cases hc : polyCk r l[k] = 0
    · rw [if_pos hc] at hg
      rw [show (polyCk r l[k] != 0) = false by simpa using hc]
      (repeat (first | refine RO.Sv ?_ | refine RO.Yv ?_ | refine RO.no rfl (by decide) rfl ?_ | refine RO.nil ?_ | refine DW.region ?_ | refine DW.seq ?_ | refine DW.block ?_ | refine DW.skip ?_ | refine DW.exit ?_ | refine DW.condT rfl ?_ | refine DW.condF rfl ?_))
      exact ⟨k + 1, ⟨hlt, hg⟩, by dsimp only; omega, rfl, rfl, rfl, rfl, rfl, trivial⟩
    · rw [if_neg hc] at hg
      rw [← hg, show (polyCk r l[k] != 0) = true by simpa using hc]
      (repeat (first | refine RO.Sv ?_ | refine RO.Yv ?_ | refine RO.no rfl (by decide) rfl ?_ | refine RO.nil ?_ | refine DW.region ?_ | refine DW.seq ?_ | refine DW.block ?_ | refine DW.skip ?_ | refine DW.exit ?_ | refine DW.condT rfl ?_ | refine DW.condF rfl ?_))
      exact DW.ret ⟨.inl rfl, _, rfl, Over.refl _, .same _⟩
  · have hge : k = l.length := by have := of_decide_eq_false hb; omega
    subst hge
    have : polysGo r l = 0 := by rw [← hg]; simp [polysGo]
    rw [this]
    (repeat (first | refine RO.Sv ?_ | refine RO.Yv ?_ | refine RO.no rfl (by decide) rfl ?_ | refine RO.nil ?_ | refine DW.region ?_ | refine DW.seq ?_ | refine DW.block ?_ | refine DW.skip ?_ | refine DW.exit ?_ | refine DW.condT rfl ?_ | refine DW.condF rfl ?_))
    exact DW.ret ⟨.inl rfl, _, rfl, Over.refl _, .same _⟩

theorem vOwn_pure (r : Rg) (rank : Int) (l : List Vc) (hr : ringCk r = 0) (hl : l.length ≤ 4611686018427387904) (hv : ∀ v ∈ l, v.length ≤ 4611686018427387904 ∧ ∀ f ∈ v, f.length ≤ 4611686018427387904) : Pure Tryz.prog 44 [rgD r, I rank, vcsD l] (I (ownCk r rank l)) := by
  intro H
  refine PureH.of_body Tryz.func44 rfl (by decide) (Nat.le_of_ble_eq_true rfl) fun w0 => ?_
  (repeat (first | refine RO.Sv ?_ | refine RO.Yv ?_ | refine RO.no rfl (by decide) rfl ?_ | refine RO.nil ?_ | refine DW.region ?_ | refine DW.seq ?_ | refine DW.block ?_ | refine DW.skip ?_ | refine DW.exit ?_ | refine DW.condT rfl ?_ | refine DW.condF rfl ?_))
  have hm : (decide (rank < 1) || decide (40 < rank)) = true ∨ (1 ≤ rank ∧ rank ≤ 40) := by
    rcases Int.lt_or_le rank 1 with h | h
    · exact .inl (by rw [decide_eq_true h]; rfl)
    · rcases Int.lt_or_le 40 rank with h2 | h2
      · exact .inl (by rw [decide_eq_true h2]; simp)
      · exact .inr ⟨h, h2⟩
  cases h1 : decide (rank < 1)
  case true =>
    have : ownCk r rank l = 3 := by unfold ownCk; rw [if_pos (.inl (of_decide_eq_true h1))]
    rw [this]
    (repeat (first | refine RO.Sv ?_ | refine RO.Yv ?_ | refine RO.no rfl (by decide) rfl ?_ | refine RO.nil ?_ | refine DW.region ?_ | refine DW.seq ?_ | refine DW.block ?_ | refine DW.skip ?_ | refine DW.exit ?_ | refine DW.condT rfl ?_ | refine DW.condF rfl ?_))
    exact DW.ret ⟨.inl rfl, _, rfl, Over.refl _, .same _⟩
  (repeat (first | refine RO.Sv ?_ | refine RO.Yv ?_ | refine RO.no rfl (by decide) rfl ?_ | refine RO.nil ?_ | refine DW.region ?_ | refine DW.seq ?_ | refine DW.block ?_ | refine DW.skip ?_ | refine DW.exit ?_ | refine DW.condT rfl ?_ | refine DW.condF rfl ?_))
  cases h2 : decide (40 < rank)
  case true =>
    have : ownCk r rank l = 3 := by unfold ownCk; rw [if_pos (.inr (of_decide_eq_true h2))]
    rw [this]
    (repeat (first | refine RO.Sv ?_ | refine RO.Yv ?_ | refine RO.no rfl (by decide) rfl ?_ | refine RO.nil ?_ | refine DW.region ?_ | refine DW.seq ?_ | refine DW.block ?_ | refine DW.skip ?_ | refine DW.exit ?_ | refine DW.condT rfl ?_ | refine DW.condF rfl ?_))
    exact DW.ret ⟨.inl rfl, _, rfl, Over.refl _, .same _⟩
  have hrk : ¬ (rank < 1 ∨ 40 < rank) := by have := of_decide_eq_false h1; have := of_decide_eq_false h2; omega
  (repeat (first | refine RO.Sv ?_ | refine RO.Yv ?_ | refine RO.no rfl (by decide) rfl ?_ | refine RO.nil ?_ | refine DW.region ?_ | refine DW.seq ?_ | refine DW.block ?_ | refine DW.skip ?_ | refine DW.exit ?_ | refine DW.condT rfl ?_ | refine DW.condF rfl ?_))
  cases h3 : decide ((60 : Int) < (l.length : Int))
  case true =>
    have : ownCk r rank l = 2 := by unfold ownCk; rw [if_neg hrk, if_pos (by have := of_decide_eq_true h3; omega)]
    rw [this]
    (repeat (first | refine RO.Sv ?_ | refine RO.Yv ?_ | refine RO.no rfl (by decide) rfl ?_ | refine RO.nil ?_ | refine DW.region ?_ | refine DW.seq ?_ | refine DW.block ?_ | refine DW.skip ?_ | refine DW.exit ?_ | refine DW.condT rfl ?_ | refine DW.condF rfl ?_))
    exact DW.ret ⟨.inl rfl, _, rfl, Over.refl _, .same _⟩
  have : ownCk r rank l = vecsGo r rank l := by unfold ownCk; rw [if_neg hrk, if_neg (by have := of_decide_eq_false h3; omega)]
  rw [this]
  (repeat (first | refine RO.Sv ?_ | refine RO.Yv ?_ | refine RO.no rfl (by decide) rfl ?_ | refine RO.nil ?_ | refine DW.region ?_ | refine DW.seq ?_ | refine DW.block ?_ | refine DW.skip ?_ | refine DW.exit ?_ | refine DW.condT rfl ?_ | refine DW.condF rfl ?_))
  refine DW.loopI (fun k : Nat => k ≤ l.length ∧ vecsGo r rank (l.drop k) = vecsGo r rank l) (fun k => [(1, I rank), (3, .ipt 4 [rgD r] 0 0), (21, vcsD l), (22, I l.length), (23, I k)]) (fun _ => H) (fun k => l.length - k) 0 ⟨Nat.zero_le _, rfl⟩ rfl ⟨rfl, rfl, rfl, rfl, rfl, trivial⟩ fun k ⟨hk, hg⟩ => ?_
  (repeat (first | refine RO.Sv ?_ | refine RO.Yv ?_ | refine RO.no rfl (by decide) rfl ?_ | refine RO.nil ?_ | refine DW.region ?_ | refine DW.seq ?_ | refine DW.block ?_ | refine DW.skip ?_ | refine DW.exit ?_ | refine DW.condT rfl ?_ | refine DW.condF rfl ?_))
  refine DW.cond rfl (fun hb => ?_) (fun hb => ?_)
  · have hlt : k < l.length := by have := of_decide_eq_true hb; omega
    obtain ⟨hv1, hv2⟩ := hv _ (List.getElem_mem hlt)
    rw [vecsGo_drop hlt] at hg
    clear hb
    (repeat (first | refine RO.Sv ?_ | refine RO.Yv ?_ | refine RO.no rfl (by decide) rfl ?_ | refine RO.nil ?_ | refine DW.region ?_ | refine DW.seq ?_ | refine DW.block ?_ | refine DW.skip ?_ | refine DW.exit ?_ | refine DW.condT rfl ?_ | refine DW.condF rfl ?_))
    by_cases hc : (l[k].length : Int) = rank
    case neg =>
      rw [if_pos hc] at hg
      rw [← hg, show ((l[k].length : Int) != rank) = true by simpa using hc]
      (repeat (first | refine RO.Sv ?_ | refine RO.Yv ?_ | refine RO.no rfl (by decide) rfl ?_ | refine RO.nil ?_ | refine DW.region ?_ | refine DW.seq ?_ | refine DW.block ?_ | refine DW.skip ?_ | refine DW.exit ?_ | refine DW.condT rfl ?_ | refine DW.condF rfl ?_))
      exact DW.ret ⟨.inl rfl, _, rfl, Over.refl _, .same _⟩
    rw [if_neg (by simpa using hc)] at hg
    rw [show ((l[k].length : Int) != rank) = false by simpa using hc]
    (repeat (first | refine RO.Sv ?_ | refine RO.Yv ?_ | refine RO.no rfl (by decide) rfl ?_ | refine RO.nil ?_ | refine DW.region ?_ | refine DW.seq ?_ | refine DW.block ?_ | refine DW.skip ?_ | refine DW.exit ?_ | refine DW.condT rfl ?_ | refine DW.condF rfl ?_))
    refine RO.sta (sta_call rfl rfl (vpolys_pure r l[k] hr hv1 hv2 _)) rfl ?_
    (repeat (first | refine RO.Sv ?_ | refine RO.Yv ?_ | refine RO.no rfl (by decide) rfl ?_ | refine RO.nil ?_ | refine DW.region ?_ | refine DW.seq ?_ | refine DW.block ?_ | refine DW.skip ?_ | refine DW.exit ?_ | refine DW.condT rfl ?_ | refine DW.condF rfl ?_))
    by_cases hc2 : polysGo r l[k] = 0
    · rw [if_pos hc2] at hg
      rw [show (polysGo r l[k] != 0) = false by simpa using hc2]
      (repeat (first | refine RO.Sv ?_ | refine RO.Yv ?_ | refine RO.no rfl (by decide) rfl ?_ | refine RO.nil ?_ | refine DW.region ?_ | refine DW.seq ?_ | refine DW.block ?_ | refine DW.skip ?_ | refine DW.exit ?_ | refine DW.condT rfl ?_ | refine DW.condF rfl ?_))
      exact ⟨k + 1, ⟨hlt, hg⟩, by dsimp only; omega, rfl, rfl, rfl, rfl, rfl, rfl, trivial⟩
    · rw [if_neg hc2] at hg
      rw [← hg, show (polysGo r l[k] != 0) = true by simpa using hc2]
      (repeat (first | refine RO.Sv ?_ | refine RO.Yv ?_ | refine RO.no rfl (by decide) rfl ?_ | refine RO.nil ?_ | refine DW.region ?_ | refine DW.seq ?_ | refine DW.block ?_ | refine DW.skip ?_ | refine DW.exit ?_ | refine DW.condT rfl ?_ | refine DW.condF rfl ?_))
      exact DW.ret ⟨.inl rfl, _, rfl, Over.refl _, .same _⟩
  · have hge : k = l.length := by have := of_decide_eq_false hb; omega
    subst hge
    have : vecsGo r rank l = 0 := by rw [← hg]; simp [vecsGo]
    rw [this]
    (repeat (first | refine RO.Sv ?_ | refine RO.Yv ?_ | refine RO.no rfl (by decide) rfl ?_ | refine RO.nil ?_ | refine DW.region ?_ | refine DW.seq ?_ | refine DW.block ?_ | refine DW.skip ?_ | refine DW.exit ?_ | refine DW.condT rfl ?_ | refine DW.condF rfl ?_))
    exact DW.ret ⟨.inl rfl, _, rfl, Over.refl _, .same _⟩

theorem vCheck_pure (r : Rg) (rank : Int) (l : List Vc) (hl : l.length ≤ 4611686018427387904) (hv : ∀ v ∈ l, v.length ≤ 4611686018427387904 ∧ ∀ f ∈ v, f.length ≤ 4611686018427387904) : Pure Tryz.prog 13 [rgD r, I rank, vcsD l] (I (vecsCk r rank l)) := by
  intro H
  refine PureH.of_body Tryz.func13 rfl (by decide) (Nat.le_of_ble_eq_true rfl) fun w0 => ?_
  (repeat (first | refine RO.Sv ?_ | refine RO.Yv ?_ | refine RO.no rfl (by decide) rfl ?_ | refine RO.nil ?_ | refine DW.region ?_ | refine DW.seq ?_ | refine DW.block ?_ | refine DW.skip ?_ | refine DW.exit ?_ | refine DW.condT rfl ?_ | refine DW.condF rfl ?_))
  refine RO.sta (sta_call rfl rfl (Ring_pure _ _)) rfl ?_
  (repeat (first | refine RO.Sv ?_ | refine RO.Yv ?_ | refine RO.no rfl (by decide) rfl ?_ | refine RO.nil ?_ | refine DW.region ?_ | refine DW.seq ?_ | refine DW.block ?_ | refine DW.skip ?_ | refine DW.exit ?_ | refine DW.condT rfl ?_ | refine DW.condF rfl ?_))
  by_cases hr : ringCk r = 0
  case neg =>
    have h : vecsCk r rank l = ringCk r := by unfold vecsCk; rw [if_neg hr]
    rw [h, show (ringCk r != 0) = true by simpa using hr]
    (repeat (first | refine RO.Sv ?_ | refine RO.Yv ?_ | refine RO.no rfl (by decide) rfl ?_ | refine RO.nil ?_ | refine DW.region ?_ | refine DW.seq ?_ | refine DW.block ?_ | refine DW.skip ?_ | refine DW.exit ?_ | refine DW.condT rfl ?_ | refine DW.condF rfl ?_))
    exact DW.ret ⟨.inl rfl, _, rfl, Over.refl _, .same _⟩
  have h : vecsCk r rank l = ownCk r rank l := by unfold vecsCk; rw [if_pos hr]
  rw [h, show (ringCk r != 0) = false by simpa using hr]
  (repeat (first | refine RO.Sv ?_ | refine RO.Yv ?_ | refine RO.no rfl (by decide) rfl ?_ | refine RO.nil ?_ | refine DW.region ?_ | refine DW.seq ?_ | refine DW.block ?_ | refine DW.skip ?_ | refine DW.exit ?_ | refine DW.condT rfl ?_ | refine DW.condF rfl ?_))
  refine RO.sta (sta_call rfl rfl (vOwn_pure r rank l hr hl hv _)) rfl ?_
  (repeat (first | refine RO.Sv ?_ | refine RO.Yv ?_ | refine RO.no rfl (by decide) rfl ?_ | refine RO.nil ?_ | refine DW.region ?_ | refine DW.seq ?_ | refine DW.block ?_ | refine DW.skip ?_ | refine DW.exit ?_ | refine DW.condT rfl ?_ | refine DW.condF rfl ?_))
  exact DW.ret ⟨.inl rfl, _, rfl, Over.refl _, .same _⟩

theorem CheckList_pure (r : Rg) (rank : Int) (l : List Vc) (hr : ringCk r = 0) (hl : l.length ≤ 4611686018427387904) (hv : ∀ v ∈ l, v.length ≤ 4611686018427387904 ∧ ∀ f ∈ v, f.length ≤ 4611686018427387904) : Pure Tryz.prog 21 [rgD r, I rank, vcsD l] (I (ownCk r rank l)) := by
  intro H
  refine PureH.of_body Tryz.func21 rfl (by decide) (Nat.le_of_ble_eq_true rfl) fun w0 => ?_
  (repeat (first | refine RO.Sv ?_ | refine RO.Yv ?_ | refine RO.no rfl (by decide) rfl ?_ | refine RO.nil ?_ | refine DW.region ?_ | refine DW.seq ?_ | refine DW.block ?_ | refine DW.skip ?_ | refine DW.exit ?_ | refine DW.condT rfl ?_ | refine DW.condF rfl ?_))
  refine RO.sta (sta_call rfl rfl (between_pure _ _ _ _)) rfl ?_
  (repeat (first | refine RO.Sv ?_ | refine RO.Yv ?_ | refine RO.no rfl (by decide) rfl ?_ | refine RO.nil ?_ | refine DW.region ?_ | refine DW.seq ?_ | refine DW.block ?_ | refine DW.skip ?_ | refine DW.exit ?_ | refine DW.condT rfl ?_ | refine DW.condF rfl ?_))
  cases h1 : (decide (1 ≤ rank) && decide (rank ≤ 40))
  case false =>
    have : ownCk r rank l = 3 := by
      unfold ownCk
      rw [if_pos]
      simp only [Bool.and_eq_false_iff, decide_eq_false_iff_not] at h1
      omega
    rw [this]
    (repeat (first | refine RO.Sv ?_ | refine RO.Yv ?_ | refine RO.no rfl (by decide) rfl ?_ | refine RO.nil ?_ | refine DW.region ?_ | refine DW.seq ?_ | refine DW.block ?_ | refine DW.skip ?_ | refine DW.exit ?_ | refine DW.condT rfl ?_ | refine DW.condF rfl ?_))
    exact DW.ret ⟨.inl rfl, _, rfl, Over.refl _, .same _⟩
  have hrk : ¬ (rank < 1 ∨ 40 < rank) := by
    simp only [Bool.and_eq_true, decide_eq_true_eq] at h1
    omega
  (repeat (first | refine RO.Sv ?_ | refine RO.Yv ?_ | refine RO.no rfl (by decide) rfl ?_ | refine RO.nil ?_ | refine DW.region ?_ | refine DW.seq ?_ | refine DW.block ?_ | refine DW.skip ?_ | refine DW.exit ?_ | refine DW.condT rfl ?_ | refine DW.condF rfl ?_))
  cases h3 : decide ((60 : Int) < (l.length : Int))
  case true =>
    have : ownCk r rank l = 2 := by unfold ownCk; rw [if_neg hrk, if_pos (by have := of_decide_eq_true h3; omega)]
    rw [this]
    (repeat (first | refine RO.Sv ?_ | refine RO.Yv ?_ | refine RO.no rfl (by decide) rfl ?_ | refine RO.nil ?_ | refine DW.region ?_ | refine DW.seq ?_ | refine DW.block ?_ | refine DW.skip ?_ | refine DW.exit ?_ | refine DW.condT rfl ?_ | refine DW.condF rfl ?_))
    exact DW.ret ⟨.inl rfl, _, rfl, Over.refl _, .same _⟩
  have : ownCk r rank l = vecsGo r rank l := by unfold ownCk; rw [if_neg hrk, if_neg (by have := of_decide_eq_false h3; omega)]
  rw [this]
  (repeat (first | refine RO.Sv ?_ | refine RO.Yv ?_ | refine RO.no rfl (by decide) rfl ?_ | refine RO.nil ?_ | refine DW.region ?_ | refine DW.seq ?_ | refine DW.block ?_ | refine DW.skip ?_ | refine DW.exit ?_ | refine DW.condT rfl ?_ | refine DW.condF rfl ?_))
  refine DW.loopI (fun k : Nat => k ≤ l.length ∧ vecsGo r rank (l.drop k) = vecsGo r rank l) (fun k => [(1, I rank), (2, vcsD l), (3, .ipt 4 [rgD r] 0 0), (7, I k)]) (fun _ => H) (fun k => l.length - k) 0 ⟨Nat.zero_le _, rfl⟩ rfl ⟨rfl, rfl, rfl, rfl, trivial⟩ fun k ⟨hk, hg⟩ => ?_
  (repeat (first | refine RO.Sv ?_ | refine RO.Yv ?_ | refine RO.no rfl (by decide) rfl ?_ | refine RO.nil ?_ | refine DW.region ?_ | refine DW.seq ?_ | refine DW.block ?_ | refine DW.skip ?_ | refine DW.exit ?_ | refine DW.condT rfl ?_ | refine DW.condF rfl ?_))
  refine DW.cond rfl (fun hb => ?_) (fun hb => ?_)
  · have hlt : k < l.length := by have := of_decide_eq_true hb; omega
    obtain ⟨hv1, hv2⟩ := hv _ (List.getElem_mem hlt)
    rw [vecsGo_drop hlt] at hg
    clear hb
    (repeat (first | refine RO.Sv ?_ | refine RO.Yv ?_ | refine RO.no rfl (by decide) rfl ?_ | refine RO.nil ?_ | refine DW.region ?_ | refine DW.seq ?_ | refine DW.block ?_ | refine DW.skip ?_ | refine DW.exit ?_ | refine DW.condT rfl ?_ | refine DW.condF rfl ?_))
    by_cases hc : (l[k].length : Int) = rank
    case neg =>
      rw [if_pos hc] at hg
      rw [← hg, show ((l[k].length : Int) != rank) = true by simpa using hc]
      (repeat (first | refine RO.Sv ?_ | refine RO.Yv ?_ | refine RO.no rfl (by decide) rfl ?_ | refine RO.nil ?_ | refine DW.region ?_ | refine DW.seq ?_ | refine DW.block ?_ | refine DW.skip ?_ | refine DW.exit ?_ | refine DW.condT rfl ?_ | refine DW.condF rfl ?_))
      exact DW.ret ⟨.inl rfl, _, rfl, Over.refl _, .same _⟩
    rw [if_neg (by simpa using hc)] at hg
    rw [show ((l[k].length : Int) != rank) = false by simpa using hc]
    (repeat (first | refine RO.Sv ?_ | refine RO.Yv ?_ | refine RO.no rfl (by decide) rfl ?_ | refine RO.nil ?_ | refine DW.region ?_ | refine DW.seq ?_ | refine DW.block ?_ | refine DW.skip ?_ | refine DW.exit ?_ | refine DW.condT rfl ?_ | refine DW.condF rfl ?_))
    refine DW.loopI (fun j : Nat => j ≤ l[k].length ∧ polysGo r (l[k].drop j) = polysGo r l[k]) (fun j => [(1, I rank), (2, vcsD l), (3, .ipt 4 [rgD r] 0 0), (7, I k), (8, I j)]) (fun _ => H) (fun j => l[k].length - j) 0 ⟨Nat.zero_le _, rfl⟩ rfl ⟨rfl, rfl, rfl, rfl, rfl, trivial⟩ fun j ⟨hj, hgj⟩ => ?_
    (repeat (first | refine RO.Sv ?_ | refine RO.Yv ?_ | refine RO.no rfl (by decide) rfl ?_ | refine RO.nil ?_ | refine DW.region ?_ | refine DW.seq ?_ | refine DW.block ?_ | refine DW.skip ?_ | refine DW.exit ?_ | refine DW.condT rfl ?_ | refine DW.condF rfl ?_))
    refine DW.cond rfl (fun hb => ?_) (fun hb => ?_)
    · have hjl : j < l[k].length := by have := of_decide_eq_true hb; omega
      rw [polysGo_drop hjl] at hgj
      clear hb
      (repeat (first | refine RO.Sv ?_ | refine RO.Yv ?_ | refine RO.no rfl (by decide) rfl ?_ | refine RO.nil ?_ | refine DW.region ?_ | refine DW.seq ?_ | refine DW.block ?_ | refine DW.skip ?_ | refine DW.exit ?_ | refine DW.condT rfl ?_ | refine DW.condF rfl ?_))
      refine DW.drawS 10 Tryz.mixed (by kernel_rfl) (by decide) ?_
      dsimp only [List.take, List.drop]
      (repeat (first | refine RS.Sv ?_ | refine RS.Yv ?_ | refine RS.no rfl (by decide) rfl ?_ | refine RS.nil ?_))
      refine RS.sta (fun H' hov => sta_call rfl rfl (CheckOne_pure r l[k][j] hr (hv2 _ (List.getElem_mem hjl)) _)) rfl ?_
      (repeat (first | refine RS.Sv ?_ | refine RS.Yv ?_ | refine RS.no rfl (by decide) rfl ?_ | refine RS.nil ?_))
      (repeat (first | refine RO.Sv ?_ | refine RO.Yv ?_ | refine RO.no rfl (by decide) rfl ?_ | refine RO.nil ?_ | refine DW.region ?_ | refine DW.seq ?_ | refine DW.block ?_ | refine DW.skip ?_ | refine DW.exit ?_ | refine DW.condT rfl ?_ | refine DW.condF rfl ?_))
      by_cases hc2 : polyCk r l[k][j] = 0
      · rw [if_pos hc2] at hgj
        rw [show (polyCk r l[k][j] != 0) = false by simpa using hc2]
        (repeat (first | refine RO.Sv ?_ | refine RO.Yv ?_ | refine RO.no rfl (by decide) rfl ?_ | refine RO.nil ?_ | refine DW.region ?_ | refine DW.seq ?_ | refine DW.block ?_ | refine DW.skip ?_ | refine DW.exit ?_ | refine DW.condT rfl ?_ | refine DW.condF rfl ?_))
        exact ⟨j + 1, ⟨hjl, hgj⟩, by dsimp only; omega, rfl, rfl, rfl, rfl, rfl, rfl, trivial⟩
      · rw [if_neg hc2] at hgj
        rw [← hgj, if_neg hc2] at hg
        rw [← hg, show (polyCk r l[k][j] != 0) = true by simpa using hc2]
        (repeat (first | refine RO.Sv ?_ | refine RO.Yv ?_ | refine RO.no rfl (by decide) rfl ?_ | refine RO.nil ?_ | refine DW.region ?_ | refine DW.seq ?_ | refine DW.block ?_ | refine DW.skip ?_ | refine DW.exit ?_ | refine DW.condT rfl ?_ | refine DW.condF rfl ?_))
        exact DW.ret ⟨.inl rfl, _, rfl, Over.refl _, .same _⟩
    · have hje : j = l[k].length := by have := of_decide_eq_false hb; omega
      have hz : polysGo r l[k] = 0 := by rw [← hgj, hje, List.drop_length]; rfl
      rw [if_pos hz] at hg
      (repeat (first | refine RO.Sv ?_ | refine RO.Yv ?_ | refine RO.no rfl (by decide) rfl ?_ | refine RO.nil ?_ | refine DW.region ?_ | refine DW.seq ?_ | refine DW.block ?_ | refine DW.skip ?_ | refine DW.exit ?_ | refine DW.condT rfl ?_ | refine DW.condF rfl ?_))
      exact ⟨k + 1, ⟨hlt, hg⟩, by dsimp only; omega, rfl, rfl, rfl, rfl, rfl, trivial⟩
  · have hge : k = l.length := by have := of_decide_eq_false hb; omega
    subst hge
    have : vecsGo r rank l = 0 := by rw [← hg]; simp [vecsGo]
    rw [this]
    (repeat (first | refine RO.Sv ?_ | refine RO.Yv ?_ | refine RO.no rfl (by decide) rfl ?_ | refine RO.nil ?_ | refine DW.region ?_ | refine DW.seq ?_ | refine DW.block ?_ | refine DW.skip ?_ | refine DW.exit ?_ | refine DW.condT rfl ?_ | refine DW.condF rfl ?_))
    exact DW.ret ⟨.inl rfl, _, rfl, Over.refl _, .same _⟩

theorem CheckVectors_pure (r : Rg) (rank : Int) (l : List Vc) (hl : l.length ≤ 4611686018427387904) (hv : ∀ v ∈ l, v.length ≤ 4611686018427387904 ∧ ∀ f ∈ v, f.length ≤ 4611686018427387904) : Pure Tryz.prog 6 [rgD r, I rank, vcsD l] (I (vecsCk r rank l)) := by
  intro H
  refine PureH.of_body Tryz.func6 rfl (by decide) (Nat.le_of_ble_eq_true rfl) fun w0 => ?_
  (repeat (first | refine RO.Sv ?_ | refine RO.Yv ?_ | refine RO.no rfl (by decide) rfl ?_ | refine RO.nil ?_ | refine DW.region ?_ | refine DW.seq ?_ | refine DW.block ?_ | refine DW.skip ?_ | refine DW.exit ?_ | refine DW.condT rfl ?_ | refine DW.condF rfl ?_))
  refine RO.sta (sta_call rfl rfl (CheckRing_pure _ _)) rfl ?_
  (repeat (first | refine RO.Sv ?_ | refine RO.Yv ?_ | refine RO.no rfl (by decide) rfl ?_ | refine RO.nil ?_ | refine DW.region ?_ | refine DW.seq ?_ | refine DW.block ?_ | refine DW.skip ?_ | refine DW.exit ?_ | refine DW.condT rfl ?_ | refine DW.condF rfl ?_))
  by_cases hr : ringCk r = 0
  case neg =>
    have h : vecsCk r rank l = ringCk r := by unfold vecsCk; rw [if_neg hr]
    rw [h, show (ringCk r == 0) = false by simpa using hr]
    (repeat (first | refine RO.Sv ?_ | refine RO.Yv ?_ | refine RO.no rfl (by decide) rfl ?_ | refine RO.nil ?_ | refine DW.region ?_ | refine DW.seq ?_ | refine DW.block ?_ | refine DW.skip ?_ | refine DW.exit ?_ | refine DW.condT rfl ?_ | refine DW.condF rfl ?_))
    exact DW.ret ⟨.inl rfl, _, rfl, Over.refl _, .same _⟩
  have h : vecsCk r rank l = ownCk r rank l := by unfold vecsCk; rw [if_pos hr]
  rw [h, show (ringCk r == 0) = true by simpa using hr]
  (repeat (first | refine RO.Sv ?_ | refine RO.Yv ?_ | refine RO.no rfl (by decide) rfl ?_ | refine RO.nil ?_ | refine DW.region ?_ | refine DW.seq ?_ | refine DW.block ?_ | refine DW.skip ?_ | refine DW.exit ?_ | refine DW.condT rfl ?_ | refine DW.condF rfl ?_))
  refine RO.sta (sta_call rfl rfl (CheckList_pure r rank l hr hl hv _)) rfl ?_
  (repeat (first | refine RO.Sv ?_ | refine RO.Yv ?_ | refine RO.no rfl (by decide) rfl ?_ | refine RO.nil ?_ | refine DW.region ?_ | refine DW.seq ?_ | refine DW.block ?_ | refine DW.skip ?_ | refine DW.exit ?_ | refine DW.condT rfl ?_ | refine DW.condF rfl ?_))
  exact DW.ret ⟨.inl rfl, _, rfl, Over.refl _, .same _⟩

end Go.Proofs.YtcdihmhmoddppaaGreat

namespace Go.Proofs.YtcdihmhmoddppaaGreat
set_option linter.unusedVariables false
set_option linter.unusedSimpArgs false

/-- Each polynomial of a vector is bounded. -/
def VB (r : Rg) (n : Nat) (B : Int) (L : Nat) (v : Vc) : Prop := ∀ f ∈ v, PB 1 r.p r.order n B f ∧ f.length ≤ L

theorem VOk.vb {r : Rg} {k : Nat} {v : Vc} (h : VOk r k v) : VB r r.n.toNat 200 2000 v := fun f hf => ⟨(h.all f hf).ok, (h.all f hf).len⟩

theorem topT_bounds {f : Pl} (h : ∀ t ∈ f, MOk t.e) : -1 ≤ topT f ∧ topT f ≤ 3000000 := by
  cases f with
  | nil => exact ⟨Int.le_refl _, by decide⟩
  | cons t f => have := (h t (by simp)).sum; exact ⟨by show -1 ≤ t.e.sum; omega, this.2⟩

def firstT (r : Rg) (i : Int) (a : List Int) (k : Int) (b : List Int) : Bool := if (r.over = 2 ∧ i ≠ k) ∨ cmpM r.order a b = 0 then decide (i < k) else decide (0 < cmpM r.order a b)

def topStep (r : Rg) (x : Option (Nat × Tm)) (i : Nat) : Pl → Option (Nat × Tm)
  | [] => x
  | t :: _ => match x with
    | none => some (i, t)
    | some (a, u) => if firstT r i t.e a u.e = true then some (i, t) else some (a, u)

def topAt (r : Rg) (v : Vc) : Nat → Option (Nat × Tm)
  | 0 => none
  | k + 1 => topStep r (topAt r v k) k (v.getD k [])

/-- The lead of a vector: its place, and its term. -/
def topV (r : Rg) (v : Vc) : Option (Nat × Tm) := topAt r v v.length

def atOf : Option (Nat × Tm) → Int
  | none => -1
  | some x => x.1

def tmOf : Option (Nat × Tm) → Tm
  | none => ⟨0, []⟩
  | some x => x.2

theorem topAt_succ {r : Rg} {v : Vc} {k : Nat} (h : k < v.length) : topAt r v (k + 1) = topStep r (topAt r v k) k v[k] := by
  show topStep r (topAt r v k) k (v.getD k []) = _
  rw [List.getD_eq_getElem?_getD, List.getElem?_eq_getElem h]
  rfl

theorem topStep_none {r : Rg} {k : Nat} {f : Pl} (h : 0 < f.length) : topStep r none k f = some (k, f[0]) := by
  cases f with
  | nil => simp at h
  | cons t g => rfl

theorem topStep_some {r : Rg} {k a : Nat} {u : Tm} {f : Pl} (h : 0 < f.length) : topStep r (some (a, u)) k f = if firstT r k f[0].e a u.e = true then some (k, f[0]) else some (a, u) := by
  cases f with
  | nil => simp at h
  | cons t g => rfl

theorem topAt_ok {r : Rg} {v : Vc} : ∀ {k : Nat}, k ≤ v.length → ∀ {a : Nat} {u : Tm}, topAt r v k = some (a, u) → a < k ∧ ∃ (h : a < v.length) (h2 : 0 < v[a].length), v[a][0] = u
  | 0, _, a, u, h => by cases h
  | k + 1, hk, a, u, h => by
    rw [topAt_succ hk] at h
    have old : ∀ {a u}, topAt r v k = some (a, u) → a < k + 1 ∧ ∃ (h : a < v.length) (h2 : 0 < v[a].length), v[a][0] = u := fun hx => by
      obtain ⟨h1, h2⟩ := topAt_ok (by omega) hx
      exact ⟨by omega, h2⟩
    unfold topStep at h
    split at h
    · exact old h
    · rename_i t g hv
      have new : k < k + 1 ∧ ∃ (h : k < v.length) (h2 : 0 < v[k].length), v[k][0] = t := ⟨by omega, hk, by rw [hv]; simp, by simp [hv]⟩
      split at h
      · cases h; exact new
      · rename_i a' u' hx
        split at h
        · cases h; exact new
        · cases h; exact old hx

/-- A term behind the first one is never ahead. -/
theorem ahead_no {r : Rg} {v : Vc} {n : Nat} {B : Int} {L : Nat} (hv : VB r n B L v) {i j : Nat} (hi : i < v.length) (hj0 : 0 < j) (hj : j < v[i].length) : ∃ a u, topAt r v (i + 1) = some (a, u) ∧ firstT r i v[i][j].e a u.e = false := by
  have hvi := (hv _ (List.getElem_mem hi)).1
  rw [topAt_succ hi]
  match hf : v[i], hj with
  | [], hj => simp at hj
  | t :: g, hj =>
    have hpb : PB 1 r.p r.order n B (t :: g) := hf ▸ hvi
    have hjm : (t :: g)[j] ∈ g := by
      match j, hj0, hj with
      | j + 1, _, hj => simp
    have hlt : 0 < cmpM r.order t.e (t :: g)[j].e := hpb.below _ hjm
    have hanti := cmpM_anti r.order (t :: g)[j].e t.e
    have hlen : (t :: g)[j].e.length = t.e.length := by rw [(hpb.all _ (List.getElem_mem hj)).len, hpb.head.len]
    generalize hs : (t :: g)[j] = s at *
    have self : firstT r i s.e i t.e = false := by
      unfold firstT
      rw [if_neg (by omega)]
      exact decide_eq_false (by omega)
    unfold topStep
    cases hx : topAt r v i with
    | none => exact ⟨i, t, rfl, self⟩
    | some x =>
      obtain ⟨a, u⟩ := x
      dsimp only
      split
      · exact ⟨i, t, rfl, self⟩
      · rename_i hno
        refine ⟨a, u, rfl, ?_⟩
        obtain ⟨_, ha, ha2, hau⟩ := topAt_ok (Nat.le_of_lt hi) hx
        have hul : u.e.length = t.e.length := by
          have h1 := ((hv _ (List.getElem_mem ha)).1.all _ (List.getElem_mem ha2)).len
          rw [hau] at h1
          rw [h1, hpb.head.len]
        have hanti2 := cmpM_anti r.order t.e u.e
        have hanti3 := cmpM_anti r.order s.e u.e
        unfold firstT at hno ⊢
        by_cases hov : r.over = 2 ∧ (i : Int) ≠ a
        · rw [if_pos (.inl hov)] at hno ⊢
          simpa using hno
        · by_cases h0 : cmpM r.order t.e u.e = 0
          · rw [if_pos (.inr h0)] at hno
            have hteq := cmpM_zero hul.symm h0
            rw [← hteq, if_neg (by simp only [hov, false_or]; omega)]
            exact decide_eq_false (by omega)
          · rw [if_neg (by simp only [hov, false_or]; exact h0)] at hno
            have hno' : ¬ 0 < cmpM r.order t.e u.e := by simpa using hno
            have := (cmpM_trans (o := r.order) (a := u.e) (b := t.e) (c := s.e) hul hlen.symm (by omega) (by omega)).2 (.inr hlt)
            rw [if_neg (by simp only [hov, false_or]; omega)]
            exact decide_eq_false (by omega)

/-- What Lead answers. -/
def leadT (r : Rg) (v : Vc) : Int × Tm × Int := if alikeCk r [v] ≠ 0 then (0, ⟨0, []⟩, alikeCk r [v]) else match topV r v with
  | none => (0, ⟨0, []⟩, 5)
  | some (a, t) => (a, t, 0)

end Go.Proofs.YtcdihmhmoddppaaGreat

namespace Go.Proofs.YtcdihmhmoddppaaGreat
open Go.RowKit
set_option linter.unusedVariables false
set_option linter.unusedSimpArgs false
set_option maxHeartbeats 8000000

/-- Each polynomial of a vector, by a function. -/
theorem vEach_pureH {H : Heap} {f : FuncId} {caps : List D} (v o : Vc) (hl : v.length ≤ 1000000) (ho : o.length = v.length) (hg : ∀ H', Over H H' → ∀ (i : Nat) (h1 : i < v.length) (h2 : i < o.length), PureH Tryz.prog H' f (I i :: plD v[i] :: caps) (plD o[i])) :
    PureH Tryz.prog H 75 [vcD v, .fn f caps] (vcD o) := by
  refine PureH.of_body Tryz.func75 rfl (by decide) (Nat.le_of_ble_eq_true rfl) fun w0 => ?_
  (repeat (first | refine RO.S ?_ | refine RO.Y ?_ | refine RO.no rfl (by decide) rfl ?_ | refine RO.nil ?_ | refine DW.region ?_ | refine DW.seq ?_ | refine DW.block ?_ | refine DW.skip ?_ | refine DW.exit ?_ | refine DW.condT rfl ?_ | refine DW.condF rfl ?_))
  refine RO.dyn rfl (d_make rfl rfl (Nat.le_refl _) (by omega) (by omega) fun x hx => ?_)
  have hov : ∀ y, Over H (H.set x y) := fun y => (Over.refl _).set hx
  (repeat (first | refine RO.S ?_ | refine RO.Y ?_ | refine RO.no rfl (by decide) rfl ?_ | refine RO.nil ?_ | refine DW.region ?_ | refine DW.seq ?_ | refine DW.block ?_ | refine DW.skip ?_ | refine DW.exit ?_ | refine DW.condT rfl ?_ | refine DW.condF rfl ?_))
  rw [flatten_replicate1]
  refine DW.loopI (fun k : Nat => k ≤ v.length) (fun k => [(1, .fn f caps), (5, .ref x 0 v.length 1), (11, vcD v), (12, I v.length), (13, I k)]) (fun k => H.set x (31, rowTo (o.map plD) .nil k)) (fun k => v.length - k) 0 (Nat.zero_le _)
    (by rw [rowTo_zero, List.length_map, ho]) ⟨rfl, rfl, rfl, rfl, rfl, trivial⟩ fun k hk => ?_
  (repeat (first | refine RO.S ?_ | refine RO.Y ?_ | refine RO.no rfl (by decide) rfl ?_ | refine RO.nil ?_ | refine DW.region ?_ | refine DW.seq ?_ | refine DW.block ?_ | refine DW.skip ?_ | refine DW.exit ?_ | refine DW.condT rfl ?_ | refine DW.condF rfl ?_))
  refine DW.cond rfl (fun hb => ?_) (fun hb => ?_)
  · have hlt : k < v.length := by have := of_decide_eq_true hb; omega
    have hlt2 : k < o.length := by omega
    clear hb
    (repeat (first | refine RO.S ?_ | refine RO.Y ?_ | refine RO.no rfl (by decide) rfl ?_ | refine RO.nil ?_ | refine DW.region ?_ | refine DW.seq ?_ | refine DW.block ?_ | refine DW.skip ?_ | refine DW.exit ?_ | refine DW.condT rfl ?_ | refine DW.condF rfl ?_))
    refine RO.sta (sta_call rfl rfl (hg _ (hov _) k hlt hlt2)) rfl ?_
    refine RO.sta (s_indexRef rfl rfl hlt) rfl ?_
    refine RO.dyn rfl (d_store (k := 1) rfl rfl rfl (Heap.set_self _ _ _) (by rw [rowTo_len _ _ (by simp; omega)]; simp [cellsOf, plD]; omega) (by simp [cellsOf, D.isCell, plD]) ?_)
    (repeat (first | refine RO.S ?_ | refine RO.Y ?_ | refine RO.no rfl (by decide) rfl ?_ | refine RO.nil ?_ | refine DW.region ?_ | refine DW.seq ?_ | refine DW.block ?_ | refine DW.skip ?_ | refine DW.exit ?_ | refine DW.condT rfl ?_ | refine DW.condF rfl ?_))
    refine ⟨k + 1, hlt, by dsimp only; omega, ?_, rfl, rfl, rfl, rfl, rfl, trivial⟩
    rw [Heap.set_set]
    dsimp only
    have h1 := rowTo_set (l := o.map plD) (z := .nil) (k := k) (by simp; omega)
    rw [← h1]
    simp only [List.getElem_map, cellsOf, plD, Nat.zero_add, Nat.mul_one]
  · have hge : k = v.length := by have := of_decide_eq_false hb; omega
    subst hge
    (repeat (first | refine RO.S ?_ | refine RO.Y ?_ | refine RO.no rfl (by decide) rfl ?_ | refine RO.nil ?_ | refine DW.region ?_ | refine DW.seq ?_ | refine DW.block ?_ | refine DW.skip ?_ | refine DW.exit ?_ | refine DW.condT rfl ?_ | refine DW.condF rfl ?_))
    refine DW.ret ⟨.inl rfl, _, rfl, hov _, ?_⟩
    have : rowTo (o.map plD) .nil v.length = (o.map plD).flatMap cellsOf := by
      rw [flat_cells1 (fun _ => rfl)]
      have := rowTo_all (o.map plD) .nil
      rwa [List.length_map, ho] at this
    refine Frz.list (T := 31) (by rw [Heap.set_self, this]) hx (uni_pl _) (by simp [ho])

theorem vSum1_pureH {H : Heap} (r : Rg) (w : Vc) (i : Nat) (f g : Pl) (hi : i < w.length) (hs : PureH Tryz.prog H 108 [rgD r, plD f, plD w[i]] (plD g)) :
    PureH Tryz.prog H 107 [I i, plD f, .ipt 4 [rgD r] 0 0, .ipt 1 [vcD w] 0 0] (plD g) := by
  refine PureH.of_body Tryz.func107 rfl (by decide) (Nat.le_of_ble_eq_true rfl) fun w0 => ?_
  (repeat (first | refine RO.Sv ?_ | refine RO.Yv ?_ | refine RO.no rfl (by decide) rfl ?_ | refine RO.nil ?_ | refine DW.region ?_ | refine DW.seq ?_ | refine DW.block ?_ | refine DW.skip ?_ | refine DW.exit ?_ | refine DW.condT rfl ?_ | refine DW.condF rfl ?_))
  refine DW.drawS 6 Tryz.mixed (by kernel_rfl) (by decide) ?_
  dsimp only [List.take, List.drop]
  (repeat (first | refine RS.Sv ?_ | refine RS.Yv ?_ | refine RS.no rfl (by decide) rfl ?_ | refine RS.nil ?_))
  refine RO.sta (sta_call rfl rfl hs) rfl ?_
  (repeat (first | refine RO.Sv ?_ | refine RO.Yv ?_ | refine RO.no rfl (by decide) rfl ?_ | refine RO.nil ?_ | refine DW.region ?_ | refine DW.seq ?_ | refine DW.block ?_ | refine DW.skip ?_ | refine DW.exit ?_ | refine DW.condT rfl ?_ | refine DW.condF rfl ?_))
  exact DW.ret ⟨.inl rfl, _, rfl, Over.refl _, .same _⟩

theorem vsumT_len {r : Rg} {v w : Vc} (h : v.length = w.length) : (vsumT r v w).length = v.length := by unfold vsumT; rw [List.length_zipWith]; omega

theorem vSum_pure (r : Rg) (v w : Vc) {n : Nat} {B : Int} {L M : Nat} (hn : n ≤ 3) (hB : B ≤ 1000000) (hp : 2 ≤ r.p ∧ r.p ≤ 101) (hl : v.length ≤ 1000000) (hvw : v.length = w.length) (hLM : L + M ≤ 4000000000000) (hv : VB r n B L v) (hw : VB r n B M w) :
    Pure Tryz.prog 74 [rgD r, vcD v, vcD w] (vcD (vsumT r v w)) := by
  intro H
  refine PureH.of_body Tryz.func74 rfl (by decide) (Nat.le_of_ble_eq_true rfl) fun w0 => ?_
  (repeat (first | refine RO.Sv ?_ | refine RO.Yv ?_ | refine RO.no rfl (by decide) rfl ?_ | refine RO.nil ?_ | refine DW.region ?_ | refine DW.seq ?_ | refine DW.block ?_ | refine DW.skip ?_ | refine DW.exit ?_ | refine DW.condT rfl ?_ | refine DW.condF rfl ?_))
  refine RO.sta (sta_call rfl rfl (vEach_pureH v (vsumT r v w) hl (vsumT_len hvw) fun H' _ i h1 h2 => ?_)) rfl ?_
  · obtain ⟨a1, a2⟩ := hv _ (List.getElem_mem h1)
    obtain ⟨b1, b2⟩ := hw _ (List.getElem_mem (show i < w.length by omega))
    have he : (vsumT r v w)[i] = sumT r.p r.order v[i] (w[i]'(by omega)) := by simp [vsumT]
    rw [he]
    exact vSum1_pureH r w i v[i] _ (by omega) (sum_pure r v[i] w[i] hn hB hp (by omega) a1 b1 H')
  (repeat (first | refine RO.Sv ?_ | refine RO.Yv ?_ | refine RO.no rfl (by decide) rfl ?_ | refine RO.nil ?_ | refine DW.region ?_ | refine DW.seq ?_ | refine DW.block ?_ | refine DW.skip ?_ | refine DW.exit ?_ | refine DW.condT rfl ?_ | refine DW.condF rfl ?_))
  exact DW.ret ⟨.inl rfl, _, rfl, Over.refl _, .same _⟩

theorem vBy1_pureH {H : Heap} (r : Rg) (t : Tm) (i : Int) (f g : Pl) (hs : PureH Tryz.prog H 109 [rgD r, plD f, tmD t] (plD g)) :
    PureH Tryz.prog H 111 [I i, plD f, .ipt 4 [rgD r] 0 0, .ipt 2 [tmD t] 0 0] (plD g) := by
  refine PureH.of_body Tryz.func111 rfl (by decide) (Nat.le_of_ble_eq_true rfl) fun w0 => ?_
  (repeat (first | refine RO.Sv ?_ | refine RO.Yv ?_ | refine RO.no rfl (by decide) rfl ?_ | refine RO.nil ?_ | refine DW.region ?_ | refine DW.seq ?_ | refine DW.block ?_ | refine DW.skip ?_ | refine DW.exit ?_ | refine DW.condT rfl ?_ | refine DW.condF rfl ?_))
  refine RO.sta (sta_call rfl rfl hs) rfl ?_
  (repeat (first | refine RO.Sv ?_ | refine RO.Yv ?_ | refine RO.no rfl (by decide) rfl ?_ | refine RO.nil ?_ | refine DW.region ?_ | refine DW.seq ?_ | refine DW.block ?_ | refine DW.skip ?_ | refine DW.exit ?_ | refine DW.condT rfl ?_ | refine DW.condF rfl ?_))
  exact DW.ret ⟨.inl rfl, _, rfl, Over.refl _, .same _⟩

theorem vBy_pure (r : Rg) (v : Vc) (t : Tm) {n : Nat} {B C : Int} {L : Nat} (hn : n ≤ 3) (hB : B ≤ 1000000) (hC : C ≤ 1000000) (hp : 2 ≤ r.p ∧ r.p ≤ 101) (hl : v.length ≤ 1000000) (hL : L ≤ 4000000000000) (hv : VB r n B L v) (ht : TB 0 r.p n C t) :
    Pure Tryz.prog 82 [rgD r, vcD v, tmD t] (vcD (vbyT r v t)) := by
  intro H
  refine PureH.of_body Tryz.func82 rfl (by decide) (Nat.le_of_ble_eq_true rfl) fun w0 => ?_
  (repeat (first | refine RO.Sv ?_ | refine RO.Yv ?_ | refine RO.no rfl (by decide) rfl ?_ | refine RO.nil ?_ | refine DW.region ?_ | refine DW.seq ?_ | refine DW.block ?_ | refine DW.skip ?_ | refine DW.exit ?_ | refine DW.condT rfl ?_ | refine DW.condF rfl ?_))
  refine RO.sta (sta_call rfl rfl (vEach_pureH v (vbyT r v t) hl (by simp [vbyT]) fun H' _ i h1 h2 => ?_)) rfl ?_
  · obtain ⟨a1, a2⟩ := hv _ (List.getElem_mem h1)
    have he : (vbyT r v t)[i] = byT r.p v[i] t := by simp [vbyT]
    rw [he]
    exact vBy1_pureH r t i v[i] _ (by_pure r v[i] t hn hB hC hp (by omega) (fun x hx => (a1.all x hx).mono (by omega) (by omega)) ht H')
  (repeat (first | refine RO.Sv ?_ | refine RO.Yv ?_ | refine RO.no rfl (by decide) rfl ?_ | refine RO.nil ?_ | refine DW.region ?_ | refine DW.seq ?_ | refine DW.block ?_ | refine DW.skip ?_ | refine DW.exit ?_ | refine DW.condT rfl ?_ | refine DW.condF rfl ?_))
  exact DW.ret ⟨.inl rfl, _, rfl, Over.refl _, .same _⟩

theorem vCopied1_pureH {H : Heap} (i : Int) (f : Pl) (hl : f.length ≤ 4000000000000) (hm : ∀ t ∈ f, t.e.length ≤ 3) : PureH Tryz.prog H 98 [I i, plD f] (plD f) := by
  refine PureH.of_body Tryz.func98 rfl (by decide) (Nat.le_of_ble_eq_true rfl) fun w0 => ?_
  (repeat (first | refine RO.Sv ?_ | refine RO.Yv ?_ | refine RO.no rfl (by decide) rfl ?_ | refine RO.nil ?_ | refine DW.region ?_ | refine DW.seq ?_ | refine DW.block ?_ | refine DW.skip ?_ | refine DW.exit ?_ | refine DW.condT rfl ?_ | refine DW.condF rfl ?_))
  refine RO.sta (sta_call rfl rfl (copied_pure f hl hm _)) rfl ?_
  (repeat (first | refine RO.Sv ?_ | refine RO.Yv ?_ | refine RO.no rfl (by decide) rfl ?_ | refine RO.nil ?_ | refine DW.region ?_ | refine DW.seq ?_ | refine DW.block ?_ | refine DW.skip ?_ | refine DW.exit ?_ | refine DW.condT rfl ?_ | refine DW.condF rfl ?_))
  exact DW.ret ⟨.inl rfl, _, rfl, Over.refl _, .same _⟩

theorem vCopied_pure (v : Vc) (hl : v.length ≤ 1000000) (hm : ∀ f ∈ v, f.length ≤ 4000000000000 ∧ ∀ t ∈ f, t.e.length ≤ 3) : Pure Tryz.prog 64 [vcD v] (vcD v) := by
  intro H
  refine PureH.of_body Tryz.func64 rfl (by decide) (Nat.le_of_ble_eq_true rfl) fun w0 => ?_
  (repeat (first | refine RO.Sv ?_ | refine RO.Yv ?_ | refine RO.no rfl (by decide) rfl ?_ | refine RO.nil ?_ | refine DW.region ?_ | refine DW.seq ?_ | refine DW.block ?_ | refine DW.skip ?_ | refine DW.exit ?_ | refine DW.condT rfl ?_ | refine DW.condF rfl ?_))
  refine RO.sta (sta_call rfl rfl (vEach_pureH (caps := []) v v hl rfl fun H' _ i h1 h2 => ?_)) rfl ?_
  · exact vCopied1_pureH i v[i] (hm _ (List.getElem_mem h1)).1 (hm _ (List.getElem_mem h1)).2
  (repeat (first | refine RO.Sv ?_ | refine RO.Yv ?_ | refine RO.no rfl (by decide) rfl ?_ | refine RO.nil ?_ | refine DW.region ?_ | refine DW.seq ?_ | refine DW.block ?_ | refine DW.skip ?_ | refine DW.exit ?_ | refine DW.condT rfl ?_ | refine DW.condF rfl ?_))
  exact DW.ret ⟨.inl rfl, _, rfl, Over.refl _, .same _⟩

/-- Nought: a row that may be written. -/
theorem nought_call {H : Heap} (n : Nat) (hn : n ≤ 1000000) : CallD Tryz.prog H 73 [I n] (fun d H' => ∃ b, H b = none ∧ d = .ref b 0 n 1 ∧ H' = H.set b (31, List.replicate n .nil)) := by
  refine CallD.of_body Tryz.func73 rfl (by decide) (Nat.le_of_ble_eq_true rfl) fun w0 => ?_
  (repeat (first | refine RO.Sv ?_ | refine RO.Yv ?_ | refine RO.no rfl (by decide) rfl ?_ | refine RO.nil ?_ | refine DW.region ?_ | refine DW.seq ?_ | refine DW.block ?_ | refine DW.skip ?_ | refine DW.exit ?_ | refine DW.condT rfl ?_ | refine DW.condF rfl ?_))
  refine RO.dyn rfl (d_make rfl rfl (Nat.le_refl _) (by omega) (by omega) fun x hx => ?_)
  (repeat (first | refine RO.Sv ?_ | refine RO.Yv ?_ | refine RO.no rfl (by decide) rfl ?_ | refine RO.nil ?_ | refine DW.region ?_ | refine DW.seq ?_ | refine DW.block ?_ | refine DW.skip ?_ | refine DW.exit ?_ | refine DW.condT rfl ?_ | refine DW.condF rfl ?_))
  rw [flatten_replicate1]
  exact DW.ret ⟨.inl rfl, _, _, _, rfl, Heap.sub_refl _, .same _, x, hx, rfl, rfl⟩

theorem nought_pure (n : Nat) (hn : n ≤ 1000000) : Pure Tryz.prog 73 [I n] (vcD (List.replicate n [])) := by
  intro H
  refine PureH.of_body Tryz.func73 rfl (by decide) (Nat.le_of_ble_eq_true rfl) fun w0 => ?_
  (repeat (first | refine RO.Sv ?_ | refine RO.Yv ?_ | refine RO.no rfl (by decide) rfl ?_ | refine RO.nil ?_ | refine DW.region ?_ | refine DW.seq ?_ | refine DW.block ?_ | refine DW.skip ?_ | refine DW.exit ?_ | refine DW.condT rfl ?_ | refine DW.condF rfl ?_))
  refine RO.dyn rfl (d_make rfl rfl (Nat.le_refl _) (by omega) (by omega) fun x hx => ?_)
  (repeat (first | refine RO.Sv ?_ | refine RO.Yv ?_ | refine RO.no rfl (by decide) rfl ?_ | refine RO.nil ?_ | refine DW.region ?_ | refine DW.seq ?_ | refine DW.block ?_ | refine DW.skip ?_ | refine DW.exit ?_ | refine DW.condT rfl ?_ | refine DW.condF rfl ?_))
  rw [flatten_replicate1]
  refine DW.ret ⟨.inl rfl, _, rfl, (Over.refl _).set hx, ?_⟩
  unfold vcD
  rw [List.map_replicate]
  exact frz_nils (T := 31) (Heap.set_self _ _ _) hx

def vecE (x : Vc × Int) : D := .tup [vcD x.1, I x.2]

theorem VSum_pure (r : Rg) (v w : Vc) {n : Nat} {B : Int} {L M : Nat} (hn : n ≤ 3) (hB : B ≤ 1000000) (hp : 2 ≤ r.p ∧ r.p ≤ 101) (hl : v.length ≤ 1000000) (hvw : v.length = w.length) (hLM : L + M ≤ 4000000000000) (hv : VB r n B L v) (hw : VB r n B M w) :
    Pure Tryz.prog 62 [rgD r, vcD v, vcD w] (vcD (vsumT r v w)) := by
  intro H
  refine PureH.of_body Tryz.func62 rfl (by decide) (Nat.le_of_ble_eq_true rfl) fun w0 => ?_
  have hlen := vsumT_len (r := r) hvw
  (repeat (first | refine RO.Sv ?_ | refine RO.Yv ?_ | refine RO.no rfl (by decide) rfl ?_ | refine RO.nil ?_ | refine DW.region ?_ | refine DW.seq ?_ | refine DW.block ?_ | refine DW.skip ?_ | refine DW.exit ?_ | refine DW.condT rfl ?_ | refine DW.condF rfl ?_))
  refine DW.loopI (fun x : Nat × Heap × D => x.1 ≤ v.length ∧ Acc H x.2.1 x.2.2 1 31 (((vsumT r v w).take x.1).map plD) ∧ Over H x.2.1) (fun x => [(1, vcD v), (2, vcD w), (3, .ipt 4 [rgD r] 0 0), (7, x.2.2), (8, I x.1)]) (fun x => x.2.1) (fun x => v.length - x.1) (0, H, .nil)
    ⟨Nat.zero_le _, Acc.nil _ _ _ _, Over.refl _⟩ rfl ⟨rfl, rfl, rfl, rfl, rfl, trivial⟩ fun ⟨k, Hk, d⟩ ⟨hk, hacc, hov⟩ => ?_
  dsimp only at hk hacc hov
  dsimp only
  (repeat (first | refine RO.Sv ?_ | refine RO.Yv ?_ | refine RO.no rfl (by decide) rfl ?_ | refine RO.nil ?_ | refine DW.region ?_ | refine DW.seq ?_ | refine DW.block ?_ | refine DW.skip ?_ | refine DW.exit ?_ | refine DW.condT rfl ?_ | refine DW.condF rfl ?_))
  refine DW.cond rfl (fun hb => ?_) (fun hb => ?_)
  · have hlt : k < v.length := by have := of_decide_eq_true hb; omega
    have hlt2 : k < w.length := by omega
    clear hb
    obtain ⟨a1, a2⟩ := hv _ (List.getElem_mem hlt)
    obtain ⟨b1, b2⟩ := hw _ (List.getElem_mem hlt2)
    have he : (vsumT r v w)[k]'(by omega) = sumT r.p r.order v[k] w[k] := by simp [vsumT]
    (repeat (first | refine RO.Sv ?_ | refine RO.Yv ?_ | refine RO.no rfl (by decide) rfl ?_ | refine RO.nil ?_ | refine DW.region ?_ | refine DW.seq ?_ | refine DW.block ?_ | refine DW.skip ?_ | refine DW.exit ?_ | refine DW.condT rfl ?_ | refine DW.condF rfl ?_))
    refine DW.drawS 12 Tryz.mixed (by kernel_rfl) (by decide) ?_
    dsimp only [List.take, List.drop]
    (repeat (first | refine RS.Sv ?_ | refine RS.Yv ?_ | refine RS.no rfl (by decide) rfl ?_ | refine RS.nil ?_))
    refine RS.sta (fun H' hov => sta_call rfl rfl (refSum_pure r v[k] w[k] hn hB hp (by omega) a1 b1 _)) rfl ?_
    (repeat (first | refine RS.Sv ?_ | refine RS.Yv ?_ | refine RS.no rfl (by decide) rfl ?_ | refine RS.nil ?_))
    refine RO.dyn rfl (d_append (H0 := H) (xs := [plD (sumT r.p r.order v[k] w[k])]) rfl hacc hov rfl (.inl rfl) (uni_pl [sumT r.p r.order v[k] w[k]]) (by simp; omega) (by simp; omega) fun d' H' q1 q2 q3 => ?_)
    (repeat (first | refine RO.Sv ?_ | refine RO.Yv ?_ | refine RO.no rfl (by decide) rfl ?_ | refine RO.nil ?_ | refine DW.region ?_ | refine DW.seq ?_ | refine DW.block ?_ | refine DW.skip ?_ | refine DW.exit ?_ | refine DW.condT rfl ?_ | refine DW.condF rfl ?_))
    refine ⟨(k + 1, H', d'), ⟨hlt, ?_, q2⟩, by dsimp only; omega, rfl, rfl, rfl, rfl, rfl, rfl, trivial⟩
    dsimp only
    rw [List.take_succ_eq_append_getElem (by omega), List.map_append, he]
    exact q1
  · have hke : k = v.length := by have := of_decide_eq_false hb; omega
    rw [hke, List.take_of_length_le (by omega)] at hacc
    (repeat (first | refine RO.Sv ?_ | refine RO.Yv ?_ | refine RO.no rfl (by decide) rfl ?_ | refine RO.nil ?_ | refine DW.region ?_ | refine DW.seq ?_ | refine DW.block ?_ | refine DW.skip ?_ | refine DW.exit ?_ | refine DW.condT rfl ?_ | refine DW.condF rfl ?_))
    exact DW.ret ⟨.inl rfl, _, rfl, hov, hacc.done⟩

theorem VTimes_pure (r : Rg) (f : Pl) (v : Vc) {n : Nat} {B C : Int} {L : Nat} (hn : n ≤ 3) (hB : B + C ≤ 1000000) (hB0 : 0 ≤ B) (hC0 : 0 ≤ C) (hr : ckP r.p = 0) (hpr : Prm r.p) (hl : v.length ≤ 1000000) (hfl : f.length * L ≤ 4000000000000) (hL : L ≤ 4000000000000) (hf1 : f.length ≤ 4000000000000) (hf : PB 1 r.p r.order n C f) (hv : VB r n B L v) :
    Pure Tryz.prog 61 [rgD r, plD f, vcD v] (vcD (vtimesT r f v)) := by
  intro H
  refine PureH.of_body Tryz.func61 rfl (by decide) (Nat.le_of_ble_eq_true rfl) fun w0 => ?_
  have hlen : (vtimesT r f v).length = v.length := by simp [vtimesT]
  (repeat (first | refine RO.Sv ?_ | refine RO.Yv ?_ | refine RO.no rfl (by decide) rfl ?_ | refine RO.nil ?_ | refine DW.region ?_ | refine DW.seq ?_ | refine DW.block ?_ | refine DW.skip ?_ | refine DW.exit ?_ | refine DW.condT rfl ?_ | refine DW.condF rfl ?_))
  refine DW.loopI (fun x : Nat × Heap × D => x.1 ≤ v.length ∧ Acc H x.2.1 x.2.2 1 31 (((vtimesT r f v).take x.1).map plD) ∧ Over H x.2.1) (fun x => [(1, plD f), (2, vcD v), (3, .ipt 4 [rgD r] 0 0), (7, x.2.2), (8, I x.1)]) (fun x => x.2.1) (fun x => v.length - x.1) (0, H, .nil)
    ⟨Nat.zero_le _, Acc.nil _ _ _ _, Over.refl _⟩ rfl ⟨rfl, rfl, rfl, rfl, rfl, trivial⟩ fun ⟨k, Hk, d⟩ ⟨hk, hacc, hov⟩ => ?_
  dsimp only at hk hacc hov
  dsimp only
  (repeat (first | refine RO.Sv ?_ | refine RO.Yv ?_ | refine RO.no rfl (by decide) rfl ?_ | refine RO.nil ?_ | refine DW.region ?_ | refine DW.seq ?_ | refine DW.block ?_ | refine DW.skip ?_ | refine DW.exit ?_ | refine DW.condT rfl ?_ | refine DW.condF rfl ?_))
  refine DW.cond rfl (fun hb => ?_) (fun hb => ?_)
  · have hlt : k < v.length := by have := of_decide_eq_true hb; omega
    clear hb
    obtain ⟨a1, a2⟩ := hv _ (List.getElem_mem hlt)
    have he : (vtimesT r f v)[k]'(by omega) = prodT r.p r.order f v[k] := by simp [vtimesT]
    have hfv : f.length * v[k].length ≤ 4000000000000 := Nat.le_trans (Nat.mul_le_mul_left _ a2) hfl
    (repeat (first | refine RO.Sv ?_ | refine RO.Yv ?_ | refine RO.no rfl (by decide) rfl ?_ | refine RO.nil ?_ | refine DW.region ?_ | refine DW.seq ?_ | refine DW.block ?_ | refine DW.skip ?_ | refine DW.exit ?_ | refine DW.condT rfl ?_ | refine DW.condF rfl ?_))
    refine DW.drawS 9 Tryz.mixed (by kernel_rfl) (by decide) ?_
    dsimp only [List.take, List.drop]
    (repeat (first | refine RS.Sv ?_ | refine RS.Yv ?_ | refine RS.no rfl (by decide) rfl ?_ | refine RS.nil ?_))
    refine RS.sta (fun H' hov => sta_call rfl rfl (refProduct_pure r f v[k] hn hB hB0 hC0 hr hpr hfv hf a1 hf1 (by omega) _)) rfl ?_
    (repeat (first | refine RS.Sv ?_ | refine RS.Yv ?_ | refine RS.no rfl (by decide) rfl ?_ | refine RS.nil ?_))
    refine RO.dyn rfl (d_append (H0 := H) (xs := [plD (prodT r.p r.order f v[k])]) rfl hacc hov rfl (.inl rfl) (uni_pl [prodT r.p r.order f v[k]]) (by simp; omega) (by simp; omega) fun d' H' q1 q2 q3 => ?_)
    (repeat (first | refine RO.Sv ?_ | refine RO.Yv ?_ | refine RO.no rfl (by decide) rfl ?_ | refine RO.nil ?_ | refine DW.region ?_ | refine DW.seq ?_ | refine DW.block ?_ | refine DW.skip ?_ | refine DW.exit ?_ | refine DW.condT rfl ?_ | refine DW.condF rfl ?_))
    refine ⟨(k + 1, H', d'), ⟨hlt, ?_, q2⟩, by dsimp only; omega, rfl, rfl, rfl, rfl, rfl, rfl, trivial⟩
    dsimp only
    rw [List.take_succ_eq_append_getElem (by omega), List.map_append, he]
    exact q1
  · have hke : k = v.length := by have := of_decide_eq_false hb; omega
    rw [hke, List.take_of_length_le (by omega)] at hacc
    (repeat (first | refine RO.Sv ?_ | refine RO.Yv ?_ | refine RO.no rfl (by decide) rfl ?_ | refine RO.nil ?_ | refine DW.region ?_ | refine DW.seq ?_ | refine DW.block ?_ | refine DW.skip ?_ | refine DW.exit ?_ | refine DW.condT rfl ?_ | refine DW.condF rfl ?_))
    exact DW.ret ⟨.inl rfl, _, rfl, hov, hacc.done⟩

end Go.Proofs.YtcdihmhmoddppaaGreat
