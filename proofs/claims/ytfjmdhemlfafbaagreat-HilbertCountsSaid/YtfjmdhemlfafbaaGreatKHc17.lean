/-
  The law's term, vectorIs, vectorBegun. No condition.
-/
import Derived.Test.YtfjmdhemlfafbaaGreatKHc16
import Derived.Test.YtfjmdhemlfafbaaGreatKHc10
import Derived.Test.YtfjmdhemlfafbaaGreatKHc11
import Derived.Test.YtfjmdhemlfafbaaGreatKHc8
import Derived.Test.YtfjmdhemlfafbaaGreatKHc15
import Derived.Test.YtfjmdhemlfafbaaGreatKHc5
set_option linter.unusedVariables false
set_option linter.unusedSimpArgs false

namespace Go.Proofs.YtfjmdhemlfafbaaGreat
section
open Go.RowKit
set_option maxHeartbeats 8000000

theorem vpolys_pure (r : Rg) (l : Vc) (hr : ringCk r = 0) (hl : l.length ≤ 4611686018427387904) (hf : ∀ f ∈ l, f.length ≤ 4611686018427387904) : Pure Tryz.prog 81 [rgD r, vcD l] (I (polysGo r l)) := by
 intro H
 refine PureH.of_body Tryz.func81 rfl (by decide) (Nat.le_of_ble_eq_true rfl) fun w0 => ?_
 (repeat(first|refine zA ?_|refine zB ?_|refine zE rfl (by decide) rfl ?_|refine zF ?_|refine zG ?_|refine zH ?_|refine zI ?_|refine zJ ?_|refine zK ?_|refine zL rfl ?_|refine zM rfl ?_))
 refine DW.loopI (fun k : Nat => k ≤ l.length ∧ polysGo r (l.drop k) = polysGo r l) (fun k => [(2, .ipt 4 [rgD r] 0 0), (8, vcD l), (9, I l.length), (10, I k)]) (fun _ => H) (fun k => l.length - k) 0 ⟨Nat.zero_le _, rfl⟩ rfl ⟨rfl, rfl, rfl, rfl, trivial⟩ fun k ⟨hk, hg⟩ => ?_
 (repeat(first|refine zA ?_|refine zB ?_|refine zE rfl (by decide) rfl ?_|refine zF ?_|refine zG ?_|refine zH ?_|refine zI ?_|refine zJ ?_|refine zK ?_|refine zL rfl ?_|refine zM rfl ?_))
 refine DW.cond rfl (fun hb => ?_) (fun hb => ?_)
 ·have hlt : k < l.length := by have := of_decide_eq_true hb; omega
  rw [polysGo_drop hlt] at hg
  (repeat(first|refine zA ?_|refine zB ?_|refine zE rfl (by decide) rfl ?_|refine zF ?_|refine zG ?_|refine zH ?_|refine zI ?_|refine zJ ?_|refine zK ?_|refine zL rfl ?_|refine zM rfl ?_))
  refine RO.sta (sta_call rfl rfl (pOwn_pure r l[k] hr (hf _ (List.getElem_mem hlt)) _)) rfl ?_
  (repeat(first|refine zA ?_|refine zB ?_|refine zE rfl (by decide) rfl ?_|refine zF ?_|refine zG ?_|refine zH ?_|refine zI ?_|refine zJ ?_|refine zK ?_|refine zL rfl ?_|refine zM rfl ?_))
  by_cases hc : polyCk r l[k] = 0
  ·rw [if_pos hc] at hg
   rw [show (polyCk r l[k] != 0) = false by simpa using hc]
   (repeat(first|refine zA ?_|refine zB ?_|refine zE rfl (by decide) rfl ?_|refine zF ?_|refine zG ?_|refine zH ?_|refine zI ?_|refine zJ ?_|refine zK ?_|refine zL rfl ?_|refine zM rfl ?_))
   exact ⟨k + 1, ⟨hlt, hg⟩, by dsimp only; omega, rfl, rfl, rfl, rfl, rfl, trivial⟩
  ·rw [if_neg hc] at hg
   rw [← hg, show (polyCk r l[k] != 0) = true by simpa using hc]
   (repeat(first|refine zA ?_|refine zB ?_|refine zE rfl (by decide) rfl ?_|refine zF ?_|refine zG ?_|refine zH ?_|refine zI ?_|refine zJ ?_|refine zK ?_|refine zL rfl ?_|refine zM rfl ?_))
   exact DW.ret ⟨.inl rfl, _, rfl, Over.refl _, .same _⟩
 ·have hge : k = l.length := by have := of_decide_eq_false hb; omega
  subst hge
  have : polysGo r l = 0 := by rw [← hg]; simp [polysGo]
  rw [this]
  (repeat(first|refine zA ?_|refine zB ?_|refine zE rfl (by decide) rfl ?_|refine zF ?_|refine zG ?_|refine zH ?_|refine zI ?_|refine zJ ?_|refine zK ?_|refine zL rfl ?_|refine zM rfl ?_))
  exact DW.ret ⟨.inl rfl, _, rfl, Over.refl _, .same _⟩

theorem vOwn_pure (r : Rg) (rank : Int) (l : List Vc) (hr : ringCk r = 0) (hl : l.length ≤ 4611686018427387904) (hv : ∀ v ∈ l, v.length ≤ 4611686018427387904 ∧ ∀ f ∈ v, f.length ≤ 4611686018427387904) : Pure Tryz.prog 57 [rgD r, I rank, vcsD l] (I (ownCk r rank l)) := by
 intro H
 refine PureH.of_body Tryz.func57 rfl (by decide) (Nat.le_of_ble_eq_true rfl) fun w0 => ?_
 (repeat(first|refine zA ?_|refine zB ?_|refine zE rfl (by decide) rfl ?_|refine zF ?_|refine zG ?_|refine zH ?_|refine zI ?_|refine zJ ?_|refine zK ?_|refine zL rfl ?_|refine zM rfl ?_))
 have hm : (decide (rank < 1) || decide (40 < rank)) = true ∨ (1 ≤ rank ∧ rank ≤ 40) := by
  rcases Int.lt_or_le rank 1 with h | h
  ·exact .inl (by rw [decide_eq_true h]; rfl)
  ·rcases Int.lt_or_le 40 rank with h2 | h2
   ·exact .inl (by rw [decide_eq_true h2]; simp)
   ·exact .inr ⟨h, h2⟩
 cases h1 : decide (rank < 1)
 case true =>
  have : ownCk r rank l = 3 := by unfold ownCk; rw [if_pos (.inl (of_decide_eq_true h1))]
  rw [this]
  (repeat(first|refine zA ?_|refine zB ?_|refine zE rfl (by decide) rfl ?_|refine zF ?_|refine zG ?_|refine zH ?_|refine zI ?_|refine zJ ?_|refine zK ?_|refine zL rfl ?_|refine zM rfl ?_))
  exact DW.ret ⟨.inl rfl, _, rfl, Over.refl _, .same _⟩
 (repeat(first|refine zA ?_|refine zB ?_|refine zE rfl (by decide) rfl ?_|refine zF ?_|refine zG ?_|refine zH ?_|refine zI ?_|refine zJ ?_|refine zK ?_|refine zL rfl ?_|refine zM rfl ?_))
 cases h2 : decide (40 < rank)
 case true =>
  have : ownCk r rank l = 3 := by unfold ownCk; rw [if_pos (.inr (of_decide_eq_true h2))]
  rw [this]
  (repeat(first|refine zA ?_|refine zB ?_|refine zE rfl (by decide) rfl ?_|refine zF ?_|refine zG ?_|refine zH ?_|refine zI ?_|refine zJ ?_|refine zK ?_|refine zL rfl ?_|refine zM rfl ?_))
  exact DW.ret ⟨.inl rfl, _, rfl, Over.refl _, .same _⟩
 have hrk : ¬ (rank < 1 ∨ 40 < rank) := by have := of_decide_eq_false h1; have := of_decide_eq_false h2; omega
 (repeat(first|refine zA ?_|refine zB ?_|refine zE rfl (by decide) rfl ?_|refine zF ?_|refine zG ?_|refine zH ?_|refine zI ?_|refine zJ ?_|refine zK ?_|refine zL rfl ?_|refine zM rfl ?_))
 cases h3 : decide ((60 : Int) < (l.length : Int))
 case true =>
  have : ownCk r rank l = 2 := by unfold ownCk; rw [if_neg hrk, if_pos (by have := of_decide_eq_true h3; omega)]
  rw [this]
  (repeat(first|refine zA ?_|refine zB ?_|refine zE rfl (by decide) rfl ?_|refine zF ?_|refine zG ?_|refine zH ?_|refine zI ?_|refine zJ ?_|refine zK ?_|refine zL rfl ?_|refine zM rfl ?_))
  exact DW.ret ⟨.inl rfl, _, rfl, Over.refl _, .same _⟩
 have : ownCk r rank l = vecsGo r rank l := by unfold ownCk; rw [if_neg hrk, if_neg (by have := of_decide_eq_false h3; omega)]
 rw [this]
 (repeat(first|refine zA ?_|refine zB ?_|refine zE rfl (by decide) rfl ?_|refine zF ?_|refine zG ?_|refine zH ?_|refine zI ?_|refine zJ ?_|refine zK ?_|refine zL rfl ?_|refine zM rfl ?_))
 refine DW.loopI (fun k : Nat => k ≤ l.length ∧ vecsGo r rank (l.drop k) = vecsGo r rank l) (fun k => [(1, I rank), (3, .ipt 4 [rgD r] 0 0), (21, vcsD l), (22, I l.length), (23, I k)]) (fun _ => H) (fun k => l.length - k) 0 ⟨Nat.zero_le _, rfl⟩ rfl ⟨rfl, rfl, rfl, rfl, rfl, trivial⟩ fun k ⟨hk, hg⟩ => ?_
 (repeat(first|refine zA ?_|refine zB ?_|refine zE rfl (by decide) rfl ?_|refine zF ?_|refine zG ?_|refine zH ?_|refine zI ?_|refine zJ ?_|refine zK ?_|refine zL rfl ?_|refine zM rfl ?_))
 refine DW.cond rfl (fun hb => ?_) (fun hb => ?_)
 ·have hlt : k < l.length := by have := of_decide_eq_true hb; omega
  obtain ⟨hv1, hv2⟩ := hv _ (List.getElem_mem hlt)
  rw [vecsGo_drop hlt] at hg
  clear hb
  (repeat(first|refine zA ?_|refine zB ?_|refine zE rfl (by decide) rfl ?_|refine zF ?_|refine zG ?_|refine zH ?_|refine zI ?_|refine zJ ?_|refine zK ?_|refine zL rfl ?_|refine zM rfl ?_))
  by_cases hc : (l[k].length : Int) = rank
  case neg =>
   rw [if_pos hc] at hg
   rw [← hg, show ((l[k].length : Int) != rank) = true by simpa using hc]
   (repeat(first|refine zA ?_|refine zB ?_|refine zE rfl (by decide) rfl ?_|refine zF ?_|refine zG ?_|refine zH ?_|refine zI ?_|refine zJ ?_|refine zK ?_|refine zL rfl ?_|refine zM rfl ?_))
   exact DW.ret ⟨.inl rfl, _, rfl, Over.refl _, .same _⟩
  rw [if_neg (by simpa using hc)] at hg
  rw [show ((l[k].length : Int) != rank) = false by simpa using hc]
  (repeat(first|refine zA ?_|refine zB ?_|refine zE rfl (by decide) rfl ?_|refine zF ?_|refine zG ?_|refine zH ?_|refine zI ?_|refine zJ ?_|refine zK ?_|refine zL rfl ?_|refine zM rfl ?_))
  refine RO.sta (sta_call rfl rfl (vpolys_pure r l[k] hr hv1 hv2 _)) rfl ?_
  (repeat(first|refine zA ?_|refine zB ?_|refine zE rfl (by decide) rfl ?_|refine zF ?_|refine zG ?_|refine zH ?_|refine zI ?_|refine zJ ?_|refine zK ?_|refine zL rfl ?_|refine zM rfl ?_))
  by_cases hc2 : polysGo r l[k] = 0
  ·rw [if_pos hc2] at hg
   rw [show (polysGo r l[k] != 0) = false by simpa using hc2]
   (repeat(first|refine zA ?_|refine zB ?_|refine zE rfl (by decide) rfl ?_|refine zF ?_|refine zG ?_|refine zH ?_|refine zI ?_|refine zJ ?_|refine zK ?_|refine zL rfl ?_|refine zM rfl ?_))
   exact ⟨k + 1, ⟨hlt, hg⟩, by dsimp only; omega, rfl, rfl, rfl, rfl, rfl, rfl, trivial⟩
  ·rw [if_neg hc2] at hg
   rw [← hg, show (polysGo r l[k] != 0) = true by simpa using hc2]
   (repeat(first|refine zA ?_|refine zB ?_|refine zE rfl (by decide) rfl ?_|refine zF ?_|refine zG ?_|refine zH ?_|refine zI ?_|refine zJ ?_|refine zK ?_|refine zL rfl ?_|refine zM rfl ?_))
   exact DW.ret ⟨.inl rfl, _, rfl, Over.refl _, .same _⟩
 ·have hge : k = l.length := by have := of_decide_eq_false hb; omega
  subst hge
  have : vecsGo r rank l = 0 := by rw [← hg]; simp [vecsGo]
  rw [this]
  (repeat(first|refine zA ?_|refine zB ?_|refine zE rfl (by decide) rfl ?_|refine zF ?_|refine zG ?_|refine zH ?_|refine zI ?_|refine zJ ?_|refine zK ?_|refine zL rfl ?_|refine zM rfl ?_))
  exact DW.ret ⟨.inl rfl, _, rfl, Over.refl _, .same _⟩

theorem vCheck_pure (r : Rg) (rank : Int) (l : List Vc) (hl : l.length ≤ 4611686018427387904) (hv : ∀ v ∈ l, v.length ≤ 4611686018427387904 ∧ ∀ f ∈ v, f.length ≤ 4611686018427387904) : Pure Tryz.prog 39 [rgD r, I rank, vcsD l] (I (vecsCk r rank l)) := by
 intro H
 refine PureH.of_body Tryz.func39 rfl (by decide) (Nat.le_of_ble_eq_true rfl) fun w0 => ?_
 (repeat(first|refine zA ?_|refine zB ?_|refine zE rfl (by decide) rfl ?_|refine zF ?_|refine zG ?_|refine zH ?_|refine zI ?_|refine zJ ?_|refine zK ?_|refine zL rfl ?_|refine zM rfl ?_))
 refine RO.sta (sta_call rfl rfl (Ring_pure _ _)) rfl ?_
 (repeat(first|refine zA ?_|refine zB ?_|refine zE rfl (by decide) rfl ?_|refine zF ?_|refine zG ?_|refine zH ?_|refine zI ?_|refine zJ ?_|refine zK ?_|refine zL rfl ?_|refine zM rfl ?_))
 by_cases hr : ringCk r = 0
 case neg =>
  have h : vecsCk r rank l = ringCk r := by unfold vecsCk; rw [if_neg hr]
  rw [h, show (ringCk r != 0) = true by simpa using hr]
  (repeat(first|refine zA ?_|refine zB ?_|refine zE rfl (by decide) rfl ?_|refine zF ?_|refine zG ?_|refine zH ?_|refine zI ?_|refine zJ ?_|refine zK ?_|refine zL rfl ?_|refine zM rfl ?_))
  exact DW.ret ⟨.inl rfl, _, rfl, Over.refl _, .same _⟩
 have h : vecsCk r rank l = ownCk r rank l := by unfold vecsCk; rw [if_pos hr]
 rw [h, show (ringCk r != 0) = false by simpa using hr]
 (repeat(first|refine zA ?_|refine zB ?_|refine zE rfl (by decide) rfl ?_|refine zF ?_|refine zG ?_|refine zH ?_|refine zI ?_|refine zJ ?_|refine zK ?_|refine zL rfl ?_|refine zM rfl ?_))
 refine RO.sta (sta_call rfl rfl (vOwn_pure r rank l hr hl hv _)) rfl ?_
 (repeat(first|refine zA ?_|refine zB ?_|refine zE rfl (by decide) rfl ?_|refine zF ?_|refine zG ?_|refine zH ?_|refine zI ?_|refine zJ ?_|refine zK ?_|refine zL rfl ?_|refine zM rfl ?_))
 exact DW.ret ⟨.inl rfl, _, rfl, Over.refl _, .same _⟩

theorem CheckList_pure (r : Rg) (rank : Int) (l : List Vc) (hr : ringCk r = 0) (hl : l.length ≤ 4611686018427387904) (hv : ∀ v ∈ l, v.length ≤ 4611686018427387904 ∧ ∀ f ∈ v, f.length ≤ 4611686018427387904) : Pure Tryz.prog 55 [rgD r, I rank, vcsD l] (I (ownCk r rank l)) := by
 intro H
 refine PureH.of_body Tryz.func55 rfl (by decide) (Nat.le_of_ble_eq_true rfl) fun w0 => ?_
 (repeat(first|refine zA ?_|refine zB ?_|refine zE rfl (by decide) rfl ?_|refine zF ?_|refine zG ?_|refine zH ?_|refine zI ?_|refine zJ ?_|refine zK ?_|refine zL rfl ?_|refine zM rfl ?_))
 refine RO.sta (sta_call rfl rfl (between_pure _ _ _ _)) rfl ?_
 (repeat(first|refine zA ?_|refine zB ?_|refine zE rfl (by decide) rfl ?_|refine zF ?_|refine zG ?_|refine zH ?_|refine zI ?_|refine zJ ?_|refine zK ?_|refine zL rfl ?_|refine zM rfl ?_))
 cases h1 : (decide (1 ≤ rank) && decide (rank ≤ 40))
 case false =>
  have : ownCk r rank l = 3 := by
   unfold ownCk
   rw [if_pos]
   simp only [Bool.and_eq_false_iff, decide_eq_false_iff_not] at h1
   omega
  rw [this]
  (repeat(first|refine zA ?_|refine zB ?_|refine zE rfl (by decide) rfl ?_|refine zF ?_|refine zG ?_|refine zH ?_|refine zI ?_|refine zJ ?_|refine zK ?_|refine zL rfl ?_|refine zM rfl ?_))
  exact DW.ret ⟨.inl rfl, _, rfl, Over.refl _, .same _⟩
 have hrk : ¬ (rank < 1 ∨ 40 < rank) := by
  simp only [Bool.and_eq_true, decide_eq_true_eq] at h1
  omega
 (repeat(first|refine zA ?_|refine zB ?_|refine zE rfl (by decide) rfl ?_|refine zF ?_|refine zG ?_|refine zH ?_|refine zI ?_|refine zJ ?_|refine zK ?_|refine zL rfl ?_|refine zM rfl ?_))
 cases h3 : decide ((60 : Int) < (l.length : Int))
 case true =>
  have : ownCk r rank l = 2 := by unfold ownCk; rw [if_neg hrk, if_pos (by have := of_decide_eq_true h3; omega)]
  rw [this]
  (repeat(first|refine zA ?_|refine zB ?_|refine zE rfl (by decide) rfl ?_|refine zF ?_|refine zG ?_|refine zH ?_|refine zI ?_|refine zJ ?_|refine zK ?_|refine zL rfl ?_|refine zM rfl ?_))
  exact DW.ret ⟨.inl rfl, _, rfl, Over.refl _, .same _⟩
 have : ownCk r rank l = vecsGo r rank l := by unfold ownCk; rw [if_neg hrk, if_neg (by have := of_decide_eq_false h3; omega)]
 rw [this]
 (repeat(first|refine zA ?_|refine zB ?_|refine zE rfl (by decide) rfl ?_|refine zF ?_|refine zG ?_|refine zH ?_|refine zI ?_|refine zJ ?_|refine zK ?_|refine zL rfl ?_|refine zM rfl ?_))
 refine DW.loopI (fun k : Nat => k ≤ l.length ∧ vecsGo r rank (l.drop k) = vecsGo r rank l) (fun k => [(1, I rank), (2, vcsD l), (3, .ipt 4 [rgD r] 0 0), (7, I k)]) (fun _ => H) (fun k => l.length - k) 0 ⟨Nat.zero_le _, rfl⟩ rfl ⟨rfl, rfl, rfl, rfl, trivial⟩ fun k ⟨hk, hg⟩ => ?_
 (repeat(first|refine zA ?_|refine zB ?_|refine zE rfl (by decide) rfl ?_|refine zF ?_|refine zG ?_|refine zH ?_|refine zI ?_|refine zJ ?_|refine zK ?_|refine zL rfl ?_|refine zM rfl ?_))
 refine DW.cond rfl (fun hb => ?_) (fun hb => ?_)
 ·have hlt : k < l.length := by have := of_decide_eq_true hb; omega
  obtain ⟨hv1, hv2⟩ := hv _ (List.getElem_mem hlt)
  rw [vecsGo_drop hlt] at hg
  clear hb
  (repeat(first|refine zA ?_|refine zB ?_|refine zE rfl (by decide) rfl ?_|refine zF ?_|refine zG ?_|refine zH ?_|refine zI ?_|refine zJ ?_|refine zK ?_|refine zL rfl ?_|refine zM rfl ?_))
  by_cases hc : (l[k].length : Int) = rank
  case neg =>
   rw [if_pos hc] at hg
   rw [← hg, show ((l[k].length : Int) != rank) = true by simpa using hc]
   (repeat(first|refine zA ?_|refine zB ?_|refine zE rfl (by decide) rfl ?_|refine zF ?_|refine zG ?_|refine zH ?_|refine zI ?_|refine zJ ?_|refine zK ?_|refine zL rfl ?_|refine zM rfl ?_))
   exact DW.ret ⟨.inl rfl, _, rfl, Over.refl _, .same _⟩
  rw [if_neg (by simpa using hc)] at hg
  rw [show ((l[k].length : Int) != rank) = false by simpa using hc]
  (repeat(first|refine zA ?_|refine zB ?_|refine zE rfl (by decide) rfl ?_|refine zF ?_|refine zG ?_|refine zH ?_|refine zI ?_|refine zJ ?_|refine zK ?_|refine zL rfl ?_|refine zM rfl ?_))
  refine DW.loopI (fun j : Nat => j ≤ l[k].length ∧ polysGo r (l[k].drop j) = polysGo r l[k]) (fun j => [(1, I rank), (2, vcsD l), (3, .ipt 4 [rgD r] 0 0), (7, I k), (8, I j)]) (fun _ => H) (fun j => l[k].length - j) 0 ⟨Nat.zero_le _, rfl⟩ rfl ⟨rfl, rfl, rfl, rfl, rfl, trivial⟩ fun j ⟨hj, hgj⟩ => ?_
  (repeat(first|refine zA ?_|refine zB ?_|refine zE rfl (by decide) rfl ?_|refine zF ?_|refine zG ?_|refine zH ?_|refine zI ?_|refine zJ ?_|refine zK ?_|refine zL rfl ?_|refine zM rfl ?_))
  refine DW.cond rfl (fun hb => ?_) (fun hb => ?_)
  ·have hjl : j < l[k].length := by have := of_decide_eq_true hb; omega
   rw [polysGo_drop hjl] at hgj
   clear hb
   (repeat(first|refine zA ?_|refine zB ?_|refine zE rfl (by decide) rfl ?_|refine zF ?_|refine zG ?_|refine zH ?_|refine zI ?_|refine zJ ?_|refine zK ?_|refine zL rfl ?_|refine zM rfl ?_))
   refine DW.drawS 10 Tryz.mixed (by kernel_rfl) (by decide) ?_
   dsimp only [List.take, List.drop]
   (repeat(first|refine zN ?_|refine zO ?_|refine zR rfl (by decide) rfl ?_|refine zS ?_))
   refine RS.sta (fun H' hov => sta_call rfl rfl (CheckOne_pure r l[k][j] hr (hv2 _ (List.getElem_mem hjl)) _)) rfl ?_
   (repeat(first|refine zN ?_|refine zO ?_|refine zR rfl (by decide) rfl ?_|refine zS ?_))
   (repeat(first|refine zA ?_|refine zB ?_|refine zE rfl (by decide) rfl ?_|refine zF ?_|refine zG ?_|refine zH ?_|refine zI ?_|refine zJ ?_|refine zK ?_|refine zL rfl ?_|refine zM rfl ?_))
   by_cases hc2 : polyCk r l[k][j] = 0
   ·rw [if_pos hc2] at hgj
    rw [show (polyCk r l[k][j] != 0) = false by simpa using hc2]
    (repeat(first|refine zA ?_|refine zB ?_|refine zE rfl (by decide) rfl ?_|refine zF ?_|refine zG ?_|refine zH ?_|refine zI ?_|refine zJ ?_|refine zK ?_|refine zL rfl ?_|refine zM rfl ?_))
    exact ⟨j + 1, ⟨hjl, hgj⟩, by dsimp only; omega, rfl, rfl, rfl, rfl, rfl, rfl, trivial⟩
   ·rw [if_neg hc2] at hgj
    rw [← hgj, if_neg hc2] at hg
    rw [← hg, show (polyCk r l[k][j] != 0) = true by simpa using hc2]
    (repeat(first|refine zA ?_|refine zB ?_|refine zE rfl (by decide) rfl ?_|refine zF ?_|refine zG ?_|refine zH ?_|refine zI ?_|refine zJ ?_|refine zK ?_|refine zL rfl ?_|refine zM rfl ?_))
    exact DW.ret ⟨.inl rfl, _, rfl, Over.refl _, .same _⟩
  ·have hje : j = l[k].length := by have := of_decide_eq_false hb; omega
   have hz : polysGo r l[k] = 0 := by rw [← hgj, hje, List.drop_length]; rfl
   rw [if_pos hz] at hg
   (repeat(first|refine zA ?_|refine zB ?_|refine zE rfl (by decide) rfl ?_|refine zF ?_|refine zG ?_|refine zH ?_|refine zI ?_|refine zJ ?_|refine zK ?_|refine zL rfl ?_|refine zM rfl ?_))
   exact ⟨k + 1, ⟨hlt, hg⟩, by dsimp only; omega, rfl, rfl, rfl, rfl, rfl, trivial⟩
 ·have hge : k = l.length := by have := of_decide_eq_false hb; omega
  subst hge
  have : vecsGo r rank l = 0 := by rw [← hg]; simp [vecsGo]
  rw [this]
  (repeat(first|refine zA ?_|refine zB ?_|refine zE rfl (by decide) rfl ?_|refine zF ?_|refine zG ?_|refine zH ?_|refine zI ?_|refine zJ ?_|refine zK ?_|refine zL rfl ?_|refine zM rfl ?_))
  exact DW.ret ⟨.inl rfl, _, rfl, Over.refl _, .same _⟩

theorem CheckVectors_pure (r : Rg) (rank : Int) (l : List Vc) (hl : l.length ≤ 4611686018427387904) (hv : ∀ v ∈ l, v.length ≤ 4611686018427387904 ∧ ∀ f ∈ v, f.length ≤ 4611686018427387904) : Pure Tryz.prog 36 [rgD r, I rank, vcsD l] (I (vecsCk r rank l)) := by
 intro H
 refine PureH.of_body Tryz.func36 rfl (by decide) (Nat.le_of_ble_eq_true rfl) fun w0 => ?_
 (repeat(first|refine zA ?_|refine zB ?_|refine zE rfl (by decide) rfl ?_|refine zF ?_|refine zG ?_|refine zH ?_|refine zI ?_|refine zJ ?_|refine zK ?_|refine zL rfl ?_|refine zM rfl ?_))
 refine RO.sta (sta_call rfl rfl (CheckRing_pure _ _)) rfl ?_
 (repeat(first|refine zA ?_|refine zB ?_|refine zE rfl (by decide) rfl ?_|refine zF ?_|refine zG ?_|refine zH ?_|refine zI ?_|refine zJ ?_|refine zK ?_|refine zL rfl ?_|refine zM rfl ?_))
 by_cases hr : ringCk r = 0
 case neg =>
  have h : vecsCk r rank l = ringCk r := by unfold vecsCk; rw [if_neg hr]
  rw [h, show (ringCk r == 0) = false by simpa using hr]
  (repeat(first|refine zA ?_|refine zB ?_|refine zE rfl (by decide) rfl ?_|refine zF ?_|refine zG ?_|refine zH ?_|refine zI ?_|refine zJ ?_|refine zK ?_|refine zL rfl ?_|refine zM rfl ?_))
  exact DW.ret ⟨.inl rfl, _, rfl, Over.refl _, .same _⟩
 have h : vecsCk r rank l = ownCk r rank l := by unfold vecsCk; rw [if_pos hr]
 rw [h, show (ringCk r == 0) = true by simpa using hr]
 (repeat(first|refine zA ?_|refine zB ?_|refine zE rfl (by decide) rfl ?_|refine zF ?_|refine zG ?_|refine zH ?_|refine zI ?_|refine zJ ?_|refine zK ?_|refine zL rfl ?_|refine zM rfl ?_))
 refine RO.sta (sta_call rfl rfl (CheckList_pure r rank l hr hl hv _)) rfl ?_
 (repeat(first|refine zA ?_|refine zB ?_|refine zE rfl (by decide) rfl ?_|refine zF ?_|refine zG ?_|refine zH ?_|refine zI ?_|refine zJ ?_|refine zK ?_|refine zL rfl ?_|refine zM rfl ?_))
 exact DW.ret ⟨.inl rfl, _, rfl, Over.refl _, .same _⟩
end
section
open Go.RowKit
set_option maxHeartbeats 8000000

theorem vEach_pureH {H : Heap} {f : FuncId} {caps : List D} (v o : Vc) (hl : v.length ≤ 1000000) (ho : o.length = v.length) (hg : ∀ H', Over H H' → ∀ (i : Nat) (h1 : i < v.length) (h2 : i < o.length), PureH Tryz.prog H' f (I i :: plD v[i] :: caps) (plD o[i])) :
  PureH Tryz.prog H 90 [vcD v, .fn f caps] (vcD o) := by
 refine PureH.of_body Tryz.func90 rfl (by decide) (Nat.le_of_ble_eq_true rfl) fun w0 => ?_
 (repeat(first|refine zC ?_|refine zD ?_|refine zE rfl (by decide) rfl ?_|refine zF ?_|refine zG ?_|refine zH ?_|refine zI ?_|refine zJ ?_|refine zK ?_|refine zL rfl ?_|refine zM rfl ?_))
 refine RO.dyn rfl (d_make rfl rfl (Nat.le_refl _) (by omega) (by omega) fun x hx => ?_)
 have hov : ∀ y, Over H (H.set x y) := fun y => (Over.refl _).set hx
 (repeat(first|refine zC ?_|refine zD ?_|refine zE rfl (by decide) rfl ?_|refine zF ?_|refine zG ?_|refine zH ?_|refine zI ?_|refine zJ ?_|refine zK ?_|refine zL rfl ?_|refine zM rfl ?_))
 rw [flatten_replicate1]
 refine DW.loopI (fun k : Nat => k ≤ v.length) (fun k => [(1, .fn f caps), (5, .ref x 0 v.length 1), (11, vcD v), (12, I v.length), (13, I k)]) (fun k => H.set x (57, rowTo (o.map plD) .nil k)) (fun k => v.length - k) 0 (Nat.zero_le _)
  (by rw [rowTo_zero, List.length_map, ho]) ⟨rfl, rfl, rfl, rfl, rfl, trivial⟩ fun k hk => ?_
 (repeat(first|refine zC ?_|refine zD ?_|refine zE rfl (by decide) rfl ?_|refine zF ?_|refine zG ?_|refine zH ?_|refine zI ?_|refine zJ ?_|refine zK ?_|refine zL rfl ?_|refine zM rfl ?_))
 refine DW.cond rfl (fun hb => ?_) (fun hb => ?_)
 ·have hlt : k < v.length := by have := of_decide_eq_true hb; omega
  have hlt2 : k < o.length := by omega
  clear hb
  (repeat(first|refine zC ?_|refine zD ?_|refine zE rfl (by decide) rfl ?_|refine zF ?_|refine zG ?_|refine zH ?_|refine zI ?_|refine zJ ?_|refine zK ?_|refine zL rfl ?_|refine zM rfl ?_))
  refine RO.sta (sta_call rfl rfl (hg _ (hov _) k hlt hlt2)) rfl ?_
  refine RO.sta (s_indexRef rfl rfl hlt) rfl ?_
  refine RO.dyn rfl (d_store (k := 1) rfl rfl rfl (Heap.set_self _ _ _) (by rw [rowTo_len _ _ (by simp; omega)]; simp [cellsOf, plD]; omega) (by simp [cellsOf, D.isCell, plD]) ?_)
  (repeat(first|refine zC ?_|refine zD ?_|refine zE rfl (by decide) rfl ?_|refine zF ?_|refine zG ?_|refine zH ?_|refine zI ?_|refine zJ ?_|refine zK ?_|refine zL rfl ?_|refine zM rfl ?_))
  refine ⟨k + 1, hlt, by dsimp only; omega, ?_, rfl, rfl, rfl, rfl, rfl, trivial⟩
  rw [Heap.set_set]
  dsimp only
  have h1 := rowTo_set (l := o.map plD) (z := .nil) (k := k) (by simp; omega)
  rw [← h1]
  simp only [List.getElem_map, cellsOf, plD, Nat.zero_add, Nat.mul_one]
 ·have hge : k = v.length := by have := of_decide_eq_false hb; omega
  subst hge
  (repeat(first|refine zC ?_|refine zD ?_|refine zE rfl (by decide) rfl ?_|refine zF ?_|refine zG ?_|refine zH ?_|refine zI ?_|refine zJ ?_|refine zK ?_|refine zL rfl ?_|refine zM rfl ?_))
  refine DW.ret ⟨.inl rfl, _, rfl, hov _, ?_⟩
  have : rowTo (o.map plD) .nil v.length = (o.map plD).flatMap cellsOf := by
   rw [flat_cells1 (fun _ => rfl)]
   have := rowTo_all (o.map plD) .nil
   rwa [List.length_map, ho] at this
  refine Frz.list (T := 57) (by rw [Heap.set_self, this]) hx (uni_pl _) (by simp [ho])

theorem vSum1_pureH {H : Heap} (r : Rg) (w : Vc) (i : Nat) (f g : Pl) (hi : i < w.length) (hs : PureH Tryz.prog H 102 [rgD r, plD f, plD w[i]] (plD g)) :
  PureH Tryz.prog H 101 [I i, plD f, .ipt 4 [rgD r] 0 0, .ipt 1 [vcD w] 0 0] (plD g) := by
 refine PureH.of_body Tryz.func101 rfl (by decide) (Nat.le_of_ble_eq_true rfl) fun w0 => ?_
 (repeat(first|refine zA ?_|refine zB ?_|refine zE rfl (by decide) rfl ?_|refine zF ?_|refine zG ?_|refine zH ?_|refine zI ?_|refine zJ ?_|refine zK ?_|refine zL rfl ?_|refine zM rfl ?_))
 refine DW.drawS 6 Tryz.mixed (by kernel_rfl) (by decide) ?_
 dsimp only [List.take, List.drop]
 (repeat(first|refine zN ?_|refine zO ?_|refine zR rfl (by decide) rfl ?_|refine zS ?_))
 refine RO.sta (sta_call rfl rfl hs) rfl ?_
 (repeat(first|refine zA ?_|refine zB ?_|refine zE rfl (by decide) rfl ?_|refine zF ?_|refine zG ?_|refine zH ?_|refine zI ?_|refine zJ ?_|refine zK ?_|refine zL rfl ?_|refine zM rfl ?_))
 exact DW.ret ⟨.inl rfl, _, rfl, Over.refl _, .same _⟩

theorem vsumT_len {r : Rg} {v w : Vc} (h : v.length = w.length) : (vsumT r v w).length = v.length := by unfold vsumT; rw [List.length_zipWith]; omega

theorem vSum_pure (r : Rg) (v w : Vc) {n : Nat} {B : Int} {L M : Nat} (hn : n ≤ 3) (hB : B ≤ 1000000) (hp : 2 ≤ r.p ∧ r.p ≤ 101) (hl : v.length ≤ 1000000) (hvw : v.length = w.length) (hLM : L + M ≤ 4000000000000) (hv : VB r n B L v) (hw : VB r n B M w) :
  Pure Tryz.prog 88 [rgD r, vcD v, vcD w] (vcD (vsumT r v w)) := by
 intro H
 refine PureH.of_body Tryz.func88 rfl (by decide) (Nat.le_of_ble_eq_true rfl) fun w0 => ?_
 (repeat(first|refine zA ?_|refine zB ?_|refine zE rfl (by decide) rfl ?_|refine zF ?_|refine zG ?_|refine zH ?_|refine zI ?_|refine zJ ?_|refine zK ?_|refine zL rfl ?_|refine zM rfl ?_))
 refine RO.sta (sta_call rfl rfl (vEach_pureH v (vsumT r v w) hl (vsumT_len hvw) fun H' _ i h1 h2 => ?_)) rfl ?_
 ·obtain ⟨a1, a2⟩ := hv _ (List.getElem_mem h1)
  obtain ⟨b1, b2⟩ := hw _ (List.getElem_mem (show i < w.length by omega))
  have he : (vsumT r v w)[i] = sumT r.p r.order v[i] (w[i]'(by omega)) := by simp [vsumT]
  rw [he]
  exact vSum1_pureH r w i v[i] _ (by omega) (sum_pure r v[i] w[i] hn hB hp (by omega) a1 b1 H')
 (repeat(first|refine zA ?_|refine zB ?_|refine zE rfl (by decide) rfl ?_|refine zF ?_|refine zG ?_|refine zH ?_|refine zI ?_|refine zJ ?_|refine zK ?_|refine zL rfl ?_|refine zM rfl ?_))
 exact DW.ret ⟨.inl rfl, _, rfl, Over.refl _, .same _⟩

theorem vBy1_pureH {H : Heap} (r : Rg) (t : Tm) (i : Int) (f g : Pl) (hs : PureH Tryz.prog H 92 [rgD r, plD f, tmD t] (plD g)) :
  PureH Tryz.prog H 91 [I i, plD f, .ipt 4 [rgD r] 0 0, .ipt 2 [tmD t] 0 0] (plD g) := by
 refine PureH.of_body Tryz.func91 rfl (by decide) (Nat.le_of_ble_eq_true rfl) fun w0 => ?_
 (repeat(first|refine zA ?_|refine zB ?_|refine zE rfl (by decide) rfl ?_|refine zF ?_|refine zG ?_|refine zH ?_|refine zI ?_|refine zJ ?_|refine zK ?_|refine zL rfl ?_|refine zM rfl ?_))
 refine RO.sta (sta_call rfl rfl hs) rfl ?_
 (repeat(first|refine zA ?_|refine zB ?_|refine zE rfl (by decide) rfl ?_|refine zF ?_|refine zG ?_|refine zH ?_|refine zI ?_|refine zJ ?_|refine zK ?_|refine zL rfl ?_|refine zM rfl ?_))
 exact DW.ret ⟨.inl rfl, _, rfl, Over.refl _, .same _⟩

theorem vBy_pure (r : Rg) (v : Vc) (t : Tm) {n : Nat} {B C : Int} {L : Nat} (hn : n ≤ 3) (hB : B ≤ 1000000) (hC : C ≤ 1000000) (hp : 2 ≤ r.p ∧ r.p ≤ 101) (hl : v.length ≤ 1000000) (hL : L ≤ 4000000000000) (hv : VB r n B L v) (ht : TB 0 r.p n C t) :
  Pure Tryz.prog 74 [rgD r, vcD v, tmD t] (vcD (vbyT r v t)) := by
 intro H
 refine PureH.of_body Tryz.func74 rfl (by decide) (Nat.le_of_ble_eq_true rfl) fun w0 => ?_
 (repeat(first|refine zA ?_|refine zB ?_|refine zE rfl (by decide) rfl ?_|refine zF ?_|refine zG ?_|refine zH ?_|refine zI ?_|refine zJ ?_|refine zK ?_|refine zL rfl ?_|refine zM rfl ?_))
 refine RO.sta (sta_call rfl rfl (vEach_pureH v (vbyT r v t) hl (by simp [vbyT]) fun H' _ i h1 h2 => ?_)) rfl ?_
 ·obtain ⟨a1, a2⟩ := hv _ (List.getElem_mem h1)
  have he : (vbyT r v t)[i] = byT r.p v[i] t := by simp [vbyT]
  rw [he]
  exact vBy1_pureH r t i v[i] _ (by_pure r v[i] t hn hB hC hp (by omega) (fun x hx => (a1.all x hx).mono (by omega) (by omega)) ht H')
 (repeat(first|refine zA ?_|refine zB ?_|refine zE rfl (by decide) rfl ?_|refine zF ?_|refine zG ?_|refine zH ?_|refine zI ?_|refine zJ ?_|refine zK ?_|refine zL rfl ?_|refine zM rfl ?_))
 exact DW.ret ⟨.inl rfl, _, rfl, Over.refl _, .same _⟩

theorem nought_call {H : Heap} (n : Nat) (hn : n ≤ 1000000) : CallD Tryz.prog H 65 [I n] (fun d H' => ∃ b, H b = none ∧ d = .ref b 0 n 1 ∧ H' = H.set b (57, List.replicate n .nil)) := by
 refine CallD.of_body Tryz.func65 rfl (by decide) (Nat.le_of_ble_eq_true rfl) fun w0 => ?_
 (repeat(first|refine zA ?_|refine zB ?_|refine zE rfl (by decide) rfl ?_|refine zF ?_|refine zG ?_|refine zH ?_|refine zI ?_|refine zJ ?_|refine zK ?_|refine zL rfl ?_|refine zM rfl ?_))
 refine RO.dyn rfl (d_make rfl rfl (Nat.le_refl _) (by omega) (by omega) fun x hx => ?_)
 (repeat(first|refine zA ?_|refine zB ?_|refine zE rfl (by decide) rfl ?_|refine zF ?_|refine zG ?_|refine zH ?_|refine zI ?_|refine zJ ?_|refine zK ?_|refine zL rfl ?_|refine zM rfl ?_))
 rw [flatten_replicate1]
 exact DW.ret ⟨.inl rfl, _, _, _, rfl, Heap.sub_refl _, .same _, x, hx, rfl, rfl⟩

theorem VTimes_pure (r : Rg) (f : Pl) (v : Vc) {n : Nat} {B C : Int} {L : Nat} (hn : n ≤ 3) (hB : B + C ≤ 1000000) (hB0 : 0 ≤ B) (hC0 : 0 ≤ C) (hr : ckP r.p = 0) (hpr : Prm r.p) (hl : v.length ≤ 1000000) (hfl : f.length * L ≤ 4000000000000) (hL : L ≤ 4000000000000) (hf1 : f.length ≤ 4000000000000) (hf : PB 1 r.p r.order n C f) (hv : VB r n B L v) :
  Pure Tryz.prog 25 [rgD r, plD f, vcD v] (vcD (vtimesT r f v)) := by
 intro H
 refine PureH.of_body Tryz.func25 rfl (by decide) (Nat.le_of_ble_eq_true rfl) fun w0 => ?_
 have hlen : (vtimesT r f v).length = v.length := by simp [vtimesT]
 (repeat(first|refine zA ?_|refine zB ?_|refine zE rfl (by decide) rfl ?_|refine zF ?_|refine zG ?_|refine zH ?_|refine zI ?_|refine zJ ?_|refine zK ?_|refine zL rfl ?_|refine zM rfl ?_))
 refine DW.loopI (fun x : Nat × Heap × D => x.1 ≤ v.length ∧ Acc H x.2.1 x.2.2 1 57 (((vtimesT r f v).take x.1).map plD) ∧ Over H x.2.1) (fun x => [(1, plD f), (2, vcD v), (3, .ipt 4 [rgD r] 0 0), (7, x.2.2), (8, I x.1)]) (fun x => x.2.1) (fun x => v.length - x.1) (0, H, .nil)
  ⟨Nat.zero_le _, Acc.nil _ _ _ _, Over.refl _⟩ rfl ⟨rfl, rfl, rfl, rfl, rfl, trivial⟩ fun ⟨k, Hk, d⟩ ⟨hk, hacc, hov⟩ => ?_
 dsimp only at hk hacc hov
 dsimp only
 (repeat(first|refine zA ?_|refine zB ?_|refine zE rfl (by decide) rfl ?_|refine zF ?_|refine zG ?_|refine zH ?_|refine zI ?_|refine zJ ?_|refine zK ?_|refine zL rfl ?_|refine zM rfl ?_))
 refine DW.cond rfl (fun hb => ?_) (fun hb => ?_)
 ·have hlt : k < v.length := by have := of_decide_eq_true hb; omega
  clear hb
  obtain ⟨a1, a2⟩ := hv _ (List.getElem_mem hlt)
  have he : (vtimesT r f v)[k]'(by omega) = prodT r.p r.order f v[k] := by simp [vtimesT]
  have hfv : f.length * v[k].length ≤ 4000000000000 := Nat.le_trans (Nat.mul_le_mul_left _ a2) hfl
  (repeat(first|refine zA ?_|refine zB ?_|refine zE rfl (by decide) rfl ?_|refine zF ?_|refine zG ?_|refine zH ?_|refine zI ?_|refine zJ ?_|refine zK ?_|refine zL rfl ?_|refine zM rfl ?_))
  refine DW.drawS 9 Tryz.mixed (by kernel_rfl) (by decide) ?_
  dsimp only [List.take, List.drop]
  (repeat(first|refine zN ?_|refine zO ?_|refine zR rfl (by decide) rfl ?_|refine zS ?_))
  refine RS.sta (fun H' hov => sta_call rfl rfl (refProduct_pure r f v[k] hn hB hB0 hC0 hr hpr hfv hf a1 hf1 (by omega) _)) rfl ?_
  (repeat(first|refine zN ?_|refine zO ?_|refine zR rfl (by decide) rfl ?_|refine zS ?_))
  refine RO.dyn rfl (d_append (H0 := H) (xs := [plD (prodT r.p r.order f v[k])]) rfl hacc hov rfl (.inl rfl) (uni_pl [prodT r.p r.order f v[k]]) (by simp; omega) (by simp; omega) fun d' H' q1 q2 q3 => ?_)
  (repeat(first|refine zA ?_|refine zB ?_|refine zE rfl (by decide) rfl ?_|refine zF ?_|refine zG ?_|refine zH ?_|refine zI ?_|refine zJ ?_|refine zK ?_|refine zL rfl ?_|refine zM rfl ?_))
  refine ⟨(k + 1, H', d'), ⟨hlt, ?_, q2⟩, by dsimp only; omega, rfl, rfl, rfl, rfl, rfl, rfl, trivial⟩
  dsimp only
  rw [List.take_succ_eq_append_getElem (by omega), List.map_append, he]
  exact q1
 ·have hke : k = v.length := by have := of_decide_eq_false hb; omega
  rw [hke, List.take_of_length_le (by omega)] at hacc
  (repeat(first|refine zA ?_|refine zB ?_|refine zE rfl (by decide) rfl ?_|refine zF ?_|refine zG ?_|refine zH ?_|refine zI ?_|refine zJ ?_|refine zK ?_|refine zL rfl ?_|refine zM rfl ?_))
  exact DW.ret ⟨.inl rfl, _, rfl, hov, hacc.done⟩
end
section
open Go.RowKit
set_option maxHeartbeats 8000000

theorem First_pure (r : Rg) (i k : Int) {a b : List Int} (ha : MOk a) (hb : MOk b) (hab : a.length = b.length) : Pure Tryz.prog 77 [rgD r, I i, intsD a, I k, intsD b] (.bool (firstT r i a k b)) := by
 intro H
 refine PureH.of_body Tryz.func77 rfl (by decide) (Nat.le_of_ble_eq_true rfl) fun w0 => ?_
 (repeat(first|refine zA ?_|refine zB ?_|refine zE rfl (by decide) rfl ?_|refine zF ?_|refine zG ?_|refine zH ?_|refine zI ?_|refine zJ ?_|refine zK ?_|refine zL rfl ?_|refine zM rfl ?_))
 refine RO.sta (sta_call rfl rfl (Compare_pure r ha hb hab _)) rfl ?_
 (repeat(first|refine zA ?_|refine zB ?_|refine zE rfl (by decide) rfl ?_|refine zF ?_|refine zG ?_|refine zH ?_|refine zI ?_|refine zJ ?_|refine zK ?_|refine zL rfl ?_|refine zM rfl ?_))
 unfold firstT
 cases h1 : (r.over == 2)
 case true =>
  (repeat(first|refine zA ?_|refine zB ?_|refine zE rfl (by decide) rfl ?_|refine zF ?_|refine zG ?_|refine zH ?_|refine zI ?_|refine zJ ?_|refine zK ?_|refine zL rfl ?_|refine zM rfl ?_))
  cases h2 : (i != k)
  case true =>
   rw [if_pos (.inl ⟨by simpa using h1, by simpa using h2⟩)]
   (repeat(first|refine zA ?_|refine zB ?_|refine zE rfl (by decide) rfl ?_|refine zF ?_|refine zG ?_|refine zH ?_|refine zI ?_|refine zJ ?_|refine zK ?_|refine zL rfl ?_|refine zM rfl ?_))
   exact DW.ret ⟨.inl rfl, _, rfl, Over.refl _, .same _⟩
  (repeat(first|refine zA ?_|refine zB ?_|refine zE rfl (by decide) rfl ?_|refine zF ?_|refine zG ?_|refine zH ?_|refine zI ?_|refine zJ ?_|refine zK ?_|refine zL rfl ?_|refine zM rfl ?_))
  cases h3 : (cmpM r.order a b == 0)
  case true =>
   rw [if_pos (.inr (by simpa using h3))]
   (repeat(first|refine zA ?_|refine zB ?_|refine zE rfl (by decide) rfl ?_|refine zF ?_|refine zG ?_|refine zH ?_|refine zI ?_|refine zJ ?_|refine zK ?_|refine zL rfl ?_|refine zM rfl ?_))
   exact DW.ret ⟨.inl rfl, _, rfl, Over.refl _, .same _⟩
  rw [if_neg (by simp at h2 h3; simp [h2, h3])]
  (repeat(first|refine zA ?_|refine zB ?_|refine zE rfl (by decide) rfl ?_|refine zF ?_|refine zG ?_|refine zH ?_|refine zI ?_|refine zJ ?_|refine zK ?_|refine zL rfl ?_|refine zM rfl ?_))
  exact DW.ret ⟨.inl rfl, _, rfl, Over.refl _, .same _⟩
 (repeat(first|refine zA ?_|refine zB ?_|refine zE rfl (by decide) rfl ?_|refine zF ?_|refine zG ?_|refine zH ?_|refine zI ?_|refine zJ ?_|refine zK ?_|refine zL rfl ?_|refine zM rfl ?_))
 cases h3 : (cmpM r.order a b == 0)
 case true =>
  rw [if_pos (.inr (by simpa using h3))]
  (repeat(first|refine zA ?_|refine zB ?_|refine zE rfl (by decide) rfl ?_|refine zF ?_|refine zG ?_|refine zH ?_|refine zI ?_|refine zJ ?_|refine zK ?_|refine zL rfl ?_|refine zM rfl ?_))
  exact DW.ret ⟨.inl rfl, _, rfl, Over.refl _, .same _⟩
 rw [if_neg (by simp at h1 h3; simp [h1, h3])]
 (repeat(first|refine zA ?_|refine zB ?_|refine zE rfl (by decide) rfl ?_|refine zF ?_|refine zG ?_|refine zH ?_|refine zI ?_|refine zJ ?_|refine zK ?_|refine zL rfl ?_|refine zM rfl ?_))
 exact DW.ret ⟨.inl rfl, _, rfl, Over.refl _, .same _⟩

def leadD (x : Option (Nat × Tm)) : D := .tup [I (atOf x), tmD (tmOf x)]

theorem frz_tm0 {H H' : Heap} : Frz H H' (.agg [I 0, .nil]) (tmD ⟨0, []⟩) := .agg rfl fun j x y hx hy => by
 match j, hx, hy with
 | 0, hx, hy => cases hx; cases hy; exact .same _
 | 1, hx, hy => cases hx; cases hy; exact .nil 1
 | j + 2, hx, hy => simp at hx

theorem vTop_pure (r : Rg) (v : Vc) {n : Nat} {B : Int} {L : Nat} (hn : n ≤ 3) (hB : B ≤ 1000000) (hl : v.length ≤ 1000000) (hv : VB r n B L v) : Pure Tryz.prog 83 [rgD r, vcD v] (leadD (topV r v)) := by
 intro H
 refine PureH.of_bodyR Tryz.func83 rfl (by decide) (Nat.le_of_ble_eq_true rfl) fun w0 => ?_
 (repeat(first|refine zA ?_|refine zB ?_|refine zE rfl (by decide) rfl ?_|refine zF ?_|refine zG ?_|refine zH ?_|refine zI ?_|refine zJ ?_|refine zK ?_|refine zL rfl ?_|refine zM rfl ?_))
 refine RO.dyn rfl (d_alloc fun b5 hb5 => ?_)
 (repeat(first|refine zA ?_|refine zB ?_|refine zE rfl (by decide) rfl ?_|refine zF ?_|refine zG ?_|refine zH ?_|refine zI ?_|refine zJ ?_|refine zK ?_|refine zL rfl ?_|refine zM rfl ?_))
 refine DW.loopI (fun k : Nat => k ≤ v.length) (fun k => [(1, vcD v), (2, .ipt 4 [rgD r] 0 0), (5, .ptr b5 0), (6, I (atOf (topAt r v k))), (9, vcD v), (10, I v.length), (11, I k)]) (fun _ => H.set b5 (55, [I 0, .nil])) (fun k => v.length - k) 0 (Nat.zero_le _) rfl ⟨rfl, rfl, rfl, rfl, rfl, rfl, rfl, trivial⟩ fun k hk => ?_
 have hok := fun (i : Nat) (hi : i < v.length) (h0 : 0 < v[i].length) => (hv _ (List.getElem_mem hi)).1.all _ (List.getElem_mem h0)
 (repeat(first|refine zA ?_|refine zB ?_|refine zE rfl (by decide) rfl ?_|refine zF ?_|refine zG ?_|refine zH ?_|refine zI ?_|refine zJ ?_|refine zK ?_|refine zL rfl ?_|refine zM rfl ?_))
 refine DW.cond rfl (fun hb => ?_) (fun hb => ?_)
 ·have hlt : k < v.length := by have := of_decide_eq_true hb; omega
  clear hb
  have hsucc := topAt_succ (r := r) hlt
  (repeat(first|refine zA ?_|refine zB ?_|refine zE rfl (by decide) rfl ?_|refine zF ?_|refine zG ?_|refine zH ?_|refine zI ?_|refine zJ ?_|refine zK ?_|refine zL rfl ?_|refine zM rfl ?_))
  refine DW.drawS 24 Tryz.mixed (by kernel_rfl) (by decide) ?_
  dsimp only [List.take, List.drop]
  (repeat(first|refine zN ?_|refine zO ?_|refine zR rfl (by decide) rfl ?_|refine zS ?_))
  cases h1 : decide ((0 : Int) < (v[k].length : Int))
  case false =>
   have hnil : v[k] = [] := List.length_eq_zero_iff.1 (by have := of_decide_eq_false h1; omega)
   rw [hnil] at hsucc
   (repeat(first|refine zN ?_|refine zO ?_|refine zR rfl (by decide) rfl ?_|refine zS ?_))
   (repeat(first|refine zA ?_|refine zB ?_|refine zE rfl (by decide) rfl ?_|refine zF ?_|refine zG ?_|refine zH ?_|refine zI ?_|refine zJ ?_|refine zK ?_|refine zL rfl ?_|refine zM rfl ?_))
   exact ⟨k + 1, hlt, by dsimp only; omega, rfl, rfl, rfl, rfl, by rw [hsucc]; rfl, rfl, rfl, rfl, trivial⟩
  have hlk : 0 < v[k].length := by have := of_decide_eq_true h1; omega
  have ht := hok k hlt hlk
  obtain ⟨t, g, hvk⟩ : ∃ t g, v[k] = t :: g := by
   cases hc : v[k] with
   | nil => rw [hc] at hlk; simp at hlk
   | cons t g => exact ⟨t, g, rfl⟩
  have hvk0 : v[k][0] = t := by simp [hvk]
  cases hx : topAt r v k with
  | none =>
   rw [hx, hvk] at hsucc
   (repeat(first|refine zN ?_|refine zO ?_|refine zR rfl (by decide) rfl ?_|refine zS ?_))
   (repeat(first|refine zA ?_|refine zB ?_|refine zE rfl (by decide) rfl ?_|refine zF ?_|refine zG ?_|refine zH ?_|refine zI ?_|refine zJ ?_|refine zK ?_|refine zL rfl ?_|refine zM rfl ?_))
   exact ⟨k + 1, hlt, by dsimp only; omega, rfl, rfl, rfl, rfl, by rw [hsucc]; rfl, rfl, rfl, rfl, trivial⟩
  | some x =>
   obtain ⟨a, u⟩ := x
   obtain ⟨hak, ha, ha2, hau⟩ := topAt_ok hk hx
   have hu := hok a ha ha2
   have hat : atOf (some (a, u)) = (a : Int) := rfl
   have hneg : decide ((a : Int) < 0) = false := decide_eq_false (by omega)
   rw [hx, hvk] at hsucc
   rw [hat]
   (repeat(first|refine zN ?_|refine zO ?_|refine zR rfl (by decide) rfl ?_|refine zS ?_))
   rw [hneg]
   (repeat(first|refine zN ?_|refine zO ?_|refine zR rfl (by decide) rfl ?_|refine zS ?_))
   refine RS.yes rfl (fun H' hov => sta_call rfl rfl (First_pure r k a (ht.mok hn hB) (hu.mok hn hB) (by rw [ht.len, hu.len]) _)) rfl ?_
   (repeat(first|refine zN ?_|refine zO ?_|refine zR rfl (by decide) rfl ?_|refine zS ?_))
   have hst : topStep r (some (a, u)) k (t :: g) = if firstT r k v[k][0].e a v[a][0].e = true then some (k, t) else some (a, u) := by rw [hvk0, hau]; rfl
   rw [hst] at hsucc
   cases h2 : firstT r k v[k][0].e a v[a][0].e
   ·rw [h2, if_neg (by simp)] at hsucc
    (repeat(first|refine zA ?_|refine zB ?_|refine zE rfl (by decide) rfl ?_|refine zF ?_|refine zG ?_|refine zH ?_|refine zI ?_|refine zJ ?_|refine zK ?_|refine zL rfl ?_|refine zM rfl ?_))
    exact ⟨k + 1, hlt, by dsimp only; omega, rfl, rfl, rfl, rfl, by rw [hsucc]; rfl, rfl, rfl, rfl, trivial⟩
   ·rw [h2, if_pos rfl] at hsucc
    (repeat(first|refine zA ?_|refine zB ?_|refine zE rfl (by decide) rfl ?_|refine zF ?_|refine zG ?_|refine zH ?_|refine zI ?_|refine zJ ?_|refine zK ?_|refine zL rfl ?_|refine zM rfl ?_))
    exact ⟨k + 1, hlt, by dsimp only; omega, rfl, rfl, rfl, rfl, by rw [hsucc]; rfl, rfl, rfl, rfl, trivial⟩
 ·have hke : k = v.length := by have := of_decide_eq_false hb; omega
  subst hke
  clear hb
  show DW _ _ _ _ _
  have hov := (Over.refl H).set (x := (55, [I 0, .nil])) hb5
  unfold topV
  cases hx : topAt r v v.length with
  | none =>
   (repeat(first|refine zA ?_|refine zB ?_|refine zE rfl (by decide) rfl ?_|refine zF ?_|refine zG ?_|refine zH ?_|refine zI ?_|refine zJ ?_|refine zK ?_|refine zL rfl ?_|refine zM rfl ?_))
   refine RO.sta (s_buildT (out := [I 0, .nil]) rfl rfl) rfl ?_
   (repeat(first|refine zA ?_|refine zB ?_|refine zE rfl (by decide) rfl ?_|refine zF ?_|refine zG ?_|refine zH ?_|refine zI ?_|refine zJ ?_|refine zK ?_|refine zL rfl ?_|refine zM rfl ?_))
   refine RO.dyn rfl (d_store (k := 2) rfl rfl rfl (Heap.set_self _ _ _) (by decide) (by simp [cellsOf, D.isCell]) ?_)
   (repeat(first|refine zA ?_|refine zB ?_|refine zE rfl (by decide) rfl ?_|refine zF ?_|refine zG ?_|refine zH ?_|refine zI ?_|refine zJ ?_|refine zK ?_|refine zL rfl ?_|refine zM rfl ?_))
   rw [Heap.set_set]
   exact DW.ret ⟨.inl rfl, _, .tmp rfl (.cell (cells := [I 0, .nil]) inferInstance rfl (Heap.set_self _ _ _) .nil), (Over.refl _).set hb5, .tup2 (.same _) frz_tm0⟩
  | some x =>
   obtain ⟨a, u⟩ := x
   obtain ⟨hak, ha, ha2, hau⟩ := topAt_ok hk hx
   have hat : atOf (some (a, u)) = (a : Int) := rfl
   have hneg : decide ((a : Int) < 0) = false := decide_eq_false (by omega)
   rw [hat]
   (repeat(first|refine zA ?_|refine zB ?_|refine zE rfl (by decide) rfl ?_|refine zF ?_|refine zG ?_|refine zH ?_|refine zI ?_|refine zJ ?_|refine zK ?_|refine zL rfl ?_|refine zM rfl ?_))
   rw [hneg]
   (repeat(first|refine zA ?_|refine zB ?_|refine zE rfl (by decide) rfl ?_|refine zF ?_|refine zG ?_|refine zH ?_|refine zI ?_|refine zJ ?_|refine zK ?_|refine zL rfl ?_|refine zM rfl ?_))
   refine DW.drawS 8 Tryz.mixed (by kernel_rfl) (by decide) ?_
   dsimp only [List.take, List.drop]
   (repeat(first|refine zN ?_|refine zO ?_|refine zR rfl (by decide) rfl ?_|refine zS ?_))
   refine RO.dyn rfl (d_storeTm rfl rfl (Heap.set_self _ _ _) rfl ?_)
   (repeat(first|refine zA ?_|refine zB ?_|refine zE rfl (by decide) rfl ?_|refine zF ?_|refine zG ?_|refine zH ?_|refine zI ?_|refine zJ ?_|refine zK ?_|refine zL rfl ?_|refine zM rfl ?_))
   rw [Heap.set_set]
   refine DW.ret ⟨.inl rfl, _, .tmp rfl (.cell (cells := [I v[a][0].c, intsD v[a][0].e]) inferInstance rfl (Heap.set_self _ _ _) .nil), (Over.refl _).set hb5, .tup2 (.same _) ?_⟩
   rw [hau]
   exact .same _
end
section
open Go.RowKit
set_option maxHeartbeats 8000000
end
section
open Go.RowKit
set_option maxHeartbeats 8000000

theorem Heap.none_of_set {H : Heap} {b c : Nat} {x : TypeId × List D} (hne : b ≠ c) (h : H.set b x c = none) : H c = none := by
 rw [Heap.set_other _ _ hne.symm] at h; exact h

theorem VB.mono {r : Rg} {n : Nat} {B C : Int} {L M : Nat} {v : Vc} (h : VB r n B L v) (hB : B ≤ C) (hL : L ≤ M) : VB r n C M v := fun f hf => ⟨(h f hf).1.mono (by omega) hB, by have := (h f hf).2; omega⟩
end
section
open Go.RowKit
set_option maxHeartbeats 8000000

def rowDeg (g : Int) : Int → Pl → Option Int
 | d, [] => some d
 | d, t :: f => if 0 ≤ d ∧ g + t.e.sum ≠ d then none else rowDeg g (g + t.e.sum) f

def degGo : List Int → Int → Vc → Option Int
 | g :: gs, d, f :: v => (rowDeg g d f).bind fun d => degGo gs d v
 | _, d, _ => some d

def sameT (gs : List Int) (v : Vc) : Int × Int := match degGo gs (-1) v with
 | none => (0, 4)
 | some d => if d < 0 then (0, 5) else (d, 0)

theorem degGo_drop {gs : List Int} {v : Vc} {d : Int} {k : Nat} (h1 : k < gs.length) (h2 : k < v.length) : degGo (gs.drop k) d (v.drop k) = (rowDeg gs[k] d v[k]).bind fun d => degGo (gs.drop (k + 1)) d (v.drop (k + 1)) := by
 rw [List.drop_eq_getElem_cons h1, List.drop_eq_getElem_cons h2]
 rfl

theorem rowDeg_drop {g d : Int} {f : Pl} {j : Nat} (h : j < f.length) : rowDeg g d (f.drop j) = if 0 ≤ d ∧ g + f[j].e.sum ≠ d then none else rowDeg g (g + f[j].e.sum) (f.drop (j + 1)) := by
 rw [List.drop_eq_getElem_cons h]
 rfl

theorem degGo_end {gs : List Int} {d : Int} : degGo gs d [] = some d := by cases gs <;> rfl

theorem vSame_pure (gs : List Int) (v : Vc) (hl : v.length ≤ 1000000) (hlen : gs.length = v.length) (hg : ∀ g ∈ gs, -1000000 ≤ g ∧ g ≤ 1000000) (hv : ∀ f ∈ v, f.length ≤ 4000000000000 ∧ ∀ t ∈ f, MOk t.e) : Pure Tryz.prog 24 [intsD gs, vcD v] (pairD (sameT gs v)) := by
 intro H
 refine PureH.of_body Tryz.func24 rfl (by decide) (Nat.le_of_ble_eq_true rfl) fun w0 => ?_
 (repeat(first|refine zA ?_|refine zB ?_|refine zE rfl (by decide) rfl ?_|refine zF ?_|refine zG ?_|refine zH ?_|refine zI ?_|refine zJ ?_|refine zK ?_|refine zL rfl ?_|refine zM rfl ?_))
 refine DW.loopG (fun x : Nat × Int => x.1 ≤ v.length ∧ degGo (gs.drop x.1) x.2 (v.drop x.1) = degGo gs (-1) v) (fun x => [(0, intsD gs), (6, I x.2), (12, vcD v), (13, I v.length), (14, I x.1)]) (fun _ => H) (fun x => v.length - x.1) (0, -1)
  ⟨Nat.zero_le _, rfl⟩ (Heap.sub_refl _) (.one rfl (.one rfl (.one rfl (.one rfl (.one rfl trivial))))) fun ⟨k, d⟩ ⟨hk, hgo⟩ => ?_
 dsimp only at hk hgo
 dsimp only
 (repeat(first|refine zA ?_|refine zB ?_|refine zE rfl (by decide) rfl ?_|refine zF ?_|refine zG ?_|refine zH ?_|refine zI ?_|refine zJ ?_|refine zK ?_|refine zL rfl ?_|refine zM rfl ?_))
 refine DW.cond rfl (fun hb => ?_) (fun hb => ?_)
 ·have hlt : k < v.length := by have := of_decide_eq_true hb; omega
  have hlt2 : k < gs.length := by omega
  obtain ⟨hv1, hv2⟩ := hv _ (List.getElem_mem hlt)
  have hgk := hg _ (List.getElem_mem hlt2)
  rw [degGo_drop hlt2 hlt] at hgo
  clear hb
  (repeat(first|refine zA ?_|refine zB ?_|refine zE rfl (by decide) rfl ?_|refine zF ?_|refine zG ?_|refine zH ?_|refine zI ?_|refine zJ ?_|refine zK ?_|refine zL rfl ?_|refine zM rfl ?_))
  refine DW.loopG (fun x : Nat × Int => x.1 ≤ v[k].length ∧ rowDeg gs[k] x.2 (v[k].drop x.1) = rowDeg gs[k] d v[k]) (fun x => [(0, intsD gs), (6, I x.2), (7, I k), (12, vcD v), (13, I v.length), (14, I k), (19, plD v[k]), (20, I v[k].length), (21, I x.1)]) (fun _ => H) (fun x => v[k].length - x.1) (0, d)
   ⟨Nat.zero_le _, rfl⟩ (Heap.sub_refl _) (.one rfl (.one rfl (.one rfl (.one rfl (.one rfl (.one rfl (.one rfl (.one rfl (.one rfl trivial))))))))) fun ⟨j, c⟩ ⟨hj, hrow⟩ => ?_
  dsimp only at hj hrow
  dsimp only
  (repeat(first|refine zA ?_|refine zB ?_|refine zE rfl (by decide) rfl ?_|refine zF ?_|refine zG ?_|refine zH ?_|refine zI ?_|refine zJ ?_|refine zK ?_|refine zL rfl ?_|refine zM rfl ?_))
  refine DW.cond rfl (fun hb => ?_) (fun hb => ?_)
  ·have hjl : j < v[k].length := by have := of_decide_eq_true hb; omega
   have hm := hv2 _ (List.getElem_mem hjl)
   have hs := hm.sum
   rw [rowDeg_drop hjl] at hrow
   clear hb
   (repeat(first|refine zA ?_|refine zB ?_|refine zE rfl (by decide) rfl ?_|refine zF ?_|refine zG ?_|refine zH ?_|refine zI ?_|refine zJ ?_|refine zK ?_|refine zL rfl ?_|refine zM rfl ?_))
   (refine RO.dyn rfl (d_alloc fun bv hbv => ?_); (repeat(first|refine zA ?_|refine zB ?_|refine zE rfl (by decide) rfl ?_)); refine RO.dyn rfl (d_storeTm rfl rfl (Heap.set_self _ _ _) rfl ?_); rw [Heap.set_set])
   (repeat(first|refine zA ?_|refine zB ?_|refine zE rfl (by decide) rfl ?_|refine zF ?_|refine zG ?_|refine zH ?_|refine zI ?_|refine zJ ?_|refine zK ?_|refine zL rfl ?_|refine zM rfl ?_))
   refine DW.drawS 9 Tryz.mixed (by kernel_rfl) (by decide) ?_
   dsimp only [List.take, List.drop]
   (repeat(first|refine zN ?_|refine zO ?_|refine zR rfl (by decide) rfl ?_|refine zS ?_))
   refine RS.sta (fun H' hov => sta_call rfl rfl (Degree_pure hm _)) rfl ?_
   (repeat(first|refine zN ?_|refine zO ?_|refine zR rfl (by decide) rfl ?_|refine zS ?_))
   (repeat(first|refine zA ?_|refine zB ?_|refine zE rfl (by decide) rfl ?_|refine zF ?_|refine zG ?_|refine zH ?_|refine zI ?_|refine zJ ?_|refine zK ?_|refine zL rfl ?_|refine zM rfl ?_))
   have next : ¬ (0 ≤ c ∧ gs[k] + v[k][j].e.sum ≠ c) → rowDeg gs[k] (gs[k] + v[k][j].e.sum) (v[k].drop (j + 1)) = rowDeg gs[k] d v[k] := fun h => by rwa [if_neg h] at hrow
   cases h1 : decide (0 ≤ c)
   ·(repeat(first|refine zA ?_|refine zB ?_|refine zE rfl (by decide) rfl ?_|refine zF ?_|refine zG ?_|refine zH ?_|refine zI ?_|refine zJ ?_|refine zK ?_|refine zL rfl ?_|refine zM rfl ?_))
    exact ⟨(j + 1, gs[k] + v[k][j].e.sum), ⟨hjl, next (by simp at h1; omega)⟩, by dsimp only; omega, Heap.sub_set _ hbv, (.one rfl (.one rfl (.one rfl (.one rfl (.one rfl (.one rfl (.one rfl (.one rfl (.one rfl trivial)))))))))⟩
   ·(repeat(first|refine zA ?_|refine zB ?_|refine zE rfl (by decide) rfl ?_|refine zF ?_|refine zG ?_|refine zH ?_|refine zI ?_|refine zJ ?_|refine zK ?_|refine zL rfl ?_|refine zM rfl ?_))
    cases h2 : (gs[k] + v[k][j].e.sum != c)
    ·(repeat(first|refine zA ?_|refine zB ?_|refine zE rfl (by decide) rfl ?_|refine zF ?_|refine zG ?_|refine zH ?_|refine zI ?_|refine zJ ?_|refine zK ?_|refine zL rfl ?_|refine zM rfl ?_))
     exact ⟨(j + 1, gs[k] + v[k][j].e.sum), ⟨hjl, next (by simp at h2; simp [h2])⟩, by dsimp only; omega, Heap.sub_set _ hbv, (.one rfl (.one rfl (.one rfl (.one rfl (.one rfl (.one rfl (.one rfl (.one rfl (.one rfl trivial)))))))))⟩
    ·rw [if_pos ⟨of_decide_eq_true h1, by simpa using h2⟩] at hrow
     rw [← hrow] at hgo
     have : sameT gs v = (0, 4) := by unfold sameT; rw [← hgo]; rfl
     rw [this]
     (repeat(first|refine zA ?_|refine zB ?_|refine zE rfl (by decide) rfl ?_|refine zF ?_|refine zG ?_|refine zH ?_|refine zI ?_|refine zJ ?_|refine zK ?_|refine zL rfl ?_|refine zM rfl ?_))
     exact DW.ret ⟨.inl rfl, _, rfl, (Over.refl _).set hbv, .same _⟩
  ·have hje : j = v[k].length := by have := of_decide_eq_false hb; omega
   rw [hje, List.drop_length] at hrow
   rw [← hrow] at hgo
   (repeat(first|refine zA ?_|refine zB ?_|refine zE rfl (by decide) rfl ?_|refine zF ?_|refine zG ?_|refine zH ?_|refine zI ?_|refine zJ ?_|refine zK ?_|refine zL rfl ?_|refine zM rfl ?_))
   exact ⟨(k + 1, c), ⟨hlt, hgo⟩, by dsimp only; omega, Heap.sub_refl _, (.one rfl (.one rfl (.one rfl (.one rfl (.one rfl trivial)))))⟩
 ·have hke : k = v.length := by have := of_decide_eq_false hb; omega
  rw [hke, List.drop_length, degGo_end] at hgo
  clear hb
  unfold sameT
  rw [← hgo]
  dsimp only
  (repeat(first|refine zA ?_|refine zB ?_|refine zE rfl (by decide) rfl ?_|refine zF ?_|refine zG ?_|refine zH ?_|refine zI ?_|refine zJ ?_|refine zK ?_|refine zL rfl ?_|refine zM rfl ?_))
  refine DW.cond rfl (fun hb => ?_) (fun hb => ?_)
  ·rw [if_pos (of_decide_eq_true hb)]
   (repeat(first|refine zA ?_|refine zB ?_|refine zE rfl (by decide) rfl ?_|refine zF ?_|refine zG ?_|refine zH ?_|refine zI ?_|refine zJ ?_|refine zK ?_|refine zL rfl ?_|refine zM rfl ?_))
   exact DW.ret ⟨.inl rfl, _, rfl, Over.refl _, .same _⟩
  ·rw [if_neg (of_decide_eq_false hb)]
   (repeat(first|refine zA ?_|refine zB ?_|refine zE rfl (by decide) rfl ?_|refine zF ?_|refine zG ?_|refine zH ?_|refine zI ?_|refine zJ ?_|refine zK ?_|refine zL rfl ?_|refine zM rfl ?_))
   exact DW.ret ⟨.inl rfl, _, rfl, Over.refl _, .same _⟩

theorem VDegree_pure (gs : List Int) (v : Vc) (hl : v.length ≤ 1000000) (hlen : gs.length = v.length) (hg : ∀ g ∈ gs, -1000000 ≤ g ∧ g ≤ 1000000) (hv : ∀ f ∈ v, f.length ≤ 4000000000000 ∧ ∀ t ∈ f, MOk t.e) : Pure Tryz.prog 20 [intsD gs, vcD v] (pairD (sameT gs v)) := by
 intro H
 refine PureH.of_body Tryz.func20 rfl (by decide) (Nat.le_of_ble_eq_true rfl) fun w0 => ?_
 (repeat(first|refine zA ?_|refine zB ?_|refine zE rfl (by decide) rfl ?_|refine zF ?_|refine zG ?_|refine zH ?_|refine zI ?_|refine zJ ?_|refine zK ?_|refine zL rfl ?_|refine zM rfl ?_))
 refine DW.loopI (fun x : Nat × Int => x.1 ≤ v.length ∧ degGo (gs.drop x.1) x.2 (v.drop x.1) = degGo gs (-1) v) (fun x => [(0, intsD gs), (1, vcD v), (6, I x.2), (7, I x.1)]) (fun _ => H) (fun x => v.length - x.1) (0, -1)
  ⟨Nat.zero_le _, rfl⟩ rfl ⟨rfl, rfl, rfl, rfl, trivial⟩ fun ⟨k, d⟩ ⟨hk, hgo⟩ => ?_
 dsimp only at hk hgo
 dsimp only
 (repeat(first|refine zA ?_|refine zB ?_|refine zE rfl (by decide) rfl ?_|refine zF ?_|refine zG ?_|refine zH ?_|refine zI ?_|refine zJ ?_|refine zK ?_|refine zL rfl ?_|refine zM rfl ?_))
 refine DW.cond rfl (fun hb => ?_) (fun hb => ?_)
 ·have hlt : k < v.length := by have := of_decide_eq_true hb; omega
  have hlt2 : k < gs.length := by omega
  obtain ⟨hv1, hv2⟩ := hv _ (List.getElem_mem hlt)
  have hgk := hg _ (List.getElem_mem hlt2)
  rw [degGo_drop hlt2 hlt] at hgo
  clear hb
  (repeat(first|refine zA ?_|refine zB ?_|refine zE rfl (by decide) rfl ?_|refine zF ?_|refine zG ?_|refine zH ?_|refine zI ?_|refine zJ ?_|refine zK ?_|refine zL rfl ?_|refine zM rfl ?_))
  refine DW.loopI (fun x : Nat × Int => x.1 ≤ v[k].length ∧ rowDeg gs[k] x.2 (v[k].drop x.1) = rowDeg gs[k] d v[k]) (fun x => [(0, intsD gs), (1, vcD v), (6, I x.2), (7, I k), (8, I x.1)]) (fun _ => H) (fun x => v[k].length - x.1) (0, d)
   ⟨Nat.zero_le _, rfl⟩ rfl ⟨rfl, rfl, rfl, rfl, rfl, trivial⟩ fun ⟨j, c⟩ ⟨hj, hrow⟩ => ?_
  dsimp only at hj hrow
  dsimp only
  (repeat(first|refine zA ?_|refine zB ?_|refine zE rfl (by decide) rfl ?_|refine zF ?_|refine zG ?_|refine zH ?_|refine zI ?_|refine zJ ?_|refine zK ?_|refine zL rfl ?_|refine zM rfl ?_))
  refine DW.cond rfl (fun hb => ?_) (fun hb => ?_)
  ·have hjl : j < v[k].length := by have := of_decide_eq_true hb; omega
   have hm := hv2 _ (List.getElem_mem hjl)
   have hs := hm.sum
   rw [rowDeg_drop hjl] at hrow
   clear hb
   (repeat(first|refine zA ?_|refine zB ?_|refine zE rfl (by decide) rfl ?_|refine zF ?_|refine zG ?_|refine zH ?_|refine zI ?_|refine zJ ?_|refine zK ?_|refine zL rfl ?_|refine zM rfl ?_))
   refine DW.drawS 15 Tryz.mixed (by kernel_rfl) (by decide) ?_
   dsimp only [List.take, List.drop]
   (repeat(first|refine zN ?_|refine zO ?_|refine zR rfl (by decide) rfl ?_|refine zS ?_))
   refine RS.sta (fun H' hov => sta_call rfl rfl (DegreeOf_pure hm _)) rfl ?_
   (repeat(first|refine zN ?_|refine zO ?_|refine zR rfl (by decide) rfl ?_|refine zS ?_))
   (repeat(first|refine zA ?_|refine zB ?_|refine zE rfl (by decide) rfl ?_|refine zF ?_|refine zG ?_|refine zH ?_|refine zI ?_|refine zJ ?_|refine zK ?_|refine zL rfl ?_|refine zM rfl ?_))
   have next : ¬ (0 ≤ c ∧ gs[k] + v[k][j].e.sum ≠ c) → rowDeg gs[k] (gs[k] + v[k][j].e.sum) (v[k].drop (j + 1)) = rowDeg gs[k] d v[k] := fun h => by rwa [if_neg h] at hrow
   cases h1 : decide (0 ≤ c)
   ·(repeat(first|refine zA ?_|refine zB ?_|refine zE rfl (by decide) rfl ?_|refine zF ?_|refine zG ?_|refine zH ?_|refine zI ?_|refine zJ ?_|refine zK ?_|refine zL rfl ?_|refine zM rfl ?_))
    exact ⟨(j + 1, gs[k] + v[k][j].e.sum), ⟨hjl, next (by simp at h1; omega)⟩, by dsimp only; omega, rfl, rfl, rfl, rfl, rfl, rfl, trivial⟩
   ·(repeat(first|refine zA ?_|refine zB ?_|refine zE rfl (by decide) rfl ?_|refine zF ?_|refine zG ?_|refine zH ?_|refine zI ?_|refine zJ ?_|refine zK ?_|refine zL rfl ?_|refine zM rfl ?_))
    cases h2 : (gs[k] + v[k][j].e.sum != c)
    ·(repeat(first|refine zA ?_|refine zB ?_|refine zE rfl (by decide) rfl ?_|refine zF ?_|refine zG ?_|refine zH ?_|refine zI ?_|refine zJ ?_|refine zK ?_|refine zL rfl ?_|refine zM rfl ?_))
     exact ⟨(j + 1, gs[k] + v[k][j].e.sum), ⟨hjl, next (by simp at h2; simp [h2])⟩, by dsimp only; omega, rfl, rfl, rfl, rfl, rfl, rfl, trivial⟩
    ·rw [if_pos ⟨of_decide_eq_true h1, by simpa using h2⟩] at hrow
     rw [← hrow] at hgo
     have : sameT gs v = (0, 4) := by unfold sameT; rw [← hgo]; rfl
     rw [this]
     (repeat(first|refine zA ?_|refine zB ?_|refine zE rfl (by decide) rfl ?_|refine zF ?_|refine zG ?_|refine zH ?_|refine zI ?_|refine zJ ?_|refine zK ?_|refine zL rfl ?_|refine zM rfl ?_))
     exact DW.ret ⟨.inl rfl, _, rfl, Over.refl _, .same _⟩
  ·have hje : j = v[k].length := by have := of_decide_eq_false hb; omega
   rw [hje, List.drop_length] at hrow
   rw [← hrow] at hgo
   (repeat(first|refine zA ?_|refine zB ?_|refine zE rfl (by decide) rfl ?_|refine zF ?_|refine zG ?_|refine zH ?_|refine zI ?_|refine zJ ?_|refine zK ?_|refine zL rfl ?_|refine zM rfl ?_))
   exact ⟨(k + 1, c), ⟨hlt, hgo⟩, by dsimp only; omega, rfl, rfl, rfl, rfl, rfl, trivial⟩
 ·have hke : k = v.length := by have := of_decide_eq_false hb; omega
  rw [hke, List.drop_length, degGo_end] at hgo
  clear hb
  unfold sameT
  rw [← hgo]
  dsimp only
  (repeat(first|refine zA ?_|refine zB ?_|refine zE rfl (by decide) rfl ?_|refine zF ?_|refine zG ?_|refine zH ?_|refine zI ?_|refine zJ ?_|refine zK ?_|refine zL rfl ?_|refine zM rfl ?_))
  refine DW.cond rfl (fun hb => ?_) (fun hb => ?_)
  ·rw [if_pos (of_decide_eq_true hb)]
   (repeat(first|refine zA ?_|refine zB ?_|refine zE rfl (by decide) rfl ?_|refine zF ?_|refine zG ?_|refine zH ?_|refine zI ?_|refine zJ ?_|refine zK ?_|refine zL rfl ?_|refine zM rfl ?_))
   exact DW.ret ⟨.inl rfl, _, rfl, Over.refl _, .same _⟩
  ·rw [if_neg (of_decide_eq_false hb)]
   (repeat(first|refine zA ?_|refine zB ?_|refine zE rfl (by decide) rfl ?_|refine zF ?_|refine zG ?_|refine zH ?_|refine zI ?_|refine zJ ?_|refine zK ?_|refine zL rfl ?_|refine zM rfl ?_))
   exact DW.ret ⟨.inl rfl, _, rfl, Over.refl _, .same _⟩
end
section
open Go.RowKit
set_option maxHeartbeats 4000000

def xyR : Rg := ⟨7, 2, 1, 1⟩

instance instRing1 : BuildT Tryz.prog 23 [I 0, I 0, I 0, I 0] #[(0, 1), (1, 1), (2, 1), (3, 1)] := .of (by kernel_rfl) Tryz.underlying23 (by kernel_rfl) rfl
instance instRing2 : SizeT Tryz.prog 23 4 := .of (by kernel_rfl)

theorem xy_pure : Pure Tryz.prog 28 [] (rgD xyR) := by
 intro H
 refine PureH.of_bodyCell (r := 0) (t := 23) (T0 := 23) (cells := [I 7, I 2, I 1, I 1]) Tryz.func28 rfl (by decide) (Nat.le_of_ble_eq_true rfl) rfl fun w0 => ?_
 (repeat(first|refine zC ?_|refine zD ?_|refine zE rfl (by decide) rfl ?_|refine zF ?_|refine zG ?_|refine zH ?_|refine zI ?_|refine zJ ?_|refine zK ?_|refine zL rfl ?_|refine zM rfl ?_))
 refine RO.dyn rfl (d_alloc fun b hb => ?_)
 (repeat(first|refine zC ?_|refine zD ?_|refine zE rfl (by decide) rfl ?_|refine zF ?_|refine zG ?_|refine zH ?_|refine zI ?_|refine zJ ?_|refine zK ?_|refine zL rfl ?_|refine zM rfl ?_))
 refine RO.sta (s_buildT (out := [I 7, I 2, I 1, I 1]) rfl rfl) rfl ?_
 refine RO.dyn rfl (d_store (k := 4) rfl rfl rfl (Heap.set_self _ _ _) (by decide) (by simp [cellsOf, D.isCell]) ?_)
 rw [Heap.set_set]
 (repeat(first|refine zC ?_|refine zD ?_|refine zE rfl (by decide) rfl ?_|refine zF ?_|refine zG ?_|refine zH ?_|refine zI ?_|refine zJ ?_|refine zK ?_|refine zL rfl ?_|refine zM rfl ?_))
 exact DW.ret ⟨.inl rfl, b, rfl, Heap.set_self _ _ _, (Over.refl _).set hb, hb⟩
end
section
open Go.RowKit
set_option maxHeartbeats 8000000
end
end Go.Proofs.YtfjmdhemlfafbaaGreat
