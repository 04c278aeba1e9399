/-
  PolyRing holds: whatever it is handed, the law answers true, and its arguments read as before. No condition.
-/
import Derived.Test.YtblileclefbklaaDoorKPrc19
import Derived.Test.YtblileclefbklaaDoorKPrc21
import Derived.Test.YtblileclefbklaaDoorKPrc8

namespace Go.Proofs.YtblileclefbklaaDoor
open Go.RowKit
set_option linter.unusedVariables false
set_option linter.unusedSimpArgs false
set_option maxHeartbeats 8000000

theorem pisT_zero {w : Int} {want : Pl} (h : (pisT w want).2 = 0) : w = 0 ∧ greatT want = false ∧ pisT w want = (want, 0) := by
  unfold pisT at *
  by_cases hw : w = 0
  · rw [if_pos hw] at *
    have := done_zero h
    exact ⟨hw, this.1, this.2⟩
  · rw [if_neg hw] at h
    exact absurd h hw

theorem padd_zero {r : Rg} {f g : Pl} (h : (paddT r f g).2 = 0) : polysCk r [f, g] = 0 ∧ greatT (sumT r.p r.order f g) = false ∧ paddT r f g = (sumT r.p r.order f g, 0) := by
  rw [padd_pis] at *
  exact pisT_zero h

theorem pmul_zero {r : Rg} {f g : Pl} (h : (pmulT r f g).2 = 0) : polysCk r [f, g] = 0 ∧ greatT (prodT r.p r.order f g) = false ∧ pmulT r f g = (prodT r.p r.order f g, 0) := by
  rw [pmul_pis] at *
  exact pisT_zero h

theorem value_zero {r : Rg} {f : Pl} {at' : List Int} (h : (valueR r f at').2 = 0) : (at'.length : Int) = r.n ∧ valueR r f at' = (valT r.p at' f, 0) := by
  unfold valueR at *
  by_cases h1 : polysCk r [f] = 0
  · rw [if_neg (by simpa using h1)] at *
    by_cases h2 : atCk r at' = 0
    · rw [if_neg (by simpa using h2)]
      refine ⟨?_, rfl⟩
      unfold atCk at h2
      split at h2
      · assumption
      · cases h2
    · rw [if_pos h2] at h; exact absurd h h2
  · rw [if_pos h1] at h; exact absurd h h1

/-- What was made of three polynomials that are right: the sum of the products, and the product of the sum. -/
theorem ring_add {r : Rg} {f g h : Pl} (hr : ringCk r = 0) (hf : POk r f) (hg : POk r g) (hh : POk r h) (h1 : greatT (prodT r.p r.order (sumT r.p r.order f g) h) = false) (h2 : greatT (prodT r.p r.order f h) = false) (h3 : greatT (prodT r.p r.order g h) = false) :
    paddT r (prodT r.p r.order f h) (prodT r.p r.order g h) = (prodT r.p r.order (sumT r.p r.order f g) h, 0) := by
  have hr2 := ringCk_ok hr
  have hp := ckP_ok hr2.1
  have hpr : Prm r.p := ckP_prm hr2.1
  have hy := prodT_ok (o := r.order) (by omega) hpr hh.ok (by omega) hf.ok.tb
  have hz := prodT_ok (o := r.order) (by omega) hpr hh.ok (by omega) hg.ok.tb
  have hck : polysCk r [prodT r.p r.order f h, prodT r.p r.order g h] = 0 := by
    unfold polysCk
    rw [if_pos hr]
    show (if polyCk r (prodT r.p r.order f h) = 0 then (if polyCk r (prodT r.p r.order g h) = 0 then 0 else polyCk r (prodT r.p r.order g h)) else polyCk r (prodT r.p r.order f h)) = 0
    rw [if_pos (polyCk_zero (by omega) hy h2), if_pos (polyCk_zero (by omega) hz h3)]
  unfold paddT
  rw [if_neg (by simpa using hck), prod_sum (by omega) hpr (by omega) hf.ok hg.ok hh.ok]
  unfold doneT
  rw [h1, if_neg (by decide)]

theorem polyRing_pure (r : Rg) (f g h : Pl) (at' : List Int) (hf : f.length ≤ 4611686018427387904) (hg : g.length ≤ 4611686018427387904) (hh : h.length ≤ 4611686018427387904) (hat : at'.length ≤ 4611686018427387904) : Pure Tryd.prog 5 [rgD r, plD f, plD g, plD h, intsD at'] (.bool true) := by
  intro H
  refine PureH.of_body Tryd.func5 rfl (by decide) (Nat.le_of_ble_eq_true rfl) fun w0 => ?_
  (repeat (first | refine RO.Sv ?_ | refine RO.Yv ?_ | refine RO.no rfl (by decide) rfl ?_ | refine RO.nil ?_ | refine DW.region ?_ | refine DW.seq ?_ | refine DW.block ?_ | refine DW.skip ?_ | refine DW.exit ?_ | refine DW.condT rfl ?_ | refine DW.condF rfl ?_))
  refine RO.sta (sta_call rfl rfl (polyBegun_pure _)) rfl ?_
  refine RO.sta (sta_not rfl) rfl ?_
  (repeat (first | refine RO.Sv ?_ | refine RO.Yv ?_ | refine RO.no rfl (by decide) rfl ?_ | refine RO.nil ?_ | refine DW.region ?_ | refine DW.seq ?_ | refine DW.block ?_ | refine DW.skip ?_ | refine DW.exit ?_ | refine DW.condT rfl ?_ | refine DW.condF rfl ?_))
  refine RO.yes rfl rfl (OpD.of_sta (sta_call rfl rfl (fieldBegun_pure _)) ?_)
  refine RO.yes rfl rfl (OpD.of_sta (sta_not rfl) ?_)
  (repeat (first | refine RO.Sv ?_ | refine RO.Yv ?_ | refine RO.no rfl (by decide) rfl ?_ | refine RO.nil ?_ | refine DW.region ?_ | refine DW.seq ?_ | refine DW.block ?_ | refine DW.skip ?_ | refine DW.exit ?_ | refine DW.condT rfl ?_ | refine DW.condF rfl ?_))
  refine RO.sta (sta_call rfl rfl (pAdd_pure r f g hf hg _)) rfl ?_
  (repeat (first | refine RO.Sv ?_ | refine RO.Yv ?_ | refine RO.no rfl (by decide) rfl ?_ | refine RO.nil ?_ | refine DW.region ?_ | refine DW.seq ?_ | refine DW.block ?_ | refine DW.skip ?_ | refine DW.exit ?_ | refine DW.condT rfl ?_ | refine DW.condF rfl ?_))
  refine RO.sta (sta_call rfl rfl (pMul_pure r f g hf hg _)) rfl ?_
  (repeat (first | refine RO.Sv ?_ | refine RO.Yv ?_ | refine RO.no rfl (by decide) rfl ?_ | refine RO.nil ?_ | refine DW.region ?_ | refine DW.seq ?_ | refine DW.block ?_ | refine DW.skip ?_ | refine DW.exit ?_ | refine DW.condT rfl ?_ | refine DW.condF rfl ?_))
  refine RO.sta (sta_call rfl rfl (pMul_pure r g f hg hf _)) rfl ?_
  (repeat (first | refine RO.Sv ?_ | refine RO.Yv ?_ | refine RO.no rfl (by decide) rfl ?_ | refine RO.nil ?_ | refine DW.region ?_ | refine DW.seq ?_ | refine DW.block ?_ | refine DW.skip ?_ | refine DW.exit ?_ | refine DW.condT rfl ?_ | refine DW.condF rfl ?_))
  cases h1 : ((paddT r f g).2 != 0)
  case true =>
    (repeat (first | refine RO.Sv ?_ | refine RO.Yv ?_ | refine RO.no rfl (by decide) rfl ?_ | refine RO.nil ?_ | refine DW.region ?_ | refine DW.seq ?_ | refine DW.block ?_ | refine DW.skip ?_ | refine DW.exit ?_ | refine DW.condT rfl ?_ | refine DW.condF rfl ?_))
    exact DW.ret ⟨.inl rfl, _, rfl, Over.refl _, .same _⟩
  (repeat (first | refine RO.Sv ?_ | refine RO.Yv ?_ | refine RO.no rfl (by decide) rfl ?_ | refine RO.nil ?_ | refine DW.region ?_ | refine DW.seq ?_ | refine DW.block ?_ | refine DW.skip ?_ | refine DW.exit ?_ | refine DW.condT rfl ?_ | refine DW.condF rfl ?_))
  cases h2 : ((pmulT r f g).2 != 0)
  case true =>
    (repeat (first | refine RO.Sv ?_ | refine RO.Yv ?_ | refine RO.no rfl (by decide) rfl ?_ | refine RO.nil ?_ | refine DW.region ?_ | refine DW.seq ?_ | refine DW.block ?_ | refine DW.skip ?_ | refine DW.exit ?_ | refine DW.condT rfl ?_ | refine DW.condF rfl ?_))
    exact DW.ret ⟨.inl rfl, _, rfl, Over.refl _, .same _⟩
  (repeat (first | refine RO.Sv ?_ | refine RO.Yv ?_ | refine RO.no rfl (by decide) rfl ?_ | refine RO.nil ?_ | refine DW.region ?_ | refine DW.seq ?_ | refine DW.block ?_ | refine DW.skip ?_ | refine DW.exit ?_ | refine DW.condT rfl ?_ | refine DW.condF rfl ?_))
  cases h3 : ((pmulT r g f).2 != 0)
  case true =>
    (repeat (first | refine RO.Sv ?_ | refine RO.Yv ?_ | refine RO.no rfl (by decide) rfl ?_ | refine RO.nil ?_ | refine DW.region ?_ | refine DW.seq ?_ | refine DW.block ?_ | refine DW.skip ?_ | refine DW.exit ?_ | refine DW.condT rfl ?_ | refine DW.condF rfl ?_))
    exact DW.ret ⟨.inl rfl, _, rfl, Over.refl _, .same _⟩
  obtain ⟨hck, hgs, eA⟩ := padd_zero (by simpa using h1)
  obtain ⟨_, hgm, eM⟩ := pmul_zero (by simpa using h2)
  obtain ⟨_, _, eK⟩ := pmul_zero (by simpa using h3)
  clear h1 h2 h3
  obtain ⟨hr, hal⟩ := polysCk_ok hck
  have hfo := hal f (by simp)
  have hgo := hal g (by simp)
  have hr2 := ringCk_ok hr
  have hp := ckP_ok hr2.1
  have hpr : Prm r.p := ckP_prm hr2.1
  rw [← prod_comm (by omega) hpr (by omega) hfo.ok hgo.ok] at eK
  obtain ⟨hn3, hsl, hsb⟩ := sum_pb hck
  obtain ⟨_, hml, hmb⟩ := prod_pb hck
  rw [eA, eM, eK]
  generalize hS : sumT r.p r.order f g = s at hgs hsl hsb ⊢
  generalize hM : prodT r.p r.order f g = m at hgm hml hmb ⊢
  (repeat (first | refine RO.Sv ?_ | refine RO.Yv ?_ | refine RO.no rfl (by decide) rfl ?_ | refine RO.nil ?_ | refine DW.region ?_ | refine DW.seq ?_ | refine DW.block ?_ | refine DW.skip ?_ | refine DW.exit ?_ | refine DW.condT rfl ?_ | refine DW.condF rfl ?_))
  refine RO.sta (sta_call rfl rfl (SamePoly_pure m hml (fun t ht => by have := (hmb.all t ht).len; omega) _)) rfl ?_
  refine RO.sta (sta_not rfl) rfl ?_
  (repeat (first | refine RO.Sv ?_ | refine RO.Yv ?_ | refine RO.no rfl (by decide) rfl ?_ | refine RO.nil ?_ | refine DW.region ?_ | refine DW.seq ?_ | refine DW.block ?_ | refine DW.skip ?_ | refine DW.exit ?_ | refine DW.condT rfl ?_ | refine DW.condF rfl ?_))
  refine RO.sta (sta_call rfl rfl (pMul_pure r s h (by omega) hh _)) rfl ?_
  (repeat (first | refine RO.Sv ?_ | refine RO.Yv ?_ | refine RO.no rfl (by decide) rfl ?_ | refine RO.nil ?_ | refine DW.region ?_ | refine DW.seq ?_ | refine DW.block ?_ | refine DW.skip ?_ | refine DW.exit ?_ | refine DW.condT rfl ?_ | refine DW.condF rfl ?_))
  refine RO.sta (sta_call rfl rfl (pMul_pure r f h hf hh _)) rfl ?_
  (repeat (first | refine RO.Sv ?_ | refine RO.Yv ?_ | refine RO.no rfl (by decide) rfl ?_ | refine RO.nil ?_ | refine DW.region ?_ | refine DW.seq ?_ | refine DW.block ?_ | refine DW.skip ?_ | refine DW.exit ?_ | refine DW.condT rfl ?_ | refine DW.condF rfl ?_))
  refine RO.sta (sta_call rfl rfl (pMul_pure r g h hg hh _)) rfl ?_
  (repeat (first | refine RO.Sv ?_ | refine RO.Yv ?_ | refine RO.no rfl (by decide) rfl ?_ | refine RO.nil ?_ | refine DW.region ?_ | refine DW.seq ?_ | refine DW.block ?_ | refine DW.skip ?_ | refine DW.exit ?_ | refine DW.condT rfl ?_ | refine DW.condF rfl ?_))
  refine RO.cut [(1, plD f), (2, plD g), (4, intsD at'), (5, .ipt 4 [rgD r] 0 0), (11, plD s), (13, plD m), (17, plD (pmulT r s h).1), (18, plD (pmulT r f h).1), (19, plD (pmulT r g h).1), (98, .bool ((pmulT r s h).2 == 0 && ((pmulT r f h).2 == 0 && (pmulT r g h).2 == 0)))] H ?_ ?_
  rotate_left
  · cases h1 : ((pmulT r s h).2 == 0)
    case false =>
      (repeat (first | refine RO.Sv ?_ | refine RO.Yv ?_ | refine RO.no rfl (by decide) rfl ?_ | refine RO.nil ?_ | refine DW.region ?_ | refine DW.seq ?_ | refine DW.block ?_ | refine DW.skip ?_ | refine DW.exit ?_ | refine DW.condT rfl ?_ | refine DW.condF rfl ?_))
      exact ⟨(by repeat first | exact trivial | refine HasG.one rfl ?_ | refine HasN.one rfl ?_), rfl⟩
    (repeat (first | refine RO.Sv ?_ | refine RO.Yv ?_ | refine RO.no rfl (by decide) rfl ?_ | refine RO.nil ?_ | refine DW.region ?_ | refine DW.seq ?_ | refine DW.block ?_ | refine DW.skip ?_ | refine DW.exit ?_ | refine DW.condT rfl ?_ | refine DW.condF rfl ?_))
    cases h2 : ((pmulT r f h).2 == 0)
    case false =>
      (repeat (first | refine RO.Sv ?_ | refine RO.Yv ?_ | refine RO.no rfl (by decide) rfl ?_ | refine RO.nil ?_ | refine DW.region ?_ | refine DW.seq ?_ | refine DW.block ?_ | refine DW.skip ?_ | refine DW.exit ?_ | refine DW.condT rfl ?_ | refine DW.condF rfl ?_))
      exact ⟨(by repeat first | exact trivial | refine HasG.one rfl ?_ | refine HasN.one rfl ?_), rfl⟩
    (repeat (first | refine RO.Sv ?_ | refine RO.Yv ?_ | refine RO.no rfl (by decide) rfl ?_ | refine RO.nil ?_ | refine DW.region ?_ | refine DW.seq ?_ | refine DW.block ?_ | refine DW.skip ?_ | refine DW.exit ?_ | refine DW.condT rfl ?_ | refine DW.condF rfl ?_))
    exact ⟨(by repeat first | exact trivial | refine HasG.one rfl ?_ | refine HasN.one rfl ?_), rfl⟩
  refine DW.cutg [(1, plD f), (2, plD g), (4, intsD at'), (5, .ipt 4 [rgD r] 0 0), (11, plD s), (13, plD m)] H ?_ ?_
  rotate_left
  · cases hb : ((pmulT r s h).2 == 0 && ((pmulT r f h).2 == 0 && (pmulT r g h).2 == 0))
    case false =>
      (repeat (first | refine RO.Sv ?_ | refine RO.Yv ?_ | refine RO.no rfl (by decide) rfl ?_ | refine RO.nil ?_ | refine DW.region ?_ | refine DW.seq ?_ | refine DW.block ?_ | refine DW.skip ?_ | refine DW.exit ?_ | refine DW.condT rfl ?_ | refine DW.condF rfl ?_))
      exact ⟨Heap.sub_refl _, (by repeat first | exact trivial | refine HasG.one rfl ?_ | refine HasN.one rfl ?_ | refine HasG.nil1 rfl ?_)⟩
    rw [Bool.and_eq_true, Bool.and_eq_true] at hb
    obtain ⟨hc1, hg1, e1⟩ := pmul_zero (by simpa using hb.1)
    obtain ⟨_, hg2, e2⟩ := pmul_zero (by simpa using hb.2.1)
    obtain ⟨_, hg3, e3⟩ := pmul_zero (by simpa using hb.2.2)
    have hho := (polysCk_ok hc1).2 h (by simp)
    rw [← hS] at hg1
    have eT := ring_add hr hfo hgo hho hg1 hg2 hg3
    rw [hS] at eT
    have hxb := prodT_ok (o := r.order) (by omega) hpr hho.ok (by omega) hsb.tb
    have hl0 : ∀ t ∈ s, TB 0 r.p r.n.toNat 400 t := hsb.tb
    have hxl : (prodT r.p r.order s h).length ≤ 2000 := by
      rw [← hS]
      unfold greatT at hg1
      simp at hg1
      exact hg1.2
    have hyl : (prodT r.p r.order f h).length ≤ 2000 := by
      unfold greatT at hg2
      simp at hg2
      exact hg2.2
    have hzl : (prodT r.p r.order g h).length ≤ 2000 := by
      unfold greatT at hg3
      simp at hg3
      exact hg3.2
    have hadd := pAdd_pure r (prodT r.p r.order f h) (prodT r.p r.order g h) (by omega) (by omega)
    rw [eT] at hadd
    rw [e1, e2, e3]
    (repeat (first | refine RO.Sv ?_ | refine RO.Yv ?_ | refine RO.no rfl (by decide) rfl ?_ | refine RO.nil ?_ | refine DW.region ?_ | refine DW.seq ?_ | refine DW.block ?_ | refine DW.skip ?_ | refine DW.exit ?_ | refine DW.condT rfl ?_ | refine DW.condF rfl ?_))
    refine RO.sta (sta_call rfl rfl (hadd _)) rfl ?_
    (repeat (first | refine RO.Sv ?_ | refine RO.Yv ?_ | refine RO.no rfl (by decide) rfl ?_ | refine RO.nil ?_ | refine DW.region ?_ | refine DW.seq ?_ | refine DW.block ?_ | refine DW.skip ?_ | refine DW.exit ?_ | refine DW.condT rfl ?_ | refine DW.condF rfl ?_))
    refine RO.yes rfl rfl (OpD.of_sta (sta_call rfl rfl (SamePoly_pure (prodT r.p r.order s h) (by omega) (fun t ht => by have := (hxb.all t ht).len; omega) _)) ?_)
    refine RO.yes rfl rfl (OpD.of_sta (sta_not rfl) ?_)
    (repeat (first | refine RO.Sv ?_ | refine RO.Yv ?_ | refine RO.no rfl (by decide) rfl ?_ | refine RO.nil ?_ | refine DW.region ?_ | refine DW.seq ?_ | refine DW.block ?_ | refine DW.skip ?_ | refine DW.exit ?_ | refine DW.condT rfl ?_ | refine DW.condF rfl ?_))
    exact ⟨Heap.sub_refl _, (by repeat first | exact trivial | refine HasG.one rfl ?_ | refine HasN.one rfl ?_ | refine HasG.nil1 rfl ?_)⟩
  (repeat (first | refine RO.Sv ?_ | refine RO.Yv ?_ | refine RO.no rfl (by decide) rfl ?_ | refine RO.nil ?_ | refine DW.region ?_ | refine DW.seq ?_ | refine DW.block ?_ | refine DW.skip ?_ | refine DW.exit ?_ | refine DW.condT rfl ?_ | refine DW.condF rfl ?_))
  refine RO.sta (sta_call rfl rfl (Value_pure r f at' hf hat _)) rfl ?_
  (repeat (first | refine RO.Sv ?_ | refine RO.Yv ?_ | refine RO.no rfl (by decide) rfl ?_ | refine RO.nil ?_ | refine DW.region ?_ | refine DW.seq ?_ | refine DW.block ?_ | refine DW.skip ?_ | refine DW.exit ?_ | refine DW.condT rfl ?_ | refine DW.condF rfl ?_))
  refine RO.sta (sta_call rfl rfl (Value_pure r g at' hg hat _)) rfl ?_
  (repeat (first | refine RO.Sv ?_ | refine RO.Yv ?_ | refine RO.no rfl (by decide) rfl ?_ | refine RO.nil ?_ | refine DW.region ?_ | refine DW.seq ?_ | refine DW.block ?_ | refine DW.skip ?_ | refine DW.exit ?_ | refine DW.condT rfl ?_ | refine DW.condF rfl ?_))
  refine RO.sta (sta_call rfl rfl (Value_pure r s at' (by omega) hat _)) rfl ?_
  (repeat (first | refine RO.Sv ?_ | refine RO.Yv ?_ | refine RO.no rfl (by decide) rfl ?_ | refine RO.nil ?_ | refine DW.region ?_ | refine DW.seq ?_ | refine DW.block ?_ | refine DW.skip ?_ | refine DW.exit ?_ | refine DW.condT rfl ?_ | refine DW.condF rfl ?_))
  refine RO.sta (sta_call rfl rfl (Value_pure r m at' (by omega) hat _)) rfl ?_
  (repeat (first | refine RO.Sv ?_ | refine RO.Yv ?_ | refine RO.no rfl (by decide) rfl ?_ | refine RO.nil ?_ | refine DW.region ?_ | refine DW.seq ?_ | refine DW.block ?_ | refine DW.skip ?_ | refine DW.exit ?_ | refine DW.condT rfl ?_ | refine DW.condF rfl ?_))
  cases h1 : ((valueR r f at').2 != 0)
  case true =>
    (repeat (first | refine RO.Sv ?_ | refine RO.Yv ?_ | refine RO.no rfl (by decide) rfl ?_ | refine RO.nil ?_ | refine DW.region ?_ | refine DW.seq ?_ | refine DW.block ?_ | refine DW.skip ?_ | refine DW.exit ?_ | refine DW.condT rfl ?_ | refine DW.condF rfl ?_))
    exact DW.ret ⟨.inl rfl, _, rfl, Over.refl _, .same _⟩
  (repeat (first | refine RO.Sv ?_ | refine RO.Yv ?_ | refine RO.no rfl (by decide) rfl ?_ | refine RO.nil ?_ | refine DW.region ?_ | refine DW.seq ?_ | refine DW.block ?_ | refine DW.skip ?_ | refine DW.exit ?_ | refine DW.condT rfl ?_ | refine DW.condF rfl ?_))
  cases h2 : ((valueR r g at').2 != 0)
  case true =>
    (repeat (first | refine RO.Sv ?_ | refine RO.Yv ?_ | refine RO.no rfl (by decide) rfl ?_ | refine RO.nil ?_ | refine DW.region ?_ | refine DW.seq ?_ | refine DW.block ?_ | refine DW.skip ?_ | refine DW.exit ?_ | refine DW.condT rfl ?_ | refine DW.condF rfl ?_))
    exact DW.ret ⟨.inl rfl, _, rfl, Over.refl _, .same _⟩
  (repeat (first | refine RO.Sv ?_ | refine RO.Yv ?_ | refine RO.no rfl (by decide) rfl ?_ | refine RO.nil ?_ | refine DW.region ?_ | refine DW.seq ?_ | refine DW.block ?_ | refine DW.skip ?_ | refine DW.exit ?_ | refine DW.condT rfl ?_ | refine DW.condF rfl ?_))
  cases h3 : ((valueR r s at').2 != 0)
  case true =>
    (repeat (first | refine RO.Sv ?_ | refine RO.Yv ?_ | refine RO.no rfl (by decide) rfl ?_ | refine RO.nil ?_ | refine DW.region ?_ | refine DW.seq ?_ | refine DW.block ?_ | refine DW.skip ?_ | refine DW.exit ?_ | refine DW.condT rfl ?_ | refine DW.condF rfl ?_))
    exact DW.ret ⟨.inl rfl, _, rfl, Over.refl _, .same _⟩
  (repeat (first | refine RO.Sv ?_ | refine RO.Yv ?_ | refine RO.no rfl (by decide) rfl ?_ | refine RO.nil ?_ | refine DW.region ?_ | refine DW.seq ?_ | refine DW.block ?_ | refine DW.skip ?_ | refine DW.exit ?_ | refine DW.condT rfl ?_ | refine DW.condF rfl ?_))
  cases h4 : ((valueR r m at').2 != 0)
  case true =>
    (repeat (first | refine RO.Sv ?_ | refine RO.Yv ?_ | refine RO.no rfl (by decide) rfl ?_ | refine RO.nil ?_ | refine DW.region ?_ | refine DW.seq ?_ | refine DW.block ?_ | refine DW.skip ?_ | refine DW.exit ?_ | refine DW.condT rfl ?_ | refine DW.condF rfl ?_))
    exact DW.ret ⟨.inl rfl, _, rfl, Over.refl _, .same _⟩
  obtain ⟨hlen, v1⟩ := value_zero (by simpa using h1)
  obtain ⟨_, v2⟩ := value_zero (by simpa using h2)
  obtain ⟨_, v3⟩ := value_zero (by simpa using h3)
  obtain ⟨_, v4⟩ := value_zero (by simpa using h4)
  clear h1 h2 h3 h4
  rw [← hS, val_sum (by omega) hfo.ok hgo.ok at'] at v3
  rw [← hM, val_prod (by omega) hpr (by omega) hfo.ok hgo.ok (by omega)] at v4
  rw [hS] at v3
  rw [hM] at v4
  rw [v1, v2, v3, v4]
  have ra := mod_range (x := Lf (evP at') f) hp
  have rb := mod_range (x := Lf (evP at') g) hp
  have hab := mul_range ra rb
  rw [show valT r.p at' f = Lf (evP at') f % r.p from rfl, show valT r.p at' g = Lf (evP at') g % r.p from rfl]
  generalize Lf (evP at') f % r.p = a at ra hab ⊢
  generalize Lf (evP at') g % r.p = b at rb hab ⊢
  (repeat (first | refine RO.Sv ?_ | refine RO.Yv ?_ | refine RO.no rfl (by decide) rfl ?_ | refine RO.nil ?_ | refine DW.region ?_ | refine DW.seq ?_ | refine DW.block ?_ | refine DW.skip ?_ | refine DW.exit ?_ | refine DW.condT rfl ?_ | refine DW.condF rfl ?_))
  rw [show ((a + b) % r.p == (a + b) % r.p) = true by simp]
  (repeat (first | refine RO.Sv ?_ | refine RO.Yv ?_ | refine RO.no rfl (by decide) rfl ?_ | refine RO.nil ?_ | refine DW.region ?_ | refine DW.seq ?_ | refine DW.block ?_ | refine DW.skip ?_ | refine DW.exit ?_ | refine DW.condT rfl ?_ | refine DW.condF rfl ?_))
  refine RO.yes rfl rfl (OpD.of_sta (s_arith (c := a * b) rfl rfl rfl (by omega) (by omega)) ?_)
  (repeat (first | refine RO.Sv ?_ | refine RO.Yv ?_ | refine RO.no rfl (by decide) rfl ?_ | refine RO.nil ?_ | refine DW.region ?_ | refine DW.seq ?_ | refine DW.block ?_ | refine DW.skip ?_ | refine DW.exit ?_ | refine DW.condT rfl ?_ | refine DW.condF rfl ?_))
  rw [show (a * b % r.p == a * b % r.p) = true by simp]
  (repeat (first | refine RO.Sv ?_ | refine RO.Yv ?_ | refine RO.no rfl (by decide) rfl ?_ | refine RO.nil ?_ | refine DW.region ?_ | refine DW.seq ?_ | refine DW.block ?_ | refine DW.skip ?_ | refine DW.exit ?_ | refine DW.condT rfl ?_ | refine DW.condF rfl ?_))
  exact DW.ret ⟨.inl rfl, _, rfl, Over.refl _, .same _⟩

end Go.Proofs.YtblileclefbklaaDoor

namespace Go.Proofs.YtblileclefbklaaDoor
open Go.RowKit Go.ChangeShapes Go.WideShapes Go.ChangeAt
set_option linter.unusedVariables false

set_option maxRecDepth 100000 in
theorem polyRing_lifted (os : Os) (started : os.Started) (H : Type) (enc : TypeId × Value → H) :
    ReturnsInHanded {} Tryd.checked os 5 .any (fun w args => (Rows.polyRingSpec.pre enc Tryd.prog Tryd.f5 [] false w args ∧ laidMetH Tryd.prog Tryd.laidL w) ∧ sizedMet enc Tryd.prog Tryd.f5 (OpenSpec.ofChange Rows.polyRingSpec) false w args) (Rows.polyRingSpec.post enc Tryd.prog Tryd.f5 false true false false) := by
  refine returnsInHanded_of_change_and (C := Tryd.checked) (X := fun w _ => laidMetH Tryd.prog Tryd.laidL w) (fun _ _ _ hh h => h.of_heap hh) Tryd.ownK started (by kernel_rfl) Tryd.func5
    (ChangeSpec.witness_shaped (enc := enc) (C := Tryd.checked) (os := os) (X := fun w _ => laidMetH Tryd.prog Tryd.laidL w) false (World.doorLaid Tryd.prog 24 os) #[.agg #[.int .i64 0, .int .i64 0, .int .i64 0, .int .i64 0], .slice none 0 0, .slice none 0 0, .slice none 0 0, .slice none 0 0] 8 rfl (World.shaped_of_RefB (by kernel_rfl) (by kernel_rfl)) (by kernel_rfl) (by kernel_rfl) (by kernel_rfl) (Tryd.door_met os _)) ?_
  intro W base args ds gs before hval0 hW hcnd hwt hL _
  have hval : ∀ (j : Nat) t v, Tryd.f5.params[j]? = some t → args[j]? = some v → Value.okWide Tryd.prog W .any base t v := hval0
  have hW' := hW
  obtain ⟨p, q, hA0, hV, rfl, hfz, hnd⟩ := hW
  have hA : DataW.TrodAll enc Tryd.prog W 0 (fun _ => true) true Tryd.f5.params.toList args.toList ds p := hA0
  rw [Tryd.params5] at hA hval
  obtain ⟨v0, vs0, d0, ds0, p0, q0, hargs, rfl, rfl, h0, r0⟩ := trodAll_cons hA
  obtain ⟨v1, vs1, d1, ds1, p1, q1, rfl, rfl, rfl, h1, r1⟩ := trodAll_cons r0
  obtain ⟨v2, vs2, d2, ds2, p2, q2, rfl, rfl, rfl, h2, r2⟩ := trodAll_cons r1
  obtain ⟨v3, vs3, d3, ds3, p3, q3, rfl, rfl, rfl, h3, r3⟩ := trodAll_cons r2
  obtain ⟨v4, vs4, d4, ds4, p4, q4, rfl, rfl, rfl, h4, r4⟩ := trodAll_cons r3
  obtain ⟨rfl, rfl, rfl⟩ := trodAll_nil r4
  obtain rfl : args = #[v0, v1, v2, v3, v4] := by cases args; simp_all
  obtain ⟨rfl, rfl⟩ := trodVars_none hV
  rw [Tryd.params5] at hwt
  obtain ⟨w0, hwt⟩ := weights_head hwt
  obtain ⟨w1, hwt⟩ := weights_head hwt
  obtain ⟨w2, hwt⟩ := weights_head hwt
  obtain ⟨w3, hwt⟩ := weights_head hwt
  obtain ⟨w4, hwt⟩ := weights_head hwt
  obtain ⟨c0, rfl, _⟩ := okWide_struct Tryd.underlying23 (hval 0 _ v0 rfl rfl)
  obtain ⟨s1, n1, k1, rfl⟩ := okWide_slice Tryd.underlying25 (hval 1 _ v1 rfl rfl)
  obtain ⟨s2, n2, k2, rfl⟩ := okWide_slice Tryd.underlying25 (hval 2 _ v2 rfl rfl)
  obtain ⟨s3, n3, k3, rfl⟩ := okWide_slice Tryd.underlying25 (hval 3 _ v3 rfl rfl)
  obtain ⟨s4, n4, k4, rfl⟩ := okWide_slice Tryd.underlying36 (hval 4 _ v4 rfl rfl)
  obtain ⟨x0, g0, b0⟩ := arg_agg Tryd.opensRing (fun _ => rfl) h0 w0
  obtain ⟨x1, g1, b1⟩ := arg_cell Tryd.opensPoly (fun _ => rfl) (slice_cells _ _ _) h1 w1
  obtain ⟨x2, g2, b2⟩ := arg_cell Tryd.opensPoly (fun _ => rfl) (slice_cells _ _ _) h2 w2
  obtain ⟨x3, g3, b3⟩ := arg_cell Tryd.opensPoly (fun _ => rfl) (slice_cells _ _ _) h3 w3
  obtain ⟨x4, g4, b4⟩ := arg_cell Tryd.opensInts (fun _ => rfl) (slice_cells _ _ _) h4 w4
  refine (law_calls (polyRing_pure x0 x1 x2 x3 x4 (plLe b1) (plLe b2) (plLe b3) (by have := len_le b4.2 Tryd.bytes_int; omega)) (Tryd.tabs_of_laid hL) (.cons g0 (.cons g1 (.cons g2 (.cons g3 (.cons g4 .nil)))))).mono fun e W' ⟨he, hb⟩ => ?_
  subst he
  exact ⟨_, rfl, law_post hW' rfl Tryd.laidOutK (of_decide_eq_true (by kernel_rfl)) (tb := 4) rfl Tryd.underlying4 rfl rfl rfl hb⟩

theorem polyRing_holds : Rows.PolyRingSaid :=
  OpenClaim.holds_of_wide 5 Tryd.f5 rfl rfl rfl rfl rfl rfl rfl ⟨rfl, rfl, rfl, rfl, rfl⟩ rfl rfl rfl rfl rfl (by kernel_rfl) Tryd.func5 (by kernel_rfl)
    (of_decide_eq_true (by kernel_rfl)) (by unfold Func.isWrapper; first | (rw [if_pos (by decide +kernel)]; kernel_rfl) | (rw [if_neg (by decide +kernel)]; exact ⟨rfl, rfl⟩))
    (fun os started H enc _ => polyRing_lifted os started H enc)

/-- The tied card. -/
theorem polyRing_card_holds : Rows.PolyRingCardSaid :=
  Claim7.holds_tied_plain_at .later [] [.data, .data, .data] true Rows.polyRingCard.stood.harness false
    polyRing_holds (fun _ h => by cases h) (by kernel_rfl) (fun _ h => by cases h) polyRing_row_tie rfl ⟨rfl, rfl⟩ (by kernel_rfl) rfl
    (fun f fn hf hfn => by
      obtain rfl : f = 5 := Option.some.inj ((show Tryd.prog.funcNamed "syzygist/syzygistlaw.PolyRing" = some 5 by kernel_rfl).symm.trans hf) |>.symm
      obtain rfl : fn = Tryd.f5 := (Option.some.inj (Tryd.func5.symm.trans hfn)).symm
      exact ⟨by kernel_rfl, fun j t ht => by
        rw [Tryd.params5] at ht
        have hm : t ∈ [23, 25, 25, 25, 36] := by simpa using Array.mem_of_getElem? ht
        have hall : ([23, 25, 25, 25, 36].all fun u => !Tryd.prog.wantsStandIn u) = true := by kernel_rfl
        exact (show Tryd.prog.wantsStandIn t = false by simpa using List.all_eq_true.1 hall t hm)⟩)
    (by kernel_rfl)

end Go.Proofs.YtblileclefbklaaDoor
