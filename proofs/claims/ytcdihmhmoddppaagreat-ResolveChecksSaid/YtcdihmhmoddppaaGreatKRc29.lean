/-
  ResolveChecks holds: whatever it is handed, the law answers true, and its arguments read as before. No condition.
-/
import Derived.Test.YtcdihmhmoddppaaGreatKRc28
import Derived.Test.YtcdihmhmoddppaaGreatKRc14
import Derived.Test.YtcdihmhmoddppaaGreatKRc15
import Derived.Laws.StructEq
import Derived.Test.YtcdihmhmoddppaaGreatKRc27

namespace Go.Proofs.YtcdihmhmoddppaaGreat
open Go.RowKit
set_option linter.unusedVariables false
set_option linter.unusedSimpArgs false
set_option maxHeartbeats 16000000

theorem resCheck_pure (r : Rg) (x : Rsl) (hx : RslB x) : Pure Tryz.prog 11 [rgD r, rslD x] (I (resCk r x)) := by
  intro H
  obtain ⟨hds, hsl, hst⟩ := hx
  refine PureH.of_body Tryz.func11 rfl (by decide) (Nat.le_of_ble_eq_true rfl) fun w0 => ?_
  unfold rslD
  (repeat (first | refine RO.Sv ?_ | refine RO.Yv ?_ | refine RO.no rfl (by decide) rfl ?_ | refine RO.nil ?_ | refine DW.region ?_ | refine DW.seq ?_ | refine DW.block ?_ | refine DW.skip ?_ | refine DW.exit ?_ | refine DW.condT rfl ?_ | refine DW.condF rfl ?_))
  refine RO.sta (sta_box (k := 3) rfl rfl) rfl ?_
  (repeat (first | refine RO.Sv ?_ | refine RO.Yv ?_ | refine RO.no rfl (by decide) rfl ?_ | refine RO.nil ?_ | refine DW.region ?_ | refine DW.seq ?_ | refine DW.block ?_ | refine DW.skip ?_ | refine DW.exit ?_ | refine DW.condT rfl ?_ | refine DW.condF rfl ?_))
  refine RO.sta (sta_call rfl rfl (Ring_pure _ _)) rfl ?_
  (repeat (first | refine RO.Sv ?_ | refine RO.Yv ?_ | refine RO.no rfl (by decide) rfl ?_ | refine RO.nil ?_ | refine DW.region ?_ | refine DW.seq ?_ | refine DW.block ?_ | refine DW.skip ?_ | refine DW.exit ?_ | refine DW.condT rfl ?_ | refine DW.condF rfl ?_))
  by_cases hr : ringCk r = 0
  case neg =>
    have h : resCk r x = ringCk r := by unfold resCk; rw [if_pos hr]
    rw [h, show (ringCk r != 0) = true by simpa using hr]
    (repeat (first | refine RO.Sv ?_ | refine RO.Yv ?_ | refine RO.no rfl (by decide) rfl ?_ | refine RO.nil ?_ | refine DW.region ?_ | refine DW.seq ?_ | refine DW.block ?_ | refine DW.skip ?_ | refine DW.exit ?_ | refine DW.condT rfl ?_ | refine DW.condF rfl ?_))
    exact DW.ret ⟨.inl rfl, _, rfl, Over.refl _, .same _⟩
  rw [show (ringCk r != 0) = false by simpa using hr]
  have hr' : ¬ ringCk r ≠ 0 := by simpa using hr
  have hr2 := ringCk_ok hr
  (repeat (first | refine RO.Sv ?_ | refine RO.Yv ?_ | refine RO.no rfl (by decide) rfl ?_ | refine RO.nil ?_ | refine DW.region ?_ | refine DW.seq ?_ | refine DW.block ?_ | refine DW.skip ?_ | refine DW.exit ?_ | refine DW.condT rfl ?_ | refine DW.condF rfl ?_))
  cases h1 : decide (x.rank < 1)
  case true =>
    have : resCk r x = 3 := by
      unfold resCk
      rw [if_neg hr', if_pos (.inl (of_decide_eq_true h1))]
    rw [this]
    (repeat (first | refine RO.Sv ?_ | refine RO.Yv ?_ | refine RO.no rfl (by decide) rfl ?_ | refine RO.nil ?_ | refine DW.region ?_ | refine DW.seq ?_ | refine DW.block ?_ | refine DW.skip ?_ | refine DW.exit ?_ | refine DW.condT rfl ?_ | refine DW.condF rfl ?_))
    exact DW.ret ⟨.inl rfl, _, rfl, Over.refl _, .same _⟩
  (repeat (first | refine RO.Sv ?_ | refine RO.Yv ?_ | refine RO.no rfl (by decide) rfl ?_ | refine RO.nil ?_ | refine DW.region ?_ | refine DW.seq ?_ | refine DW.block ?_ | refine DW.skip ?_ | refine DW.exit ?_ | refine DW.condT rfl ?_ | refine DW.condF rfl ?_))
  cases h0 : decide (40 < x.rank)
  case true =>
    have : resCk r x = 3 := by
      unfold resCk
      rw [if_neg hr', if_pos (.inr (.inl (of_decide_eq_true h0)))]
    rw [this]
    (repeat (first | refine RO.Sv ?_ | refine RO.Yv ?_ | refine RO.no rfl (by decide) rfl ?_ | refine RO.nil ?_ | refine DW.region ?_ | refine DW.seq ?_ | refine DW.block ?_ | refine DW.skip ?_ | refine DW.exit ?_ | refine DW.condT rfl ?_ | refine DW.condF rfl ?_))
    exact DW.ret ⟨.inl rfl, _, rfl, Over.refl _, .same _⟩
  (repeat (first | refine RO.Sv ?_ | refine RO.Yv ?_ | refine RO.no rfl (by decide) rfl ?_ | refine RO.nil ?_ | refine DW.region ?_ | refine DW.seq ?_ | refine DW.block ?_ | refine DW.skip ?_ | refine DW.exit ?_ | refine DW.condT rfl ?_ | refine DW.condF rfl ?_))
  cases h2 : decide (r.n < (x.steps.length : Int))
  case true =>
    have : resCk r x = 3 := by
      unfold resCk
      rw [if_neg hr', if_pos (.inr (.inr (of_decide_eq_true h2)))]
    rw [this]
    (repeat (first | refine RO.Sv ?_ | refine RO.Yv ?_ | refine RO.no rfl (by decide) rfl ?_ | refine RO.nil ?_ | refine DW.region ?_ | refine DW.seq ?_ | refine DW.block ?_ | refine DW.skip ?_ | refine DW.exit ?_ | refine DW.condT rfl ?_ | refine DW.condF rfl ?_))
    exact DW.ret ⟨.inl rfl, _, rfl, Over.refl _, .same _⟩
  have h0 := of_decide_eq_false h0
  have h1 := of_decide_eq_false h1
  have h2 := of_decide_eq_false h2
  have hrk : ¬ (x.rank < 1 ∨ 40 < x.rank ∨ r.n < (x.steps.length : Int)) := by omega
  (repeat (first | refine RO.Sv ?_ | refine RO.Yv ?_ | refine RO.no rfl (by decide) rfl ?_ | refine RO.nil ?_ | refine DW.region ?_ | refine DW.seq ?_ | refine DW.block ?_ | refine DW.skip ?_ | refine DW.exit ?_ | refine DW.condT rfl ?_ | refine DW.condF rfl ?_))
  cases h3 : ((x.ds.length : Int) != x.rank)
  case true =>
    have : resCk r x = 1 := by
      unfold resCk
      rw [if_neg hr', if_neg hrk, if_pos (by simpa using h3)]
    rw [this]
    (repeat (first | refine RO.Sv ?_ | refine RO.Yv ?_ | refine RO.no rfl (by decide) rfl ?_ | refine RO.nil ?_ | refine DW.region ?_ | refine DW.seq ?_ | refine DW.block ?_ | refine DW.skip ?_ | refine DW.exit ?_ | refine DW.condT rfl ?_ | refine DW.condF rfl ?_))
    exact DW.ret ⟨.inl rfl, _, rfl, Over.refl _, .same _⟩
  have h3 : (x.ds.length : Int) = x.rank := by simpa using h3
  (repeat (first | refine RO.Sv ?_ | refine RO.Yv ?_ | refine RO.no rfl (by decide) rfl ?_ | refine RO.nil ?_ | refine DW.region ?_ | refine DW.seq ?_ | refine DW.block ?_ | refine DW.skip ?_ | refine DW.exit ?_ | refine DW.condT rfl ?_ | refine DW.condF rfl ?_))
  refine RO.sta (sta_call rfl rfl (containsFunc_int x.ds badDeg hds fun d _ => checkLit_pure d _)) rfl ?_
  (repeat (first | refine RO.Sv ?_ | refine RO.Yv ?_ | refine RO.no rfl (by decide) rfl ?_ | refine RO.nil ?_ | refine DW.region ?_ | refine DW.seq ?_ | refine DW.block ?_ | refine DW.skip ?_ | refine DW.exit ?_ | refine DW.condT rfl ?_ | refine DW.condF rfl ?_))
  cases hbad : x.ds.any badDeg
  case true =>
    have : resCk r x = 3 := by
      unfold resCk
      rw [if_neg hr', if_neg hrk, if_neg (by simpa using h3), if_pos hbad]
    rw [this]
    (repeat (first | refine RO.Sv ?_ | refine RO.Yv ?_ | refine RO.no rfl (by decide) rfl ?_ | refine RO.nil ?_ | refine DW.region ?_ | refine DW.seq ?_ | refine DW.block ?_ | refine DW.skip ?_ | refine DW.exit ?_ | refine DW.condT rfl ?_ | refine DW.condF rfl ?_))
    exact DW.ret ⟨.inl rfl, _, rfl, Over.refl _, .same _⟩
  have hck : resCk r x = resGo r none x.ds x.steps := by
    unfold resCk
    rw [if_neg hr', if_neg hrk, if_neg (by simpa using h3), if_neg (by rw [hbad]; exact Bool.false_ne_true)]
  rw [hck]
  (repeat (first | refine RO.Sv ?_ | refine RO.Yv ?_ | refine RO.no rfl (by decide) rfl ?_ | refine RO.nil ?_ | refine DW.region ?_ | refine DW.seq ?_ | refine DW.block ?_ | refine DW.skip ?_ | refine DW.exit ?_ | refine DW.condT rfl ?_ | refine DW.condF rfl ?_))
  refine DW.loopG (fun y : Nat × List Int => RInv r x y.1 y.2) (fun y => [(2, .ipt 4 [rgD r] 0 0), (3, .ipt 3 [.agg [I x.rank, intsD x.ds, stsD x.steps]] 0 0), (6, intsD y.2), (48, stsD x.steps), (49, I x.steps.length), (50, I y.1)]) (fun _ => H) (fun y => x.steps.length - y.1) (0, x.ds)
    (RInv.start (by omega) hbad) (Heap.sub_refl _) (.one rfl (.one rfl (.one rfl (.one rfl (.one rfl (.one rfl trivial)))))) fun ⟨i, gs⟩ hI => ?_
  dsimp only at hI
  dsimp only
  have hile := hI.le
  (repeat (first | refine RO.Sv ?_ | refine RO.Yv ?_ | refine RO.no rfl (by decide) rfl ?_ | refine RO.nil ?_ | refine DW.region ?_ | refine DW.seq ?_ | refine DW.block ?_ | refine DW.skip ?_ | refine DW.exit ?_ | refine DW.condT rfl ?_ | refine DW.condF rfl ?_))
  refine DW.cond rfl (fun hb => ?_) (fun hb => ?_)
  · have hlt : i < x.steps.length := by have := of_decide_eq_true hb; omega
    clear hb
    obtain ⟨m1, m2, m3⟩ := hst _ (List.getElem_mem hlt)
    (repeat (first | refine RO.Sv ?_ | refine RO.Yv ?_ | refine RO.no rfl (by decide) rfl ?_ | refine RO.nil ?_ | refine DW.region ?_ | refine DW.seq ?_ | refine DW.block ?_ | refine DW.skip ?_ | refine DW.exit ?_ | refine DW.condT rfl ?_ | refine DW.condF rfl ?_))
    refine RO.sta (s_loadSt rfl hlt) rfl ?_
    refine RO.dyn rfl (d_alloc fun bv hbv => ?_)
    (repeat (first | refine RO.Sv ?_ | refine RO.Yv ?_ | refine RO.no rfl (by decide) rfl ?_ | refine RO.nil ?_ | refine DW.region ?_ | refine DW.seq ?_ | refine DW.block ?_ | refine DW.skip ?_ | refine DW.exit ?_ | refine DW.condT rfl ?_ | refine DW.condF rfl ?_))
    refine RO.dyn rfl (d_storeSt rfl rfl (Heap.set_self _ _ _) rfl ?_)
    rw [Heap.set_set]
    obtain ⟨s, hs⟩ : ∃ s, x.steps[i] = s := ⟨_, rfl⟩
    have hbad1 := hI.bad1 hlt
    have hst1 := hI.st hr hlt
    have hnext := hI.next hr hlt
    have hbad2 := hI.bad2 hlt
    have hcomb := fun a b c v hv => hI.comb hr hlt a b c (v := v) hv
    rw [hs] at hbad1 hst1 hnext hbad2 hcomb m1 m2 m3 ⊢
    clear hs
    obtain ⟨vs, ds⟩ := s
    dsimp only at m1 m2 m3 hnext hbad2 hcomb ⊢
    have hgb : ∀ g ∈ gs, -1000000 ≤ g ∧ g ≤ 1000000 := fun g hg => by
      have := hI.degs g hg
      omega
    have hgl := hI.glen
    (repeat (first | refine RO.Sv ?_ | refine RO.Yv ?_ | refine RO.no rfl (by decide) rfl ?_ | refine RO.nil ?_ | refine DW.region ?_ | refine DW.seq ?_ | refine DW.block ?_ | refine DW.skip ?_ | refine DW.exit ?_ | refine DW.condT rfl ?_ | refine DW.condF rfl ?_))
    refine RO.sta (sta_call rfl rfl (step_pure r gs ⟨vs, ds⟩ hr (by omega) hgb m1 m3 m2 _)) rfl ?_
    (repeat (first | refine RO.Sv ?_ | refine RO.Yv ?_ | refine RO.no rfl (by decide) rfl ?_ | refine RO.nil ?_ | refine DW.region ?_ | refine DW.seq ?_ | refine DW.block ?_ | refine DW.skip ?_ | refine DW.exit ?_ | refine DW.condT rfl ?_ | refine DW.condF rfl ?_))
    by_cases hck0 : stepCk r gs ⟨vs, ds⟩ = 0
    case neg =>
      rw [hbad1 hck0, show (stepCk r gs ⟨vs, ds⟩ != 0) = true by simpa using hck0]
      (repeat (first | refine RO.Sv ?_ | refine RO.Yv ?_ | refine RO.no rfl (by decide) rfl ?_ | refine RO.nil ?_ | refine DW.region ?_ | refine DW.seq ?_ | refine DW.block ?_ | refine DW.skip ?_ | refine DW.exit ?_ | refine DW.condT rfl ?_ | refine DW.condF rfl ?_))
      exact DW.ret ⟨.inl rfl, _, rfl, (Over.refl _).set hbv, .same _⟩
    rw [show (stepCk r gs ⟨vs, ds⟩ != 0) = false by simpa using hck0]
    have hso := hst1 hck0
    have hnext := hnext hck0
    have hbad2 := hbad2 hck0
    (repeat (first | refine RO.Sv ?_ | refine RO.Yv ?_ | refine RO.no rfl (by decide) rfl ?_ | refine RO.nil ?_ | refine DW.region ?_ | refine DW.seq ?_ | refine DW.block ?_ | refine DW.skip ?_ | refine DW.exit ?_ | refine DW.condT rfl ?_ | refine DW.condF rfl ?_))
    refine DW.loopG (fun k : Nat => k ≤ vs.length ∧ (vs.drop k).any (pb r (prevT x i)) = prevBad r (prevT x i) vs) (fun k => [(2, .ipt 4 [rgD r] 0 0), (3, .ipt 3 [.agg [I x.rank, intsD x.ds, stsD x.steps]] 0 0), (7, I i), (8, .ptr bv 0), (48, stsD x.steps), (49, I x.steps.length), (50, I i), (63, vcsD vs), (64, I vs.length), (65, I k)]) (fun _ => H.set bv (73, [vcsD vs, intsD ds])) (fun k => vs.length - k) 0 ⟨Nat.zero_le _, rfl⟩ (Heap.sub_refl _) (by repeat first | exact trivial | refine HasG.one rfl ?_ | refine HasN.one rfl ?_) fun k ⟨hk, hgo⟩ => ?_
    (repeat (first | refine RO.Sv ?_ | refine RO.Yv ?_ | refine RO.no rfl (by decide) rfl ?_ | refine RO.nil ?_ | refine DW.region ?_ | refine DW.seq ?_ | refine DW.block ?_ | refine DW.skip ?_ | refine DW.exit ?_ | refine DW.condT rfl ?_ | refine DW.condF rfl ?_))
    refine DW.cond rfl (fun hb => ?_) (fun hb => ?_)
    · have hlv : k < vs.length := by have := of_decide_eq_true hb; omega
      clear hb
      rw [any_drop hlv] at hgo
      (repeat (first | refine RO.Sv ?_ | refine RO.Yv ?_ | refine RO.no rfl (by decide) rfl ?_ | refine RO.nil ?_ | refine DW.region ?_ | refine DW.seq ?_ | refine DW.block ?_ | refine DW.skip ?_ | refine DW.exit ?_ | refine DW.condT rfl ?_ | refine DW.condF rfl ?_))
      cases d2 : decide ((0 : Int) < (i : Int))
      case false =>
        have hi0 : i = 0 := by have := of_decide_eq_false d2; omega
        have hpb : pb r (prevT x i) vs[k] = false := by rw [hi0, prevT_zero]; rfl
        rw [hpb, Bool.false_or] at hgo
        refine DW.drawS 22 Tryz.mixed (by kernel_rfl) (by decide) ?_
        dsimp only [List.take, List.drop]
        (repeat (first | refine RS.Sv ?_ | refine RS.Yv ?_ | refine RS.no rfl (by decide) rfl ?_ | refine RS.nil ?_))
        rw [d2]
        (repeat (first | refine RS.Sv ?_ | refine RS.Yv ?_ | refine RS.no rfl (by decide) rfl ?_ | refine RS.nil ?_))
        (repeat (first | refine RO.Sv ?_ | refine RO.Yv ?_ | refine RO.no rfl (by decide) rfl ?_ | refine RO.nil ?_ | refine DW.region ?_ | refine DW.seq ?_ | refine DW.block ?_ | refine DW.skip ?_ | refine DW.exit ?_ | refine DW.condT rfl ?_ | refine DW.condF rfl ?_))
        exact ⟨k + 1, ⟨hlv, hgo⟩, by dsimp only; omega, Heap.sub_refl _, (by repeat first | exact trivial | refine HasG.one rfl ?_ | refine HasN.one rfl ?_)⟩
      have hip : 0 < i := by have := of_decide_eq_true d2; omega
      have hil : i - 1 < x.steps.length := by omega
      have hsub : ((i : Int) - 1) = ((i - 1 : Nat) : Int) := by omega
      obtain ⟨g0, gc, gp⟩ := hcomb hck0 hip hil vs[k] (List.getElem_mem hlv)
      rw [gp] at hgo
      have hcl : (combT r (x.steps[i - 1].vs[0].length : Int) vs[k] x.steps[i - 1].vs).length ≤ 4611686018427387904 := by
        have := gc.rank2
        have := (combT_mok gc).2.2.1
        omega
      refine DW.drawS 22 Tryz.mixed (by kernel_rfl) (by decide) ?_
      dsimp only [List.take, List.drop]
      (repeat (first | refine RS.Sv ?_ | refine RS.Yv ?_ | refine RS.no rfl (by decide) rfl ?_ | refine RS.nil ?_))
      rw [d2]
      (repeat (first | refine RS.Sv ?_ | refine RS.Yv ?_ | refine RS.no rfl (by decide) rfl ?_ | refine RS.nil ?_))
      rw [hsub]
      (repeat (first | refine RS.Sv ?_ | refine RS.Yv ?_ | refine RS.no rfl (by decide) rfl ?_ | refine RS.nil ?_))
      refine RS.yes rfl (fun H' hov => s_loadVs rfl hil) rfl ?_
      (repeat (first | refine RS.Sv ?_ | refine RS.Yv ?_ | refine RS.no rfl (by decide) rfl ?_ | refine RS.nil ?_))
      rw [hsub]
      (repeat (first | refine RS.Sv ?_ | refine RS.Yv ?_ | refine RS.no rfl (by decide) rfl ?_ | refine RS.nil ?_))
      refine RS.yes rfl (fun H' hov => s_loadVs rfl hil) rfl ?_
      (repeat (first | refine RS.Sv ?_ | refine RS.Yv ?_ | refine RS.no rfl (by decide) rfl ?_ | refine RS.nil ?_))
      refine RO.yes rfl rfl (OpD.of_sta (sta_call rfl rfl (vMade_pure r _ _ _ gc _)) ?_)
      refine RO.yes rfl rfl (OpD.of_sta (sta_call rfl rfl (vIs_pure _ hcl _)) ?_)
      (repeat (first | refine RO.Sv ?_ | refine RO.Yv ?_ | refine RO.no rfl (by decide) rfl ?_ | refine RO.nil ?_ | refine DW.region ?_ | refine DW.seq ?_ | refine DW.block ?_ | refine DW.skip ?_ | refine DW.exit ?_ | refine DW.condT rfl ?_ | refine DW.condF rfl ?_))
      cases hu : (!(emptyT (combT r (x.steps[i - 1].vs[0].length : Int) vs[k] x.steps[i - 1].vs)))
      case true =>
        rw [hu, Bool.true_or] at hgo
        rw [hbad2 hgo.symm]
        (repeat (first | refine RO.Sv ?_ | refine RO.Yv ?_ | refine RO.no rfl (by decide) rfl ?_ | refine RO.nil ?_ | refine DW.region ?_ | refine DW.seq ?_ | refine DW.block ?_ | refine DW.skip ?_ | refine DW.exit ?_ | refine DW.condT rfl ?_ | refine DW.condF rfl ?_))
        exact DW.ret ⟨.inl rfl, _, rfl, (Over.refl _).set hbv, .same _⟩
      rw [hu, Bool.false_or] at hgo
      (repeat (first | refine RO.Sv ?_ | refine RO.Yv ?_ | refine RO.no rfl (by decide) rfl ?_ | refine RO.nil ?_ | refine DW.region ?_ | refine DW.seq ?_ | refine DW.block ?_ | refine DW.skip ?_ | refine DW.exit ?_ | refine DW.condT rfl ?_ | refine DW.condF rfl ?_))
      exact ⟨k + 1, ⟨hlv, hgo⟩, by dsimp only; omega, Heap.sub_refl _, (by repeat first | exact trivial | refine HasG.one rfl ?_ | refine HasN.one rfl ?_)⟩
    · have hge : k = vs.length := by have := of_decide_eq_false hb; omega
      rw [hge, List.drop_length] at hgo
      have hI2 := hnext hgo.symm
      (repeat (first | refine RO.Sv ?_ | refine RO.Yv ?_ | refine RO.no rfl (by decide) rfl ?_ | refine RO.nil ?_ | refine DW.region ?_ | refine DW.seq ?_ | refine DW.block ?_ | refine DW.skip ?_ | refine DW.exit ?_ | refine DW.condT rfl ?_ | refine DW.condF rfl ?_))
      exact ⟨(i + 1, ds), hI2, by dsimp only; omega, Heap.sub_set _ hbv, (by repeat first | exact trivial | refine HasG.one rfl ?_ | refine HasN.one rfl ?_)⟩
  · have hge : i = x.steps.length := by have := of_decide_eq_false hb; omega
    subst hge
    rw [hI.fin]
    (repeat (first | refine RO.Sv ?_ | refine RO.Yv ?_ | refine RO.no rfl (by decide) rfl ?_ | refine RO.nil ?_ | refine DW.region ?_ | refine DW.seq ?_ | refine DW.block ?_ | refine DW.skip ?_ | refine DW.exit ?_ | refine DW.condT rfl ?_ | refine DW.condF rfl ?_))
    exact DW.ret ⟨.inl rfl, _, rfl, Over.refl _, .same _⟩

end Go.Proofs.YtcdihmhmoddppaaGreat

namespace Go.Proofs.YtcdihmhmoddppaaGreat
open Go.RowKit
set_option linter.unusedVariables false
set_option linter.unusedSimpArgs false
set_option maxHeartbeats 8000000

theorem bitsLen_pure (n : Int) (h0 : 0 ≤ n) (h1 : n ≤ 18446744073709551615) : Pure Tryz.prog 139 [.int .u64 n] (I (Lib.bitLen n.toNat)) :=
  pure_of_calls ⟨_, Tryz.func139, rfl, rfl⟩ fun H w args ho hr => by
    obtain ⟨hs, hv⟩ := hr
    obtain ⟨v, hv0, hrep⟩ := hv 0 _ rfl
    have hv' := rep_int hrep
    subst hv'
    obtain rfl : args = #[.int .u64 n] := by
      apply Array.ext_getElem?
      intro j
      cases j with
      | zero => rw [hv0]; rfl
      | succ j => rw [Array.getElem?_eq_none (by rw [hs]; simp), Array.getElem?_eq_none (by simp)]
    refine (Tryz.bits_Len n w h0 h1).mono ?_
    rintro e w' ⟨rfl, rfl⟩
    exact ⟨_, rfl, .int _ _, Below.refl _ _⟩

theorem values_pure (l : List Int) : Pure Tryz.prog 105 [.list 1 (l.map I)] (.fn 130 [.ipt 1 [.list 1 (l.map I)] 0 0]) := by
  intro H
  refine PureH.of_body Tryz.func105 rfl (by decide) (Nat.le_of_ble_eq_true rfl) fun w0 => ?_
  refine DW.seq ?_
  refine DW.regionDead 1 (s := 2) [(1, .ipt 1 [.list 1 (l.map I)] 0 0)] rfl rfl rfl (fun t d h hh => by subst hh; cases h) ?_
  dsimp only [List.take, List.drop]
  (repeat (first | refine RO.Sv ?_ | refine RO.Yv ?_ | refine RO.no rfl (by decide) rfl ?_))
  refine RO.nil ?_
  refine ⟨?_, ⟨rfl, trivial⟩, ?_⟩
  · intro ρ w ha ho
    simp [OpTo, execOp, ha.const]
  (repeat (first | refine RO.Sv ?_ | refine RO.Yv ?_ | refine RO.no rfl (by decide) rfl ?_ | refine RO.nil ?_ | refine DW.region ?_ | refine DW.seq ?_ | refine DW.block ?_ | refine DW.skip ?_ | refine DW.exit ?_ | refine DW.condT rfl ?_ | refine DW.condF rfl ?_))
  exact DW.ret ⟨.inl rfl, _, rfl, Over.refl _, .same _⟩

theorem rep_ints3 {w : World} {H : Heap} {v : Value} {a b c : Int} (h : Rep w H v (.agg [I a, I b, I c])) : v = .agg #[.int .i64 a, .int .i64 b, .int .i64 c] := by
  obtain ⟨vs, rfl, hs, hv⟩ := rep_agg h
  obtain ⟨v0, e0, r0⟩ := hv 0 _ rfl
  obtain ⟨v1, e1, r1⟩ := hv 1 _ rfl
  obtain ⟨v2, e2, r2⟩ := hv 2 _ rfl
  rw [rep_int r0] at e0
  rw [rep_int r1] at e1
  rw [rep_int r2] at e2
  congr 1
  apply Array.ext_getElem?
  intro j
  match j with
  | 0 => rw [e0]; rfl
  | 1 => rw [e1]; rfl
  | 2 => rw [e2]; rfl
  | j + 3 => rw [Array.getElem?_eq_none (by rw [hs]; simp), Array.getElem?_eq_none (by simp)]

/-- Two of the same Betti numbers. -/
def betti3 : List D := [I 2, I 2, I 1]

def bettiEq (t : TypeId) (l m : List D) : Option Bool := bif Nat.beq t 69 && (D.same.sameL l betti3 && D.same.sameL m betti3) then some true else none

theorem bettiEq_ok : AggOk Tryz.prog bettiEq := by
  intro tx l m b h
  unfold bettiEq at h
  cases hc : (Nat.beq tx 69 && (D.same.sameL l betti3 && D.same.sameL m betti3))
  · rw [hc] at h; cases h
  rw [hc] at h
  cases h
  simp only [Bool.and_eq_true] at hc
  obtain ⟨h1, h2, h3⟩ := hc
  have h1 := Nat.eq_of_beq_eq_true h1
  have h2 := sameL_eq _ _ h2
  have h3 := sameL_eq _ _ h3
  subst h1
  subst h2
  subst h3
  refine ⟨rfl, rfl, fun H e x y t2 dst ty pos af gd hx hy => .mk fun ρ w ha ho => ?_⟩
  have r1 := rep_ints3 (ha x _ hx)
  have r2 := rep_ints3 (ha y _ hy)
  have hp : Tryz.prog.stoodInHeld 69 = false := by kernel_rfl
  have hg : Tryz.prog.eqGuardType Tryz.prog.depth 69 = false := by kernel_rfl
  have u0 := Tryz.underlying69
  have u3 := Tryz.underlying3
  have a3 := Tryz.isAgg3
  have z3 := Tryz.sizeOf3
  have ht : Tryz.prog.underlying 69 = some (.struct (Tryz.prog.fieldsOf 69)) := by kernel_rfl
  have hf : (Tryz.prog.fieldsOf 69).toList = [{ name := "Step", type := 3, offset := 0, embedded := false, tag := "", pkgPath := "", byteOffset := 0 }, { name := "Degree", type := 3, offset := 1, embedded := false, tag := "", pkgPath := "", byteOffset := 8 }, { name := "Count", type := 3, offset := 2, embedded := false, tag := "", pkgPath := "", byteOffset := 16 }] := by
    kernel_rfl
  have hrun : (execOp ρ ⟨dst, .binOp .eql 69 x y t2, ty, pos, af, gd⟩).run Tryz.prog w = .ok (.value (.bool true)) w := by
    simp only [execOp, r1, r2]
    simp [go_sem, Sem.run_bind, run_eqGuard_agg, hg, run_eql_struct, run_equalIn_agg w _ _ _ _ ht hp]
  unfold OpTo
  rw [hrun]
  exact ⟨.bool _, ho, .refl _ _⟩

end Go.Proofs.YtcdihmhmoddppaaGreat

namespace Go.Proofs.YtcdihmhmoddppaaGreat
open Go.RowKit
set_option linter.unusedVariables false

def rawB (f : FuncId) : Bool := [94, 96, 97, 115, 116, 136, 52, 73, 118, 119, 120, 138, 148, 123, 140, 158, 134, 162, 128, 144, 68, 129, 145, 163].any (Nat.beq f)
def mbB (t : TypeId) : Bool := [123, 153, 33, 32].any (Nat.beq t)

def valD (l : List Int) : D := .fn 130 [.ipt 1 [.list 1 (l.map I)] 0 0]
def knB : List (FuncId × List D × D) := [(139, [.int .u64 0], I 0), (139, [.int .u64 1], I 1), (139, [.int .u64 2], I 2),
  (105, [.list 1 [I 0]], valD [0]), (105, [.list 1 [I 1, I 1]], valD [1, 1]), (105, [.list 1 [I 2]], valD [2])]
def krB : List (FuncId × List D × TypeId × List D) := [(128, [valD [0]], 3, [I 0]), (128, [valD [1, 1]], 3, [I 1, I 1]), (128, [valD [2]], 3, [I 2])]

theorem knB_ok : ∀ e ∈ knB, D.closed.closedL e.2.1 = true ∧ e.2.2.closed = true ∧ Pure Tryz.prog e.1 e.2.1 e.2.2 := by
  intro e he
  simp only [knB, List.mem_cons, List.not_mem_nil, or_false] at he
  rcases he with rfl | rfl | rfl | rfl | rfl | rfl
  · exact ⟨rfl, rfl, bitsLen_pure 0 (by decide) (by decide)⟩
  · exact ⟨rfl, rfl, bitsLen_pure 1 (by decide) (by decide)⟩
  · exact ⟨rfl, rfl, bitsLen_pure 2 (by decide) (by decide)⟩
  · exact ⟨rfl, rfl, values_pure [0]⟩
  · exact ⟨rfl, rfl, values_pure [1, 1]⟩
  · exact ⟨rfl, rfl, values_pure [2]⟩

theorem krB_ok : KrOk Tryz.prog (krT krB) := krT_ok fun e he => by
  simp only [krB, List.mem_cons, List.not_mem_nil, or_false] at he
  rcases he with rfl | rfl | rfl
  · exact ⟨rfl, rfl, fun H => collect_call H [0] (by simp) (by simp)⟩
  · exact ⟨rfl, rfl, fun H => collect_call H [1, 1] (by simp) (by simp)⟩
  · exact ⟨rfl, rfl, fun H => collect_call H [2] (by simp) (by simp)⟩

/-- A call, run. -/
def runs (P : Program) (raw : FuncId → Bool) (mb : TypeId → Bool) (ag : TypeId → List D → List D → Option Bool) (kn : List (FuncId × List D × D)) (kr : List (FuncId × List D × TypeId × List D)) (f : FuncId) (ds : List D) (d : D) : Bool :=
  D.closed.closedL ds && match pureE (fun f ds S n => runF P raw mb ag (knT kn) (krT kr) 300 100 0 f ds S n) f ds [] 0 with
  | some d' => d'.same d
  | none => false

theorem pure_of_runs {kn : List (FuncId × List D × D)} (hkn : ∀ e ∈ kn, D.closed.closedL e.2.1 = true ∧ e.2.2.closed = true ∧ Pure Tryz.prog e.1 e.2.1 e.2.2) {f : FuncId} {ds : List D} {d : D} (h : runs Tryz.prog rawB mbB bettiEq kn krB f ds d = true) : Pure Tryz.prog f ds d := by
  unfold runs at h
  simp only [Bool.and_eq_true] at h
  obtain ⟨h1, h2⟩ := h
  split at h2
  · rename_i d' hd
    have h3 := D.same_eq _ _ h2
    subst h3
    exact Pure.of_run 300 100 Tryz.mixed bettiEq_ok (knT_ok hkn) krB_ok h1 hd
  · cases h2

theorem kn_cons {f : FuncId} {ds : List D} {d : D} {kn : List (FuncId × List D × D)} (h1 : D.closed.closedL ds = true) (h2 : d.closed = true) (h : Pure Tryz.prog f ds d) (hkn : ∀ e ∈ kn, D.closed.closedL e.2.1 = true ∧ e.2.2.closed = true ∧ Pure Tryz.prog e.1 e.2.1 e.2.2) :
    ∀ e ∈ (f, ds, d) :: kn, D.closed.closedL e.2.1 = true ∧ e.2.2.closed = true ∧ Pure Tryz.prog e.1 e.2.1 e.2.2 := fun e he => by
  rcases List.mem_cons.1 he with rfl | he
  · exact ⟨h1, h2, h⟩
  · exact hkn e he

/-- The ring; x, y; what there is of them; the steps. -/
def rgB : D := .agg [I 7, I 2, I 1, I 1]
def tmB (c a b : Int) : D := .agg [I c, .list 1 [I a, I b]]
def xyB : D := .list 1 [.list 1 [.list 2 [tmB 1 1 0]], .list 1 [.list 2 [tmB 1 0 1]]]
def szB : D := .list 1 [.list 1 [.list 2 [tmB 6 0 1], .list 2 [tmB 1 1 0]]]
def st1B : D := .agg [xyB, .list 1 [I 1, I 1]]
def st2B : D := .agg [szB, .list 1 [I 2]]
def nilB : D := .list 2 []
def mem1B : D := .list 5 [.agg [.list 1 [.list 2 [tmB 1 1 0]], I 0, I 1, .list 1 [I 1, I 0], .list 1 [.list 2 [tmB 1 0 0], nilB]], .agg [.list 1 [.list 2 [tmB 1 0 1]], I 0, I 1, .list 1 [I 0, I 1], .list 1 [nilB, .list 2 [tmB 1 0 0]]]]
def allB : D := .list 1 [.list 1 [nilB, nilB], .list 1 [nilB, nilB], .list 1 [.list 2 [tmB 1 0 1], .list 2 [tmB 6 1 0]]]
def mem2B : D := .list 5 [.agg [.list 1 [.list 2 [tmB 6 0 1], .list 2 [tmB 1 1 0]], I 1, I 1, .list 1 [I 1, I 0], .list 1 [nilB, nilB, .list 2 [tmB 6 0 0]]]]
def resB : D := .agg [I 1, .list 1 [I 0], .list 2 [st1B, st2B]]

end Go.Proofs.YtcdihmhmoddppaaGreat

namespace Go.Proofs.YtcdihmhmoddppaaGreat
open Go.RowKit

theorem few1_pure : Pure Tryz.prog 102 [rgB, .list 1 [I 0], xyB] st1B := pure_of_runs knB_ok (by decide +kernel)

end Go.Proofs.YtcdihmhmoddppaaGreat

namespace Go.Proofs.YtcdihmhmoddppaaGreat
open Go.RowKit

theorem mem1_pure : Pure Tryz.prog 63 [rgB, xyB] mem1B := pure_of_runs knB_ok (by decide +kernel)

end Go.Proofs.YtcdihmhmoddppaaGreat

namespace Go.Proofs.YtcdihmhmoddppaaGreat
open Go.RowKit

theorem mem2_pure : Pure Tryz.prog 63 [rgB, allB] mem2B := pure_of_runs knB_ok (by decide +kernel)

end Go.Proofs.YtcdihmhmoddppaaGreat

namespace Go.Proofs.YtcdihmhmoddppaaGreat
open Go.RowKit

theorem syz1_pure : Pure Tryz.prog 103 [rgB, xyB] szB := pure_of_runs (kn_cons rfl rfl mem1_pure (kn_cons rfl rfl mem2_pure knB_ok)) (by decide +kernel)

end Go.Proofs.YtcdihmhmoddppaaGreat

namespace Go.Proofs.YtcdihmhmoddppaaGreat
open Go.RowKit

theorem few2_pure : Pure Tryz.prog 102 [rgB, .list 1 [I 1, I 1], szB] st2B := pure_of_runs knB_ok (by decide +kernel)

end Go.Proofs.YtcdihmhmoddppaaGreat

namespace Go.Proofs.YtcdihmhmoddppaaGreat
open Go.RowKit

theorem syz2_pure : Pure Tryz.prog 103 [rgB, szB] .nil := pure_of_runs knB_ok (by decide +kernel)

end Go.Proofs.YtcdihmhmoddppaaGreat

namespace Go.Proofs.YtcdihmhmoddppaaGreat
open Go.RowKit

theorem few3_pure : Pure Tryz.prog 102 [rgB, .list 1 [I 2], .nil] (.agg [.nil, .nil]) := pure_of_runs knB_ok (by decide +kernel)

def knR : List (FuncId × List D × D) := [(102, [rgB, .list 1 [I 0], xyB], st1B), (103, [rgB, xyB], szB), (102, [rgB, .list 1 [I 1, I 1], szB], st2B), (103, [rgB, szB], .nil), (102, [rgB, .list 1 [I 2], .nil], .agg [.nil, .nil])]

theorem knR_ok : ∀ e ∈ knR ++ knB, D.closed.closedL e.2.1 = true ∧ e.2.2.closed = true ∧ Pure Tryz.prog e.1 e.2.1 e.2.2 :=
  kn_cons rfl rfl few1_pure (kn_cons rfl rfl syz1_pure (kn_cons rfl rfl few2_pure (kn_cons rfl rfl syz2_pure (kn_cons rfl rfl few3_pure knB_ok))))

theorem raw1_pure : Pure Tryz.prog 67 [rgB, .list 1 [I 0], xyB] resB := pure_of_runs knR_ok (by decide +kernel)

theorem resolveBegun_pure : Pure Tryz.prog 10 [] (.bool true) :=
  pure_of_runs (kn := (67, [rgB, .list 1 [I 0], xyB], resB) :: (knR ++ knB)) (kn_cons rfl rfl raw1_pure knR_ok) (by decide +kernel)

end Go.Proofs.YtcdihmhmoddppaaGreat

namespace Go.Proofs.YtcdihmhmoddppaaGreat
open Go.RowKit
set_option linter.unusedVariables false
set_option linter.unusedSimpArgs false
set_option maxHeartbeats 8000000

instance : AggT Tryz.prog 40 3 := .of Tryz.underlying40 rfl (by kernel_rfl)

theorem resolveChecks_pure (r : Rg) (x : Rsl) (hx : RslB x) : Pure Tryz.prog 4 [rgD r, rslD x] (.bool true) := by
  intro H
  have h1 := resCheck_pure r x hx
  have h2 := CheckResolution_pure r x hx
  unfold rslD at h1 h2 ⊢
  refine PureH.of_body Tryz.func4 rfl (by decide) (Nat.le_of_ble_eq_true rfl) fun w0 => ?_
  (repeat (first | refine RO.Sv ?_ | refine RO.Yv ?_ | refine RO.no rfl (by decide) rfl ?_ | refine RO.nil ?_ | refine DW.region ?_ | refine DW.seq ?_ | refine DW.block ?_ | refine DW.skip ?_ | refine DW.exit ?_ | refine DW.condT rfl ?_ | refine DW.condF rfl ?_))
  refine RO.sta (sta_box (k := 3) rfl rfl) rfl ?_
  (repeat (first | refine RO.Sv ?_ | refine RO.Yv ?_ | refine RO.no rfl (by decide) rfl ?_ | refine RO.nil ?_ | refine DW.region ?_ | refine DW.seq ?_ | refine DW.block ?_ | refine DW.skip ?_ | refine DW.exit ?_ | refine DW.condT rfl ?_ | refine DW.condF rfl ?_))
  refine DW.drawS 10 Tryz.mixed (by kernel_rfl) (by decide) ?_
  dsimp only [List.take, List.drop]
  refine RS.sta (fun H' hov => sta_call rfl rfl (resolveBegun_pure _)) rfl ?_
  (repeat (first | refine RS.Sv ?_ | refine RS.Yv ?_ | refine RS.no rfl (by decide) rfl ?_ | refine RS.nil ?_))
  refine RS.yes rfl (fun H' hov => sta_call rfl rfl (h1 _)) rfl ?_
  (repeat (first | refine RS.Sv ?_ | refine RS.Yv ?_ | refine RS.no rfl (by decide) rfl ?_ | refine RS.nil ?_))
  refine RS.yes rfl (fun H' hov => sta_call rfl rfl (h2 _)) rfl ?_
  (repeat (first | refine RS.Sv ?_ | refine RS.Yv ?_ | refine RS.no rfl (by decide) rfl ?_ | refine RS.nil ?_))
  rw [show (resCk r x == resCk r x) = true by simp]
  (repeat (first | refine RS.Sv ?_ | refine RS.Yv ?_ | refine RS.no rfl (by decide) rfl ?_ | refine RS.nil ?_))
  (repeat (first | refine RO.Sv ?_ | refine RO.Yv ?_ | refine RO.no rfl (by decide) rfl ?_ | refine RO.nil ?_ | refine DW.region ?_ | refine DW.seq ?_ | refine DW.block ?_ | refine DW.skip ?_ | refine DW.exit ?_ | refine DW.condT rfl ?_ | refine DW.condF rfl ?_))
  exact DW.ret ⟨.inl rfl, _, rfl, Over.refl _, .same _⟩

end Go.Proofs.YtcdihmhmoddppaaGreat

namespace Go.Proofs.YtcdihmhmoddppaaGreat
open Go.RowKit Go.ChangeShapes Go.WideShapes Go.ChangeAt
set_option linter.unusedVariables false
set_option linter.unusedSimpArgs false

theorem opens_three {α β δ γ : Type} {P : Program} {t t0 t1 t2 : TypeId} {f0 f1 f2 : Field} {f : γ → D} {g0 : α → D} {g1 : β → D} {g2 : δ → D} {Q0 : α → Prop} {Q1 : β → Prop} {Q2 : δ → Prop} (mk : α → β → δ → γ) (hu : P.underlying t = some (.struct #[f0, f1, f2])) (hc : P.cellsOf t = 3)
    (hc0 : P.cellsOf t0 = 1) (hc1 : P.cellsOf t1 = 1) (hc2 : P.cellsOf t2 = 1) (h0 : f0.type = t0 ∧ f0.offset = 0) (h1 : f1.type = t1 ∧ f1.offset = 1) (h2 : f2.type = t2 ∧ f2.offset = 2) (hf : ∀ a b c, cellsOf (f (mk a b c)) = [g0 a, g1 b, g2 c]) (hg0 : ∀ a, cellsOf (g0 a) = [g0 a]) (hg1 : ∀ a, cellsOf (g1 a) = [g1 a]) (hg2 : ∀ a, cellsOf (g2 a) = [g2 a])
    (ho0 : Opens P t0 1 g0 Q0) (ho1 : Opens P t1 1 g1 Q1) (ho2 : Opens P t2 1 g2 Q2) : Opens P t 3 f (fun x => ∃ a b c, x = mk a b c ∧ Q0 a ∧ Q1 b ∧ Q2 c) := by
  intro H enc W fuel cs d ps h hw
  cases fuel with
  | zero => simp [DataW.trod] at h
  | succ fuel =>
    unfold DataW.trod at h
    rw [hu] at h
    split at h <;> try (simp at *; done)
    rename_i cs _ _ fs h1'
    cases h1'
    split at h
    · rename_i hlen
      rw [hc] at hlen
      match cs, hlen with
      | [c0, c1, c2], _ =>
        simp only [List.mapM_cons, List.mapM_nil, h0.1, h0.2, h1.1, h1.2, h2.1, h2.2, hc0, hc1, hc2, List.drop, List.take] at h
        cases e0 : DataW.trod enc P W 0 (fun _ => true) true fuel t0 [c0] with
        | none => simp [e0] at h
        | some y0 =>
          cases e1 : DataW.trod enc P W 0 (fun _ => true) true fuel t1 [c1] with
          | none => simp [e0, e1] at h
          | some y1 =>
            cases e2 : DataW.trod enc P W 0 (fun _ => true) true fuel t2 [c2] with
            | none => simp [e0, e1, e2] at h
            | some y2 =>
              simp [e0, e1, e2] at h
              obtain ⟨rfl, _⟩ := h
              obtain ⟨d0, p0⟩ := y0
              obtain ⟨d1, p1⟩ := y1
              obtain ⟨d2, p2⟩ := y2
              simp only [DataW.weights, hu, List.map_cons, List.map_nil, DataW.weightsEach, h0.1, h1.1, h2.1, List.append_nil, List.all_append, Bool.and_eq_true] at hw
              obtain ⟨a, ha1, ha2, ha3⟩ := ho0 H enc W fuel [c0] d0 p0 e0 hw.1
              obtain ⟨b, hb1, hb2, hb3⟩ := ho1 H enc W fuel [c1] d1 p1 e1 hw.2.1
              obtain ⟨c, hc1', hc2', hc3'⟩ := ho2 H enc W fuel [c2] d2 p2 e2 hw.2.2
              rw [hg0] at ha2
              rw [hg1] at hb2
              rw [hg2] at hc2'
              refine ⟨mk a b c, by rw [hf]; rfl, ?_, a, b, c, rfl, ha3, hb3, hc3'⟩
              rw [hf]
              refine ⟨rfl, fun j x hx => ?_⟩
              match j, hx with
              | 0, hx =>
                cases hx
                obtain ⟨v, hv, hr⟩ := ha2.2 0 (g0 a) rfl
                simp at hv
                subst hv
                exact ⟨_, rfl, hr⟩
              | 1, hx =>
                cases hx
                obtain ⟨v, hv, hr⟩ := hb2.2 0 (g1 b) rfl
                simp at hv
                subst hv
                exact ⟨_, rfl, hr⟩
              | 2, hx =>
                cases hx
                obtain ⟨v, hv, hr⟩ := hc2'.2 0 (g2 c) rfl
                simp at hv
                subst hv
                exact ⟨_, rfl, hr⟩
              | j + 3, hx => simp at hx
    · cases h

def VcsIn (l : List Vc) : Prop := (∀ v ∈ l, (∀ f ∈ v, (∀ a ∈ f, TmIn Tryz.prog 3 a) ∧ f.length * Tryz.prog.bytesOf 50 ≤ reachBytes) ∧ v.length * Tryz.prog.bytesOf 31 ≤ reachBytes) ∧ l.length * Tryz.prog.bytesOf 33 ≤ reachBytes
def IntsIn (l : List Int) : Prop := (∀ a ∈ l, fitsInt a) ∧ l.length * Tryz.prog.bytesOf 3 ≤ reachBytes

/-- What is known of a step that is handed in. -/
def StIn (s : Stp) : Prop := ∃ v d, s = ⟨v, d⟩ ∧ VcsIn v ∧ IntsIn d

theorem Tryz.opensStep : Opens Tryz.prog 73 2 stD StIn := opens_two (fun v d => (⟨v, d⟩ : Stp)) Tryz.underlying73 (by kernel_rfl) (by kernel_rfl) (by kernel_rfl) ⟨rfl, rfl⟩ ⟨rfl, rfl⟩ (fun _ _ => rfl) (fun _ => rfl) (fun _ => rfl) Tryz.opensVecs Tryz.opensInts

theorem Tryz.opensSteps : Opens Tryz.prog 38 1 stsD (fun l => (∀ s ∈ l, StIn s) ∧ l.length * Tryz.prog.bytesOf 73 ≤ reachBytes) := opens_slice Tryz.underlying38 (by kernel_rfl) (by decide) (fun _ => rfl) Tryz.opensStep

theorem Tryz.opensRes : Opens Tryz.prog 40 3 rslD (fun x => ∃ a b c, x = (⟨a, b, c⟩ : Rsl) ∧ fitsInt a ∧ IntsIn b ∧ ((∀ s ∈ c, StIn s) ∧ c.length * Tryz.prog.bytesOf 73 ≤ reachBytes)) :=
  opens_three (fun a b c => (⟨a, b, c⟩ : Rsl)) Tryz.underlying40 (by kernel_rfl) (by kernel_rfl) (by kernel_rfl) (by kernel_rfl) ⟨rfl, rfl⟩ ⟨rfl, rfl⟩ ⟨rfl, rfl⟩ (fun _ _ _ => rfl) (fun _ => rfl) (fun _ => rfl) (fun _ => rfl) Tryz.opensInt Tryz.opensInts Tryz.opensSteps

theorem Tryz.bytes_step : 8 ≤ Tryz.prog.bytesOf 73 := of_decide_eq_true (by kernel_rfl)

theorem resLe {x : Rsl} (h : ∃ a b c, x = (⟨a, b, c⟩ : Rsl) ∧ fitsInt a ∧ IntsIn b ∧ ((∀ s ∈ c, StIn s) ∧ c.length * Tryz.prog.bytesOf 73 ≤ reachBytes)) : RslB x := by
  obtain ⟨a, b, c, rfl, _, hb, hc, hl⟩ := h
  refine ⟨?_, ?_, fun s hs => ?_⟩
  · have := len_le hb.2 Tryz.bytes_int
    dsimp only
    omega
  · have := len_le hl Tryz.bytes_step
    dsimp only
    omega
  · obtain ⟨v, d, rfl, h1, h2⟩ := hc s hs
    have h3 := vcsLe h1
    have := len_le h2.2 Tryz.bytes_int
    exact ⟨h3.1, by dsimp only; omega, h3.2⟩

end Go.Proofs.YtcdihmhmoddppaaGreat

namespace Go.Proofs.YtcdihmhmoddppaaGreat
open Go.RowKit Go.ChangeShapes Go.WideShapes Go.ChangeAt
set_option linter.unusedVariables false

set_option maxRecDepth 100000 in
theorem resolveChecks_lifted (os : Os) (started : os.Started) (H : Type) (enc : TypeId × Value → H) :
    ReturnsInHanded {} Tryz.checked os 4 .any (Rows.resolveChecksSpec.pre6 enc Tryz.prog Tryz.f4 Rows.resolveChecksRow.domain false) (Rows.resolveChecksSpec.post enc Tryz.prog Tryz.f4 false true false false) := by
  refine returnsInHanded_of_change_sized (C := Tryz.checked) Tryz.ownK started (by kernel_rfl) Tryz.func4
    (ChangeSpec.witness6 (enc := enc) (C := Tryz.checked) false ⟨#[], #[.agg #[.int .i64 0, .int .i64 0, .int .i64 0, .int .i64 0], .agg #[.int .i64 0, .slice none 0 0, .slice none 0 0]], []⟩ 8 (by kernel_rfl) (by kernel_rfl) (by kernel_rfl) (by kernel_rfl)) ?_
  intro W base args ds gs before hval0 hW hcnd hwt _
  have hval : ∀ (j : Nat) t v, Tryz.f4.params[j]? = some t → args[j]? = some v → Value.okWide Tryz.prog W .any base t v := hval0
  have hW' := hW
  obtain ⟨p, q, hA0, hV, rfl, hfz, hnd⟩ := hW
  have hA : DataW.TrodAll enc Tryz.prog W 0 (fun _ => true) true Tryz.f4.params.toList args.toList ds p := hA0
  rw [Tryz.params4] at hA hval
  obtain ⟨v0, vs0, d0, ds0, p0, q0, hargs, rfl, rfl, h0, r0⟩ := trodAll_cons hA
  obtain ⟨v1, vs1, d1, ds1, p1, q1, rfl, rfl, rfl, h1, r1⟩ := trodAll_cons r0
  obtain ⟨rfl, rfl, rfl⟩ := trodAll_nil r1
  obtain rfl : args = #[v0, v1] := by cases args; simp_all
  obtain ⟨rfl, rfl⟩ := trodVars_none hV
  rw [Tryz.params4] at hwt
  obtain ⟨w0, hwt⟩ := weights_head hwt
  obtain ⟨w1, hwt⟩ := weights_head hwt
  obtain ⟨c0, rfl, _⟩ := okWide_struct Tryz.underlying23 (hval 0 _ v0 rfl rfl)
  obtain ⟨c1, rfl, _⟩ := okWide_struct Tryz.underlying40 (hval 1 _ v1 rfl rfl)
  obtain ⟨x0, g0, b0⟩ := arg_agg Tryz.opensRing (fun _ => rfl) h0 w0
  obtain ⟨x1, g1, b1⟩ := arg_agg Tryz.opensRes (fun _ => rfl) h1 w1
  refine (law_calls (resolveChecks_pure x0 x1 (resLe b1)) (inv_plain _ _) (.cons g0 (.cons g1 .nil))).mono fun e W' ⟨he, hb⟩ => ?_
  subst he
  exact ⟨_, rfl, law_post hW' rfl Tryz.laidOutK (of_decide_eq_true (by kernel_rfl)) (tb := 4) rfl Tryz.underlying4 rfl rfl rfl hb⟩

theorem resolveChecks_holds : Rows.ResolveChecksSaid :=
  OpenClaim.holds_of_wide 4 Tryz.f4 rfl rfl rfl rfl rfl rfl rfl ⟨rfl, rfl, rfl, rfl, rfl⟩ rfl rfl rfl rfl rfl (by kernel_rfl) Tryz.func4 (by kernel_rfl)
    (of_decide_eq_true (by kernel_rfl)) (by unfold Func.isWrapper; first | (rw [if_pos (by decide +kernel)]; kernel_rfl) | (rw [if_neg (by decide +kernel)]; exact ⟨rfl, rfl⟩))
    (fun os started H enc _ => resolveChecks_lifted os started H enc)

end Go.Proofs.YtcdihmhmoddppaaGreat
