/-
  The document's CheckResolution. No condition.
-/
import Derived.Test.YtcdihmhmoddppaaGreatKRc27
import Derived.Test.YtcdihmhmoddppaaGreatKRc24

namespace Go.Proofs.YtcdihmhmoddppaaGreat
open Go.RowKit
set_option linter.unusedVariables false
set_option linter.unusedSimpArgs false
set_option maxHeartbeats 8000000

instance : CellT Tryz.prog 38 := ⟨⟨_, Tryz.underlying38, rfl⟩⟩
instance : SizeT Tryz.prog 73 2 := .of (by kernel_rfl)
instance : AggT Tryz.prog 73 2 := .of Tryz.underlying73 rfl (by kernel_rfl)
instance : FieldT Tryz.prog 73 0 0 := ⟨by kernel_rfl⟩
instance : FieldT Tryz.prog 73 1 1 := ⟨by kernel_rfl⟩
instance : FieldT Tryz.prog 40 0 0 := ⟨by kernel_rfl⟩
instance : FieldT Tryz.prog 40 1 1 := ⟨by kernel_rfl⟩
instance : FieldT Tryz.prog 40 2 2 := ⟨by kernel_rfl⟩
instance : SliceT Tryz.prog 38 73 := ⟨Tryz.underlying38⟩
instance : ElT Tryz.prog 73 2 [.nil, .nil] 48 := .of (z := .agg #[.slice none 0 0, .slice none 0 0]) (by kernel_rfl) rfl rfl rfl (by decide)

theorem units_pure {r : Rg} {n : Nat} {v : Vc} (h : VOk r n v) (hn : n ≤ 40) (hr : ringCk r = 0) : Pure Tryz.prog 72 [vcD v] (.bool (unitsT v)) := by
  intro H
  have hvl := h.len
  rw [← h.units]
  refine PureH.of_body Tryz.func72 rfl (by decide) (Nat.le_of_ble_eq_true rfl) fun w0 => ?_
  (repeat (first | refine RO.Sv ?_ | refine RO.Yv ?_ | refine RO.no rfl (by decide) rfl ?_ | refine RO.nil ?_ | refine DW.region ?_ | refine DW.seq ?_ | refine DW.block ?_ | refine DW.skip ?_ | refine DW.exit ?_ | refine DW.condT rfl ?_ | refine DW.condF rfl ?_))
  refine DW.loopI (fun k : Nat => k ≤ v.length ∧ (v.drop k).any lastU = v.any lastU) (fun k => [(5, vcD v), (6, I v.length), (7, I k)]) (fun _ => H) (fun k => v.length - k) 0 ⟨Nat.zero_le _, rfl⟩ rfl ⟨rfl, rfl, rfl, trivial⟩ fun k ⟨hk, hg⟩ => ?_
  (repeat (first | refine RO.Sv ?_ | refine RO.Yv ?_ | refine RO.no rfl (by decide) rfl ?_ | refine RO.nil ?_ | refine DW.region ?_ | refine DW.seq ?_ | refine DW.block ?_ | refine DW.skip ?_ | refine DW.exit ?_ | refine DW.condT rfl ?_ | refine DW.condF rfl ?_))
  refine DW.cond rfl (fun hb => ?_) (fun hb => ?_)
  · have hlt : k < v.length := by have := of_decide_eq_true hb; omega
    clear hb
    rw [any_drop hlt] at hg
    have hp := h.all _ (List.getElem_mem hlt)
    have hpl := hp.len
    (repeat (first | refine RO.Sv ?_ | refine RO.Yv ?_ | refine RO.no rfl (by decide) rfl ?_ | refine RO.nil ?_ | refine DW.region ?_ | refine DW.seq ?_ | refine DW.block ?_ | refine DW.skip ?_ | refine DW.exit ?_ | refine DW.condT rfl ?_ | refine DW.condF rfl ?_))
    cases hc : decide ((0 : Int) < (v[k].length : Int))
    case false =>
      have h0 : ¬ 0 < v[k].length := by have := of_decide_eq_false hc; omega
      have : lastU v[k] = false := by unfold lastU; rw [dif_neg h0]
      rw [this, Bool.false_or] at hg
      (repeat (first | refine RO.Sv ?_ | refine RO.Yv ?_ | refine RO.no rfl (by decide) rfl ?_ | refine RO.nil ?_ | refine DW.region ?_ | refine DW.seq ?_ | refine DW.block ?_ | refine DW.skip ?_ | refine DW.exit ?_ | refine DW.condT rfl ?_ | refine DW.condF rfl ?_))
      exact ⟨k + 1, ⟨hlt, hg⟩, by dsimp only; omega, rfl, rfl, rfl, rfl, trivial⟩
    have h0 : 0 < v[k].length := by have := of_decide_eq_true hc; omega
    have hl : lastU v[k] = (v[k][v[k].length - 1].e.sum == 0) := by unfold lastU; rw [dif_pos h0]
    have hj : v[k].length - 1 < v[k].length := by omega
    have hsub : ((v[k].length : Int) - 1) = ((v[k].length - 1 : Nat) : Int) := by omega
    have hm := (hp.ok.all _ (List.getElem_mem hj)).mok (by have := ringCk_ok hr; omega) (by omega)
    (repeat (first | refine RO.Sv ?_ | refine RO.Yv ?_ | refine RO.no rfl (by decide) rfl ?_ | refine RO.nil ?_ | refine DW.region ?_ | refine DW.seq ?_ | refine DW.block ?_ | refine DW.skip ?_ | refine DW.exit ?_ | refine DW.condT rfl ?_ | refine DW.condF rfl ?_))
    rw [hsub]
    (repeat (first | refine RO.Sv ?_ | refine RO.Yv ?_ | refine RO.no rfl (by decide) rfl ?_ | refine RO.nil ?_ | refine DW.region ?_ | refine DW.seq ?_ | refine DW.block ?_ | refine DW.skip ?_ | refine DW.exit ?_ | refine DW.condT rfl ?_ | refine DW.condF rfl ?_))
    refine RO.yes rfl rfl (OpD.of_sta (sta_call rfl rfl (Degree_pure hm _)) ?_)
    (repeat (first | refine RO.Sv ?_ | refine RO.Yv ?_ | refine RO.no rfl (by decide) rfl ?_ | refine RO.nil ?_ | refine DW.region ?_ | refine DW.seq ?_ | refine DW.block ?_ | refine DW.skip ?_ | refine DW.exit ?_ | refine DW.condT rfl ?_ | refine DW.condF rfl ?_))
    rw [← hl]
    cases hu : lastU v[k]
    case false =>
      rw [hu, Bool.false_or] at hg
      (repeat (first | refine RO.Sv ?_ | refine RO.Yv ?_ | refine RO.no rfl (by decide) rfl ?_ | refine RO.nil ?_ | refine DW.region ?_ | refine DW.seq ?_ | refine DW.block ?_ | refine DW.skip ?_ | refine DW.exit ?_ | refine DW.condT rfl ?_ | refine DW.condF rfl ?_))
      exact ⟨k + 1, ⟨hlt, hg⟩, by dsimp only; omega, rfl, rfl, rfl, rfl, trivial⟩
    rw [hu, Bool.true_or] at hg
    rw [← hg]
    (repeat (first | refine RO.Sv ?_ | refine RO.Yv ?_ | refine RO.no rfl (by decide) rfl ?_ | refine RO.nil ?_ | refine DW.region ?_ | refine DW.seq ?_ | refine DW.block ?_ | refine DW.skip ?_ | refine DW.exit ?_ | refine DW.condT rfl ?_ | refine DW.condF rfl ?_))
    exact DW.ret ⟨.inl rfl, _, rfl, Over.refl _, .same _⟩
  · have hge : k = v.length := by have := of_decide_eq_false hb; omega
    rw [hge, List.drop_length] at hg
    rw [← hg]
    (repeat (first | refine RO.Sv ?_ | refine RO.Yv ?_ | refine RO.no rfl (by decide) rfl ?_ | refine RO.nil ?_ | refine DW.region ?_ | refine DW.seq ?_ | refine DW.block ?_ | refine DW.skip ?_ | refine DW.exit ?_ | refine DW.condT rfl ?_ | refine DW.condF rfl ?_))
    exact DW.ret ⟨.inl rfl, _, rfl, Over.refl _, .same _⟩

theorem Units_pure {r : Rg} {n : Nat} {v : Vc} (h : VOk r n v) (hn : n ≤ 40) (hr : ringCk r = 0) : Pure Tryz.prog 42 [vcD v] (.bool (unitsT v)) := by
  intro H
  have hvl := h.len
  refine PureH.of_body Tryz.func42 rfl (by decide) (Nat.le_of_ble_eq_true rfl) fun w0 => ?_
  (repeat (first | refine RO.Sv ?_ | refine RO.Yv ?_ | refine RO.no rfl (by decide) rfl ?_ | refine RO.nil ?_ | refine DW.region ?_ | refine DW.seq ?_ | refine DW.block ?_ | refine DW.skip ?_ | refine DW.exit ?_ | refine DW.condT rfl ?_ | refine DW.condF rfl ?_))
  refine DW.loopI (fun k : Nat => k ≤ v.length ∧ (v.drop k).any unitP = v.any unitP) (fun k => [(0, vcD v), (3, I k)]) (fun _ => H) (fun k => v.length - k) 0 ⟨Nat.zero_le _, rfl⟩ rfl ⟨rfl, rfl, trivial⟩ fun k ⟨hk, hg⟩ => ?_
  (repeat (first | refine RO.Sv ?_ | refine RO.Yv ?_ | refine RO.no rfl (by decide) rfl ?_ | refine RO.nil ?_ | refine DW.region ?_ | refine DW.seq ?_ | refine DW.block ?_ | refine DW.skip ?_ | refine DW.exit ?_ | refine DW.condT rfl ?_ | refine DW.condF rfl ?_))
  refine DW.cond rfl (fun hb => ?_) (fun hb => ?_)
  · have hlt : k < v.length := by have := of_decide_eq_true hb; omega
    clear hb
    rw [any_drop hlt] at hg
    have hp := h.all _ (List.getElem_mem hlt)
    have hpl := hp.len
    (repeat (first | refine RO.Sv ?_ | refine RO.Yv ?_ | refine RO.no rfl (by decide) rfl ?_ | refine RO.nil ?_ | refine DW.region ?_ | refine DW.seq ?_ | refine DW.block ?_ | refine DW.skip ?_ | refine DW.exit ?_ | refine DW.condT rfl ?_ | refine DW.condF rfl ?_))
    refine DW.loopI (fun j : Nat => j ≤ v[k].length ∧ (v[k].drop j).any (fun t => t.e.sum == 0) = unitP v[k]) (fun j => [(0, vcD v), (3, I k), (4, I j)]) (fun _ => H) (fun j => v[k].length - j) 0 ⟨Nat.zero_le _, rfl⟩ rfl ⟨rfl, rfl, rfl, trivial⟩ fun j ⟨hj, hgj⟩ => ?_
    (repeat (first | refine RO.Sv ?_ | refine RO.Yv ?_ | refine RO.no rfl (by decide) rfl ?_ | refine RO.nil ?_ | refine DW.region ?_ | refine DW.seq ?_ | refine DW.block ?_ | refine DW.skip ?_ | refine DW.exit ?_ | refine DW.condT rfl ?_ | refine DW.condF rfl ?_))
    refine DW.cond rfl (fun hb => ?_) (fun hb => ?_)
    · have hjl : j < v[k].length := by have := of_decide_eq_true hb; omega
      clear hb
      have hm := (hp.ok.all _ (List.getElem_mem hjl)).mok (by have := ringCk_ok hr; omega) (by omega)
      rw [any_drop hjl] at hgj
      (repeat (first | refine RO.Sv ?_ | refine RO.Yv ?_ | refine RO.no rfl (by decide) rfl ?_ | refine RO.nil ?_ | refine DW.region ?_ | refine DW.seq ?_ | refine DW.block ?_ | refine DW.skip ?_ | refine DW.exit ?_ | refine DW.condT rfl ?_ | refine DW.condF rfl ?_))
      refine RO.sta (sta_call rfl rfl (DegreeOf_pure hm _)) rfl ?_
      (repeat (first | refine RO.Sv ?_ | refine RO.Yv ?_ | refine RO.no rfl (by decide) rfl ?_ | refine RO.nil ?_ | refine DW.region ?_ | refine DW.seq ?_ | refine DW.block ?_ | refine DW.skip ?_ | refine DW.exit ?_ | refine DW.condT rfl ?_ | refine DW.condF rfl ?_))
      cases hu : (v[k][j].e.sum == 0)
      case false =>
        rw [hu, Bool.false_or] at hgj
        (repeat (first | refine RO.Sv ?_ | refine RO.Yv ?_ | refine RO.no rfl (by decide) rfl ?_ | refine RO.nil ?_ | refine DW.region ?_ | refine DW.seq ?_ | refine DW.block ?_ | refine DW.skip ?_ | refine DW.exit ?_ | refine DW.condT rfl ?_ | refine DW.condF rfl ?_))
        exact ⟨j + 1, ⟨hjl, hgj⟩, by dsimp only; omega, rfl, rfl, rfl, rfl, trivial⟩
      rw [hu, Bool.true_or] at hgj
      rw [← hgj, Bool.true_or] at hg
      have : unitsT v = true := hg.symm
      rw [this]
      (repeat (first | refine RO.Sv ?_ | refine RO.Yv ?_ | refine RO.no rfl (by decide) rfl ?_ | refine RO.nil ?_ | refine DW.region ?_ | refine DW.seq ?_ | refine DW.block ?_ | refine DW.skip ?_ | refine DW.exit ?_ | refine DW.condT rfl ?_ | refine DW.condF rfl ?_))
      exact DW.ret ⟨.inl rfl, _, rfl, Over.refl _, .same _⟩
    · have hge : j = v[k].length := by have := of_decide_eq_false hb; omega
      rw [hge, List.drop_length] at hgj
      rw [← hgj] at hg
      have hg : (v.drop (k + 1)).any unitP = v.any unitP := by simpa using hg
      (repeat (first | refine RO.Sv ?_ | refine RO.Yv ?_ | refine RO.no rfl (by decide) rfl ?_ | refine RO.nil ?_ | refine DW.region ?_ | refine DW.seq ?_ | refine DW.block ?_ | refine DW.skip ?_ | refine DW.exit ?_ | refine DW.condT rfl ?_ | refine DW.condF rfl ?_))
      exact ⟨k + 1, ⟨hlt, hg⟩, by dsimp only; omega, rfl, rfl, rfl, trivial⟩
  · have hge : k = v.length := by have := of_decide_eq_false hb; omega
    rw [hge, List.drop_length] at hg
    have : unitsT v = false := hg.symm
    rw [this]
    (repeat (first | refine RO.Sv ?_ | refine RO.Yv ?_ | refine RO.no rfl (by decide) rfl ?_ | refine RO.nil ?_ | refine DW.region ?_ | refine DW.seq ?_ | refine DW.block ?_ | refine DW.skip ?_ | refine DW.exit ?_ | refine DW.condT rfl ?_ | refine DW.condF rfl ?_))
    exact DW.ret ⟨.inl rfl, _, rfl, Over.refl _, .same _⟩

theorem step_pure (r : Rg) (gs : List Int) (s : Stp) (hr : ringCk r = 0) (hgl : gs.length ≤ 1000000) (hg : ∀ g ∈ gs, -1000000 ≤ g ∧ g ≤ 1000000) (hl : s.vs.length ≤ 4611686018427387904) (hv : ∀ v ∈ s.vs, v.length ≤ 4611686018427387904 ∧ ∀ f ∈ v, f.length ≤ 4611686018427387904) (hdl : s.ds.length ≤ 4611686018427387904) :
    Pure Tryz.prog 37 [rgD r, intsD gs, stD s] (I (stepCk r gs s)) := by
  intro H
  obtain ⟨vs, ds⟩ := s
  dsimp only at hl hv hdl
  refine PureH.of_body Tryz.func37 rfl (by decide) (Nat.le_of_ble_eq_true rfl) fun w0 => ?_
  unfold stD
  (repeat (first | refine RO.Sv ?_ | refine RO.Yv ?_ | refine RO.no rfl (by decide) rfl ?_ | refine RO.nil ?_ | refine DW.region ?_ | refine DW.seq ?_ | refine DW.block ?_ | refine DW.skip ?_ | refine DW.exit ?_ | refine DW.condT rfl ?_ | refine DW.condF rfl ?_))
  cases h1 : ((vs.length : Int) == 0)
  case true =>
    have h1 : (vs.length : Int) = 0 := by simpa using h1
    have : stepCk r gs ⟨vs, ds⟩ = 5 := by unfold stepCk; rw [if_pos (by dsimp only; omega)]
    rw [this]
    (repeat (first | refine RO.Sv ?_ | refine RO.Yv ?_ | refine RO.no rfl (by decide) rfl ?_ | refine RO.nil ?_ | refine DW.region ?_ | refine DW.seq ?_ | refine DW.block ?_ | refine DW.skip ?_ | refine DW.exit ?_ | refine DW.condT rfl ?_ | refine DW.condF rfl ?_))
    exact DW.ret ⟨.inl rfl, _, rfl, Over.refl _, .same _⟩
  have h1 : ¬ (vs.length : Int) = 0 := by simpa using h1
  have h1' : ¬ vs.length = 0 := by omega
  (repeat (first | refine RO.Sv ?_ | refine RO.Yv ?_ | refine RO.no rfl (by decide) rfl ?_ | refine RO.nil ?_ | refine DW.region ?_ | refine DW.seq ?_ | refine DW.block ?_ | refine DW.skip ?_ | refine DW.exit ?_ | refine DW.condT rfl ?_ | refine DW.condF rfl ?_))
  refine RO.sta (sta_call rfl rfl (vOwn_pure r gs.length vs hr hl hv _)) rfl ?_
  (repeat (first | refine RO.Sv ?_ | refine RO.Yv ?_ | refine RO.no rfl (by decide) rfl ?_ | refine RO.nil ?_ | refine DW.region ?_ | refine DW.seq ?_ | refine DW.block ?_ | refine DW.skip ?_ | refine DW.exit ?_ | refine DW.condT rfl ?_ | refine DW.condF rfl ?_))
  by_cases h2 : ownCk r gs.length vs = 0
  case neg =>
    have : stepCk r gs ⟨vs, ds⟩ = ownCk r gs.length vs := by unfold stepCk; rw [if_neg h1', if_pos h2]
    rw [this, show (ownCk r gs.length vs != 0) = true by simpa using h2]
    (repeat (first | refine RO.Sv ?_ | refine RO.Yv ?_ | refine RO.no rfl (by decide) rfl ?_ | refine RO.nil ?_ | refine DW.region ?_ | refine DW.seq ?_ | refine DW.block ?_ | refine DW.skip ?_ | refine DW.exit ?_ | refine DW.condT rfl ?_ | refine DW.condF rfl ?_))
    exact DW.ret ⟨.inl rfl, _, rfl, Over.refl _, .same _⟩
  rw [show (ownCk r gs.length vs != 0) = false by simpa using h2]
  obtain ⟨o1, o2, o3, o4⟩ := ownCk_ok hr h2
  have h2' : ¬ ownCk r gs.length vs ≠ 0 := by simpa using h2
  (repeat (first | refine RO.Sv ?_ | refine RO.Yv ?_ | refine RO.no rfl (by decide) rfl ?_ | refine RO.nil ?_ | refine DW.region ?_ | refine DW.seq ?_ | refine DW.block ?_ | refine DW.skip ?_ | refine DW.exit ?_ | refine DW.condT rfl ?_ | refine DW.condF rfl ?_))
  cases h3 : ((ds.length : Int) != (vs.length : Int))
  case true =>
    have h3 : ¬ (ds.length : Int) = vs.length := by simpa using h3
    have : stepCk r gs ⟨vs, ds⟩ = 1 := by unfold stepCk; rw [if_neg h1', if_neg h2', if_pos (by dsimp only; omega)]
    rw [this]
    (repeat (first | refine RO.Sv ?_ | refine RO.Yv ?_ | refine RO.no rfl (by decide) rfl ?_ | refine RO.nil ?_ | refine DW.region ?_ | refine DW.seq ?_ | refine DW.block ?_ | refine DW.skip ?_ | refine DW.exit ?_ | refine DW.condT rfl ?_ | refine DW.condF rfl ?_))
    exact DW.ret ⟨.inl rfl, _, rfl, Over.refl _, .same _⟩
  have h3 : (ds.length : Int) = vs.length := by simpa using h3
  have h3' : ¬ ds.length ≠ vs.length := by omega
  have hck : stepCk r gs ⟨vs, ds⟩ = if stepBad gs ds vs = true then 4 else 0 := by unfold stepCk; rw [if_neg h1', if_neg h2', if_neg h3']
  rw [hck]
  clear hck
  (repeat (first | refine RO.Sv ?_ | refine RO.Yv ?_ | refine RO.no rfl (by decide) rfl ?_ | refine RO.nil ?_ | refine DW.region ?_ | refine DW.seq ?_ | refine DW.block ?_ | refine DW.skip ?_ | refine DW.exit ?_ | refine DW.condT rfl ?_ | refine DW.condF rfl ?_))
  refine DW.loopI (fun k : Nat => k ≤ vs.length ∧ ∀ i < k, degBad gs ds vs i = false) (fun k => [(1, intsD gs), (3, .ipt 4 [rgD r] 0 0), (5, .ipt 2 [.agg [vcsD vs, intsD ds]] 0 0), (33, vcsD vs), (34, I vs.length), (35, I k)]) (fun _ => H) (fun k => vs.length - k) 0 ⟨Nat.zero_le _, fun i h => absurd h (Nat.not_lt_zero _)⟩ rfl ⟨rfl, rfl, rfl, rfl, rfl, rfl, trivial⟩ fun k ⟨hk, hgo⟩ => ?_
  (repeat (first | refine RO.Sv ?_ | refine RO.Yv ?_ | refine RO.no rfl (by decide) rfl ?_ | refine RO.nil ?_ | refine DW.region ?_ | refine DW.seq ?_ | refine DW.block ?_ | refine DW.skip ?_ | refine DW.exit ?_ | refine DW.condT rfl ?_ | refine DW.condF rfl ?_))
  refine DW.cond rfl (fun hb => ?_) (fun hb => ?_)
  · have hlt : k < vs.length := by have := of_decide_eq_true hb; omega
    have hltd : k < ds.length := by omega
    clear hb
    have hvo := o4 _ (List.getElem_mem hlt)
    have hvl := hvo.len
    have hbd := degBad_at (gs := gs) hlt hltd
    have fin : degBad gs ds vs k = false → ∀ i < k + 1, degBad gs ds vs i = false := fun h i hi => by
      rcases Nat.lt_or_eq_of_le (Nat.le_of_lt_succ hi) with h' | h'
      · exact hgo i h'
      · rw [h']; exact h
    have bad : degBad gs ds vs k = true → (if stepBad gs ds vs = true then (4 : Int) else 0) = 4 := fun h => if_pos (stepBad_true hlt h)
    (repeat (first | refine RO.Sv ?_ | refine RO.Yv ?_ | refine RO.no rfl (by decide) rfl ?_ | refine RO.nil ?_ | refine DW.region ?_ | refine DW.seq ?_ | refine DW.block ?_ | refine DW.skip ?_ | refine DW.exit ?_ | refine DW.condT rfl ?_ | refine DW.condF rfl ?_))
    refine RO.sta (sta_call rfl rfl (vSame_pure gs vs[k] (by omega) (by omega) hg (fun f hf => ⟨by have := (hvo.all f hf).len; omega, fun t ht => ((hvo.all f hf).ok.all t ht).mok (by have := ringCk_ok hr; omega) (by omega)⟩) _)) rfl ?_
    (repeat (first | refine RO.Sv ?_ | refine RO.Yv ?_ | refine RO.no rfl (by decide) rfl ?_ | refine RO.nil ?_ | refine DW.region ?_ | refine DW.seq ?_ | refine DW.block ?_ | refine DW.skip ?_ | refine DW.exit ?_ | refine DW.condT rfl ?_ | refine DW.condF rfl ?_))
    cases c1 : ((sameT gs vs[k]).2 != 0)
    case true =>
      rw [bad (by rw [hbd, c1]; rfl)]
      (repeat (first | refine RO.Sv ?_ | refine RO.Yv ?_ | refine RO.no rfl (by decide) rfl ?_ | refine RO.nil ?_ | refine DW.region ?_ | refine DW.seq ?_ | refine DW.block ?_ | refine DW.skip ?_ | refine DW.exit ?_ | refine DW.condT rfl ?_ | refine DW.condF rfl ?_))
      exact DW.ret ⟨.inl rfl, _, rfl, Over.refl _, .same _⟩
    rw [c1, Bool.false_or] at hbd
    (repeat (first | refine RO.Sv ?_ | refine RO.Yv ?_ | refine RO.no rfl (by decide) rfl ?_ | refine RO.nil ?_ | refine DW.region ?_ | refine DW.seq ?_ | refine DW.block ?_ | refine DW.skip ?_ | refine DW.exit ?_ | refine DW.condT rfl ?_ | refine DW.condF rfl ?_))
    cases c2 : ((sameT gs vs[k]).1 != ds[k])
    case true =>
      rw [bad (by rw [hbd, c2]; rfl)]
      (repeat (first | refine RO.Sv ?_ | refine RO.Yv ?_ | refine RO.no rfl (by decide) rfl ?_ | refine RO.nil ?_ | refine DW.region ?_ | refine DW.seq ?_ | refine DW.block ?_ | refine DW.skip ?_ | refine DW.exit ?_ | refine DW.condT rfl ?_ | refine DW.condF rfl ?_))
      exact DW.ret ⟨.inl rfl, _, rfl, Over.refl _, .same _⟩
    rw [c2, Bool.false_or] at hbd
    (repeat (first | refine RO.Sv ?_ | refine RO.Yv ?_ | refine RO.no rfl (by decide) rfl ?_ | refine RO.nil ?_ | refine DW.region ?_ | refine DW.seq ?_ | refine DW.block ?_ | refine DW.skip ?_ | refine DW.exit ?_ | refine DW.condT rfl ?_ | refine DW.condF rfl ?_))
    have hunit : ∀ H', PureH Tryz.prog H' 72 [vcD vs[k]] (.bool (unitsT vs[k])) := units_pure hvo (by omega) hr
    cases c3 : decide ((0 : Int) < (k : Int))
    case false =>
      have hk0 : decide (0 < k) = false := by have := of_decide_eq_false c3; exact decide_eq_false (by omega)
      rw [hk0, Bool.false_and, Bool.false_or] at hbd
      (repeat (first | refine RO.Sv ?_ | refine RO.Yv ?_ | refine RO.no rfl (by decide) rfl ?_ | refine RO.nil ?_ | refine DW.region ?_ | refine DW.seq ?_ | refine DW.block ?_ | refine DW.skip ?_ | refine DW.exit ?_ | refine DW.condT rfl ?_ | refine DW.condF rfl ?_))
      refine RO.yes rfl rfl (OpD.of_sta (sta_call rfl rfl (hunit _)) ?_)
      (repeat (first | refine RO.Sv ?_ | refine RO.Yv ?_ | refine RO.no rfl (by decide) rfl ?_ | refine RO.nil ?_ | refine DW.region ?_ | refine DW.seq ?_ | refine DW.block ?_ | refine DW.skip ?_ | refine DW.exit ?_ | refine DW.condT rfl ?_ | refine DW.condF rfl ?_))
      rw [← hbd]
      cases c4 : degBad gs ds vs k
      case true =>
        rw [bad c4]
        (repeat (first | refine RO.Sv ?_ | refine RO.Yv ?_ | refine RO.no rfl (by decide) rfl ?_ | refine RO.nil ?_ | refine DW.region ?_ | refine DW.seq ?_ | refine DW.block ?_ | refine DW.skip ?_ | refine DW.exit ?_ | refine DW.condT rfl ?_ | refine DW.condF rfl ?_))
        exact DW.ret ⟨.inl rfl, _, rfl, Over.refl _, .same _⟩
      (repeat (first | refine RO.Sv ?_ | refine RO.Yv ?_ | refine RO.no rfl (by decide) rfl ?_ | refine RO.nil ?_ | refine DW.region ?_ | refine DW.seq ?_ | refine DW.block ?_ | refine DW.skip ?_ | refine DW.exit ?_ | refine DW.condT rfl ?_ | refine DW.condF rfl ?_))
      exact ⟨k + 1, ⟨hlt, fin c4⟩, by dsimp only; omega, rfl, rfl, rfl, rfl, rfl, rfl, rfl, trivial⟩
    have hkp : 0 < k := by have := of_decide_eq_true c3; omega
    have hk0 : decide (0 < k) = true := decide_eq_true hkp
    have hsub : ((k : Int) - 1) = ((k - 1 : Nat) : Int) := by omega
    have hkd : k - 1 < ds.length := by omega
    rw [hk0, Bool.true_and, show ds.getD (k - 1) 0 = ds[k - 1] by simp [List.getD_eq_getElem?_getD, hkd]] at hbd
    (repeat (first | refine RO.Sv ?_ | refine RO.Yv ?_ | refine RO.no rfl (by decide) rfl ?_ | refine RO.nil ?_ | refine DW.region ?_ | refine DW.seq ?_ | refine DW.block ?_ | refine DW.skip ?_ | refine DW.exit ?_ | refine DW.condT rfl ?_ | refine DW.condF rfl ?_))
    rw [hsub]
    (repeat (first | refine RO.Sv ?_ | refine RO.Yv ?_ | refine RO.no rfl (by decide) rfl ?_ | refine RO.nil ?_ | refine DW.region ?_ | refine DW.seq ?_ | refine DW.block ?_ | refine DW.skip ?_ | refine DW.exit ?_ | refine DW.condT rfl ?_ | refine DW.condF rfl ?_))
    cases c5 : decide ((sameT gs vs[k]).1 < ds[k - 1])
    case true =>
      rw [bad (by rw [hbd, c5]; rfl)]
      (repeat (first | refine RO.Sv ?_ | refine RO.Yv ?_ | refine RO.no rfl (by decide) rfl ?_ | refine RO.nil ?_ | refine DW.region ?_ | refine DW.seq ?_ | refine DW.block ?_ | refine DW.skip ?_ | refine DW.exit ?_ | refine DW.condT rfl ?_ | refine DW.condF rfl ?_))
      exact DW.ret ⟨.inl rfl, _, rfl, Over.refl _, .same _⟩
    rw [c5, Bool.false_or] at hbd
    (repeat (first | refine RO.Sv ?_ | refine RO.Yv ?_ | refine RO.no rfl (by decide) rfl ?_ | refine RO.nil ?_ | refine DW.region ?_ | refine DW.seq ?_ | refine DW.block ?_ | refine DW.skip ?_ | refine DW.exit ?_ | refine DW.condT rfl ?_ | refine DW.condF rfl ?_))
    refine RO.yes rfl rfl (OpD.of_sta (sta_call rfl rfl (hunit _)) ?_)
    (repeat (first | refine RO.Sv ?_ | refine RO.Yv ?_ | refine RO.no rfl (by decide) rfl ?_ | refine RO.nil ?_ | refine DW.region ?_ | refine DW.seq ?_ | refine DW.block ?_ | refine DW.skip ?_ | refine DW.exit ?_ | refine DW.condT rfl ?_ | refine DW.condF rfl ?_))
    rw [← hbd]
    cases c4 : degBad gs ds vs k
    case true =>
      rw [bad c4]
      (repeat (first | refine RO.Sv ?_ | refine RO.Yv ?_ | refine RO.no rfl (by decide) rfl ?_ | refine RO.nil ?_ | refine DW.region ?_ | refine DW.seq ?_ | refine DW.block ?_ | refine DW.skip ?_ | refine DW.exit ?_ | refine DW.condT rfl ?_ | refine DW.condF rfl ?_))
      exact DW.ret ⟨.inl rfl, _, rfl, Over.refl _, .same _⟩
    (repeat (first | refine RO.Sv ?_ | refine RO.Yv ?_ | refine RO.no rfl (by decide) rfl ?_ | refine RO.nil ?_ | refine DW.region ?_ | refine DW.seq ?_ | refine DW.block ?_ | refine DW.skip ?_ | refine DW.exit ?_ | refine DW.condT rfl ?_ | refine DW.condF rfl ?_))
    exact ⟨k + 1, ⟨hlt, fin c4⟩, by dsimp only; omega, rfl, rfl, rfl, rfl, rfl, rfl, rfl, trivial⟩
  · have hge : k = vs.length := by have := of_decide_eq_false hb; omega
    rw [if_neg (by rw [stepBad_false (by rw [← hge]; exact hgo)]; exact Bool.false_ne_true)]
    (repeat (first | refine RO.Sv ?_ | refine RO.Yv ?_ | refine RO.no rfl (by decide) rfl ?_ | refine RO.nil ?_ | refine DW.region ?_ | refine DW.seq ?_ | refine DW.block ?_ | refine DW.skip ?_ | refine DW.exit ?_ | refine DW.condT rfl ?_ | refine DW.condF rfl ?_))
    exact DW.ret ⟨.inl rfl, _, rfl, Over.refl _, .same _⟩

theorem checkLit_pure (d : Int) : Pure Tryz.prog 36 [I d] (.bool (badDeg d)) := by
  intro H
  refine PureH.of_body Tryz.func36 rfl (by decide) (Nat.le_of_ble_eq_true rfl) fun w0 => ?_
  (repeat (first | refine RO.Sv ?_ | refine RO.Yv ?_ | refine RO.no rfl (by decide) rfl ?_ | refine RO.nil ?_ | refine DW.region ?_ | refine DW.seq ?_ | refine DW.block ?_ | refine DW.skip ?_ | refine DW.exit ?_ | refine DW.condT rfl ?_ | refine DW.condF rfl ?_))
  unfold badDeg
  cases h1 : decide (d < 0)
  · (repeat (first | refine RO.Sv ?_ | refine RO.Yv ?_ | refine RO.no rfl (by decide) rfl ?_ | refine RO.nil ?_ | refine DW.region ?_ | refine DW.seq ?_ | refine DW.block ?_ | refine DW.skip ?_ | refine DW.exit ?_ | refine DW.condT rfl ?_ | refine DW.condF rfl ?_))
    exact DW.ret ⟨.inl rfl, _, rfl, Over.refl _, .same _⟩
  · (repeat (first | refine RO.Sv ?_ | refine RO.Yv ?_ | refine RO.no rfl (by decide) rfl ?_ | refine RO.nil ?_ | refine DW.region ?_ | refine DW.seq ?_ | refine DW.block ?_ | refine DW.skip ?_ | refine DW.exit ?_ | refine DW.condT rfl ?_ | refine DW.condF rfl ?_))
    exact DW.ret ⟨.inl rfl, _, rfl, Over.refl _, .same _⟩

end Go.Proofs.YtcdihmhmoddppaaGreat

namespace Go.Proofs.YtcdihmhmoddppaaGreat
open Go.RowKit
set_option linter.unusedVariables false
set_option linter.unusedSimpArgs false
set_option maxHeartbeats 8000000

theorem combT_mok {r : Rg} {rank : Int} {c : Vc} {l : List Vc} (h : CombOk r rank c l) : r.n.toNat ≤ 3 ∧ VB r r.n.toNat 400 240000000 (combT r rank c l) ∧ (combT r rank c l).length = rank.toNat ∧ rank.toNat ≤ 40 := by
  have hr2 := ringCk_ok h.ring
  have hp := ckP_ok hr2.1
  have hlen := h.len
  have hrk2 := h.rank2
  obtain ⟨m1, m2⟩ := madeT_vb h (ckP_prm hr2.1) (by omega) l.length (Nat.le_refl _)
  exact ⟨by omega, m1.mono (Int.le_refl _) (by omega), m2, by omega⟩

end Go.Proofs.YtcdihmhmoddppaaGreat

namespace Go.Proofs.YtcdihmhmoddppaaGreat
open Go.RowKit
set_option linter.unusedVariables false
set_option linter.unusedSimpArgs false
set_option maxHeartbeats 16000000

theorem s_loadSt {P : Program} {H : Heap} {e : Env} {dst : Option Tmp} {ty : TypeId} {pos : String} {af : Array Edge} {gd : Option (Nat × Bool)} {l : List Stp} {i : Nat} {t : TypeId} {x : Operand} [AggT P t 2] (hx : e.ev x = some (.ipt 2 (l.map stD) i 0)) (hi : i < l.length) : Sta P H e ⟨dst, .load t x, ty, pos, af, gd⟩ (stD l[i]) :=
  s_loadAgg hx (by simp [hi, stD]) rfl

theorem s_loadVs {P : Program} {H : Heap} {e : Env} {dst : Option Tmp} {ty : TypeId} {pos : String} {af : Array Edge} {gd : Option (Nat × Bool)} {l : List Stp} {i : Nat} {t : TypeId} {x : Operand} [CellT P t] (hx : e.ev x = some (.ipt 2 (l.map stD) i 0)) (hi : i < l.length) : Sta P H e ⟨dst, .load t x, ty, pos, af, gd⟩ (vcsD l[i].vs) :=
  s_load hx (by simp [cellAt, hi, stD, cellsOf])

theorem d_storeSt {P : Program} {H : Heap} {e : Env} {dst : Option Tmp} {ty : TypeId} {pos : String} {af : Array Edge} {gd : Option (Nat × Bool)} {t T0 : TypeId} {x y : Operand} {b : Nat} {s : Stp} {cells : List D} {K : D → Heap → Prop} [SizeT P t 2] (hx : e.ev x = some (.ptr b 0)) (hy : e.ev y = some (stD s)) (hH : H b = some (T0, cells)) (hl : cells.length = 2)
    (hK : K (.tup []) (H.set b (T0, [vcsD s.vs, intsD s.ds]))) : OpD P H e ⟨dst, .store t x y, ty, pos, af, gd⟩ K := by
  refine d_store (k := 2) hx hy rfl hH (by show 0 + 2 ≤ cells.length; omega) (fun z hz => ?_) ?_
  · have hz' : z ∈ [vcsD s.vs, intsD s.ds] := hz
    simp at hz'
    rcases hz' with rfl | rfl <;> rfl
  · have : setMany cells 0 (cellsOf (stD s)) = [vcsD s.vs, intsD s.ds] := by
      show setMany cells 0 [vcsD s.vs, intsD s.ds] = _
      match cells, hl with
      | [a, b], _ => rfl
    rw [this]
    exact hK

theorem CheckResolution_pure (r : Rg) (x : Rsl) (hx : RslB x) : Pure Tryz.prog 12 [rgD r, rslD x] (I (resCk r x)) := by
  intro H
  obtain ⟨hds, hsl, hst⟩ := hx
  refine PureH.of_body Tryz.func12 rfl (by decide) (Nat.le_of_ble_eq_true rfl) fun w0 => ?_
  unfold rslD
  (repeat (first | refine RO.Sv ?_ | refine RO.Yv ?_ | refine RO.no rfl (by decide) rfl ?_ | refine RO.nil ?_ | refine DW.region ?_ | refine DW.seq ?_ | refine DW.block ?_ | refine DW.skip ?_ | refine DW.exit ?_ | refine DW.condT rfl ?_ | refine DW.condF rfl ?_))
  refine RO.sta (sta_box (k := 3) rfl rfl) rfl ?_
  (repeat (first | refine RO.Sv ?_ | refine RO.Yv ?_ | refine RO.no rfl (by decide) rfl ?_ | refine RO.nil ?_ | refine DW.region ?_ | refine DW.seq ?_ | refine DW.block ?_ | refine DW.skip ?_ | refine DW.exit ?_ | refine DW.condT rfl ?_ | refine DW.condF rfl ?_))
  refine RO.sta (sta_call rfl rfl (CheckRing_pure _ _)) rfl ?_
  (repeat (first | refine RO.Sv ?_ | refine RO.Yv ?_ | refine RO.no rfl (by decide) rfl ?_ | refine RO.nil ?_ | refine DW.region ?_ | refine DW.seq ?_ | refine DW.block ?_ | refine DW.skip ?_ | refine DW.exit ?_ | refine DW.condT rfl ?_ | refine DW.condF rfl ?_))
  by_cases hr : ringCk r = 0
  case neg =>
    have h : resCk r x = ringCk r := by unfold resCk; rw [if_pos hr]
    rw [h, show (ringCk r != 0) = true by simpa using hr]
    (repeat (first | refine RO.Sv ?_ | refine RO.Yv ?_ | refine RO.no rfl (by decide) rfl ?_ | refine RO.nil ?_ | refine DW.region ?_ | refine DW.seq ?_ | refine DW.block ?_ | refine DW.skip ?_ | refine DW.exit ?_ | refine DW.condT rfl ?_ | refine DW.condF rfl ?_))
    exact DW.ret ⟨.inl rfl, _, rfl, Over.refl _, .same _⟩
  rw [show (ringCk r != 0) = false by simpa using hr]
  have hr' : ¬ ringCk r ≠ 0 := by simpa using hr
  have hr2 := ringCk_ok hr
  (repeat (first | refine RO.Sv ?_ | refine RO.Yv ?_ | refine RO.no rfl (by decide) rfl ?_ | refine RO.nil ?_ | refine DW.region ?_ | refine DW.seq ?_ | refine DW.block ?_ | refine DW.skip ?_ | refine DW.exit ?_ | refine DW.condT rfl ?_ | refine DW.condF rfl ?_))
  refine RO.sta (sta_call rfl rfl (between_pure _ _ _ _)) rfl ?_
  (repeat (first | refine RO.Sv ?_ | refine RO.Yv ?_ | refine RO.no rfl (by decide) rfl ?_ | refine RO.nil ?_ | refine DW.region ?_ | refine DW.seq ?_ | refine DW.block ?_ | refine DW.skip ?_ | refine DW.exit ?_ | refine DW.condT rfl ?_ | refine DW.condF rfl ?_))
  cases h1 : (decide (1 ≤ x.rank) && decide (x.rank ≤ 40))
  case false =>
    have : resCk r x = 3 := by
      unfold resCk
      rw [if_neg hr', if_pos]
      simp only [Bool.and_eq_false_iff, decide_eq_false_iff_not] at h1
      omega
    rw [this]
    (repeat (first | refine RO.Sv ?_ | refine RO.Yv ?_ | refine RO.no rfl (by decide) rfl ?_ | refine RO.nil ?_ | refine DW.region ?_ | refine DW.seq ?_ | refine DW.block ?_ | refine DW.skip ?_ | refine DW.exit ?_ | refine DW.condT rfl ?_ | refine DW.condF rfl ?_))
    exact DW.ret ⟨.inl rfl, _, rfl, Over.refl _, .same _⟩
  (repeat (first | refine RO.Sv ?_ | refine RO.Yv ?_ | refine RO.no rfl (by decide) rfl ?_ | refine RO.nil ?_ | refine DW.region ?_ | refine DW.seq ?_ | refine DW.block ?_ | refine DW.skip ?_ | refine DW.exit ?_ | refine DW.condT rfl ?_ | refine DW.condF rfl ?_))
  cases h2 : decide (r.n < (x.steps.length : Int))
  case true =>
    have : resCk r x = 3 := by
      unfold resCk
      rw [if_neg hr', if_pos (.inr (.inr (of_decide_eq_true h2)))]
    rw [this]
    (repeat (first | refine RO.Sv ?_ | refine RO.Yv ?_ | refine RO.no rfl (by decide) rfl ?_ | refine RO.nil ?_ | refine DW.region ?_ | refine DW.seq ?_ | refine DW.block ?_ | refine DW.skip ?_ | refine DW.exit ?_ | refine DW.condT rfl ?_ | refine DW.condF rfl ?_))
    exact DW.ret ⟨.inl rfl, _, rfl, Over.refl _, .same _⟩
  have h2 := of_decide_eq_false h2
  have hrk : ¬ (x.rank < 1 ∨ 40 < x.rank ∨ r.n < (x.steps.length : Int)) := by
    simp only [Bool.and_eq_true, decide_eq_true_eq] at h1
    omega
  clear h1
  (repeat (first | refine RO.Sv ?_ | refine RO.Yv ?_ | refine RO.no rfl (by decide) rfl ?_ | refine RO.nil ?_ | refine DW.region ?_ | refine DW.seq ?_ | refine DW.block ?_ | refine DW.skip ?_ | refine DW.exit ?_ | refine DW.condT rfl ?_ | refine DW.condF rfl ?_))
  cases h3 : ((x.ds.length : Int) != x.rank)
  case true =>
    have : resCk r x = 1 := by
      unfold resCk
      rw [if_neg hr', if_neg hrk, if_pos (by simpa using h3)]
    rw [this]
    (repeat (first | refine RO.Sv ?_ | refine RO.Yv ?_ | refine RO.no rfl (by decide) rfl ?_ | refine RO.nil ?_ | refine DW.region ?_ | refine DW.seq ?_ | refine DW.block ?_ | refine DW.skip ?_ | refine DW.exit ?_ | refine DW.condT rfl ?_ | refine DW.condF rfl ?_))
    exact DW.ret ⟨.inl rfl, _, rfl, Over.refl _, .same _⟩
  have h3 : (x.ds.length : Int) = x.rank := by simpa using h3
  (repeat (first | refine RO.Sv ?_ | refine RO.Yv ?_ | refine RO.no rfl (by decide) rfl ?_ | refine RO.nil ?_ | refine DW.region ?_ | refine DW.seq ?_ | refine DW.block ?_ | refine DW.skip ?_ | refine DW.exit ?_ | refine DW.condT rfl ?_ | refine DW.condF rfl ?_))
  refine DW.loopI (fun k : Nat => k ≤ x.ds.length ∧ (x.ds.drop k).any badDeg = x.ds.any badDeg) (fun k => [(2, .ipt 4 [rgD r] 0 0), (3, .ipt 3 [.agg [I x.rank, intsD x.ds, stsD x.steps]] 0 0), (6, I k)]) (fun _ => H) (fun k => x.ds.length - k) 0 ⟨Nat.zero_le _, rfl⟩ rfl ⟨rfl, rfl, rfl, trivial⟩ fun k ⟨hk, hg⟩ => ?_
  (repeat (first | refine RO.Sv ?_ | refine RO.Yv ?_ | refine RO.no rfl (by decide) rfl ?_ | refine RO.nil ?_ | refine DW.region ?_ | refine DW.seq ?_ | refine DW.block ?_ | refine DW.skip ?_ | refine DW.exit ?_ | refine DW.condT rfl ?_ | refine DW.condF rfl ?_))
  refine DW.cond rfl (fun hb => ?_) (fun hb => ?_)
  · have hlt : k < x.ds.length := by have := of_decide_eq_true hb; omega
    clear hb
    rw [any_drop hlt] at hg
    (repeat (first | refine RO.Sv ?_ | refine RO.Yv ?_ | refine RO.no rfl (by decide) rfl ?_ | refine RO.nil ?_ | refine DW.region ?_ | refine DW.seq ?_ | refine DW.block ?_ | refine DW.skip ?_ | refine DW.exit ?_ | refine DW.condT rfl ?_ | refine DW.condF rfl ?_))
    refine RO.sta (sta_call rfl rfl (between_pure _ _ _ _)) rfl ?_
    have hbd : (decide ((0 : Int) ≤ x.ds[k]) && decide (x.ds[k] ≤ 200)) = !(badDeg x.ds[k]) := by
      unfold badDeg
      by_cases a : x.ds[k] < 0
      · rw [decide_eq_true a, decide_eq_false (by omega)]; rfl
      · rw [decide_eq_false a, decide_eq_true (show (0 : Int) ≤ x.ds[k] by omega)]
        by_cases c : 200 < x.ds[k]
        · rw [decide_eq_true c, decide_eq_false (by omega)]; rfl
        · rw [decide_eq_false c, decide_eq_true (by omega)]; rfl
    rw [hbd]
    cases hu : badDeg x.ds[k]
    case false =>
      rw [hu, Bool.false_or] at hg
      (repeat (first | refine RO.Sv ?_ | refine RO.Yv ?_ | refine RO.no rfl (by decide) rfl ?_ | refine RO.nil ?_ | refine DW.region ?_ | refine DW.seq ?_ | refine DW.block ?_ | refine DW.skip ?_ | refine DW.exit ?_ | refine DW.condT rfl ?_ | refine DW.condF rfl ?_))
      exact ⟨k + 1, ⟨hlt, hg⟩, by dsimp only; omega, rfl, rfl, rfl, rfl, trivial⟩
    rw [hu, Bool.true_or] at hg
    have : resCk r x = 3 := by
      unfold resCk
      rw [if_neg hr', if_neg hrk, if_neg (by simpa using h3), if_pos hg.symm]
    rw [this]
    (repeat (first | refine RO.Sv ?_ | refine RO.Yv ?_ | refine RO.no rfl (by decide) rfl ?_ | refine RO.nil ?_ | refine DW.region ?_ | refine DW.seq ?_ | refine DW.block ?_ | refine DW.skip ?_ | refine DW.exit ?_ | refine DW.condT rfl ?_ | refine DW.condF rfl ?_))
    exact DW.ret ⟨.inl rfl, _, rfl, Over.refl _, .same _⟩
  have hbad : x.ds.any badDeg = false := by
    rw [← hg, show k = x.ds.length by have := of_decide_eq_false hb; omega, List.drop_length]
    rfl
  clear hg hb hk
  have hck : resCk r x = resGo r none x.ds x.steps := by
    unfold resCk
    rw [if_neg hr', if_neg hrk, if_neg (by simpa using h3), if_neg (by rw [hbad]; exact Bool.false_ne_true)]
  rw [hck]
  (repeat (first | refine RO.Sv ?_ | refine RO.Yv ?_ | refine RO.no rfl (by decide) rfl ?_ | refine RO.nil ?_ | refine DW.region ?_ | refine DW.seq ?_ | refine DW.block ?_ | refine DW.skip ?_ | refine DW.exit ?_ | refine DW.condT rfl ?_ | refine DW.condF rfl ?_))
  refine DW.loopG (fun y : Nat × List Int => RInv r x y.1 y.2) (fun y => [(2, .ipt 4 [rgD r] 0 0), (3, .ipt 3 [.agg [I x.rank, intsD x.ds, stsD x.steps]] 0 0), (7, intsD y.2), (8, I y.1)]) (fun _ => H) (fun y => x.steps.length - y.1) (0, x.ds)
    (RInv.start (by omega) hbad) (Heap.sub_refl _) (.one rfl (.one rfl (.one rfl (.one rfl trivial)))) fun ⟨i, gs⟩ hI => ?_
  dsimp only at hI
  dsimp only
  have hile := hI.le
  (repeat (first | refine RO.Sv ?_ | refine RO.Yv ?_ | refine RO.no rfl (by decide) rfl ?_ | refine RO.nil ?_ | refine DW.region ?_ | refine DW.seq ?_ | refine DW.block ?_ | refine DW.skip ?_ | refine DW.exit ?_ | refine DW.condT rfl ?_ | refine DW.condF rfl ?_))
  refine DW.cond rfl (fun hb => ?_) (fun hb => ?_)
  · have hlt : i < x.steps.length := by have := of_decide_eq_true hb; omega
    clear hb
    obtain ⟨m1, m2, m3⟩ := hst _ (List.getElem_mem hlt)
    (repeat (first | refine RO.Sv ?_ | refine RO.Yv ?_ | refine RO.no rfl (by decide) rfl ?_ | refine RO.nil ?_ | refine DW.region ?_ | refine DW.seq ?_ | refine DW.block ?_ | refine DW.skip ?_ | refine DW.exit ?_ | refine DW.condT rfl ?_ | refine DW.condF rfl ?_))
    refine RO.sta (s_loadSt rfl hlt) rfl ?_
    refine RO.dyn rfl (d_alloc fun bv hbv => ?_)
    refine RO.dyn rfl (d_storeSt rfl rfl (Heap.set_self _ _ _) rfl ?_)
    rw [Heap.set_set]
    obtain ⟨s, hs⟩ : ∃ s, x.steps[i] = s := ⟨_, rfl⟩
    have hbad1 := hI.bad1 hlt
    have hst1 := hI.st hr hlt
    have hnext := hI.next hr hlt
    have hbad2 := hI.bad2 hlt
    have hcomb := fun a b c v hv => hI.comb hr hlt a b c (v := v) hv
    rw [hs] at hbad1 hst1 hnext hbad2 hcomb m1 m2 m3 ⊢
    clear hs
    obtain ⟨vs, ds⟩ := s
    dsimp only at m1 m2 m3 hnext hbad2 hcomb ⊢
    (repeat (first | refine RO.Sv ?_ | refine RO.Yv ?_ | refine RO.no rfl (by decide) rfl ?_ | refine RO.nil ?_ | refine DW.region ?_ | refine DW.seq ?_ | refine DW.block ?_ | refine DW.skip ?_ | refine DW.exit ?_ | refine DW.condT rfl ?_ | refine DW.condF rfl ?_))
    cases h4 : ((vs.length : Int) == 0)
    case true =>
      have h4 : (vs.length : Int) = 0 := by simpa using h4
      have : stepCk r gs ⟨vs, ds⟩ = 5 := by unfold stepCk; rw [if_pos (by dsimp only; omega)]
      rw [hbad1 (by rw [this]; decide), this]
      (repeat (first | refine RO.Sv ?_ | refine RO.Yv ?_ | refine RO.no rfl (by decide) rfl ?_ | refine RO.nil ?_ | refine DW.region ?_ | refine DW.seq ?_ | refine DW.block ?_ | refine DW.skip ?_ | refine DW.exit ?_ | refine DW.condT rfl ?_ | refine DW.condF rfl ?_))
      exact DW.ret ⟨.inl rfl, _, rfl, (Over.refl _).set hbv, .same _⟩
    have h4 : ¬ (vs.length : Int) = 0 := by simpa using h4
    have h4' : ¬ vs.length = 0 := by omega
    (repeat (first | refine RO.Sv ?_ | refine RO.Yv ?_ | refine RO.no rfl (by decide) rfl ?_ | refine RO.nil ?_ | refine DW.region ?_ | refine DW.seq ?_ | refine DW.block ?_ | refine DW.skip ?_ | refine DW.exit ?_ | refine DW.condT rfl ?_ | refine DW.condF rfl ?_))
    refine RO.sta (sta_call rfl rfl (CheckList_pure r gs.length vs hr m1 m3 _)) rfl ?_
    (repeat (first | refine RO.Sv ?_ | refine RO.Yv ?_ | refine RO.no rfl (by decide) rfl ?_ | refine RO.nil ?_ | refine DW.region ?_ | refine DW.seq ?_ | refine DW.block ?_ | refine DW.skip ?_ | refine DW.exit ?_ | refine DW.condT rfl ?_ | refine DW.condF rfl ?_))
    by_cases h5 : ownCk r gs.length vs = 0
    case neg =>
      have : stepCk r gs ⟨vs, ds⟩ = ownCk r gs.length vs := by unfold stepCk; rw [if_neg h4', if_pos h5]
      rw [hbad1 (by rw [this]; exact h5), this, show (ownCk r gs.length vs != 0) = true by simpa using h5]
      (repeat (first | refine RO.Sv ?_ | refine RO.Yv ?_ | refine RO.no rfl (by decide) rfl ?_ | refine RO.nil ?_ | refine DW.region ?_ | refine DW.seq ?_ | refine DW.block ?_ | refine DW.skip ?_ | refine DW.exit ?_ | refine DW.condT rfl ?_ | refine DW.condF rfl ?_))
      exact DW.ret ⟨.inl rfl, _, rfl, (Over.refl _).set hbv, .same _⟩
    rw [show (ownCk r gs.length vs != 0) = false by simpa using h5]
    obtain ⟨o1, o2, o3, o4⟩ := ownCk_ok hr h5
    have h5' : ¬ ownCk r gs.length vs ≠ 0 := by simpa using h5
    (repeat (first | refine RO.Sv ?_ | refine RO.Yv ?_ | refine RO.no rfl (by decide) rfl ?_ | refine RO.nil ?_ | refine DW.region ?_ | refine DW.seq ?_ | refine DW.block ?_ | refine DW.skip ?_ | refine DW.exit ?_ | refine DW.condT rfl ?_ | refine DW.condF rfl ?_))
    cases h6 : ((ds.length : Int) != (vs.length : Int))
    case true =>
      have h6 : ¬ (ds.length : Int) = vs.length := by simpa using h6
      have : stepCk r gs ⟨vs, ds⟩ = 1 := by unfold stepCk; rw [if_neg h4', if_neg h5', if_pos (by dsimp only; omega)]
      rw [hbad1 (by rw [this]; decide), this]
      (repeat (first | refine RO.Sv ?_ | refine RO.Yv ?_ | refine RO.no rfl (by decide) rfl ?_ | refine RO.nil ?_ | refine DW.region ?_ | refine DW.seq ?_ | refine DW.block ?_ | refine DW.skip ?_ | refine DW.exit ?_ | refine DW.condT rfl ?_ | refine DW.condF rfl ?_))
      exact DW.ret ⟨.inl rfl, _, rfl, (Over.refl _).set hbv, .same _⟩
    have h6 : (ds.length : Int) = vs.length := by simpa using h6
    have h6' : ¬ ds.length ≠ vs.length := by omega
    have hck2 : stepCk r gs ⟨vs, ds⟩ = if stepBad gs ds vs = true then 4 else 0 := by unfold stepCk; rw [if_neg h4', if_neg h5', if_neg h6']
    have hgb : ∀ g ∈ gs, -1000000 ≤ g ∧ g ≤ 1000000 := fun g hg => by
      have := hI.degs g hg
      omega
    (repeat (first | refine RO.Sv ?_ | refine RO.Yv ?_ | refine RO.no rfl (by decide) rfl ?_ | refine RO.nil ?_ | refine DW.region ?_ | refine DW.seq ?_ | refine DW.block ?_ | refine DW.skip ?_ | refine DW.exit ?_ | refine DW.condT rfl ?_ | refine DW.condF rfl ?_))
    refine DW.loopG (fun k : Nat => k ≤ vs.length ∧ ∀ j < k, degBad gs ds vs j = false) (fun k => [(2, .ipt 4 [rgD r] 0 0), (3, .ipt 3 [.agg [I x.rank, intsD x.ds, stsD x.steps]] 0 0), (7, intsD gs), (8, I i), (9, .ptr bv 0), (11, I k)]) (fun _ => H.set bv (73, [vcsD vs, intsD ds])) (fun k => vs.length - k) 0 ⟨Nat.zero_le _, fun i h => absurd h (Nat.not_lt_zero _)⟩ (Heap.sub_refl _) (.one rfl (.one rfl (.one rfl (.one rfl (.one rfl (.one rfl trivial)))))) fun k ⟨hk, hgo⟩ => ?_
    (repeat (first | refine RO.Sv ?_ | refine RO.Yv ?_ | refine RO.no rfl (by decide) rfl ?_ | refine RO.nil ?_ | refine DW.region ?_ | refine DW.seq ?_ | refine DW.block ?_ | refine DW.skip ?_ | refine DW.exit ?_ | refine DW.condT rfl ?_ | refine DW.condF rfl ?_))
    refine DW.cond rfl (fun hb => ?_) (fun hb => ?_)
    · have hlv : k < vs.length := by have := of_decide_eq_true hb; omega
      have hld : k < ds.length := by omega
      clear hb
      have hvo := o4 _ (List.getElem_mem hlv)
      have hvl := hvo.len
      have hbd := degBad_at (gs := gs) hlv hld
      have fin : degBad gs ds vs k = false → ∀ i < k + 1, degBad gs ds vs i = false := fun h i hi => by
        rcases Nat.lt_or_eq_of_le (Nat.le_of_lt_succ hi) with h' | h'
        · exact hgo i h'
        · rw [h']; exact h
      have bad : degBad gs ds vs k = true → resGo r none x.ds x.steps = 4 := fun h => by
        have : stepCk r gs ⟨vs, ds⟩ = 4 := by rw [hck2, if_pos (stepBad_true hlv h)]
        rw [hbad1 (by rw [this]; decide), this]
      (repeat (first | refine RO.Sv ?_ | refine RO.Yv ?_ | refine RO.no rfl (by decide) rfl ?_ | refine RO.nil ?_ | refine DW.region ?_ | refine DW.seq ?_ | refine DW.block ?_ | refine DW.skip ?_ | refine DW.exit ?_ | refine DW.condT rfl ?_ | refine DW.condF rfl ?_))
      refine RO.sta (sta_call rfl rfl (VDegree_pure gs vs[k] (by omega) (by omega) hgb (fun f hf => ⟨by have := (hvo.all f hf).len; omega, fun t ht => ((hvo.all f hf).ok.all t ht).mok (by omega) (by omega)⟩) _)) rfl ?_
      (repeat (first | refine RO.Sv ?_ | refine RO.Yv ?_ | refine RO.no rfl (by decide) rfl ?_ | refine RO.nil ?_ | refine DW.region ?_ | refine DW.seq ?_ | refine DW.block ?_ | refine DW.skip ?_ | refine DW.exit ?_ | refine DW.condT rfl ?_ | refine DW.condF rfl ?_))
      cases c1 : ((sameT gs vs[k]).2 != 0)
      case true =>
        rw [bad (by rw [hbd, c1]; rfl)]
        (repeat (first | refine RO.Sv ?_ | refine RO.Yv ?_ | refine RO.no rfl (by decide) rfl ?_ | refine RO.nil ?_ | refine DW.region ?_ | refine DW.seq ?_ | refine DW.block ?_ | refine DW.skip ?_ | refine DW.exit ?_ | refine DW.condT rfl ?_ | refine DW.condF rfl ?_))
        exact DW.ret ⟨.inl rfl, _, rfl, (Over.refl _).set hbv, .same _⟩
      rw [c1, Bool.false_or] at hbd
      (repeat (first | refine RO.Sv ?_ | refine RO.Yv ?_ | refine RO.no rfl (by decide) rfl ?_ | refine RO.nil ?_ | refine DW.region ?_ | refine DW.seq ?_ | refine DW.block ?_ | refine DW.skip ?_ | refine DW.exit ?_ | refine DW.condT rfl ?_ | refine DW.condF rfl ?_))
      cases c2 : ((sameT gs vs[k]).1 != ds[k])
      case true =>
        rw [bad (by rw [hbd, c2]; rfl)]
        (repeat (first | refine RO.Sv ?_ | refine RO.Yv ?_ | refine RO.no rfl (by decide) rfl ?_ | refine RO.nil ?_ | refine DW.region ?_ | refine DW.seq ?_ | refine DW.block ?_ | refine DW.skip ?_ | refine DW.exit ?_ | refine DW.condT rfl ?_ | refine DW.condF rfl ?_))
        exact DW.ret ⟨.inl rfl, _, rfl, (Over.refl _).set hbv, .same _⟩
      rw [c2, Bool.false_or] at hbd
      (repeat (first | refine RO.Sv ?_ | refine RO.Yv ?_ | refine RO.no rfl (by decide) rfl ?_ | refine RO.nil ?_ | refine DW.region ?_ | refine DW.seq ?_ | refine DW.block ?_ | refine DW.skip ?_ | refine DW.exit ?_ | refine DW.condT rfl ?_ | refine DW.condF rfl ?_))
      have hunit : ∀ H', PureH Tryz.prog H' 42 [vcD vs[k]] (.bool (unitsT vs[k])) := Units_pure hvo (by omega) hr
      cases c3 : decide ((0 : Int) < (k : Int))
      case false =>
        have hk0 : decide (0 < k) = false := by have := of_decide_eq_false c3; exact decide_eq_false (by omega)
        rw [hk0, Bool.false_and, Bool.false_or] at hbd
        (repeat (first | refine RO.Sv ?_ | refine RO.Yv ?_ | refine RO.no rfl (by decide) rfl ?_ | refine RO.nil ?_ | refine DW.region ?_ | refine DW.seq ?_ | refine DW.block ?_ | refine DW.skip ?_ | refine DW.exit ?_ | refine DW.condT rfl ?_ | refine DW.condF rfl ?_))
        refine RO.yes rfl rfl (OpD.of_sta (sta_call rfl rfl (hunit _)) ?_)
        (repeat (first | refine RO.Sv ?_ | refine RO.Yv ?_ | refine RO.no rfl (by decide) rfl ?_ | refine RO.nil ?_ | refine DW.region ?_ | refine DW.seq ?_ | refine DW.block ?_ | refine DW.skip ?_ | refine DW.exit ?_ | refine DW.condT rfl ?_ | refine DW.condF rfl ?_))
        rw [← hbd]
        cases c4 : degBad gs ds vs k
        case true =>
          rw [bad c4]
          (repeat (first | refine RO.Sv ?_ | refine RO.Yv ?_ | refine RO.no rfl (by decide) rfl ?_ | refine RO.nil ?_ | refine DW.region ?_ | refine DW.seq ?_ | refine DW.block ?_ | refine DW.skip ?_ | refine DW.exit ?_ | refine DW.condT rfl ?_ | refine DW.condF rfl ?_))
          exact DW.ret ⟨.inl rfl, _, rfl, (Over.refl _).set hbv, .same _⟩
        (repeat (first | refine RO.Sv ?_ | refine RO.Yv ?_ | refine RO.no rfl (by decide) rfl ?_ | refine RO.nil ?_ | refine DW.region ?_ | refine DW.seq ?_ | refine DW.block ?_ | refine DW.skip ?_ | refine DW.exit ?_ | refine DW.condT rfl ?_ | refine DW.condF rfl ?_))
        exact ⟨k + 1, ⟨hlv, fin c4⟩, by dsimp only; omega, Heap.sub_refl _, (by repeat first | exact trivial | refine HasG.one rfl ?_ | refine HasN.one rfl ?_)⟩
      have hkp : 0 < k := by have := of_decide_eq_true c3; omega
      have hk0 : decide (0 < k) = true := decide_eq_true hkp
      have hsub : ((k : Int) - 1) = ((k - 1 : Nat) : Int) := by omega
      have hkd : k - 1 < ds.length := by omega
      rw [hk0, Bool.true_and, show ds.getD (k - 1) 0 = ds[k - 1] by simp [List.getD_eq_getElem?_getD, hkd]] at hbd
      (repeat (first | refine RO.Sv ?_ | refine RO.Yv ?_ | refine RO.no rfl (by decide) rfl ?_ | refine RO.nil ?_ | refine DW.region ?_ | refine DW.seq ?_ | refine DW.block ?_ | refine DW.skip ?_ | refine DW.exit ?_ | refine DW.condT rfl ?_ | refine DW.condF rfl ?_))
      rw [hsub]
      (repeat (first | refine RO.Sv ?_ | refine RO.Yv ?_ | refine RO.no rfl (by decide) rfl ?_ | refine RO.nil ?_ | refine DW.region ?_ | refine DW.seq ?_ | refine DW.block ?_ | refine DW.skip ?_ | refine DW.exit ?_ | refine DW.condT rfl ?_ | refine DW.condF rfl ?_))
      cases c5 : decide ((sameT gs vs[k]).1 < ds[k - 1])
      case true =>
        rw [bad (by rw [hbd, c5]; rfl)]
        (repeat (first | refine RO.Sv ?_ | refine RO.Yv ?_ | refine RO.no rfl (by decide) rfl ?_ | refine RO.nil ?_ | refine DW.region ?_ | refine DW.seq ?_ | refine DW.block ?_ | refine DW.skip ?_ | refine DW.exit ?_ | refine DW.condT rfl ?_ | refine DW.condF rfl ?_))
        exact DW.ret ⟨.inl rfl, _, rfl, (Over.refl _).set hbv, .same _⟩
      rw [c5, Bool.false_or] at hbd
      (repeat (first | refine RO.Sv ?_ | refine RO.Yv ?_ | refine RO.no rfl (by decide) rfl ?_ | refine RO.nil ?_ | refine DW.region ?_ | refine DW.seq ?_ | refine DW.block ?_ | refine DW.skip ?_ | refine DW.exit ?_ | refine DW.condT rfl ?_ | refine DW.condF rfl ?_))
      refine RO.yes rfl rfl (OpD.of_sta (sta_call rfl rfl (hunit _)) ?_)
      (repeat (first | refine RO.Sv ?_ | refine RO.Yv ?_ | refine RO.no rfl (by decide) rfl ?_ | refine RO.nil ?_ | refine DW.region ?_ | refine DW.seq ?_ | refine DW.block ?_ | refine DW.skip ?_ | refine DW.exit ?_ | refine DW.condT rfl ?_ | refine DW.condF rfl ?_))
      rw [← hbd]
      cases c4 : degBad gs ds vs k
      case true =>
        rw [bad c4]
        (repeat (first | refine RO.Sv ?_ | refine RO.Yv ?_ | refine RO.no rfl (by decide) rfl ?_ | refine RO.nil ?_ | refine DW.region ?_ | refine DW.seq ?_ | refine DW.block ?_ | refine DW.skip ?_ | refine DW.exit ?_ | refine DW.condT rfl ?_ | refine DW.condF rfl ?_))
        exact DW.ret ⟨.inl rfl, _, rfl, (Over.refl _).set hbv, .same _⟩
      (repeat (first | refine RO.Sv ?_ | refine RO.Yv ?_ | refine RO.no rfl (by decide) rfl ?_ | refine RO.nil ?_ | refine DW.region ?_ | refine DW.seq ?_ | refine DW.block ?_ | refine DW.skip ?_ | refine DW.exit ?_ | refine DW.condT rfl ?_ | refine DW.condF rfl ?_))
      exact ⟨k + 1, ⟨hlv, fin c4⟩, by dsimp only; omega, Heap.sub_refl _, (by repeat first | exact trivial | refine HasG.one rfl ?_ | refine HasN.one rfl ?_)⟩
    have hsb : stepBad gs ds vs = false := by
      have hge : k = vs.length := by have := of_decide_eq_false hb; omega
      exact stepBad_false (by rw [← hge]; exact hgo)
    clear hgo hb hk
    have hck0 : stepCk r gs ⟨vs, ds⟩ = 0 := by rw [hck2, if_neg (by rw [hsb]; exact Bool.false_ne_true)]
    have hso := hst1 hck0
    have hnext := hnext hck0
    have hbad2 := hbad2 hck0
    (repeat (first | refine RO.Sv ?_ | refine RO.Yv ?_ | refine RO.no rfl (by decide) rfl ?_ | refine RO.nil ?_ | refine DW.region ?_ | refine DW.seq ?_ | refine DW.block ?_ | refine DW.skip ?_ | refine DW.exit ?_ | refine DW.condT rfl ?_ | refine DW.condF rfl ?_))
    refine DW.loopG (fun k : Nat => k ≤ vs.length ∧ (vs.drop k).any (pb r (prevT x i)) = prevBad r (prevT x i) vs) (fun k => [(2, .ipt 4 [rgD r] 0 0), (3, .ipt 3 [.agg [I x.rank, intsD x.ds, stsD x.steps]] 0 0), (8, I i), (9, .ptr bv 0), (14, I k)]) (fun _ => H.set bv (73, [vcsD vs, intsD ds])) (fun k => vs.length - k) 0 ⟨Nat.zero_le _, rfl⟩ (Heap.sub_refl _) (.one rfl (.one rfl (.one rfl (.one rfl (.one rfl trivial))))) fun k ⟨hk, hgo⟩ => ?_
    (repeat (first | refine RO.Sv ?_ | refine RO.Yv ?_ | refine RO.no rfl (by decide) rfl ?_ | refine RO.nil ?_ | refine DW.region ?_ | refine DW.seq ?_ | refine DW.block ?_ | refine DW.skip ?_ | refine DW.exit ?_ | refine DW.condT rfl ?_ | refine DW.condF rfl ?_))
    cases d1 : decide ((k : Int) < (vs.length : Int))
    case false =>
      have hge : k = vs.length := by have := of_decide_eq_false d1; omega
      rw [hge, List.drop_length] at hgo
      have hI2 := hnext hgo.symm
      (repeat (first | refine RO.Sv ?_ | refine RO.Yv ?_ | refine RO.no rfl (by decide) rfl ?_ | refine RO.nil ?_ | refine DW.region ?_ | refine DW.seq ?_ | refine DW.block ?_ | refine DW.skip ?_ | refine DW.exit ?_ | refine DW.condT rfl ?_ | refine DW.condF rfl ?_))
      exact ⟨(i + 1, ds), hI2, by dsimp only; omega, Heap.sub_set _ hbv, (by repeat first | exact trivial | refine HasG.one rfl ?_ | refine HasN.one rfl ?_)⟩
    have hlv : k < vs.length := by have := of_decide_eq_true d1; omega
    clear d1
    (repeat (first | refine RO.Sv ?_ | refine RO.Yv ?_ | refine RO.no rfl (by decide) rfl ?_ | refine RO.nil ?_ | refine DW.region ?_ | refine DW.seq ?_ | refine DW.block ?_ | refine DW.skip ?_ | refine DW.exit ?_ | refine DW.condT rfl ?_ | refine DW.condF rfl ?_))
    cases d2 : decide ((0 : Int) < (i : Int))
    case false =>
      have hi0 : i = 0 := by have := of_decide_eq_false d2; omega
      have hI2 := hnext (by rw [hi0, prevT_zero, prevBad_none])
      (repeat (first | refine RO.Sv ?_ | refine RO.Yv ?_ | refine RO.no rfl (by decide) rfl ?_ | refine RO.nil ?_ | refine DW.region ?_ | refine DW.seq ?_ | refine DW.block ?_ | refine DW.skip ?_ | refine DW.exit ?_ | refine DW.condT rfl ?_ | refine DW.condF rfl ?_))
      exact ⟨(i + 1, ds), hI2, by dsimp only; omega, Heap.sub_set _ hbv, (by repeat first | exact trivial | refine HasG.one rfl ?_ | refine HasN.one rfl ?_)⟩
    have hip : 0 < i := by have := of_decide_eq_true d2; omega
    have hil : i - 1 < x.steps.length := by omega
    have hsub : ((i : Int) - 1) = ((i - 1 : Nat) : Int) := by omega
    obtain ⟨g0, gc, gp⟩ := hcomb hck0 hip hil vs[k] (List.getElem_mem hlv)
    rw [any_drop hlv, gp] at hgo
    have hcl : (combT r (x.steps[i - 1].vs[0].length : Int) vs[k] x.steps[i - 1].vs).length ≤ 4611686018427387904 := by
      have := gc.rank2
      have := (combT_mok gc).2.2.1
      omega
    (repeat (first | refine RO.Sv ?_ | refine RO.Yv ?_ | refine RO.no rfl (by decide) rfl ?_ | refine RO.nil ?_ | refine DW.region ?_ | refine DW.seq ?_ | refine DW.block ?_ | refine DW.skip ?_ | refine DW.exit ?_ | refine DW.condT rfl ?_ | refine DW.condF rfl ?_))
    refine DW.drawS 23 Tryz.mixed (by kernel_rfl) (by decide) ?_
    dsimp only [List.take, List.drop]
    (repeat (first | refine RS.Sv ?_ | refine RS.Yv ?_ | refine RS.no rfl (by decide) rfl ?_ | refine RS.nil ?_))
    rw [hsub]
    (repeat (first | refine RS.Sv ?_ | refine RS.Yv ?_ | refine RS.no rfl (by decide) rfl ?_ | refine RS.nil ?_))
    refine RS.sta (fun H' hov => s_loadVs rfl hil) rfl ?_
    (repeat (first | refine RS.Sv ?_ | refine RS.Yv ?_ | refine RS.no rfl (by decide) rfl ?_ | refine RS.nil ?_))
    rw [hsub]
    (repeat (first | refine RS.Sv ?_ | refine RS.Yv ?_ | refine RS.no rfl (by decide) rfl ?_ | refine RS.nil ?_))
    refine RS.sta (fun H' hov => s_loadVs rfl hil) rfl ?_
    (repeat (first | refine RS.Sv ?_ | refine RS.Yv ?_ | refine RS.no rfl (by decide) rfl ?_ | refine RS.nil ?_))
    refine RO.sta (sta_call rfl rfl (CombineOf_pure r _ _ _ gc _)) rfl ?_
    refine RO.sta (sta_call rfl rfl (Empty_pure _ hcl _)) rfl ?_
    (repeat (first | refine RO.Sv ?_ | refine RO.Yv ?_ | refine RO.no rfl (by decide) rfl ?_ | refine RO.nil ?_ | refine DW.region ?_ | refine DW.seq ?_ | refine DW.block ?_ | refine DW.skip ?_ | refine DW.exit ?_ | refine DW.condT rfl ?_ | refine DW.condF rfl ?_))
    cases hu : (!(emptyT (combT r (x.steps[i - 1].vs[0].length : Int) vs[k] x.steps[i - 1].vs)))
    case true =>
      rw [hu, Bool.true_or] at hgo
      rw [hbad2 hgo.symm]
      (repeat (first | refine RO.Sv ?_ | refine RO.Yv ?_ | refine RO.no rfl (by decide) rfl ?_ | refine RO.nil ?_ | refine DW.region ?_ | refine DW.seq ?_ | refine DW.block ?_ | refine DW.skip ?_ | refine DW.exit ?_ | refine DW.condT rfl ?_ | refine DW.condF rfl ?_))
      exact DW.ret ⟨.inl rfl, _, rfl, (Over.refl _).set hbv, .same _⟩
    rw [hu, Bool.false_or] at hgo
    (repeat (first | refine RO.Sv ?_ | refine RO.Yv ?_ | refine RO.no rfl (by decide) rfl ?_ | refine RO.nil ?_ | refine DW.region ?_ | refine DW.seq ?_ | refine DW.block ?_ | refine DW.skip ?_ | refine DW.exit ?_ | refine DW.condT rfl ?_ | refine DW.condF rfl ?_))
    exact ⟨k + 1, ⟨hlv, hgo⟩, by dsimp only; omega, Heap.sub_refl _, (by repeat first | exact trivial | refine HasG.one rfl ?_ | refine HasN.one rfl ?_)⟩
  · have hge : i = x.steps.length := by have := of_decide_eq_false hb; omega
    subst hge
    rw [hI.fin]
    (repeat (first | refine RO.Sv ?_ | refine RO.Yv ?_ | refine RO.no rfl (by decide) rfl ?_ | refine RO.nil ?_ | refine DW.region ?_ | refine DW.seq ?_ | refine DW.block ?_ | refine DW.skip ?_ | refine DW.exit ?_ | refine DW.condT rfl ?_ | refine DW.condF rfl ?_))
    exact DW.ret ⟨.inl rfl, _, rfl, Over.refl _, .same _⟩

end Go.Proofs.YtcdihmhmoddppaaGreat
