/-
  HilbertSeries holds: whatever it is handed, the law answers true, and its arguments read as before. No condition.
-/
import Derived.Test.YtfjmdhemlfafbaaGreatKHs29
import Derived.Test.YtfjmdhemlfafbaaGreatKHs10
set_option linter.unusedVariables false
set_option linter.unusedSimpArgs false

namespace Go.Proofs.YtfjmdhemlfafbaaGreat
open Go.RowKit
set_option maxHeartbeats 8000000

theorem free_ok {n : Nat} (hn1 : 1 ≤ n) (hn3 : n ≤ 3) {d : Int} (h0 : -100 ≤ d) (h1 : d ≤ 100) : freeN (n : Int) d = frN n d ∧ freeE (n : Int) d = 0 := by
  have hb : freeBad (n : Int) d = false := by
    unfold freeBad
    simp only [Bool.or_eq_false_iff, decide_eq_false_iff_not]
    omega
  unfold freeN freeE
  rw [hb]
  exact ⟨rfl, rfl⟩

theorem hilbertSeries_pure (r : Rg) (gs : List Int) (l : List Vc) (hgl : gs.length ≤ 4611686018427387904) (hl : l.length ≤ 4611686018427387904) (hv : ∀ v ∈ l, v.length ≤ 4611686018427387904 ∧ ∀ f ∈ v, f.length ≤ 4611686018427387904) : Pure Tryz.prog 4 [rgD r, intsD gs, vcsD l] (.bool true) := by
  intro H
  refine PureH.of_body Tryz.func4 rfl (by decide) (Nat.le_of_ble_eq_true rfl) fun w0 => ?_
  (repeat (first | refine RO.Sv ?_ | refine RO.Yv ?_ | refine RO.no rfl (by decide) rfl ?_ | refine RO.nil ?_ | refine DW.region ?_ | refine DW.seq ?_ | refine DW.block ?_ | refine DW.skip ?_ | refine DW.exit ?_ | refine DW.condT rfl ?_ | refine DW.condF rfl ?_))
  refine RO.sta (sta_call rfl rfl (hilbertBegun_pure _)) rfl ?_
  (repeat (first | refine RO.Sv ?_ | refine RO.Yv ?_ | refine RO.no rfl (by decide) rfl ?_ | refine RO.nil ?_ | refine DW.region ?_ | refine DW.seq ?_ | refine DW.block ?_ | refine DW.skip ?_ | refine DW.exit ?_ | refine DW.condT rfl ?_ | refine DW.condF rfl ?_))
  refine RO.sta (sta_call rfl rfl (Numerator_pure r gs l hgl hl hv _)) rfl ?_
  (repeat (first | refine RO.Sv ?_ | refine RO.Yv ?_ | refine RO.no rfl (by decide) rfl ?_ | refine RO.nil ?_ | refine DW.region ?_ | refine DW.seq ?_ | refine DW.block ?_ | refine DW.skip ?_ | refine DW.exit ?_ | refine DW.condT rfl ?_ | refine DW.condF rfl ?_))
  refine RO.sta (sta_call rfl rfl (CheckHilbert_pure r gs l hgl hl hv _)) rfl ?_
  (repeat (first | refine RO.Sv ?_ | refine RO.Yv ?_ | refine RO.no rfl (by decide) rfl ?_ | refine RO.nil ?_ | refine DW.region ?_ | refine DW.seq ?_ | refine DW.block ?_ | refine DW.skip ?_ | refine DW.exit ?_ | refine DW.condT rfl ?_ | refine DW.condF rfl ?_))
  have hee : (hilCk r gs l != hilCk r gs l) = false := by simp
  rw [hee]
  (repeat (first | refine RO.Sv ?_ | refine RO.Yv ?_ | refine RO.no rfl (by decide) rfl ?_ | refine RO.nil ?_ | refine DW.region ?_ | refine DW.seq ?_ | refine DW.block ?_ | refine DW.skip ?_ | refine DW.exit ?_ | refine DW.condT rfl ?_ | refine DW.condF rfl ?_))
  by_cases hck : hilCk r gs l = 0
  case neg =>
    have hna : numA r gs l = [] := by unfold numA; rw [if_neg hck]
    have hee2 : (hilCk r gs l == hilCk r gs l) = true := by simp
    rw [show (hilCk r gs l != 0) = true by simpa using hck]
    (repeat (first | refine RO.Sv ?_ | refine RO.Yv ?_ | refine RO.no rfl (by decide) rfl ?_ | refine RO.nil ?_ | refine DW.region ?_ | refine DW.seq ?_ | refine DW.block ?_ | refine DW.skip ?_ | refine DW.exit ?_ | refine DW.condT rfl ?_ | refine DW.condF rfl ?_))
    rw [hee2, hna]
    (repeat (first | refine RO.Sv ?_ | refine RO.Yv ?_ | refine RO.no rfl (by decide) rfl ?_ | refine RO.nil ?_ | refine DW.region ?_ | refine DW.seq ?_ | refine DW.block ?_ | refine DW.skip ?_ | refine DW.exit ?_ | refine DW.condT rfl ?_ | refine DW.condF rfl ?_))
    exact DW.ret ⟨.inl rfl, _, rfl, Over.refl _, .same _⟩
  have hna : numA r gs l = trimT (totU gs (ldsT r gs.length l) gs.length) := by unfold numA; rw [if_pos hck]
  obtain ⟨hlst, hk1⟩ := hil_lst hck
  obtain ⟨_, hgs, _⟩ := hilCk_ok hck
  have hk3 := hlst.k3
  have hlds := ldsT_ok hlst
  have htl := totU_len hlds hgs gs.length (Nat.le_refl _)
  have htr := trimT_len (totU gs (ldsT r gs.length l) gs.length)
  have hlast := trimT_last (totU gs (ldsT r gs.length l) gs.length)
  obtain ⟨hp2, hn3, hn1, hpr, hckp⟩ := hlst.cx.rg
  have hn1' : r.n = ((r.n.toNat : Nat) : Int) := by omega
  have hser := fun d hd => series_sum (n := r.n.toNat) (by omega) hn3 hlds hgs rfl hk3 d hd
  have hcn : ∀ d : Nat, d ≤ 12 → ∀ H, PureH Tryz.prog H 5 [rgD r, intsD gs, vcsD l, I d] (.tup [I (cntU r.n.toNat gs (ldsT r gs.length l) d gs.length : Nat), I 0]) := fun d hd H => by
    have h := Count_pure r gs l d hgl hl hv H
    have hc : cntC r gs l d = 0 := by unfold cntC; rw [if_pos hck, if_neg (by omega)]
    unfold cntA at h
    rw [hc, if_pos rfl] at h
    exact h
  rw [hna, hck]
  generalize hls : ldsT r gs.length l = ls at *
  generalize hN : trimT (totU gs ls gs.length) = a at *
  (repeat (first | refine RO.Sv ?_ | refine RO.Yv ?_ | refine RO.no rfl (by decide) rfl ?_ | refine RO.nil ?_ | refine DW.region ?_ | refine DW.seq ?_ | refine DW.block ?_ | refine DW.skip ?_ | refine DW.exit ?_ | refine DW.condT rfl ?_ | refine DW.condF rfl ?_))
  refine RO.cut [(1, intsD gs), (2, vcsD l), (3, .ipt 4 [rgD r] 0 0), (7, intsD a), (60, .bool false)] H ?_ ?_
  rotate_left
  · rcases hlast with rfl | ⟨b, x, rfl, hx⟩
    · (repeat (first | refine RO.Sv ?_ | refine RO.Yv ?_ | refine RO.no rfl (by decide) rfl ?_ | refine RO.nil ?_ | refine DW.region ?_ | refine DW.seq ?_ | refine DW.block ?_ | refine DW.skip ?_ | refine DW.exit ?_ | refine DW.condT rfl ?_ | refine DW.condF rfl ?_))
      exact ⟨(by repeat first | exact trivial | refine HasG.one rfl ?_ | refine HasN.one rfl ?_), rfl⟩
    · have hlen : (b ++ [x]).length = b.length + 1 := by simp
      have hz : ((b ++ [x]).length : Int) - 1 = b.length := by rw [hlen]; omega
      have hpos : decide ((0 : Int) < ((b ++ [x]).length : Int)) = true := by rw [hlen]; simp
      have hxb : (x == 0) = false := by simpa using hx
      rw [hpos]
      (repeat (first | refine RO.Sv ?_ | refine RO.Yv ?_ | refine RO.no rfl (by decide) rfl ?_ | refine RO.nil ?_ | refine DW.region ?_ | refine DW.seq ?_ | refine DW.block ?_ | refine DW.skip ?_ | refine DW.exit ?_ | refine DW.condT rfl ?_ | refine DW.condF rfl ?_))
      rw [hz]
      refine RO.yes rfl rfl (OpD.of_sta (s_index (i := b.length) rfl rfl (by simp)) ?_)
      refine RO.yes rfl rfl (OpD.of_sta (s_load (d := I x) rfl (by simp [cellAt, cellsOf])) ?_)
      (repeat (first | refine RO.Sv ?_ | refine RO.Yv ?_ | refine RO.no rfl (by decide) rfl ?_ | refine RO.nil ?_ | refine DW.region ?_ | refine DW.seq ?_ | refine DW.block ?_ | refine DW.skip ?_ | refine DW.exit ?_ | refine DW.condT rfl ?_ | refine DW.condF rfl ?_))
      rw [hxb]
      (repeat (first | refine RO.Sv ?_ | refine RO.Yv ?_ | refine RO.no rfl (by decide) rfl ?_ | refine RO.nil ?_ | refine DW.region ?_ | refine DW.seq ?_ | refine DW.block ?_ | refine DW.skip ?_ | refine DW.exit ?_ | refine DW.condT rfl ?_ | refine DW.condF rfl ?_))
      exact ⟨(by repeat first | exact trivial | refine HasG.one rfl ?_ | refine HasN.one rfl ?_), rfl⟩
  clear hlast
  (repeat (first | refine RO.Sv ?_ | refine RO.Yv ?_ | refine RO.no rfl (by decide) rfl ?_ | refine RO.nil ?_ | refine DW.region ?_ | refine DW.seq ?_ | refine DW.block ?_ | refine DW.skip ?_ | refine DW.exit ?_ | refine DW.condT rfl ?_ | refine DW.condF rfl ?_))
  refine DW.loopI (fun d : Nat => d ≤ 13) (fun d => [(1, intsD gs), (2, vcsD l), (3, .ipt 4 [rgD r] 0 0), (7, intsD a), (10, I d)]) (fun _ => H) (fun d => 13 - d) 0 (by omega) rfl ⟨rfl, rfl, rfl, rfl, rfl, trivial⟩ fun d hd => ?_
  (repeat (first | refine RO.Sv ?_ | refine RO.Yv ?_ | refine RO.no rfl (by decide) rfl ?_ | refine RO.nil ?_ | refine DW.region ?_ | refine DW.seq ?_ | refine DW.block ?_ | refine DW.skip ?_ | refine DW.exit ?_ | refine DW.condT rfl ?_ | refine DW.condF rfl ?_))
  refine DW.cond rfl (fun hb => ?_) (fun hb => ?_)
  rotate_left
  · have hge : d = 13 := by have := of_decide_eq_false hb; omega
    (repeat (first | refine RO.Sv ?_ | refine RO.Yv ?_ | refine RO.no rfl (by decide) rfl ?_ | refine RO.nil ?_ | refine DW.region ?_ | refine DW.seq ?_ | refine DW.block ?_ | refine DW.skip ?_ | refine DW.exit ?_ | refine DW.condT rfl ?_ | refine DW.condF rfl ?_))
    exact DW.ret ⟨.inl rfl, _, rfl, Over.refl _, .same _⟩
  have hd12 : d ≤ 12 := by have := of_decide_eq_true hb; omega
  clear hb
  (repeat (first | refine RO.Sv ?_ | refine RO.Yv ?_ | refine RO.no rfl (by decide) rfl ?_ | refine RO.nil ?_ | refine DW.region ?_ | refine DW.seq ?_ | refine DW.block ?_ | refine DW.skip ?_ | refine DW.exit ?_ | refine DW.condT rfl ?_ | refine DW.condF rfl ?_))
  refine RO.sta (sta_call rfl rfl (hcn d hd12 _)) rfl ?_
  (repeat (first | refine RO.Sv ?_ | refine RO.Yv ?_ | refine RO.no rfl (by decide) rfl ?_ | refine RO.nil ?_ | refine DW.region ?_ | refine DW.seq ?_ | refine DW.block ?_ | refine DW.skip ?_ | refine DW.exit ?_ | refine DW.condT rfl ?_ | refine DW.condF rfl ?_))
  have hsd := hser d hd12
  have hcb := cntU_le (n := r.n.toNat) (ls := ls) (d := (d : Int)) hn3 hgs (by omega) gs.length hk3
  generalize hn : (cntU r.n.toNat gs ls (d : Int) gs.length : Nat) = cn at *
  refine DW.loopI (fun j : Nat => j ≤ a.length) (fun j => [(1, intsD gs), (2, vcsD l), (3, .ipt 4 [rgD r] 0 0), (7, intsD a), (10, I d), (11, I cn), (12, I 0), (13, I (sumW r.n.toNat a d j)), (14, I 0), (15, I j)]) (fun _ => H) (fun j => a.length - j) 0 (by omega) rfl ⟨rfl, rfl, rfl, rfl, rfl, rfl, rfl, rfl, rfl, rfl, trivial⟩ fun j hj => ?_
  (repeat (first | refine RO.Sv ?_ | refine RO.Yv ?_ | refine RO.no rfl (by decide) rfl ?_ | refine RO.nil ?_ | refine DW.region ?_ | refine DW.seq ?_ | refine DW.block ?_ | refine DW.skip ?_ | refine DW.exit ?_ | refine DW.condT rfl ?_ | refine DW.condF rfl ?_))
  refine DW.cond rfl (fun hb => ?_) (fun hb => ?_)
  · have hlt : j < a.length := by have := of_decide_eq_true hb; omega
    clear hb
    have hmin : (if ((d : Int) + 1) < (j : Int) then (d : Int) + 1 else (j : Int)) = min (j : Int) ((d : Int) + 1) := by split <;> omega
    have hfr := free_ok (n := r.n.toNat) (d := (d : Int) - min (j : Int) ((d : Int) + 1)) (by omega) hn3 (by omega) (by omega)
    rw [← hn1'] at hfr
    have hfp : ∀ H, PureH Tryz.prog H 6 [I r.n, I ((d : Int) - min (j : Int) ((d : Int) + 1))] (.tup [I (frA r.n.toNat d j), I 0]) := fun H => by
      have := Free_pure r.n ((d : Int) - min (j : Int) ((d : Int) + 1)) H
      rw [hfr.1, hfr.2] at this
      exact this
    (repeat (first | refine RO.Sv ?_ | refine RO.Yv ?_ | refine RO.no rfl (by decide) rfl ?_ | refine RO.nil ?_ | refine DW.region ?_ | refine DW.seq ?_ | refine DW.block ?_ | refine DW.skip ?_ | refine DW.exit ?_ | refine DW.condT rfl ?_ | refine DW.condF rfl ?_))
    refine RO.sta (sta_min rfl rfl) rfl ?_
    rw [hmin]
    (repeat (first | refine RO.Sv ?_ | refine RO.Yv ?_ | refine RO.no rfl (by decide) rfl ?_ | refine RO.nil ?_ | refine DW.region ?_ | refine DW.seq ?_ | refine DW.block ?_ | refine DW.skip ?_ | refine DW.exit ?_ | refine DW.condT rfl ?_ | refine DW.condF rfl ?_))
    refine RO.sta (sta_call rfl rfl (hfp _)) rfl ?_
    (repeat (first | refine RO.Sv ?_ | refine RO.Yv ?_ | refine RO.no rfl (by decide) rfl ?_ | refine RO.nil ?_ | refine DW.region ?_ | refine DW.seq ?_ | refine DW.block ?_ | refine DW.skip ?_ | refine DW.exit ?_ | refine DW.condT rfl ?_ | refine DW.condF rfl ?_))
    refine RO.sta (s_mulW rfl rfl) rfl ?_
    refine RO.sta (s_addW rfl rfl) rfl ?_
    (repeat (first | refine RO.Sv ?_ | refine RO.Yv ?_ | refine RO.no rfl (by decide) rfl ?_ | refine RO.nil ?_ | refine DW.region ?_ | refine DW.seq ?_ | refine DW.block ?_ | refine DW.skip ?_ | refine DW.exit ?_ | refine DW.condT rfl ?_ | refine DW.condF rfl ?_))
    have hj1 : sumW r.n.toNat a d (j + 1) = wrap64 (sumW r.n.toNat a d j + wrap64 (a[j] * frA r.n.toNat d j)) := by
      show wrap64 (sumW r.n.toNat a d j + wrap64 (a.getD j 0 * frA r.n.toNat d j)) = _
      rw [getD_lt hlt]
    rw [← hj1]
    exact ⟨j + 1, hlt, by dsimp only; omega, rfl, rfl, rfl, rfl, rfl, rfl, rfl, rfl, rfl, rfl, rfl, trivial⟩
  have hge : j = a.length := by have := of_decide_eq_false hb; omega
  subst hge
  clear hb
  rw [hsd]
  (repeat (first | refine RO.Sv ?_ | refine RO.Yv ?_ | refine RO.no rfl (by decide) rfl ?_ | refine RO.nil ?_ | refine DW.region ?_ | refine DW.seq ?_ | refine DW.block ?_ | refine DW.skip ?_ | refine DW.exit ?_ | refine DW.condT rfl ?_ | refine DW.condF rfl ?_))
  refine DW.loopI (fun j : Nat => j ≤ gs.length) (fun j => [(1, intsD gs), (2, vcsD l), (3, .ipt 4 [rgD r] 0 0), (7, intsD a), (10, I d), (11, I cn), (12, I 0), (13, I cn), (14, I (allU r.n.toNat gs d j : Nat)), (18, I j)]) (fun _ => H) (fun j => gs.length - j) 0 (by omega) rfl ⟨rfl, rfl, rfl, rfl, rfl, rfl, rfl, rfl, rfl, rfl, trivial⟩ fun j hj => ?_
  (repeat (first | refine RO.Sv ?_ | refine RO.Yv ?_ | refine RO.no rfl (by decide) rfl ?_ | refine RO.nil ?_ | refine DW.region ?_ | refine DW.seq ?_ | refine DW.block ?_ | refine DW.skip ?_ | refine DW.exit ?_ | refine DW.condT rfl ?_ | refine DW.condF rfl ?_))
  refine DW.cond rfl (fun hb => ?_) (fun hb => ?_)
  · have hlt : j < gs.length := by have := of_decide_eq_true hb; omega
    clear hb
    have hgj := hgs _ (List.getElem_mem hlt)
    have hfr := free_ok (n := r.n.toNat) (d := (d : Int) - gs[j]) (by omega) hn3 (by omega) (by omega)
    rw [← hn1'] at hfr
    have hfp : ∀ H, PureH Tryz.prog H 6 [I r.n, I ((d : Int) - gs[j])] (.tup [I (frN r.n.toNat ((d : Int) - gs[j]) : Nat), I 0]) := fun H => by
      have := Free_pure r.n ((d : Int) - gs[j]) H
      rw [hfr.1, hfr.2] at this
      exact this
    have hal := allU_le (n := r.n.toNat) (gs := gs) (d := (d : Int)) hn3 hgs (by omega) (j + 1)
    have hj1 : allU r.n.toNat gs d (j + 1) = allU r.n.toNat gs d j + frN r.n.toNat ((d : Int) - gs[j]) := by
      show allU r.n.toNat gs d j + frN r.n.toNat ((d : Int) - gs.getD j 0) = _
      rw [getD_lt hlt]
    (repeat (first | refine RO.Sv ?_ | refine RO.Yv ?_ | refine RO.no rfl (by decide) rfl ?_ | refine RO.nil ?_ | refine DW.region ?_ | refine DW.seq ?_ | refine DW.block ?_ | refine DW.skip ?_ | refine DW.exit ?_ | refine DW.condT rfl ?_ | refine DW.condF rfl ?_))
    refine DW.drawS 14 Tryz.mixed (by kernel_rfl) (by decide) ?_
    dsimp only [List.take, List.drop]
    (repeat (first | refine RS.Sv ?_ | refine RS.Yv ?_ | refine RS.no rfl (by decide) rfl ?_ | refine RS.nil ?_))
    refine RS.sta (fun H' hov => sta_call rfl rfl (hfp H')) rfl ?_
    (repeat (first | refine RS.Sv ?_ | refine RS.Yv ?_ | refine RS.no rfl (by decide) rfl ?_ | refine RS.nil ?_))
    (repeat (first | refine RO.Sv ?_ | refine RO.Yv ?_ | refine RO.no rfl (by decide) rfl ?_ | refine RO.nil ?_ | refine DW.region ?_ | refine DW.seq ?_ | refine DW.block ?_ | refine DW.skip ?_ | refine DW.exit ?_ | refine DW.condT rfl ?_ | refine DW.condF rfl ?_))
    have hj2 : ((allU r.n.toNat gs (d : Int) j : Nat) : Int) + ((frN r.n.toNat ((d : Int) - gs[j]) : Nat) : Int) = ((allU r.n.toNat gs (d : Int) (j + 1) : Nat) : Int) := by rw [hj1, Int.natCast_add]
    rw [hj2]
    exact ⟨j + 1, hlt, by dsimp only; omega, rfl, rfl, rfl, rfl, rfl, rfl, rfl, rfl, rfl, rfl, rfl, trivial⟩
  have hge : j = gs.length := by have := of_decide_eq_false hb; omega
  subst hge
  clear hb
  have hca := cnt_all_le r.n.toNat gs ls (d : Int) gs.length
  rw [hn] at hca
  have b1 : ((cn : Int) != (cn : Int)) = false := by simp
  have b2 : decide ((cn : Int) < 0) = false := by simp
  have b3 : decide (((allU r.n.toNat gs (d : Int) gs.length : Nat) : Int) < (cn : Int)) = false := by simp; omega
  (repeat (first | refine RO.Sv ?_ | refine RO.Yv ?_ | refine RO.no rfl (by decide) rfl ?_ | refine RO.nil ?_ | refine DW.region ?_ | refine DW.seq ?_ | refine DW.block ?_ | refine DW.skip ?_ | refine DW.exit ?_ | refine DW.condT rfl ?_ | refine DW.condF rfl ?_))
  rw [b1]
  (repeat (first | refine RO.Sv ?_ | refine RO.Yv ?_ | refine RO.no rfl (by decide) rfl ?_ | refine RO.nil ?_ | refine DW.region ?_ | refine DW.seq ?_ | refine DW.block ?_ | refine DW.skip ?_ | refine DW.exit ?_ | refine DW.condT rfl ?_ | refine DW.condF rfl ?_))
  rw [b2]
  (repeat (first | refine RO.Sv ?_ | refine RO.Yv ?_ | refine RO.no rfl (by decide) rfl ?_ | refine RO.nil ?_ | refine DW.region ?_ | refine DW.seq ?_ | refine DW.block ?_ | refine DW.skip ?_ | refine DW.exit ?_ | refine DW.condT rfl ?_ | refine DW.condF rfl ?_))
  rw [b3]
  (repeat (first | refine RO.Sv ?_ | refine RO.Yv ?_ | refine RO.no rfl (by decide) rfl ?_ | refine RO.nil ?_ | refine DW.region ?_ | refine DW.seq ?_ | refine DW.block ?_ | refine DW.skip ?_ | refine DW.exit ?_ | refine DW.condT rfl ?_ | refine DW.condF rfl ?_))
  exact ⟨d + 1, by omega, by dsimp only; omega, rfl, rfl, rfl, rfl, rfl, rfl, trivial⟩

end Go.Proofs.YtfjmdhemlfafbaaGreat

namespace Go.Proofs.YtfjmdhemlfafbaaGreat
open Go.RowKit Go.ChangeShapes Go.WideShapes Go.ChangeAt

set_option maxRecDepth 100000 in
theorem hilbertSeries_lifted (os : Os) (started : os.Started) (H : Type) (enc : TypeId × Value → H) :
    ReturnsInHanded {} Tryz.checked os 4 .any (Rows.hilbertSeriesSpec.pre6 enc Tryz.prog Tryz.f4 Rows.hilbertSeriesRow.domain false) (Rows.hilbertSeriesSpec.post enc Tryz.prog Tryz.f4 false true false false) := by
  refine returnsInHanded_of_change_sized (C := Tryz.checked) Tryz.ownK started (by kernel_rfl) Tryz.func4
    (ChangeSpec.witness6 (enc := enc) (C := Tryz.checked) false ⟨#[], #[.agg #[.int .i64 0, .int .i64 0, .int .i64 0, .int .i64 0], .slice none 0 0, .slice none 0 0], []⟩ 8 (by kernel_rfl) (by kernel_rfl) (by kernel_rfl) (by kernel_rfl)) ?_
  intro W base args ds gs before hval0 hW hcnd hwt _
  have hval : ∀ (j : Nat) t v, Tryz.f4.params[j]? = some t → args[j]? = some v → Value.okWide Tryz.prog W .any base t v := hval0
  have hW' := hW
  obtain ⟨p, q, hA0, hV, rfl, hfz, hnd⟩ := hW
  have hA : DataW.TrodAll enc Tryz.prog W 0 (fun _ => true) true Tryz.f4.params.toList args.toList ds p := hA0
  rw [Tryz.params4] at hA hval
  obtain ⟨v0, vs0, d0, ds0, p0, q0, hargs, rfl, rfl, h0, r0⟩ := trodAll_cons hA
  obtain ⟨v1, vs1, d1, ds1, p1, q1, rfl, rfl, rfl, h1, r1⟩ := trodAll_cons r0
  obtain ⟨v2, vs2, d2, ds2, p2, q2, rfl, rfl, rfl, h2, r2⟩ := trodAll_cons r1
  obtain ⟨rfl, rfl, rfl⟩ := trodAll_nil r2
  obtain rfl : args = #[v0, v1, v2] := by cases args; simp_all
  obtain ⟨rfl, rfl⟩ := trodVars_none hV
  rw [Tryz.params4] at hwt
  obtain ⟨w0, hwt⟩ := weights_head hwt
  obtain ⟨w1, hwt⟩ := weights_head hwt
  obtain ⟨w2, hwt⟩ := weights_head hwt
  obtain ⟨c0, rfl, _⟩ := okWide_struct Tryz.underlying23 (hval 0 _ v0 rfl rfl)
  obtain ⟨s1, n1, k1, rfl⟩ := okWide_slice Tryz.underlying24 (hval 1 _ v1 rfl rfl)
  obtain ⟨s2, n2, k2, rfl⟩ := okWide_slice Tryz.underlying25 (hval 2 _ v2 rfl rfl)
  obtain ⟨x0, g0, b0⟩ := arg_agg Tryz.opensRing (fun _ => rfl) h0 w0
  obtain ⟨x1, g1, b1⟩ := arg_cell Tryz.opensInts (fun _ => rfl) (slice_cells _ _ _) h1 w1
  obtain ⟨x2, g2, b2⟩ := arg_cell Tryz.opensVecs (fun _ => rfl) (slice_cells _ _ _) h2 w2
  refine (law_calls (hilbertSeries_pure x0 x1 x2 (by have := len_le b1.2 Tryz.bytes_int; omega) (vcsLe b2).1 (vcsLe b2).2) (inv_plain _ _) (.cons g0 (.cons g1 (.cons g2 .nil)))).mono fun e W' ⟨he, hb⟩ => ?_
  subst he
  exact ⟨_, rfl, law_post hW' rfl Tryz.laidOutK (of_decide_eq_true (by kernel_rfl)) (tb := 4) rfl Tryz.underlying4 rfl rfl rfl hb⟩

theorem hilbertSeries_holds : Rows.HilbertSeriesSaid :=
  OpenClaim.holds_of_wide 4 Tryz.f4 rfl rfl rfl rfl rfl rfl rfl ⟨rfl, rfl, rfl, rfl, rfl⟩ rfl rfl rfl rfl rfl (by kernel_rfl) Tryz.func4 (by kernel_rfl)
    (of_decide_eq_true (by kernel_rfl)) (by unfold Func.isWrapper; first | (rw [if_pos (by decide +kernel)]; kernel_rfl) | (rw [if_neg (by decide +kernel)]; exact ⟨rfl, rfl⟩))
    (fun os started H enc _ => hilbertSeries_lifted os started H enc)

end Go.Proofs.YtfjmdhemlfafbaaGreat
