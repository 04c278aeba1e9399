/-
  The document's Between, IsBasisOf. No condition.
-/
import Derived.Test.YtcdihmhmoddppaaGreatKBt21
import Derived.Test.YtcdihmhmoddppaaGreatKBt20
import Derived.Test.YtcdihmhmoddppaaGreatKBt16

namespace Go.Proofs.YtcdihmhmoddppaaGreat
open Go.RowKit
set_option linter.unusedVariables false
set_option linter.unusedSimpArgs false
set_option maxHeartbeats 8000000

theorem tidy_call {H : Heap} {bm : Nat} {T1 : TypeId} (hm : H bm = some (T1, mkC (.list 5 [.agg bgM0]) .nil)) :
    CallD Tryz.prog H 97 [.ptr bm 0] fun _ H' => ∃ b2, H b2 = none ∧ b2 ≠ bm ∧ H' b2 = some (101, bgM1) ∧ H' bm = some (T1, mkC (.ref b2 0 1 5) .nil) ∧ ∀ q z, q ≠ bm → H q = some z → H' q = some z := by
  refine CallD.of_body Tryz.func97 rfl (by decide) (Nat.le_of_ble_eq_true rfl) fun w0 => ?_
  (repeat (first | refine RO.Sv ?_ | refine RO.Yv ?_ | refine RO.no rfl (by decide) rfl ?_ | refine RO.nil ?_ | refine DW.region ?_ | refine DW.seq ?_ | refine DW.block ?_ | refine DW.skip ?_ | refine DW.exit ?_ | refine DW.condT rfl ?_ | refine DW.condF rfl ?_))
  refine RO.sta (s_nilCheck rfl) rfl ?_
  (repeat (first | refine RO.Sv ?_ | refine RO.Yv ?_ | refine RO.no rfl (by decide) rfl ?_ | refine RO.nil ?_ | refine DW.region ?_ | refine DW.seq ?_ | refine DW.block ?_ | refine DW.skip ?_ | refine DW.exit ?_ | refine DW.condT rfl ?_ | refine DW.condF rfl ?_))
  refine RO.sta (s_loadMut (d := .list 5 [.agg bgM0]) rfl hm rfl) rfl ?_
  (repeat (first | refine RO.Sv ?_ | refine RO.Yv ?_ | refine RO.no rfl (by decide) rfl ?_ | refine RO.nil ?_ | refine DW.region ?_ | refine DW.seq ?_ | refine DW.block ?_ | refine DW.skip ?_ | refine DW.exit ?_ | refine DW.condT rfl ?_ | refine DW.condF rfl ?_))
  refine DW.loopI (fun x : Nat × Heap × D => (x.1 = 0 ∧ x.2.1 = H ∧ x.2.2 = .nil) ∨ (x.1 = 1 ∧ ∃ b2, H b2 = none ∧ x.2.2 = .ref b2 0 1 5 ∧ x.2.1 b2 = some (101, bgM0) ∧ Over H x.2.1)) (fun x => [(1, .ipt 1 [.ptr bm 0] 0 0), (2, x.2.2), (13, .list 5 [.agg bgM0]), (14, I 1), (15, I x.1)]) (fun x => x.2.1) (fun x => 1 - x.1) (0, H, .nil)
    (.inl ⟨rfl, rfl, rfl⟩) rfl ⟨rfl, rfl, rfl, rfl, rfl, trivial⟩ fun ⟨k, Hk, d⟩ hinv => ?_
  dsimp only at hinv
  dsimp only
  rcases hinv with ⟨rfl, rfl, rfl⟩ | ⟨rfl, b2, hb2, rfl, g2, gov⟩
  · (repeat (first | refine RO.Sv ?_ | refine RO.Yv ?_ | refine RO.no rfl (by decide) rfl ?_ | refine RO.nil ?_ | refine DW.region ?_ | refine DW.seq ?_ | refine DW.block ?_ | refine DW.skip ?_ | refine DW.exit ?_ | refine DW.condT rfl ?_ | refine DW.condF rfl ?_))
    refine RO.sta (s_index (i := 0) (l := [.agg bgM0]) rfl rfl (by simp)) rfl ?_
    refine RO.sta (s_loadAgg (ds := bgM0) rfl rfl rfl) rfl ?_
    refine RO.dyn rfl (d_alloc fun b4 hb4 => ?_)
    have hne : b4 ≠ bm := fun h => by rw [h, hm] at hb4; cases hb4
    (repeat (first | refine RO.Sv ?_ | refine RO.Yv ?_ | refine RO.no rfl (by decide) rfl ?_ | refine RO.nil ?_ | refine DW.region ?_ | refine DW.seq ?_ | refine DW.block ?_ | refine DW.skip ?_ | refine DW.exit ?_ | refine DW.condT rfl ?_ | refine DW.condF rfl ?_))
    refine RO.dyn rfl (d_store (k := 5) rfl rfl rfl (Heap.set_self _ _ _) (Nat.le_refl _) (by simp [cellsOf, D.isCell, vcD, intsD]) ?_)
    rw [Heap.set_set]
    refine RO.nil ?_
    refine DW.asH (fun H2 => H2 bm = some (T1, mkC (.list 5 [.agg bgM0]) .nil) ∧ H2 b4 = some (101, bgM0) ∧ Over Hk H2) ⟨by rw [Heap.set_other _ _ hne.symm]; exact hm, by rw [Heap.set_self]; rfl, (Over.refl Hk).set hb4⟩ fun H2 ⟨gm, g4, gov⟩ => ?_
    (repeat (first | refine RO.Sv ?_ | refine RO.Yv ?_ | refine RO.no rfl (by decide) rfl ?_ | refine RO.nil ?_ | refine DW.region ?_ | refine DW.seq ?_ | refine DW.block ?_ | refine DW.skip ?_ | refine DW.exit ?_ | refine DW.condT rfl ?_ | refine DW.condF rfl ?_))
    refine RO.sta (s_loadMutAgg (ds := bgM0) rfl g4 rfl rfl) rfl ?_
    refine RO.sta (sta_call rfl rfl (over_pureH gm (by decide))) rfl ?_
    (repeat (first | refine RO.Sv ?_ | refine RO.Yv ?_ | refine RO.no rfl (by decide) rfl ?_ | refine RO.nil ?_ | refine DW.region ?_ | refine DW.seq ?_ | refine DW.block ?_ | refine DW.skip ?_ | refine DW.exit ?_ | refine DW.condT rfl ?_ | refine DW.condF rfl ?_))
    refine RO.sta (s_loadMutAgg (ds := bgM0) rfl g4 rfl rfl) rfl ?_
    refine RO.sta (s_lit1 (k := 5) (by decide) rfl rfl) rfl ?_
    refine RO.dyn rfl (d_append (H0 := Hk) (l := []) (xs := [.agg bgM0]) rfl (Acc.nil _ _ _ _) gov rfl (.inl rfl) (uni_mem _ _ _ _) (by simp) (by simp) fun d' H' q1 q2 q3 => ?_)
    obtain ⟨b2, e1, e2, e3⟩ : ∃ b2, Hk b2 = none ∧ d' = .ref b2 0 1 5 ∧ H' b2 = some (101, bgM0) := by
      rcases q1.is with ⟨_, h⟩ | ⟨b2, h1, h2, h3⟩
      · cases h
      · exact ⟨b2, h1, h2, by simpa [cellsOf] using h3⟩
    (repeat (first | refine RO.Sv ?_ | refine RO.Yv ?_ | refine RO.no rfl (by decide) rfl ?_ | refine RO.nil ?_ | refine DW.region ?_ | refine DW.seq ?_ | refine DW.block ?_ | refine DW.skip ?_ | refine DW.exit ?_ | refine DW.condT rfl ?_ | refine DW.condF rfl ?_))
    exact ⟨(1, H', d'), .inr ⟨rfl, b2, e1, e2, e3, q2⟩, by dsimp only; decide, rfl, rfl, rfl, rfl, rfl, rfl, trivial⟩
  · have hbm2 : b2 ≠ bm := fun h => by rw [h, hm] at hb2; cases hb2
    (repeat (first | refine RO.Sv ?_ | refine RO.Yv ?_ | refine RO.no rfl (by decide) rfl ?_ | refine RO.nil ?_ | refine DW.region ?_ | refine DW.seq ?_ | refine DW.block ?_ | refine DW.skip ?_ | refine DW.exit ?_ | refine DW.condT rfl ?_ | refine DW.condF rfl ?_))
    refine DW.loopI (fun x : Nat × Heap => (x.1 = 0 ∧ x.2 b2 = some (101, bgM0) ∧ x.2 bm = some (T1, mkC (.list 5 [.agg bgM0]) .nil) ∧ Over H x.2) ∨ (x.1 = 1 ∧ x.2 b2 = some (101, bgM1) ∧ ∃ ms, x.2 bm = some (T1, mkC ms .nil) ∧ ∀ q z, q ≠ bm → H q = some z → x.2 q = some z)) (fun x => [(1, .ipt 1 [.ptr bm 0] 0 0), (2, .ref b2 0 1 5), (30, .ref b2 0 1 5), (31, I 1), (32, I x.1)]) (fun x => x.2) (fun x => 1 - x.1) (0, Hk)
      (.inl ⟨rfl, g2, gov _ _ hm, gov⟩) rfl ⟨rfl, rfl, rfl, rfl, rfl, trivial⟩ fun ⟨k, Hj⟩ hinv => ?_
    dsimp only at hinv
    dsimp only
    rcases hinv with ⟨rfl, g2, gm, gov⟩ | ⟨rfl, g2, ms, gm, gk⟩
    · (repeat (first | refine RO.Sv ?_ | refine RO.Yv ?_ | refine RO.no rfl (by decide) rfl ?_ | refine RO.nil ?_ | refine DW.region ?_ | refine DW.seq ?_ | refine DW.block ?_ | refine DW.skip ?_ | refine DW.exit ?_ | refine DW.condT rfl ?_ | refine DW.condF rfl ?_))
      refine RO.sta (s_indexRef (i := 0) rfl rfl (by omega)) rfl ?_
      refine RO.sta (s_loadMutAgg (ds := bgM0) rfl g2 rfl rfl) rfl ?_
      refine RO.dyn rfl (d_alloc fun b6 hb6 => ?_)
      have hn6 : b6 ≠ bm := fun h => by rw [h, gm] at hb6; cases hb6
      have hn62 : b6 ≠ b2 := fun h => by rw [h, g2] at hb6; cases hb6
      (repeat (first | refine RO.Sv ?_ | refine RO.Yv ?_ | refine RO.no rfl (by decide) rfl ?_ | refine RO.nil ?_ | refine DW.region ?_ | refine DW.seq ?_ | refine DW.block ?_ | refine DW.skip ?_ | refine DW.exit ?_ | refine DW.condT rfl ?_ | refine DW.condF rfl ?_))
      refine RO.dyn rfl (d_store (k := 5) rfl rfl rfl (Heap.set_self _ _ _) (Nat.le_refl _) (by simp [cellsOf, D.isCell, vcD, intsD]) ?_)
      rw [Heap.set_set]
      refine RO.nil ?_
      refine DW.asH (fun H2 => H2 bm = some (T1, mkC (.list 5 [.agg bgM0]) .nil) ∧ H2 b2 = some (101, bgM0) ∧ H2 b6 = some (101, bgM0) ∧ Over H H2) ⟨by rw [Heap.set_other _ _ hn6.symm]; exact gm, by rw [Heap.set_other _ _ hn62.symm]; exact g2, by rw [Heap.set_self]; rfl, fun c z h => ((Over.refl Hj).set hb6) c z (gov c z h)⟩ fun H2 ⟨gm, g2, g6, gov⟩ => ?_
      (repeat (first | refine RO.Sv ?_ | refine RO.Yv ?_ | refine RO.no rfl (by decide) rfl ?_ | refine RO.nil ?_ | refine DW.region ?_ | refine DW.seq ?_ | refine DW.block ?_ | refine DW.skip ?_ | refine DW.exit ?_ | refine DW.condT rfl ?_ | refine DW.condF rfl ?_))
      refine DW.drawX [0, 1, 3, 4, 5] [0, 1, 3, 4, 5] (fun _ => none) Tryz.mixed (by kernel_rfl) (Over.nul _) ?_
      (repeat (first | refine RX.A ?_ | refine RX.nil ?_))
      refine RY.dyn rfl ((opD_call rfl rfl (mclone_call g2)).mono fun d3 H3 h3 => ⟨Over.nul _, ?_⟩)
      obtain ⟨b3, hb3, rfl, g3, gov3⟩ := h3
      have hn3 : b3 ≠ bm := fun h => by rw [h, gm] at hb3; cases hb3
      have hn32 : b3 ≠ b2 := fun h => by rw [h, g2] at hb3; cases hb3
      have hn36 : b3 ≠ b6 := fun h => by rw [h, g6] at hb3; cases hb3
      (repeat (first | refine RY.S ?_ | refine RY.nil ?_))
      refine RY.dyn rfl ((opD_call rfl rfl (mdelete_call g3 rfl)).mono fun d4 H4 h4 => ⟨Over.nul _, ?_⟩)
      obtain ⟨rfl, rfl⟩ := h4
      have g2' : (H3.set b3 (101, [.nil, I 0, I 0, .nil, .nil])) b2 = some (101, bgM0) := by rw [Heap.set_other _ _ hn32.symm]; exact gov3 _ _ g2
      have g6' : (H3.set b3 (101, [.nil, I 0, I 0, .nil, .nil])) b6 = some (101, bgM0) := by rw [Heap.set_other _ _ hn36.symm]; exact gov3 _ _ g6
      have gm' : (H3.set b3 (101, [.nil, I 0, I 0, .nil, .nil])) bm = some (T1, mkC (.list 5 [.agg bgM0]) .nil) := by rw [Heap.set_other _ _ hn3.symm]; exact gov3 _ _ gm
      have g3' : (H3.set b3 (101, [.nil, I 0, I 0, .nil, .nil])) b3 = some (101, [.nil, I 0, I 0, .nil, .nil]) := Heap.set_self _ _ _
      have gk : ∀ q z, q ≠ bm → H q = some z → (H3.set b3 (101, [.nil, I 0, I 0, .nil, .nil])) q = some z := fun q z hq hz => by
        rw [Heap.set_other _ _ (fun h => by have := gov b3 z (h ▸ hz); rw [hb3] at this; cases this)]
        exact gov3 _ _ (gov _ _ hz)
      generalize H3.set b3 (101, [.nil, I 0, I 0, .nil, .nil]) = H5 at g2' g6' gm' g3' gk ⊢
      refine RY.sta (Over.nul _) (s_nilCheck rfl) rfl ?_
      (repeat (first | refine RY.S ?_ | refine RY.nil ?_))
      refine RY.dyn rfl (d_store (k := 1) rfl rfl rfl gm' (by show 0 + 4 + 1 ≤ 6; omega) (by simp [cellsOf, D.isCell]) ⟨Over.nul _, ?_⟩)
      refine RY.nil ?_
      refine DW.asH (fun H2 => H2 bm = some (T1, mkC (.ref b3 0 0 5) .nil) ∧ H2 b2 = some (101, bgM0) ∧ H2 b3 = some (101, [.nil, I 0, I 0, .nil, .nil]) ∧ H2 b6 = some (101, bgM0) ∧ ∀ q z, q ≠ bm → H q = some z → H2 q = some z)
        ⟨Heap.set_self _ _ _, by rw [Heap.set_other _ _ hbm2]; exact g2', by rw [Heap.set_other _ _ hn3]; exact g3', by rw [Heap.set_other _ _ hn6]; exact g6', fun q z hq hz => by rw [Heap.set_other _ _ hq]; exact gk q z hq hz⟩ fun H6 ⟨gm, g2, g3, g6, gk⟩ => ?_
      (repeat (first | refine RO.Sv ?_ | refine RO.Yv ?_ | refine RO.no rfl (by decide) rfl ?_ | refine RO.nil ?_ | refine DW.region ?_ | refine DW.seq ?_ | refine DW.block ?_ | refine DW.skip ?_ | refine DW.exit ?_ | refine DW.condT rfl ?_ | refine DW.condF rfl ?_))
      refine RO.sta (s_loadMut (d := vcD bgV0) rfl g6 rfl) rfl ?_
      (repeat (first | refine RO.Sv ?_ | refine RO.Yv ?_ | refine RO.no rfl (by decide) rfl ?_ | refine RO.nil ?_ | refine DW.region ?_ | refine DW.seq ?_ | refine DW.block ?_ | refine DW.skip ?_ | refine DW.exit ?_ | refine DW.condT rfl ?_ | refine DW.condF rfl ?_))
      refine RO.sta (s_loadMut (d := vcD bgB0) rfl g6 rfl) rfl ?_
      (repeat (first | refine RO.Sv ?_ | refine RO.Yv ?_ | refine RO.no rfl (by decide) rfl ?_ | refine RO.nil ?_ | refine DW.region ?_ | refine DW.seq ?_ | refine DW.block ?_ | refine DW.skip ?_ | refine DW.exit ?_ | refine DW.condT rfl ?_ | refine DW.condF rfl ?_))
      refine RO.sta (sta_call rfl rfl (reduced_pureH gm ⟨vdV0, rfl⟩ (by kernel_rfl))) rfl ?_
      (repeat (first | refine RO.Sv ?_ | refine RO.Yv ?_ | refine RO.no rfl (by decide) rfl ?_ | refine RO.nil ?_ | refine DW.region ?_ | refine DW.seq ?_ | refine DW.block ?_ | refine DW.skip ?_ | refine DW.exit ?_ | refine DW.condT rfl ?_ | refine DW.condF rfl ?_))
      refine DW.drawA 17 Tryz.mixed (by kernel_rfl) rfl rfl ?_
      dsimp only [List.take, List.drop]
      (repeat (first | refine RS.Sv ?_ | refine RS.Yv ?_ | refine RS.no rfl (by decide) rfl ?_ | refine RS.nil ?_))
      refine RS.sta (fun H' hov => s_nilCheck rfl) rfl ?_
      (repeat (first | refine RS.Sv ?_ | refine RS.Yv ?_ | refine RS.no rfl (by decide) rfl ?_ | refine RS.nil ?_))
      refine RS.sta (r_loadMut (d := I 7) rfl gm rfl) rfl ?_
      (repeat (first | refine RS.Sv ?_ | refine RS.Yv ?_ | refine RS.no rfl (by decide) rfl ?_ | refine RS.nil ?_))
      refine RS.sta (r_loadMut (d := I 2) rfl g6 rfl) rfl ?_
      refine RS.sta (fun H' hov => sta_call rfl rfl (turn72 _)) rfl ?_
      (repeat (first | refine RS.Sv ?_ | refine RS.Yv ?_ | refine RS.no rfl (by decide) rfl ?_ | refine RS.nil ?_))
      refine RS.sta (fun H' hov => s_nilCheck rfl) rfl ?_
      (repeat (first | refine RS.Sv ?_ | refine RS.Yv ?_ | refine RS.no rfl (by decide) rfl ?_ | refine RS.nil ?_))
      refine RS.sta (r_loadMut (d := I 2) rfl gm rfl) rfl ?_
      refine RS.sta (fun H' hov => s_makeInts (n := 2) rfl rfl rfl (by omega) (by omega)) rfl ?_
      refine RS.sta (fun H' hov => s_buildT (out := [I 4, intsD [0, 0]]) rfl rfl) rfl ?_
      refine RS.nil ?_
      intro b9 hb9
      have hn9 : b9 ≠ bm := fun h => by rw [h, gm] at hb9; cases hb9
      have hn92 : b9 ≠ b2 := fun h => by rw [h, g2] at hb9; cases hb9
      have hn93 : b9 ≠ b3 := fun h => by rw [h, g3] at hb9; cases hb9
      (repeat (first | refine RO.Sv ?_ | refine RO.Yv ?_ | refine RO.no rfl (by decide) rfl ?_))
      refine RO.dyn rfl (d_storeTm (tm := ⟨4, [0, 0]⟩) rfl rfl (Heap.set_self _ _ _) rfl ?_)
      rw [Heap.set_set]
      refine RO.nil ?_
      refine DW.asH (fun H2 => H2 bm = some (T1, mkC (.ref b3 0 0 5) .nil) ∧ H2 b2 = some (101, bgM0) ∧ H2 b9 = some (50, tmCl ⟨4, [0, 0]⟩) ∧ ∀ q z, q ≠ bm → H q = some z → H2 q = some z)
        ⟨by rw [Heap.set_other _ _ hn9.symm]; exact gm, by rw [Heap.set_other _ _ hn92.symm]; exact g2, Heap.set_self _ _ _, fun q z hq hz => by rw [Heap.set_other _ _ (fun h => by have := gk q z hq hz; rw [h, hb9] at this; cases this)]; exact gk q z hq hz⟩ fun H7 ⟨gm, g2, g9, gk⟩ => ?_
      (repeat (first | refine RO.Sv ?_ | refine RO.Yv ?_ | refine RO.no rfl (by decide) rfl ?_ | refine RO.nil ?_ | refine DW.region ?_ | refine DW.seq ?_ | refine DW.block ?_ | refine DW.skip ?_ | refine DW.exit ?_ | refine DW.condT rfl ?_ | refine DW.condF rfl ?_))
      refine DW.drawS 22 Tryz.mixed (by kernel_rfl) (by decide) ?_
      dsimp only [List.take, List.drop]
      (repeat (first | refine RS.Sv ?_ | refine RS.Yv ?_ | refine RS.no rfl (by decide) rfl ?_ | refine RS.nil ?_))
      refine RS.sta (fun H' hov => s_nilCheck rfl) rfl ?_
      (repeat (first | refine RS.Sv ?_ | refine RS.Yv ?_ | refine RS.no rfl (by decide) rfl ?_ | refine RS.nil ?_))
      refine RS.sta (r_loadMutAgg (ds := [I 7, I 2, I 1, I 1]) rfl gm rfl rfl) rfl ?_
      (repeat (first | refine RS.Sv ?_ | refine RS.Yv ?_ | refine RS.no rfl (by decide) rfl ?_ | refine RS.nil ?_))
      refine RS.sta (fun H' hov => s_nilCheck rfl) rfl ?_
      (repeat (first | refine RS.Sv ?_ | refine RS.Yv ?_ | refine RS.no rfl (by decide) rfl ?_ | refine RS.nil ?_))
      refine RS.sta (r_loadMutAgg (ds := [I 7, I 2, I 1, I 1]) rfl gm rfl rfl) rfl ?_
      (repeat (first | refine RS.Sv ?_ | refine RS.Yv ?_ | refine RS.no rfl (by decide) rfl ?_ | refine RS.nil ?_))
      refine RS.sta (r_loadMutAgg (ds := tmCl ⟨4, [0, 0]⟩) rfl g9 rfl rfl) rfl ?_
      refine RS.sta (fun H' hov => sta_call rfl rfl (byV0 _)) rfl ?_
      refine RS.sta (fun H' hov => sta_call rfl rfl (ofV1 _)) rfl ?_
      (repeat (first | refine RS.Sv ?_ | refine RS.Yv ?_ | refine RS.no rfl (by decide) rfl ?_ | refine RS.nil ?_))
      refine RS.sta (fun H' hov => s_nilCheck rfl) rfl ?_
      (repeat (first | refine RS.Sv ?_ | refine RS.Yv ?_ | refine RS.no rfl (by decide) rfl ?_ | refine RS.nil ?_))
      refine RS.sta (r_loadMutAgg (ds := [I 7, I 2, I 1, I 1]) rfl gm rfl rfl) rfl ?_
      (repeat (first | refine RS.Sv ?_ | refine RS.Yv ?_ | refine RS.no rfl (by decide) rfl ?_ | refine RS.nil ?_))
      refine RS.sta (r_loadMutAgg (ds := tmCl ⟨4, [0, 0]⟩) rfl g9 rfl rfl) rfl ?_
      refine RS.sta (fun H' hov => sta_call rfl rfl (byB0 _)) rfl ?_
      refine RS.sta (fun H' hov => s_buildT (out := bgM1) rfl rfl) rfl ?_
      refine RS.nil ?_
      (repeat (first | refine RO.Sv ?_ | refine RO.Yv ?_ | refine RO.no rfl (by decide) rfl ?_))
      refine RO.sta (s_indexRef (i := 0) rfl rfl (by omega)) rfl ?_
      refine RO.dyn rfl (d_store (k := 5) rfl rfl rfl g2 (Nat.le_refl _) (by simp [cellsOf, D.isCell, vcD, intsD]) ?_)
      (repeat (first | refine RO.Sv ?_ | refine RO.Yv ?_ | refine RO.no rfl (by decide) rfl ?_ | refine RO.nil ?_ | refine DW.region ?_ | refine DW.seq ?_ | refine DW.block ?_ | refine DW.skip ?_ | refine DW.exit ?_ | refine DW.condT rfl ?_ | refine DW.condF rfl ?_))
      exact ⟨(1, H7.set b2 (101, bgM1)), .inr ⟨rfl, Heap.set_self _ _ _, _, by dsimp only; rw [Heap.set_other _ _ hbm2.symm]; exact gm, fun q z hq hz => by dsimp only; rw [Heap.set_other _ _ (fun h => by rw [h, hb2] at hz; cases hz)]; exact gk q z hq hz⟩, by dsimp only; decide, rfl, rfl, rfl, rfl, rfl, rfl, trivial⟩
    · (repeat (first | refine RO.Sv ?_ | refine RO.Yv ?_ | refine RO.no rfl (by decide) rfl ?_ | refine RO.nil ?_ | refine DW.region ?_ | refine DW.seq ?_ | refine DW.block ?_ | refine DW.skip ?_ | refine DW.exit ?_ | refine DW.condT rfl ?_ | refine DW.condF rfl ?_))
      refine RO.dyn rfl ((opD_call rfl rfl sortFunc_call).mono fun d H1 hH => ?_)
      subst hH
      (repeat (first | refine RO.Sv ?_ | refine RO.Yv ?_ | refine RO.no rfl (by decide) rfl ?_ | refine RO.nil ?_ | refine DW.region ?_ | refine DW.seq ?_ | refine DW.block ?_ | refine DW.skip ?_ | refine DW.exit ?_ | refine DW.condT rfl ?_ | refine DW.condF rfl ?_))
      refine RO.sta (s_nilCheck rfl) rfl ?_
      (repeat (first | refine RO.Sv ?_ | refine RO.Yv ?_ | refine RO.no rfl (by decide) rfl ?_ | refine RO.nil ?_ | refine DW.region ?_ | refine DW.seq ?_ | refine DW.block ?_ | refine DW.skip ?_ | refine DW.exit ?_ | refine DW.condT rfl ?_ | refine DW.condF rfl ?_))
      refine RO.dyn rfl (d_store (k := 1) rfl rfl rfl gm (by show 0 + 4 + 1 ≤ 6; omega) (by simp [cellsOf, D.isCell]) ?_)
      (repeat (first | refine RO.Sv ?_ | refine RO.Yv ?_ | refine RO.no rfl (by decide) rfl ?_ | refine RO.nil ?_ | refine DW.region ?_ | refine DW.seq ?_ | refine DW.block ?_ | refine DW.skip ?_ | refine DW.exit ?_ | refine DW.condT rfl ?_ | refine DW.condF rfl ?_))
      exact ⟨.inr rfl, _, _, _, rfl, Heap.sub_refl _, .same _, b2, hb2, hbm2, by rw [Heap.set_other _ _ hbm2]; exact g2, Heap.set_self _ _ _, fun q z hq hz => by rw [Heap.set_other _ _ hq]; exact gk q z hq hz⟩

end Go.Proofs.YtcdihmhmoddppaaGreat

namespace Go.Proofs.YtcdihmhmoddppaaGreat
open Go.RowKit
set_option linter.unusedVariables false
set_option linter.unusedSimpArgs false
set_option maxHeartbeats 8000000

theorem Raw_pure : Pure Tryz.prog 63 [rgD xyR, vcsD [bgV0]] (.list 5 [.agg bgM1]) := by
  intro H
  refine PureH.of_body Tryz.func63 rfl (by decide) (Nat.le_of_ble_eq_true rfl) fun w0 => ?_
  (repeat (first | refine RO.Sv ?_ | refine RO.Yv ?_ | refine RO.no rfl (by decide) rfl ?_ | refine RO.nil ?_ | refine DW.region ?_ | refine DW.seq ?_ | refine DW.block ?_ | refine DW.skip ?_ | refine DW.exit ?_ | refine DW.condT rfl ?_ | refine DW.condF rfl ?_))
  refine RO.sta (s_buildT (out := mkC .nil .nil) rfl rfl) rfl ?_
  refine RO.dyn rfl (opD_box rfl (by simp [cellsOf, D.isCell]) fun bm hbm => ?_)
  (repeat (first | refine RO.Sv ?_ | refine RO.Yv ?_ | refine RO.no rfl (by decide) rfl ?_ | refine RO.nil ?_ | refine DW.region ?_ | refine DW.seq ?_ | refine DW.block ?_ | refine DW.skip ?_ | refine DW.exit ?_ | refine DW.condT rfl ?_ | refine DW.condF rfl ?_))
  refine DW.loopI (fun x : Nat × Heap => ((x.1 = 0 ∧ x.2 bm = some (123, mkC .nil .nil)) ∨ (x.1 = 1 ∧ x.2 bm = some (123, mkC (.list 5 [.agg bgM0]) .nil))) ∧ Over H x.2) (fun x => [(1, vcsD [bgV0]), (2, .ipt 4 [rgD xyR] 0 0), (5, .ptr bm 0), (11, vcsD [bgV0]), (12, I 1), (13, I x.1)]) (fun x => x.2) (fun x => 1 - x.1) (0, H.set bm (123, mkC .nil .nil))
    ⟨.inl ⟨rfl, Heap.set_self _ _ _⟩, (Over.refl H).set hbm⟩ rfl ⟨rfl, rfl, rfl, rfl, rfl, rfl, trivial⟩ fun ⟨k, Hj⟩ ⟨hinv, gov⟩ => ?_
  dsimp only at hinv gov
  dsimp only
  rcases hinv with ⟨rfl, gm⟩ | ⟨rfl, gm⟩
  · have hne : ∀ q z, H q = some z → q ≠ bm := fun q z hz h => by rw [h, hbm] at hz; cases hz
    (repeat (first | refine RO.Sv ?_ | refine RO.Yv ?_ | refine RO.no rfl (by decide) rfl ?_ | refine RO.nil ?_ | refine DW.region ?_ | refine DW.seq ?_ | refine DW.block ?_ | refine DW.skip ?_ | refine DW.exit ?_ | refine DW.condT rfl ?_ | refine DW.condF rfl ?_))
    refine RO.sta (s_index (l := [vcD bgV0]) (i := 0) rfl rfl (by simp)) rfl ?_
    (repeat (first | refine RO.Sv ?_ | refine RO.Yv ?_ | refine RO.no rfl (by decide) rfl ?_ | refine RO.nil ?_ | refine DW.region ?_ | refine DW.seq ?_ | refine DW.block ?_ | refine DW.skip ?_ | refine DW.exit ?_ | refine DW.condT rfl ?_ | refine DW.condF rfl ?_))
    refine RO.sta (sta_call rfl rfl (vIs_pure bgV0 (by decide) _)) rfl ?_
    (repeat (first | refine RO.Sv ?_ | refine RO.Yv ?_ | refine RO.no rfl (by decide) rfl ?_ | refine RO.nil ?_ | refine DW.region ?_ | refine DW.seq ?_ | refine DW.block ?_ | refine DW.skip ?_ | refine DW.exit ?_ | refine DW.condT rfl ?_ | refine DW.condF rfl ?_))
    refine RO.sta (sta_call rfl rfl (unit_pure _)) rfl ?_
    refine RO.dyn rfl ((opD_call rfl rfl (add_call gm vdV0 (show topV xyR bgV0 = some (0, ⟨2, [1, 0]⟩) by kernel_rfl))).mono fun d H1 ⟨g1, gk⟩ => ?_)
    (repeat (first | refine RO.Sv ?_ | refine RO.Yv ?_ | refine RO.no rfl (by decide) rfl ?_ | refine RO.nil ?_ | refine DW.region ?_ | refine DW.seq ?_ | refine DW.block ?_ | refine DW.skip ?_ | refine DW.exit ?_ | refine DW.condT rfl ?_ | refine DW.condF rfl ?_))
    exact ⟨(1, H1), ⟨.inr ⟨rfl, g1⟩, fun q z hz => gk q z (hne q z hz) (gov q z hz)⟩, by dsimp only; decide, rfl, rfl, rfl, rfl, rfl, rfl, rfl, trivial⟩
  · (repeat (first | refine RO.Sv ?_ | refine RO.Yv ?_ | refine RO.no rfl (by decide) rfl ?_ | refine RO.nil ?_ | refine DW.region ?_ | refine DW.seq ?_ | refine DW.block ?_ | refine DW.skip ?_ | refine DW.exit ?_ | refine DW.condT rfl ?_ | refine DW.condF rfl ?_))
    refine RO.dyn rfl ((opD_call rfl rfl (grow_call gm)).mono fun d H1 hH => ?_)
    subst hH
    (repeat (first | refine RO.Sv ?_ | refine RO.Yv ?_ | refine RO.no rfl (by decide) rfl ?_ | refine RO.nil ?_ | refine DW.region ?_ | refine DW.seq ?_ | refine DW.block ?_ | refine DW.skip ?_ | refine DW.exit ?_ | refine DW.condT rfl ?_ | refine DW.condF rfl ?_))
    refine RO.dyn rfl ((opD_call rfl rfl (tidy_call gm)).mono fun d H2 ⟨b2, hb2, hn2, g2, gm2, gk⟩ => ?_)
    (repeat (first | refine RO.Sv ?_ | refine RO.Yv ?_ | refine RO.no rfl (by decide) rfl ?_ | refine RO.nil ?_ | refine DW.region ?_ | refine DW.seq ?_ | refine DW.block ?_ | refine DW.skip ?_ | refine DW.exit ?_ | refine DW.condT rfl ?_ | refine DW.condF rfl ?_))
    refine RO.sta (s_nilCheck rfl) rfl ?_
    (repeat (first | refine RO.Sv ?_ | refine RO.Yv ?_ | refine RO.no rfl (by decide) rfl ?_ | refine RO.nil ?_ | refine DW.region ?_ | refine DW.seq ?_ | refine DW.block ?_ | refine DW.skip ?_ | refine DW.exit ?_ | refine DW.condT rfl ?_ | refine DW.condF rfl ?_))
    refine RO.sta (s_loadMut (d := .ref b2 0 1 5) rfl gm2 rfl) rfl ?_
    (repeat (first | refine RO.Sv ?_ | refine RO.Yv ?_ | refine RO.no rfl (by decide) rfl ?_ | refine RO.nil ?_ | refine DW.region ?_ | refine DW.seq ?_ | refine DW.block ?_ | refine DW.skip ?_ | refine DW.exit ?_ | refine DW.condT rfl ?_ | refine DW.condF rfl ?_))
    exact DW.ret ⟨.inl rfl, _, rfl, fun q z hz => gk q z (fun h => by rw [h, hbm] at hz; cases hz) (gov q z hz), Frz.list (l := [.agg bgM1]) g2 (gov.none hb2) (uni_mem _ _ _ _) rfl⟩

theorem Basis_pure : Pure Tryz.prog 27 [rgD xyR, I 1, vcsD [bgV0]] (.tup [vcsD [bgV1], .list 1 [vcD bgB1], I 0]) := by
  intro H
  have hck := basisCheck_pure xyR 1 [bgV0] (by decide) (by decide)
  rw [show basCk xyR 1 [bgV0] = 0 by kernel_rfl] at hck
  refine PureH.of_body Tryz.func27 rfl (by decide) (Nat.le_of_ble_eq_true rfl) fun w0 => ?_
  (repeat (first | refine RO.Sv ?_ | refine RO.Yv ?_ | refine RO.no rfl (by decide) rfl ?_ | refine RO.nil ?_ | refine DW.region ?_ | refine DW.seq ?_ | refine DW.block ?_ | refine DW.skip ?_ | refine DW.exit ?_ | refine DW.condT rfl ?_ | refine DW.condF rfl ?_))
  refine RO.sta (sta_call rfl rfl (hck _)) rfl ?_
  (repeat (first | refine RO.Sv ?_ | refine RO.Yv ?_ | refine RO.no rfl (by decide) rfl ?_ | refine RO.nil ?_ | refine DW.region ?_ | refine DW.seq ?_ | refine DW.block ?_ | refine DW.skip ?_ | refine DW.exit ?_ | refine DW.condT rfl ?_ | refine DW.condF rfl ?_))
  refine RO.sta (sta_call rfl rfl (Raw_pure _)) rfl ?_
  (repeat (first | refine RO.Sv ?_ | refine RO.Yv ?_ | refine RO.no rfl (by decide) rfl ?_ | refine RO.nil ?_ | refine DW.region ?_ | refine DW.seq ?_ | refine DW.block ?_ | refine DW.skip ?_ | refine DW.exit ?_ | refine DW.condT rfl ?_ | refine DW.condF rfl ?_))
  refine DW.loopI (fun x : Nat × Heap × D × D => (x.1 = 0 ∧ x.2.2.1 = .nil ∧ x.2.2.2 = .nil ∨ x.1 = 1 ∧ x.2.2.1 = vcsD [bgV1] ∧ x.2.2.2 = .list 1 [vcD bgB1]) ∧ Over H x.2.1) (fun x => [(10, x.2.2.1), (11, x.2.2.2), (23, .list 5 [.agg bgM1]), (24, I 1), (25, I x.1)]) (fun x => x.2.1) (fun x => 1 - x.1) (0, H, .nil, .nil)
    ⟨.inl ⟨rfl, rfl, rfl⟩, Over.refl H⟩ rfl ⟨rfl, rfl, rfl, rfl, rfl, trivial⟩ fun ⟨k, Hj, d1, d2⟩ ⟨hinv, gov⟩ => ?_
  dsimp only at hinv gov
  dsimp only
  rcases hinv with ⟨rfl, rfl, rfl⟩ | ⟨rfl, rfl, rfl⟩
  · (repeat (first | refine RO.Sv ?_ | refine RO.Yv ?_ | refine RO.no rfl (by decide) rfl ?_ | refine RO.nil ?_ | refine DW.region ?_ | refine DW.seq ?_ | refine DW.block ?_ | refine DW.skip ?_ | refine DW.exit ?_ | refine DW.condT rfl ?_ | refine DW.condF rfl ?_))
    refine RO.sta (s_index (i := 0) (l := [.agg bgM1]) rfl rfl (by simp)) rfl ?_
    refine RO.sta (s_loadAgg (ds := bgM1) rfl rfl rfl) rfl ?_
    refine RO.dyn rfl (d_alloc fun b6 hb6 => ?_)
    (repeat (first | refine RO.Sv ?_ | refine RO.Yv ?_ | refine RO.no rfl (by decide) rfl ?_ | refine RO.nil ?_ | refine DW.region ?_ | refine DW.seq ?_ | refine DW.block ?_ | refine DW.skip ?_ | refine DW.exit ?_ | refine DW.condT rfl ?_ | refine DW.condF rfl ?_))
    refine RO.dyn rfl (d_store (k := 5) rfl rfl rfl (Heap.set_self _ _ _) (Nat.le_refl _) (by simp [cellsOf, D.isCell, vcD, intsD]) ?_)
    rw [Heap.set_set]
    refine RO.nil ?_
    refine DW.asH (fun H2 => H2 b6 = some (101, bgM1) ∧ Over H H2) ⟨by rw [Heap.set_self]; rfl, fun c z h => ((Over.refl Hj).set hb6) c z (gov c z h)⟩ fun H2 ⟨g6, gov⟩ => ?_
    (repeat (first | refine RO.Sv ?_ | refine RO.Yv ?_ | refine RO.no rfl (by decide) rfl ?_ | refine RO.nil ?_ | refine DW.region ?_ | refine DW.seq ?_ | refine DW.block ?_ | refine DW.skip ?_ | refine DW.exit ?_ | refine DW.condT rfl ?_ | refine DW.condF rfl ?_))
    refine RO.sta (s_loadMut (d := vcD bgV1) rfl g6 rfl) rfl ?_
    refine RO.sta (sta_call rfl rfl (vCopied_pure bgV1 (by decide) (by decide) _)) rfl ?_
    (repeat (first | refine RO.Sv ?_ | refine RO.Yv ?_ | refine RO.no rfl (by decide) rfl ?_ | refine RO.nil ?_ | refine DW.region ?_ | refine DW.seq ?_ | refine DW.block ?_ | refine DW.skip ?_ | refine DW.exit ?_ | refine DW.condT rfl ?_ | refine DW.condF rfl ?_))
    refine RO.sta (s_appendNil (xs := [vcD bgV1]) rfl rfl (.inl rfl) (uni_vc [bgV1]) (by simp) (by simp)) rfl ?_
    (repeat (first | refine RO.Sv ?_ | refine RO.Yv ?_ | refine RO.no rfl (by decide) rfl ?_ | refine RO.nil ?_ | refine DW.region ?_ | refine DW.seq ?_ | refine DW.block ?_ | refine DW.skip ?_ | refine DW.exit ?_ | refine DW.condT rfl ?_ | refine DW.condF rfl ?_))
    refine RO.sta (s_loadMut (d := vcD bgB1) rfl g6 rfl) rfl ?_
    refine RO.sta (sta_call rfl rfl (vCopied_pure bgB1 (by decide) (by decide) _)) rfl ?_
    (repeat (first | refine RO.Sv ?_ | refine RO.Yv ?_ | refine RO.no rfl (by decide) rfl ?_ | refine RO.nil ?_ | refine DW.region ?_ | refine DW.seq ?_ | refine DW.block ?_ | refine DW.skip ?_ | refine DW.exit ?_ | refine DW.condT rfl ?_ | refine DW.condF rfl ?_))
    refine RO.sta (s_appendNil (xs := [vcD bgB1]) rfl rfl (.inl rfl) (uni_vc [bgB1]) (by simp) (by simp)) rfl ?_
    (repeat (first | refine RO.Sv ?_ | refine RO.Yv ?_ | refine RO.no rfl (by decide) rfl ?_ | refine RO.nil ?_ | refine DW.region ?_ | refine DW.seq ?_ | refine DW.block ?_ | refine DW.skip ?_ | refine DW.exit ?_ | refine DW.condT rfl ?_ | refine DW.condF rfl ?_))
    exact ⟨(1, H2, vcsD [bgV1], .list 1 [vcD bgB1]), ⟨.inr ⟨rfl, rfl, rfl⟩, gov⟩, by dsimp only; decide, rfl, rfl, rfl, rfl, rfl, rfl, trivial⟩
  · (repeat (first | refine RO.Sv ?_ | refine RO.Yv ?_ | refine RO.no rfl (by decide) rfl ?_ | refine RO.nil ?_ | refine DW.region ?_ | refine DW.seq ?_ | refine DW.block ?_ | refine DW.skip ?_ | refine DW.exit ?_ | refine DW.condT rfl ?_ | refine DW.condF rfl ?_))
    exact DW.ret ⟨.inl rfl, _, rfl, gov, .same _⟩

theorem isBasisV1 : Pure Tryz.prog 5 [rgD xyR, I 1, vcsD [bgV1]] (.tup [.bool true, I 0]) := by
  have h := IsBasis_pure xyR 1 [bgV1] (by decide) (by decide)
  rwa [show tellT xyR 1 [bgV1] = true by kernel_rfl, show tellCk xyR 1 [bgV1] = 0 by kernel_rfl] at h

end Go.Proofs.YtcdihmhmoddppaaGreat

namespace Go.Proofs.YtcdihmhmoddppaaGreat
open Go.RowKit
set_option linter.unusedVariables false
set_option linter.unusedSimpArgs false
set_option maxHeartbeats 8000000

theorem put3 (a b : List Int) : zipE (putE 3) a b = zipE max a b := by
  have : putE 3 = max := by funext x y; rfl
  rw [this]

theorem put2 (a b : List Int) : zipE (putE 2) a b = zipE (· - ·) a b := by
  have : putE 2 = (· - ·) := by funext x y; rfl
  rw [this]

theorem Between_pure (r : Rg) {rank : Nat} {l : List Vc} {x y : Vc} {a b : Nat} {u w : Tm} (h : Two r rank l y x b a w u) : Pure Tryz.prog 25 [rgD r, vcD x, vcD y] (vcD (betT r x y)) := by
  intro H
  obtain ⟨hp, hn3, hn1, hpr, hck⟩ := h.d40.dl.rg
  have hrk := h.d40.dl.rank2
  have hvx := h.d40.dl.vecs x h.hy
  have hvy := h.d40.dl.vecs y h.hx
  have lnx := hvx.len
  have lny := hvy.len
  have tx : tmOf (topV r x) = u := by rw [h.ly.at_]; rfl
  have ty : tmOf (topV r y) = w := by rw [h.lx.at_]; rfl
  refine PureH.of_body Tryz.func25 rfl (by decide) (Nat.le_of_ble_eq_true rfl) fun w0 => ?_
  (repeat (first | refine RO.Sv ?_ | refine RO.Yv ?_ | refine RO.no rfl (by decide) rfl ?_ | refine RO.nil ?_ | refine DW.region ?_ | refine DW.seq ?_ | refine DW.block ?_ | refine DW.skip ?_ | refine DW.exit ?_ | refine DW.condT rfl ?_ | refine DW.condF rfl ?_))
  refine RO.sta (sta_call rfl rfl (LeadOf_pure r x (n := r.n.toNat) (B := 200) (L := 2000) hn3 (by omega) (by omega) (by omega) hvx.vb _)) rfl ?_
  (repeat (first | refine RO.Sv ?_ | refine RO.Yv ?_ | refine RO.no rfl (by decide) rfl ?_ | refine RO.nil ?_ | refine DW.region ?_ | refine DW.seq ?_ | refine DW.block ?_ | refine DW.skip ?_ | refine DW.exit ?_ | refine DW.condT rfl ?_ | refine DW.condF rfl ?_))
  refine RO.dyn rfl (d_alloc fun b8 hb8 => ?_)
  (repeat (first | refine RO.Sv ?_ | refine RO.Yv ?_ | refine RO.no rfl (by decide) rfl ?_ | refine RO.nil ?_ | refine DW.region ?_ | refine DW.seq ?_ | refine DW.block ?_ | refine DW.skip ?_ | refine DW.exit ?_ | refine DW.condT rfl ?_ | refine DW.condF rfl ?_))
  refine RO.dyn rfl (d_storeTm (tm := tmOf (topV r x)) rfl rfl (Heap.set_self _ _ _) rfl ?_)
  rw [Heap.set_set]
  (repeat (first | refine RO.Sv ?_ | refine RO.Yv ?_ | refine RO.no rfl (by decide) rfl ?_ | refine RO.nil ?_ | refine DW.region ?_ | refine DW.seq ?_ | refine DW.block ?_ | refine DW.skip ?_ | refine DW.exit ?_ | refine DW.condT rfl ?_ | refine DW.condF rfl ?_))
  refine RO.sta (sta_call rfl rfl (LeadOf_pure r y (n := r.n.toNat) (B := 200) (L := 2000) hn3 (by omega) (by omega) (by omega) hvy.vb _)) rfl ?_
  (repeat (first | refine RO.Sv ?_ | refine RO.Yv ?_ | refine RO.no rfl (by decide) rfl ?_ | refine RO.nil ?_ | refine DW.region ?_ | refine DW.seq ?_ | refine DW.block ?_ | refine DW.skip ?_ | refine DW.exit ?_ | refine DW.condT rfl ?_ | refine DW.condF rfl ?_))
  refine RO.dyn rfl (d_alloc fun b10 hb10 => ?_)
  have hne : b8 ≠ b10 := fun e => by rw [← e, Heap.set_self] at hb10; cases hb10
  (repeat (first | refine RO.Sv ?_ | refine RO.Yv ?_ | refine RO.no rfl (by decide) rfl ?_ | refine RO.nil ?_ | refine DW.region ?_ | refine DW.seq ?_ | refine DW.block ?_ | refine DW.skip ?_ | refine DW.exit ?_ | refine DW.condT rfl ?_ | refine DW.condF rfl ?_))
  refine RO.dyn rfl (d_storeTm (tm := tmOf (topV r y)) rfl rfl (Heap.set_self _ _ _) rfl ?_)
  rw [Heap.set_set]
  refine RO.nil ?_
  refine DW.asH (fun H2 => H2 b8 = some (50, tmCl (tmOf (topV r x))) ∧ H2 b10 = some (50, tmCl (tmOf (topV r y))) ∧ Over H H2) ⟨by rw [Heap.set_other _ _ hne, Heap.set_self], by rw [Heap.set_self], ((Over.refl H).set hb8).set (Heap.none_of_set hne hb10)⟩ fun H2 ⟨g8, g10, gov⟩ => ?_
  rw [tx] at g8
  rw [ty] at g10
  have ux := up_ok hck h.ly.tb h.lx.tb h.ly.deg h.lx.deg (w := u) (.inl rfl)
  have uy := up_ok hck h.ly.tb h.lx.tb h.ly.deg h.lx.deg (w := w) (.inr rfl)
  have mu := h.ly.tb.mok hn3 (by omega)
  have mw := h.lx.tb.mok hn3 (by omega)
  have hlen : u.e.length = w.e.length := by rw [h.ly.tb.len, h.lx.tb.len]
  obtain ⟨s1, s2, s3, s4⟩ := max_sum hlen (fun x hx => (h.ly.tb.mem x hx).1) (fun x hx => (h.lx.tb.mem x hx).1)
  have hel : (zipE max u.e w.e).length = u.e.length := zipE_len hlen
  have me : MOk (zipE max u.e w.e) := ⟨by rw [hel]; exact mu.len, fun z hz => ⟨s4 z hz, by have := mem_le_sum s4 z hz; have := h.lx.deg; have := h.ly.deg; omega⟩⟩
  have c3 := Put_pure 3 mu mw hlen
  rw [put3] at c3
  have c2x := Put_pure 2 me mu hel
  have c2y := Put_pure 2 me mw (by omega)
  rw [put2] at c2x c2y
  have ixl := h.ly.tb.lo
  have ixh := h.ly.tb.hi
  have iyl := h.lx.tb.lo
  have iyh := h.lx.tb.hi
  have ix := inverseOf_pure r.p u.c hp.1 hp.2 (by omega) (by omega)
  have iy := inverseOf_pure r.p w.c hp.1 hp.2 (by omega) (by omega)
  rw [invT_turn hck (by omega) (by omega)] at ix iy
  have ty0 := turnP_in (p := r.p) (by omega) w.c
  have tU := ux.tb
  have tW := neg_tb uy.tb
  have v1 := VTimes_pure r [upT r u (zipE max u.e w.e)] x (n := r.n.toNat) (B := 200) (C := 200) (L := 2000) hn3 (by omega) (by omega) (by omega) hck hpr (by omega) (by simp) (by omega) (by simp) (PB.one tU) hvx.vb
  have v2 := VTimes_pure r [negT r (upT r w (zipE max u.e w.e))] y (n := r.n.toNat) (B := 200) (C := 200) (L := 2000) hn3 (by omega) (by omega) (by omega) hck hpr (by omega) (by simp) (by omega) (by simp) (PB.one tW) hvy.vb
  (repeat (first | refine RO.Sv ?_ | refine RO.Yv ?_ | refine RO.no rfl (by decide) rfl ?_ | refine RO.nil ?_ | refine DW.region ?_ | refine DW.seq ?_ | refine DW.block ?_ | refine DW.skip ?_ | refine DW.exit ?_ | refine DW.condT rfl ?_ | refine DW.condF rfl ?_))
  refine RO.sta (s_loadMut (d := intsD u.e) rfl g8 rfl) rfl ?_
  (repeat (first | refine RO.Sv ?_ | refine RO.Yv ?_ | refine RO.no rfl (by decide) rfl ?_ | refine RO.nil ?_ | refine DW.region ?_ | refine DW.seq ?_ | refine DW.block ?_ | refine DW.skip ?_ | refine DW.exit ?_ | refine DW.condT rfl ?_ | refine DW.condF rfl ?_))
  refine RO.sta (s_loadMut (d := intsD w.e) rfl g10 rfl) rfl ?_
  refine RO.sta (sta_call rfl rfl (c3 _)) rfl ?_
  (repeat (first | refine RO.Sv ?_ | refine RO.Yv ?_ | refine RO.no rfl (by decide) rfl ?_ | refine RO.nil ?_ | refine DW.region ?_ | refine DW.seq ?_ | refine DW.block ?_ | refine DW.skip ?_ | refine DW.exit ?_ | refine DW.condT rfl ?_ | refine DW.condF rfl ?_))
  refine DW.drawS 15 Tryz.mixed (by kernel_rfl) (by decide) ?_
  dsimp only [List.take, List.drop]
  (repeat (first | refine RS.Sv ?_ | refine RS.Yv ?_ | refine RS.no rfl (by decide) rfl ?_ | refine RS.nil ?_))
  refine RS.sta (r_loadMut (d := I u.c) rfl g8 rfl) rfl ?_
  refine RS.sta (fun H' hov => sta_call rfl rfl (ix _)) rfl ?_
  (repeat (first | refine RS.Sv ?_ | refine RS.Yv ?_ | refine RS.no rfl (by decide) rfl ?_ | refine RS.nil ?_))
  refine RS.sta (r_loadMut (d := intsD u.e) rfl g8 rfl) rfl ?_
  refine RS.sta (fun H' hov => sta_call rfl rfl (c2x _)) rfl ?_
  refine RS.sta (fun H' hov => s_buildT (out := tmCl (upT r u (zipE max u.e w.e))) rfl rfl) rfl ?_
  (repeat (first | refine RS.Sv ?_ | refine RS.Yv ?_ | refine RS.no rfl (by decide) rfl ?_ | refine RS.nil ?_))
  refine RS.sta (fun H' hov => sta_call rfl rfl (v1 _)) rfl ?_
  (repeat (first | refine RS.Sv ?_ | refine RS.Yv ?_ | refine RS.no rfl (by decide) rfl ?_ | refine RS.nil ?_))
  (repeat (first | refine RO.Sv ?_ | refine RO.Yv ?_ | refine RO.no rfl (by decide) rfl ?_ | refine RO.nil ?_ | refine DW.region ?_ | refine DW.seq ?_ | refine DW.block ?_ | refine DW.skip ?_ | refine DW.exit ?_ | refine DW.condT rfl ?_ | refine DW.condF rfl ?_))
  refine DW.drawS 18 Tryz.mixed (by kernel_rfl) (by decide) ?_
  dsimp only [List.take, List.drop]
  (repeat (first | refine RS.Sv ?_ | refine RS.Yv ?_ | refine RS.no rfl (by decide) rfl ?_ | refine RS.nil ?_))
  refine RS.sta (r_loadMut (d := I w.c) rfl g10 rfl) rfl ?_
  refine RS.sta (fun H' hov => sta_call rfl rfl (iy _)) rfl ?_
  (repeat (first | refine RS.Sv ?_ | refine RS.Yv ?_ | refine RS.no rfl (by decide) rfl ?_ | refine RS.nil ?_))
  refine RS.sta (r_loadMut (d := intsD w.e) rfl g10 rfl) rfl ?_
  refine RS.sta (fun H' hov => sta_call rfl rfl (c2y _)) rfl ?_
  refine RS.sta (fun H' hov => s_buildT (out := tmCl (negT r (upT r w (zipE max u.e w.e)))) rfl rfl) rfl ?_
  (repeat (first | refine RS.Sv ?_ | refine RS.Yv ?_ | refine RS.no rfl (by decide) rfl ?_ | refine RS.nil ?_))
  refine RS.sta (fun H' hov => sta_call rfl rfl (v2 _)) rfl ?_
  (repeat (first | refine RS.Sv ?_ | refine RS.Yv ?_ | refine RS.no rfl (by decide) rfl ?_ | refine RS.nil ?_))
  (repeat (first | refine RO.Sv ?_ | refine RO.Yv ?_ | refine RO.no rfl (by decide) rfl ?_ | refine RO.nil ?_ | refine DW.region ?_ | refine DW.seq ?_ | refine DW.block ?_ | refine DW.skip ?_ | refine DW.exit ?_ | refine DW.condT rfl ?_ | refine DW.condF rfl ?_))
  have p1 := by_pb (by omega) hpr hvx tU
  have p2 := by_pb (by omega) hpr hvy tW
  have vb1 : VB r r.n.toNat 400 2000 (vtimesT r [upT r u (zipE max u.e w.e)] x) := fun f hf => ⟨p1 f hf, by
    rw [vtimes_one] at hf
    unfold vbyT at hf
    obtain ⟨g, hg, rfl⟩ := List.mem_map.1 hf
    exact Nat.le_trans (byT_length _ _ _) (hvx.all g hg).len⟩
  have vb2 : VB r r.n.toNat 400 2000 (vtimesT r [negT r (upT r w (zipE max u.e w.e))] y) := fun f hf => ⟨p2 f hf, by
    rw [vtimes_one] at hf
    unfold vbyT at hf
    obtain ⟨g, hg, rfl⟩ := List.mem_map.1 hf
    exact Nat.le_trans (byT_length _ _ _) (hvy.all g hg).len⟩
  have ll1 : (vtimesT r [upT r u (zipE max u.e w.e)] x).length = rank := by simp [vtimesT, lnx]
  have ll2 : (vtimesT r [negT r (upT r w (zipE max u.e w.e))] y).length = rank := by simp [vtimesT, lny]
  refine RO.sta (sta_call rfl rfl (VSum_pure r _ _ hn3 (B := 400) (L := 2000) (M := 2000) (by omega) hp (by omega) (by omega) (by omega) vb1 vb2 _)) rfl ?_
  have hbet : betT r x y = vsumT r (vtimesT r [upT r u (zipE max u.e w.e)] x) (vtimesT r [negT r (upT r w (zipE max u.e w.e))] y) := by unfold betT; rw [tx, ty]
  rw [hbet]
  (repeat (first | refine RO.Sv ?_ | refine RO.Yv ?_ | refine RO.no rfl (by decide) rfl ?_ | refine RO.nil ?_ | refine DW.region ?_ | refine DW.seq ?_ | refine DW.block ?_ | refine DW.skip ?_ | refine DW.exit ?_ | refine DW.condT rfl ?_ | refine DW.condF rfl ?_))
  exact DW.ret ⟨.inl rfl, _, rfl, gov, .same _⟩

theorem IsBasisOf_pure (r : Rg) {rank : Nat} (l : List Vc) (h40 : D40 r rank l) : Pure Tryz.prog 8 [rgD r, vcsD l] (.bool (isBasisT r rank l)) := by
  intro H
  obtain ⟨hp, hn3, hn1, hpr, hck⟩ := h40.dl.rg
  have hrk := h40.dl.rank2
  have hll := h40.dl.len
  refine PureH.of_body Tryz.func8 rfl (by decide) (Nat.le_of_ble_eq_true rfl) fun w0 => ?_
  (repeat (first | refine RO.Sv ?_ | refine RO.Yv ?_ | refine RO.no rfl (by decide) rfl ?_ | refine RO.nil ?_ | refine DW.region ?_ | refine DW.seq ?_ | refine DW.block ?_ | refine DW.skip ?_ | refine DW.exit ?_ | refine DW.condT rfl ?_ | refine DW.condF rfl ?_))
  refine DW.loopG (fun i : Nat => i ≤ l.length ∧ ∀ k', k' < i → ∀ j, j < k' → badP r rank l j k' = false) (fun i => [(1, vcsD l), (2, .ipt 4 [rgD r] 0 0), (5, I i)]) (fun _ => H) (fun i => l.length - i) 0 ⟨Nat.zero_le _, fun k' h => by omega⟩ (Heap.sub_refl _) (by repeat first | exact trivial | refine HasG.one rfl ?_ | refine HasN.one rfl ?_) fun i ⟨hi, hno⟩ => ?_
  (repeat (first | refine RO.Sv ?_ | refine RO.Yv ?_ | refine RO.no rfl (by decide) rfl ?_ | refine RO.nil ?_ | refine DW.region ?_ | refine DW.seq ?_ | refine DW.block ?_ | refine DW.skip ?_ | refine DW.exit ?_ | refine DW.condT rfl ?_ | refine DW.condF rfl ?_))
  refine DW.cond rfl (fun hb => ?_) (fun hb => ?_)
  · have hlt : i < l.length := by have := of_decide_eq_true hb; omega
    clear hb
    (repeat (first | refine RO.Sv ?_ | refine RO.Yv ?_ | refine RO.no rfl (by decide) rfl ?_ | refine RO.nil ?_ | refine DW.region ?_ | refine DW.seq ?_ | refine DW.block ?_ | refine DW.skip ?_ | refine DW.exit ?_ | refine DW.condT rfl ?_ | refine DW.condF rfl ?_))
    refine DW.loopG (fun k : Nat => k ≤ i ∧ ∀ j', j' < k → badP r rank l j' i = false) (fun k => [(1, vcsD l), (2, .ipt 4 [rgD r] 0 0), (5, I i), (6, I k)]) (fun _ => H) (fun k => i - k) 0 ⟨Nat.zero_le _, fun j' h => by omega⟩ (Heap.sub_refl _) (by repeat first | exact trivial | refine HasG.one rfl ?_ | refine HasN.one rfl ?_) fun k ⟨hk, hno2⟩ => ?_
    (repeat (first | refine RO.Sv ?_ | refine RO.Yv ?_ | refine RO.no rfl (by decide) rfl ?_ | refine RO.nil ?_ | refine DW.region ?_ | refine DW.seq ?_ | refine DW.block ?_ | refine DW.skip ?_ | refine DW.exit ?_ | refine DW.condT rfl ?_ | refine DW.condF rfl ?_))
    refine DW.cond rfl (fun hb => ?_) (fun hb => ?_)
    · have hki : k < i := by have := of_decide_eq_true hb; omega
      have hkl : k < l.length := by omega
      clear hb
      have hbad := bad_at (r := r) (rank := rank) hkl hlt
      have vx := (h40.dl.vecs _ (List.getElem_mem hlt))
      have vy := (h40.dl.vecs _ (List.getElem_mem hkl))
      have lnx := vx.len
      have lny := vy.len
      (repeat (first | refine RO.Sv ?_ | refine RO.Yv ?_ | refine RO.no rfl (by decide) rfl ?_ | refine RO.nil ?_ | refine DW.region ?_ | refine DW.seq ?_ | refine DW.block ?_ | refine DW.skip ?_ | refine DW.exit ?_ | refine DW.condT rfl ?_ | refine DW.condF rfl ?_))
      refine DW.drawX [0, 1, 2, 3, 4, 5, 6, 7, 8] [0, 1, 2, 3, 4, 5, 6, 7, 8] (fun _ => none) Tryz.mixed (by kernel_rfl) (Over.nul _) ?_
      (repeat (first | refine RX.A ?_ | refine RX.nil ?_))
      refine RX.any (fun H' => sta_call rfl rfl (LeadOf_pure r l[i] (n := r.n.toNat) (B := 200) (L := 2000) hn3 (by omega) (by omega) (by omega) vx.vb _)) rfl ?_
      (repeat (first | refine RX.A ?_ | refine RX.nil ?_))
      refine RY.dyn rfl (d_alloc fun b8 hb8 => ⟨Over.nul _, ?_⟩)
      (repeat (first | refine RY.S ?_ | refine RY.nil ?_))
      refine RY.dyn rfl (d_storeTm (tm := tmOf (topV r l[i])) rfl rfl (Heap.set_self _ _ _) rfl ⟨Over.nul _, ?_⟩)
      rw [Heap.set_set]
      refine RY.nil ?_
      (repeat (first | refine RO.Sv ?_ | refine RO.Yv ?_ | refine RO.no rfl (by decide) rfl ?_ | refine RO.nil ?_ | refine DW.region ?_ | refine DW.seq ?_ | refine DW.block ?_ | refine DW.skip ?_ | refine DW.exit ?_ | refine DW.condT rfl ?_ | refine DW.condF rfl ?_))
      refine DW.drawX [0, 1, 2, 3, 4, 5, 6, 7, 8] [0, 1, 2, 3, 4, 5, 6, 7, 8] (fun _ => none) Tryz.mixed (by kernel_rfl) (Over.nul _) ?_
      (repeat (first | refine RX.A ?_ | refine RX.nil ?_))
      refine RX.any (fun H' => sta_call rfl rfl (LeadOf_pure r l[k] (n := r.n.toNat) (B := 200) (L := 2000) hn3 (by omega) (by omega) (by omega) vy.vb _)) rfl ?_
      (repeat (first | refine RX.A ?_ | refine RX.nil ?_))
      refine RY.dyn rfl (d_alloc fun b10 hb10 => ⟨Over.nul _, ?_⟩)
      (repeat (first | refine RY.S ?_ | refine RY.nil ?_))
      have hne : b8 ≠ b10 := fun e => by rw [← e, Heap.set_self] at hb10; cases hb10
      refine RY.dyn rfl (d_storeTm (tm := tmOf (topV r l[k])) rfl rfl (Heap.set_self _ _ _) rfl ⟨Over.nul _, ?_⟩)
      rw [Heap.set_set]
      refine RY.nil ?_
      have gov : Over H ((H.set b8 (50, tmCl (tmOf (topV r l[i])))).set b10 (50, tmCl (tmOf (topV r l[k])))) := ((Over.refl H).set hb8).set (Heap.none_of_set hne hb10)
      (repeat (first | refine RO.Sv ?_ | refine RO.Yv ?_ | refine RO.no rfl (by decide) rfl ?_ | refine RO.nil ?_ | refine DW.region ?_ | refine DW.seq ?_ | refine DW.block ?_ | refine DW.skip ?_ | refine DW.exit ?_ | refine DW.condT rfl ?_ | refine DW.condF rfl ?_))
      cases hneg : decide (atOf (topV r l[i]) < 0)
      case true =>
        have hbf : badP r rank l k i = false := by
          rw [hbad]
          have := of_decide_eq_true hneg
          by_cases h0 : 0 ≤ atOf (topV r l[k])
          · rw [show (atOf (topV r l[k]) == atOf (topV r l[i])) = false by simp; omega]; simp
          · rw [decide_eq_false h0]; rfl
        (repeat (first | refine RO.Sv ?_ | refine RO.Yv ?_ | refine RO.no rfl (by decide) rfl ?_ | refine RO.nil ?_ | refine DW.region ?_ | refine DW.seq ?_ | refine DW.block ?_ | refine DW.skip ?_ | refine DW.exit ?_ | refine DW.condT rfl ?_ | refine DW.condF rfl ?_))
        exact ⟨k + 1, ⟨hki, no_succ hno2 hbf⟩, by dsimp only; omega, gov.sub, (by repeat first | exact trivial | refine HasG.one rfl ?_ | refine HasN.one rfl ?_)⟩
      have h0 : 0 ≤ atOf (topV r l[i]) := by have := of_decide_eq_false hneg; omega
      (repeat (first | refine RO.Sv ?_ | refine RO.Yv ?_ | refine RO.no rfl (by decide) rfl ?_ | refine RO.nil ?_ | refine DW.region ?_ | refine DW.seq ?_ | refine DW.block ?_ | refine DW.skip ?_ | refine DW.exit ?_ | refine DW.condT rfl ?_ | refine DW.condF rfl ?_))
      cases hq : (atOf (topV r l[i]) != atOf (topV r l[k]))
      case true =>
        have hbf : badP r rank l k i = false := by
          have h9 : ¬ atOf (topV r l[k]) = atOf (topV r l[i]) := fun h => by rw [h] at hq; simp at hq
          rw [hbad, show (atOf (topV r l[k]) == atOf (topV r l[i])) = false from beq_eq_false_iff_ne.2 h9]
          simp
        (repeat (first | refine RO.Sv ?_ | refine RO.Yv ?_ | refine RO.no rfl (by decide) rfl ?_ | refine RO.nil ?_ | refine DW.region ?_ | refine DW.seq ?_ | refine DW.block ?_ | refine DW.skip ?_ | refine DW.exit ?_ | refine DW.condT rfl ?_ | refine DW.condF rfl ?_))
        exact ⟨k + 1, ⟨hki, no_succ hno2 hbf⟩, by dsimp only; omega, gov.sub, (by repeat first | exact trivial | refine HasG.one rfl ?_ | refine HasN.one rfl ?_)⟩
      have hq' : atOf (topV r l[i]) = atOf (topV r l[k]) := by simpa using hq
      rw [decide_eq_true (show 0 ≤ atOf (topV r l[k]) by omega), show (atOf (topV r l[k]) == atOf (topV r l[i])) = true by simpa using hq'.symm, Bool.true_and, Bool.true_and] at hbad
      obtain ⟨a, u, lx⟩ := h40.lead (List.getElem_mem hkl) (by omega)
      obtain ⟨b, w, ly⟩ := h40.lead (List.getElem_mem hlt) (by omega)
      have htwo : Two r rank l l[k] l[i] a b u w := ⟨h40, List.getElem_mem hkl, List.getElem_mem hlt, lx, ly⟩
      have hvin : VIn r rank (betT r l[i] l[k]) := by rw [htwo.bet]; exact htwo.vin.ng
      obtain ⟨fin, fin0⟩ := divT_ok h40.dl hvin
      have hll2 := fin.llen
      (repeat (first | refine RO.Sv ?_ | refine RO.Yv ?_ | refine RO.no rfl (by decide) rfl ?_ | refine RO.nil ?_ | refine DW.region ?_ | refine DW.seq ?_ | refine DW.block ?_ | refine DW.skip ?_ | refine DW.exit ?_ | refine DW.condT rfl ?_ | refine DW.condF rfl ?_))
      refine DW.drawS 18 Tryz.mixed (by kernel_rfl) (by decide) ?_
      dsimp only [List.take, List.drop]
      (repeat (first | refine RS.Sv ?_ | refine RS.Yv ?_ | refine RS.no rfl (by decide) rfl ?_ | refine RS.nil ?_))
      refine RS.sta (fun H' hov => sta_call rfl rfl (Between_pure r htwo _)) rfl ?_
      (repeat (first | refine RS.Sv ?_ | refine RS.Yv ?_ | refine RS.no rfl (by decide) rfl ?_ | refine RS.nil ?_))
      refine RS.sta (fun H' hov => sta_call rfl rfl (DivideOf_pure r (betT r l[i] l[k]) l h40.dl hvin _)) rfl ?_
      (repeat (first | refine RS.Sv ?_ | refine RS.Yv ?_ | refine RS.no rfl (by decide) rfl ?_ | refine RS.nil ?_))
      (repeat (first | refine RO.Sv ?_ | refine RO.Yv ?_ | refine RO.no rfl (by decide) rfl ?_ | refine RO.nil ?_ | refine DW.region ?_ | refine DW.seq ?_ | refine DW.block ?_ | refine DW.skip ?_ | refine DW.exit ?_ | refine DW.condT rfl ?_ | refine DW.condF rfl ?_))
      refine RO.sta (sta_call rfl rfl (Empty_pure (divT r rank l (betT r l[i] l[k])).left (by omega) _)) rfl ?_
      rw [htwo.same]
      (repeat (first | refine RO.Sv ?_ | refine RO.Yv ?_ | refine RO.no rfl (by decide) rfl ?_ | refine RO.nil ?_ | refine DW.region ?_ | refine DW.seq ?_ | refine DW.block ?_ | refine DW.skip ?_ | refine DW.exit ?_ | refine DW.condT rfl ?_ | refine DW.condF rfl ?_))
      cases hem : emptyT (divT r rank l (pairV r l[k] l[i])).left
      case false =>
        rw [hem] at hbad
        rw [isBasis_no hlt hki hbad]
        (repeat (first | refine RO.Sv ?_ | refine RO.Yv ?_ | refine RO.no rfl (by decide) rfl ?_ | refine RO.nil ?_ | refine DW.region ?_ | refine DW.seq ?_ | refine DW.block ?_ | refine DW.skip ?_ | refine DW.exit ?_ | refine DW.condT rfl ?_ | refine DW.condF rfl ?_))
        exact DW.ret ⟨.inl rfl, _, rfl, gov, .same _⟩
      rw [hem] at hbad
      (repeat (first | refine RO.Sv ?_ | refine RO.Yv ?_ | refine RO.no rfl (by decide) rfl ?_ | refine RO.nil ?_ | refine DW.region ?_ | refine DW.seq ?_ | refine DW.block ?_ | refine DW.skip ?_ | refine DW.exit ?_ | refine DW.condT rfl ?_ | refine DW.condF rfl ?_))
      exact ⟨k + 1, ⟨hki, no_succ hno2 hbad⟩, by dsimp only; omega, gov.sub, (by repeat first | exact trivial | refine HasG.one rfl ?_ | refine HasN.one rfl ?_)⟩
    · have hge : k = i := by have := of_decide_eq_false hb; omega
      subst hge
      (repeat (first | refine RO.Sv ?_ | refine RO.Yv ?_ | refine RO.no rfl (by decide) rfl ?_ | refine RO.nil ?_ | refine DW.region ?_ | refine DW.seq ?_ | refine DW.block ?_ | refine DW.skip ?_ | refine DW.exit ?_ | refine DW.condT rfl ?_ | refine DW.condF rfl ?_))
      exact ⟨k + 1, ⟨hlt, no_two hno hno2⟩, by dsimp only; omega, Heap.sub_refl _, (by repeat first | exact trivial | refine HasG.one rfl ?_ | refine HasN.one rfl ?_)⟩
  · have hge : i = l.length := by have := of_decide_eq_false hb; omega
    subst hge
    rw [isBasis_yes hno]
    (repeat (first | refine RO.Sv ?_ | refine RO.Yv ?_ | refine RO.no rfl (by decide) rfl ?_ | refine RO.nil ?_ | refine DW.region ?_ | refine DW.seq ?_ | refine DW.block ?_ | refine DW.skip ?_ | refine DW.exit ?_ | refine DW.condT rfl ?_ | refine DW.condF rfl ?_))
    exact DW.ret ⟨.inl rfl, _, rfl, Over.refl _, .same _⟩

end Go.Proofs.YtcdihmhmoddppaaGreat
