/-
  VectorOps holds: whatever it is handed, the law answers true, and its arguments read as before. No condition.
-/
import Derived.Test.YtblileclefbklaaKVo19
import Derived.Test.YtblileclefbklaaKVo7

namespace Go.Proofs.Ytblileclefbklaa
open Go.RowKit
set_option linter.unusedVariables false
set_option linter.unusedSimpArgs false
set_option maxHeartbeats 8000000

/-- What is wanted, as it stands: nothing if it need not be made. -/
def wantT (w : Int) (want : Vc) : Vc := if w = 0 then want else []

theorem wantT_yes {w : Int} {want : Vc} (h : w = 0) : wantT w want = want := if_pos h
theorem wantT_no {w : Int} {want : Vc} (h : ¬ w = 0) : wantT w want = [] := if_neg h

theorem visT_want (w : Int) (want : Vc) : visT w (wantT w want) = visT w want := by
  unfold visT wantT
  by_cases h : w = 0
  · rw [if_pos h, if_pos h, if_pos h]
  · rw [if_neg h, if_neg h]

theorem vis_call {H : Heap} (x : Vc × Int) (w : Int) (want : Vc) (hx : Cmp x.1) (hw : w = 0 → ∃ (r : Rg) (n : Nat) (B : Int) (L : Nat), n ≤ 3 ∧ B ≤ 1000000 ∧ L ≤ 4000000000000 ∧ want.length ≤ 1000000 ∧ VB r n B L want) (h : x = visT w want) :
    PureH Try.prog H 26 [vcD x.1, I x.2, I w, vcD (wantT w want)] (.bool true) :=
  vectorIs_pure x.1 x.2 w (wantT w want) hx.1 hx.2 (fun e => by
    obtain ⟨r, n, B, L, h1, h2, h3, h4, h5⟩ := hw e
    rw [wantT_yes e]
    exact ⟨by omega, h5.mok3 h1 h2 h3⟩) (by rw [visT_want]; exact h) H

theorem scaleCk_ok {r : Rg} {f : Pl} {v : Vc} (h : scaleCk r f v = 0) : polysCk r [f] = 0 ∧ alikeCk r [v] = 0 := by
  unfold scaleCk at h
  split at h
  · exact ⟨by assumption, h⟩
  · exact absurd h (by assumption)

/-- A term's cells. -/
abbrev tmC (t : Tm) : List D := [I t.c, intsD t.e]

theorem tm0_seen : ∀ (j : Nat) (x x' : D), [I 0, D.nil][j]? = some x → (tmC ⟨0, []⟩)[j]? = some x' → x'.isCell = true ∧ Seen x x'
  | 0, x, x', h, h' => by cases h; cases h'; exact ⟨rfl, .inl rfl⟩
  | 1, x, x', h, h' => by cases h; cases h'; exact ⟨rfl, .inr ⟨rfl, 1, rfl⟩⟩
  | j + 2, x, x', h, h' => by simp at h

theorem lead_len (r : Rg) (v : Vc) : (leadT r v).2.1.e.length ≤ 3 := by
  unfold leadT
  by_cases hck : alikeCk r [v] = 0
  · rw [if_neg (by simpa using hck)]
    cases hx : topV r v with
    | none => exact Nat.zero_le _
    | some x =>
      obtain ⟨a, t⟩ := x
      obtain ⟨hr, hal⟩ := alikeCk_ok hck
      obtain ⟨hv1, hv2, hv3⟩ := hal v (by simp)
      have hr2 := ringCk_ok hr
      obtain ⟨hak, ha, ha2, hau⟩ := topAt_ok (Nat.le_refl _) hx
      have ht := ((hv3.vb _ (List.getElem_mem ha)).1.all _ (List.getElem_mem ha2)).len
      rw [hau] at ht
      dsimp only
      omega
  · rw [if_pos hck]; exact Nat.zero_le _

theorem vectorOps_pure (r : Rg) (rank : Int) (f : Pl) (v w : Vc) (hf : f.length ≤ 4611686018427387904) (hv : v.length ≤ 4611686018427387904 ∧ ∀ f ∈ v, f.length ≤ 4611686018427387904) (hw : w.length ≤ 4611686018427387904 ∧ ∀ f ∈ w, f.length ≤ 4611686018427387904) :
    Pure Try.prog 4 [rgD r, I rank, plD f, vcD v, vcD w] (.bool true) := by
  intro H
  refine PureH.of_body Try.func4 rfl (by decide) (Nat.le_of_ble_eq_true rfl) fun w0 => ?_
  (repeat (first | refine RO.Sv ?_ | refine RO.Yv ?_ | refine RO.no rfl (by decide) rfl ?_ | refine RO.nil ?_ | refine DW.region ?_ | refine DW.seq ?_ | refine DW.block ?_ | refine DW.skip ?_ | refine DW.exit ?_ | refine DW.condT rfl ?_ | refine DW.condF rfl ?_))
  refine RO.sta (sta_call rfl rfl (vAdd_pure r v w hv hw _)) rfl ?_
  (repeat (first | refine RO.Sv ?_ | refine RO.Yv ?_ | refine RO.no rfl (by decide) rfl ?_ | refine RO.nil ?_ | refine DW.region ?_ | refine DW.seq ?_ | refine DW.block ?_ | refine DW.skip ?_ | refine DW.exit ?_ | refine DW.condT rfl ?_ | refine DW.condF rfl ?_))
  refine RO.sta (sta_call rfl rfl (vScale_pure r f v hf hv _)) rfl ?_
  (repeat (first | refine RO.Sv ?_ | refine RO.Yv ?_ | refine RO.no rfl (by decide) rfl ?_ | refine RO.nil ?_ | refine DW.region ?_ | refine DW.seq ?_ | refine DW.block ?_ | refine DW.skip ?_ | refine DW.exit ?_ | refine DW.condT rfl ?_ | refine DW.condF rfl ?_))
  refine RO.sta (sta_call rfl rfl (vLead_pure r v hv _)) rfl ?_
  (repeat (first | refine RO.Sv ?_ | refine RO.Yv ?_ | refine RO.no rfl (by decide) rfl ?_ | refine RO.nil ?_ | refine DW.region ?_ | refine DW.seq ?_ | refine DW.block ?_ | refine DW.skip ?_ | refine DW.exit ?_ | refine DW.condT rfl ?_ | refine DW.condF rfl ?_))
  refine RO.dyn rfl (d_alloc fun b16 hb16 => ?_)
  (repeat (first | refine RO.Sv ?_ | refine RO.Yv ?_ | refine RO.no rfl (by decide) rfl ?_ | refine RO.nil ?_ | refine DW.region ?_ | refine DW.seq ?_ | refine DW.block ?_ | refine DW.skip ?_ | refine DW.exit ?_ | refine DW.condT rfl ?_ | refine DW.condF rfl ?_))
  refine RO.dyn rfl (d_storeTm (tm := (leadT r v).2.1) rfl rfl (Heap.set_self _ _ _) rfl ?_)
  rw [Heap.set_set]
  (repeat (first | refine RO.Sv ?_ | refine RO.Yv ?_ | refine RO.no rfl (by decide) rfl ?_ | refine RO.nil ?_ | refine DW.region ?_ | refine DW.seq ?_ | refine DW.block ?_ | refine DW.skip ?_ | refine DW.exit ?_ | refine DW.condT rfl ?_ | refine DW.condF rfl ?_))
  refine DW.drawS 16 Try.mixed (by kernel_rfl) (by decide) ?_
  dsimp only [List.take, List.drop]
  (repeat (first | refine RS.Sv ?_ | refine RS.Yv ?_ | refine RS.no rfl (by decide) rfl ?_ | refine RS.nil ?_))
  refine RS.sta (fun H' hov => s_lit (n := 2) (k := 1) (pd := [(0, vcD v), (1, vcD w)]) (ds := [vcD v, vcD w]) (by decide) (by decide) rfl rfl (fun d hd => by simp at hd; rcases hd with rfl | rfl <;> rfl) rfl) rfl ?_
  refine RS.sta (fun H' hov => sta_call rfl rfl (CheckAlike_pure r [v, w] (by simp) (two_le2 hv hw) _)) rfl ?_
  (repeat (first | refine RS.Sv ?_ | refine RS.Yv ?_ | refine RS.no rfl (by decide) rfl ?_ | refine RS.nil ?_))
  refine RS.sta (fun H' hov => sta_call rfl rfl (CheckPolys_pure r [f] (by simp) (fun g hg => by rw [List.mem_singleton.1 hg]; exact hf) _)) rfl ?_
  (repeat (first | refine RS.Sv ?_ | refine RS.Yv ?_ | refine RS.no rfl (by decide) rfl ?_ | refine RS.nil ?_))
  refine RS.sta (fun H' hov => sta_call rfl rfl (CheckAlike_pure r [v] (by simp) (two_le (l := []) hv) _)) rfl ?_
  (repeat (first | refine RS.Sv ?_ | refine RS.Yv ?_ | refine RS.no rfl (by decide) rfl ?_ | refine RS.nil ?_))
  (repeat (first | refine RO.Sv ?_ | refine RO.Yv ?_ | refine RO.no rfl (by decide) rfl ?_ | refine RO.nil ?_ | refine DW.region ?_ | refine DW.seq ?_ | refine DW.block ?_ | refine DW.skip ?_ | refine DW.exit ?_ | refine DW.condT rfl ?_ | refine DW.condF rfl ?_))
  refine DW.cutg [(1, I rank), (2, plD f), (3, vcD v), (4, vcD w), (5, .ipt 4 [rgD r] 0 0), (11, vcD (vaddT r v w).1), (12, I (vaddT r v w).2), (13, vcD (vscaleT r f v).1), (14, I (vscaleT r f v).2), (15, I (leadT r v).1), (16, .ptr b16 0), (17, I (leadT r v).2.2), (18, I (alikeCk r [v, w])), (19, I (scaleCk r f v)), (20, I (alikeCk r [v]))] (H.set b16 (47, tmC (leadT r v).2.1)) ?_ ?_
  rotate_left
  · by_cases hp : polysCk r [f] = 0
    · rw [show (polysCk r [f] == 0) = true by simpa using hp]
      (repeat (first | refine RO.Sv ?_ | refine RO.Yv ?_ | refine RO.no rfl (by decide) rfl ?_ | refine RO.nil ?_ | refine DW.region ?_ | refine DW.seq ?_ | refine DW.block ?_ | refine DW.skip ?_ | refine DW.exit ?_ | refine DW.condT rfl ?_ | refine DW.condF rfl ?_))
      refine ⟨Heap.sub_refl _, ?_⟩
      rw [show scaleCk r f v = alikeCk r [v] from if_pos hp]
      exact ⟨⟨_, rfl, .same _⟩, ⟨_, rfl, .same _⟩, ⟨_, rfl, .same _⟩, ⟨_, rfl, .same _⟩, ⟨_, rfl, .same _⟩, ⟨_, rfl, .same _⟩, ⟨_, rfl, .same _⟩, ⟨_, rfl, .same _⟩, ⟨_, rfl, .same _⟩, ⟨_, rfl, .same _⟩, ⟨_, rfl, .same _⟩, ⟨_, rfl, .same _⟩, ⟨_, rfl, .same _⟩, ⟨_, rfl, .same _⟩, ⟨_, rfl, .same _⟩, trivial⟩
    · rw [show (polysCk r [f] == 0) = false by simpa using hp]
      (repeat (first | refine RO.Sv ?_ | refine RO.Yv ?_ | refine RO.no rfl (by decide) rfl ?_ | refine RO.nil ?_ | refine DW.region ?_ | refine DW.seq ?_ | refine DW.block ?_ | refine DW.skip ?_ | refine DW.exit ?_ | refine DW.condT rfl ?_ | refine DW.condF rfl ?_))
      refine ⟨Heap.sub_refl _, ?_⟩
      rw [show scaleCk r f v = polysCk r [f] from if_neg hp]
      (repeat refine HasG.one rfl ?_)
      trivial
  (repeat (first | refine RO.Sv ?_ | refine RO.Yv ?_ | refine RO.no rfl (by decide) rfl ?_ | refine RO.nil ?_ | refine DW.region ?_ | refine DW.seq ?_ | refine DW.block ?_ | refine DW.skip ?_ | refine DW.exit ?_ | refine DW.condT rfl ?_ | refine DW.condF rfl ?_))
  refine RO.sta (s_buildT (out := [I 0, .nil]) rfl rfl) rfl ?_
  (repeat (first | refine RO.Sv ?_ | refine RO.Yv ?_ | refine RO.no rfl (by decide) rfl ?_ | refine RO.nil ?_ | refine DW.region ?_ | refine DW.seq ?_ | refine DW.block ?_ | refine DW.skip ?_ | refine DW.exit ?_ | refine DW.condT rfl ?_ | refine DW.condF rfl ?_))
  refine RO.dyn rfl (d_alloc fun b24 hb24 => ?_)
  have hne : b16 ≠ b24 := fun e => by rw [← e, Heap.set_self] at hb24; cases hb24
  (repeat (first | refine RO.Sv ?_ | refine RO.Yv ?_ | refine RO.no rfl (by decide) rfl ?_ | refine RO.nil ?_ | refine DW.region ?_ | refine DW.seq ?_ | refine DW.block ?_ | refine DW.skip ?_ | refine DW.exit ?_ | refine DW.condT rfl ?_ | refine DW.condF rfl ?_))
  refine RO.dyn rfl (d_store (k := 2) rfl rfl rfl (Heap.set_self _ _ _) (by decide) (by simp [cellsOf, D.isCell]) ?_)
  rw [Heap.set_set]
  refine RO.nil ?_
  refine DW.seeCells (tmC ⟨0, []⟩) (Heap.set_self _ _ _) rfl tm0_seen ?_
  rw [Heap.set_set]
  (repeat (first | refine RO.Sv ?_ | refine RO.Yv ?_ | refine RO.no rfl (by decide) rfl ?_ | refine RO.nil ?_ | refine DW.region ?_ | refine DW.seq ?_ | refine DW.block ?_ | refine DW.skip ?_ | refine DW.exit ?_ | refine DW.condT rfl ?_ | refine DW.condF rfl ?_))
  refine DW.cutg [(1, I rank), (2, plD f), (3, vcD v), (4, vcD w), (5, .ipt 4 [rgD r] 0 0), (11, vcD (vaddT r v w).1), (12, I (vaddT r v w).2), (13, vcD (vscaleT r f v).1), (14, I (vscaleT r f v).2), (15, I (leadT r v).1), (16, .ptr b16 0), (17, I (leadT r v).2.2), (18, I (alikeCk r [v, w])), (19, I (scaleCk r f v)), (20, I (alikeCk r [v])), (21, vcD (wantT (alikeCk r [v, w]) (vsumT r v w))), (22, .nil), (23, I 0), (24, .ptr b24 0)] ((H.set b16 (47, tmC (leadT r v).2.1)).set b24 (47, tmC ⟨0, []⟩)) ?_ ?_
  rotate_left
  · by_cases hx : alikeCk r [v, w] = 0
    · obtain ⟨x1, x2, x3, x4, x5⟩ := add_vb hx
      obtain ⟨hr, hal⟩ := alikeCk_ok hx
      have hv3 := (hal v (by simp)).2.2
      have hw3 := (hal w (by simp)).2.2
      have hr2 := ringCk_ok hr
      rw [show (alikeCk r [v, w] == 0) = true by simpa using hx]
      (repeat (first | refine RO.Sv ?_ | refine RO.Yv ?_ | refine RO.no rfl (by decide) rfl ?_ | refine RO.nil ?_ | refine DW.region ?_ | refine DW.seq ?_ | refine DW.block ?_ | refine DW.skip ?_ | refine DW.exit ?_ | refine DW.condT rfl ?_ | refine DW.condF rfl ?_))
      refine RO.sta (sta_call rfl rfl (VSum_pure r v w (n := r.n.toNat) (B := 200) (L := 2000) (M := 2000) (by omega) (by omega) (ckP_ok hr2.1) (by omega) (by omega) (by omega) hv3.vb hw3.vb _)) rfl ?_
      (repeat (first | refine RO.Sv ?_ | refine RO.Yv ?_ | refine RO.no rfl (by decide) rfl ?_ | refine RO.nil ?_ | refine DW.region ?_ | refine DW.seq ?_ | refine DW.block ?_ | refine DW.skip ?_ | refine DW.exit ?_ | refine DW.condT rfl ?_ | refine DW.condF rfl ?_))
      refine ⟨Heap.sub_refl _, ?_⟩
      rw [wantT_yes hx]
      (repeat refine HasG.one rfl ?_)
      trivial
    · rw [show (alikeCk r [v, w] == 0) = false by simpa using hx]
      (repeat (first | refine RO.Sv ?_ | refine RO.Yv ?_ | refine RO.no rfl (by decide) rfl ?_ | refine RO.nil ?_ | refine DW.region ?_ | refine DW.seq ?_ | refine DW.block ?_ | refine DW.skip ?_ | refine DW.exit ?_ | refine DW.condT rfl ?_ | refine DW.condF rfl ?_))
      refine ⟨Heap.sub_refl _, ?_⟩
      rw [wantT_no hx]
      (repeat refine HasG.one rfl ?_)
      refine HasG.nil1 rfl ?_
      (repeat refine HasG.one rfl ?_)
      trivial
  (repeat (first | refine RO.Sv ?_ | refine RO.Yv ?_ | refine RO.no rfl (by decide) rfl ?_ | refine RO.nil ?_ | refine DW.region ?_ | refine DW.seq ?_ | refine DW.block ?_ | refine DW.skip ?_ | refine DW.exit ?_ | refine DW.condT rfl ?_ | refine DW.condF rfl ?_))
  refine DW.cutg [(1, I rank), (2, plD f), (3, vcD v), (4, vcD w), (5, .ipt 4 [rgD r] 0 0), (11, vcD (vaddT r v w).1), (12, I (vaddT r v w).2), (13, vcD (vscaleT r f v).1), (14, I (vscaleT r f v).2), (15, I (leadT r v).1), (16, .ptr b16 0), (17, I (leadT r v).2.2), (18, I (alikeCk r [v, w])), (19, I (scaleCk r f v)), (20, I (alikeCk r [v])), (21, vcD (wantT (alikeCk r [v, w]) (vsumT r v w))), (22, vcD (wantT (scaleCk r f v) (vtimesT r f v))), (23, I 0), (24, .ptr b24 0)] ((H.set b16 (47, tmC (leadT r v).2.1)).set b24 (47, tmC ⟨0, []⟩)) ?_ ?_
  rotate_left
  · by_cases hx : scaleCk r f v = 0
    · obtain ⟨hpk, hz⟩ := scaleCk_ok hx
      obtain ⟨hr, hal⟩ := alikeCk_ok hz
      have hv3 := (hal v (by simp)).2.2
      have hv2 := (hal v (by simp)).2.1
      have hfo := (polysCk_ok hpk).2 f (by simp)
      have hr2 := ringCk_ok hr
      rw [show (scaleCk r f v == 0) = true by simpa using hx]
      (repeat (first | refine RO.Sv ?_ | refine RO.Yv ?_ | refine RO.no rfl (by decide) rfl ?_ | refine RO.nil ?_ | refine DW.region ?_ | refine DW.seq ?_ | refine DW.block ?_ | refine DW.skip ?_ | refine DW.exit ?_ | refine DW.condT rfl ?_ | refine DW.condF rfl ?_))
      refine RO.sta (sta_call rfl rfl (VTimes_pure r f v (n := r.n.toNat) (B := 200) (C := 200) (L := 2000) (by omega) (by omega) (by omega) (by omega) hr2.1 (ckP_prm hr2.1) (by omega) (by have := hfo.len; omega) (by omega) (by have := hfo.len; omega) hfo.ok hv3.vb _)) rfl ?_
      (repeat (first | refine RO.Sv ?_ | refine RO.Yv ?_ | refine RO.no rfl (by decide) rfl ?_ | refine RO.nil ?_ | refine DW.region ?_ | refine DW.seq ?_ | refine DW.block ?_ | refine DW.skip ?_ | refine DW.exit ?_ | refine DW.condT rfl ?_ | refine DW.condF rfl ?_))
      refine ⟨Heap.sub_refl _, ?_⟩
      rw [wantT_yes hx]
      (repeat refine HasG.one rfl ?_)
      trivial
    · rw [show (scaleCk r f v == 0) = false by simpa using hx]
      (repeat (first | refine RO.Sv ?_ | refine RO.Yv ?_ | refine RO.no rfl (by decide) rfl ?_ | refine RO.nil ?_ | refine DW.region ?_ | refine DW.seq ?_ | refine DW.block ?_ | refine DW.skip ?_ | refine DW.exit ?_ | refine DW.condT rfl ?_ | refine DW.condF rfl ?_))
      refine ⟨Heap.sub_refl _, ?_⟩
      rw [wantT_no hx]
      (repeat refine HasG.one rfl ?_)
      refine HasG.nil1 rfl ?_
      (repeat refine HasG.one rfl ?_)
      trivial
  (repeat (first | refine RO.Sv ?_ | refine RO.Yv ?_ | refine RO.no rfl (by decide) rfl ?_ | refine RO.nil ?_ | refine DW.region ?_ | refine DW.seq ?_ | refine DW.block ?_ | refine DW.skip ?_ | refine DW.exit ?_ | refine DW.condT rfl ?_ | refine DW.condF rfl ?_))
  refine DW.cutg [(1, I rank), (2, plD f), (3, vcD v), (4, vcD w), (5, .ipt 4 [rgD r] 0 0), (11, vcD (vaddT r v w).1), (12, I (vaddT r v w).2), (13, vcD (vscaleT r f v).1), (14, I (vscaleT r f v).2), (15, I (leadT r v).1), (16, .ptr b16 0), (17, I (leadT r v).2.2), (18, I (alikeCk r [v, w])), (19, I (scaleCk r f v)), (20, I (leadT r v).2.2), (21, vcD (wantT (alikeCk r [v, w]) (vsumT r v w))), (22, vcD (wantT (scaleCk r f v) (vtimesT r f v))), (23, I (leadT r v).1), (24, .ptr b24 0)] ((H.set b16 (47, tmC (leadT r v).2.1)).set b24 (47, tmC (leadT r v).2.1)) ?_ ?_
  rotate_left
  · by_cases hz : alikeCk r [v] = 0
    · obtain ⟨hr, hal⟩ := alikeCk_ok hz
      obtain ⟨hv1, hv2, hv3⟩ := hal v (by simp)
      have hr2 := ringCk_ok hr
      rw [show (alikeCk r [v] == 0) = true by simpa using hz]
      (repeat (first | refine RO.Sv ?_ | refine RO.Yv ?_ | refine RO.no rfl (by decide) rfl ?_ | refine RO.nil ?_ | refine DW.region ?_ | refine DW.seq ?_ | refine DW.block ?_ | refine DW.skip ?_ | refine DW.exit ?_ | refine DW.condT rfl ?_ | refine DW.condF rfl ?_))
      refine RO.sta (sta_call rfl rfl (LeadOf_pure r v (n := r.n.toNat) (B := 200) (L := 2000) (by omega) (by omega) (by omega) (by omega) hv3.vb _)) rfl ?_
      (repeat (first | refine RO.Sv ?_ | refine RO.Yv ?_ | refine RO.no rfl (by decide) rfl ?_ | refine RO.nil ?_ | refine DW.region ?_ | refine DW.seq ?_ | refine DW.block ?_ | refine DW.skip ?_ | refine DW.exit ?_ | refine DW.condT rfl ?_ | refine DW.condF rfl ?_))
      refine RO.dyn rfl (d_storeTm rfl rfl (Heap.set_self _ _ _) rfl ?_)
      rw [Heap.set_set]
      have hz0 : ¬ alikeCk r [v] ≠ 0 := by simpa using hz
      cases hx : topV r v with
      | none =>
        have hle : leadT r v = (0, ⟨0, []⟩, 5) := by unfold leadT; rw [if_neg hz0, hx]
        rw [hle]
        (repeat (first | refine RO.Sv ?_ | refine RO.Yv ?_ | refine RO.no rfl (by decide) rfl ?_ | refine RO.nil ?_ | refine DW.region ?_ | refine DW.seq ?_ | refine DW.block ?_ | refine DW.skip ?_ | refine DW.exit ?_ | refine DW.condT rfl ?_ | refine DW.condF rfl ?_))
        refine ⟨Heap.sub_refl _, ?_⟩
        (repeat refine HasG.one rfl ?_)
        trivial
      | some x =>
        obtain ⟨a, t⟩ := x
        have hat : atOf (some (a, t)) = (a : Int) := rfl
        have hneg : decide ((a : Int) < 0) = false := decide_eq_false (by omega)
        have hle : leadT r v = ((a : Int), t, 0) := by unfold leadT; rw [if_neg hz0, hx]
        rw [hle, hat]
        (repeat (first | refine RO.Sv ?_ | refine RO.Yv ?_ | refine RO.no rfl (by decide) rfl ?_ | refine RO.nil ?_ | refine DW.region ?_ | refine DW.seq ?_ | refine DW.block ?_ | refine DW.skip ?_ | refine DW.exit ?_ | refine DW.condT rfl ?_ | refine DW.condF rfl ?_))
        rw [hneg]
        (repeat (first | refine RO.Sv ?_ | refine RO.Yv ?_ | refine RO.no rfl (by decide) rfl ?_ | refine RO.nil ?_ | refine DW.region ?_ | refine DW.seq ?_ | refine DW.block ?_ | refine DW.skip ?_ | refine DW.exit ?_ | refine DW.condT rfl ?_ | refine DW.condF rfl ?_))
        refine ⟨Heap.sub_refl _, ?_⟩
        rw [hz]
        (repeat refine HasG.one rfl ?_)
        trivial
    · have hle : leadT r v = (0, ⟨0, []⟩, alikeCk r [v]) := by unfold leadT; rw [if_pos hz]
      rw [show (alikeCk r [v] == 0) = false by simpa using hz, hle]
      (repeat (first | refine RO.Sv ?_ | refine RO.Yv ?_ | refine RO.no rfl (by decide) rfl ?_ | refine RO.nil ?_ | refine DW.region ?_ | refine DW.seq ?_ | refine DW.block ?_ | refine DW.skip ?_ | refine DW.exit ?_ | refine DW.condT rfl ?_ | refine DW.condF rfl ?_))
      refine ⟨Heap.sub_refl _, ?_⟩
      (repeat refine HasG.one rfl ?_)
      trivial
  have cA := fun H' => vis_call (H := H') (vaddT r v w) (alikeCk r [v, w]) (vsumT r v w) (vadd_cmp r v w) (fun hx => by
    obtain ⟨x1, x2, x3, x4, x5⟩ := add_vb hx
    exact ⟨_, _, _, _, x1, by omega, by omega, by omega, x2⟩) (vadd_vis r v w)
  have cB := fun H' => vis_call (H := H') (vscaleT r f v) (scaleCk r f v) (vtimesT r f v) (vscale_cmp r f v) (fun hx => by
    obtain ⟨hpk, hz⟩ := scaleCk_ok hx
    obtain ⟨x1, x2, x3, x4, x5⟩ := scale_vb hpk hz
    exact ⟨_, _, _, _, x1, by omega, by omega, by omega, x2⟩) (vscale_vis r f v)
  have cS := SameInts_pure (leadT r v).2.1.e (leadT r v).2.1.e (by have := lead_len r v; omega)
  (repeat (first | refine RO.Sv ?_ | refine RO.Yv ?_ | refine RO.no rfl (by decide) rfl ?_ | refine RO.nil ?_ | refine DW.region ?_ | refine DW.seq ?_ | refine DW.block ?_ | refine DW.skip ?_ | refine DW.exit ?_ | refine DW.condT rfl ?_ | refine DW.condF rfl ?_))
  refine DW.drawS 55 Try.mixed (by kernel_rfl) (by decide) ?_
  dsimp only [List.take, List.drop]
  refine RS.sta (fun H' hov => sta_call rfl rfl (vectorBegun_pure _)) rfl ?_
  (repeat (first | refine RS.Sv ?_ | refine RS.Yv ?_ | refine RS.no rfl (by decide) rfl ?_ | refine RS.nil ?_))
  refine RS.yes rfl (fun H' hov => s_lit (n := 2) (k := 1) (pd := [(0, vcD v), (1, vcD w)]) (ds := [vcD v, vcD w]) (by decide) (by decide) rfl rfl (fun d hd => by simp at hd; rcases hd with rfl | rfl <;> rfl) rfl) rfl ?_
  refine RS.yes rfl (fun H' hov => sta_call rfl rfl (vCheck_pure r rank [v, w] (by simp) (two_le2 hv hw) _)) rfl ?_
  (repeat (first | refine RS.Sv ?_ | refine RS.Yv ?_ | refine RS.no rfl (by decide) rfl ?_ | refine RS.nil ?_))
  refine RS.yes rfl (fun H' hov => s_lit (n := 2) (k := 1) (pd := [(0, vcD v), (1, vcD w)]) (ds := [vcD v, vcD w]) (by decide) (by decide) rfl rfl (fun d hd => by simp at hd; rcases hd with rfl | rfl <;> rfl) rfl) rfl ?_
  refine RS.yes rfl (fun H' hov => sta_call rfl rfl (CheckVectors_pure r rank [v, w] (by simp) (two_le2 hv hw) _)) rfl ?_
  (repeat (first | refine RS.Sv ?_ | refine RS.Yv ?_ | refine RS.no rfl (by decide) rfl ?_ | refine RS.nil ?_))
  rw [show (vecsCk r rank [v, w] == vecsCk r rank [v, w]) = true by simp]
  (repeat (first | refine RS.Sv ?_ | refine RS.Yv ?_ | refine RS.no rfl (by decide) rfl ?_ | refine RS.nil ?_))
  refine RS.yes rfl (fun H' hov => sta_call rfl rfl (cA _)) rfl ?_
  (repeat (first | refine RS.Sv ?_ | refine RS.Yv ?_ | refine RS.no rfl (by decide) rfl ?_ | refine RS.nil ?_))
  refine RS.yes rfl (fun H' hov => sta_call rfl rfl (cB _)) rfl ?_
  (repeat (first | refine RS.Sv ?_ | refine RS.Yv ?_ | refine RS.no rfl (by decide) rfl ?_ | refine RS.nil ?_))
  rw [show ((leadT r v).2.2 == (leadT r v).2.2) = true by simp]
  (repeat (first | refine RS.Sv ?_ | refine RS.Yv ?_ | refine RS.no rfl (by decide) rfl ?_ | refine RS.nil ?_))
  rw [show ((leadT r v).1 == (leadT r v).1) = true by simp]
  (repeat (first | refine RS.Sv ?_ | refine RS.Yv ?_ | refine RS.no rfl (by decide) rfl ?_ | refine RS.nil ?_))
  refine RS.yes rfl (r_loadMut rfl (by rw [Heap.set_other _ _ hne, Heap.set_self]) rfl) rfl ?_
  (repeat (first | refine RS.Sv ?_ | refine RS.Yv ?_ | refine RS.no rfl (by decide) rfl ?_ | refine RS.nil ?_))
  rw [show ((leadT r v).2.1.c == (leadT r v).2.1.c) = true by simp]
  (repeat (first | refine RS.Sv ?_ | refine RS.Yv ?_ | refine RS.no rfl (by decide) rfl ?_ | refine RS.nil ?_))
  refine RS.yes rfl (r_loadMut rfl (by rw [Heap.set_other _ _ hne, Heap.set_self]) rfl) rfl ?_
  (repeat (first | refine RS.Sv ?_ | refine RS.Yv ?_ | refine RS.no rfl (by decide) rfl ?_ | refine RS.nil ?_))
  refine RS.yes rfl (fun H' hov => sta_call rfl rfl (cS _)) rfl ?_
  (repeat (first | refine RS.Sv ?_ | refine RS.Yv ?_ | refine RS.no rfl (by decide) rfl ?_ | refine RS.nil ?_))
  rw [show ((leadT r v).2.1.e == (leadT r v).2.1.e) = true by simp]
  (repeat (first | refine RO.Sv ?_ | refine RO.Yv ?_ | refine RO.no rfl (by decide) rfl ?_ | refine RO.nil ?_ | refine DW.region ?_ | refine DW.seq ?_ | refine DW.block ?_ | refine DW.skip ?_ | refine DW.exit ?_ | refine DW.condT rfl ?_ | refine DW.condF rfl ?_))
  exact DW.ret ⟨.inl rfl, _, rfl, ((Over.refl H).set hb16).set (Heap.none_of_set hne hb24), .same _⟩

end Go.Proofs.Ytblileclefbklaa

namespace Go.Proofs.Ytblileclefbklaa
open Go.RowKit Go.ChangeShapes Go.WideShapes Go.ChangeAt
set_option linter.unusedVariables false

set_option maxRecDepth 100000 in
theorem vectorOps_lifted (os : Os) (started : os.Started) (H : Type) (enc : TypeId × Value → H) :
    ReturnsInHanded {} Try.checked os 4 .any (Rows.vectorOpsSpec.pre6 enc Try.prog Try.f4 Rows.vectorOpsRow.domain false) (Rows.vectorOpsSpec.post enc Try.prog Try.f4 false true false false) := by
  refine returnsInHanded_of_change_sized (C := Try.checked) Try.ownK started (by kernel_rfl) Try.func4
    (ChangeSpec.witness6 (enc := enc) (C := Try.checked) false ⟨#[], #[.agg #[.int .i64 0, .int .i64 0, .int .i64 0, .int .i64 0], .int .i64 0, .slice none 0 0, .slice none 0 0, .slice none 0 0], []⟩ 8 (by kernel_rfl) (by kernel_rfl) (by kernel_rfl) (by kernel_rfl)) ?_
  intro W base args ds gs before hval0 hW hcnd hwt _
  have hval : ∀ (j : Nat) t v, Try.f4.params[j]? = some t → args[j]? = some v → Value.okWide Try.prog W .any base t v := hval0
  have hW' := hW
  obtain ⟨p, q, hA0, hV, rfl, hfz, hnd⟩ := hW
  have hA : DataW.TrodAll enc Try.prog W 0 (fun _ => true) true Try.f4.params.toList args.toList ds p := hA0
  rw [Try.params4] at hA hval
  obtain ⟨v0, vs0, d0, ds0, p0, q0, hargs, rfl, rfl, h0, r0⟩ := trodAll_cons hA
  obtain ⟨v1, vs1, d1, ds1, p1, q1, rfl, rfl, rfl, h1, r1⟩ := trodAll_cons r0
  obtain ⟨v2, vs2, d2, ds2, p2, q2, rfl, rfl, rfl, h2, r2⟩ := trodAll_cons r1
  obtain ⟨v3, vs3, d3, ds3, p3, q3, rfl, rfl, rfl, h3, r3⟩ := trodAll_cons r2
  obtain ⟨v4, vs4, d4, ds4, p4, q4, rfl, rfl, rfl, h4, r4⟩ := trodAll_cons r3
  obtain ⟨rfl, rfl, rfl⟩ := trodAll_nil r4
  obtain rfl : args = #[v0, v1, v2, v3, v4] := by cases args; simp_all
  obtain ⟨rfl, rfl⟩ := trodVars_none hV
  rw [Try.params4] at hwt
  obtain ⟨w0, hwt⟩ := weights_head hwt
  obtain ⟨w1, hwt⟩ := weights_head hwt
  obtain ⟨w2, hwt⟩ := weights_head hwt
  obtain ⟨w3, hwt⟩ := weights_head hwt
  obtain ⟨w4, hwt⟩ := weights_head hwt
  obtain ⟨c0, rfl, _⟩ := okWide_struct Try.underlying23 (hval 0 _ v0 rfl rfl)
  obtain ⟨n1, rfl⟩ := okWide_int Try.underlying3 (hval 1 _ v1 rfl rfl)
  obtain ⟨s2, n2, k2, rfl⟩ := okWide_slice Try.underlying41 (hval 2 _ v2 rfl rfl)
  obtain ⟨s3, n3, k3, rfl⟩ := okWide_slice Try.underlying25 (hval 3 _ v3 rfl rfl)
  obtain ⟨s4, n4, k4, rfl⟩ := okWide_slice Try.underlying25 (hval 4 _ v4 rfl rfl)
  obtain ⟨x0, g0, b0⟩ := arg_agg Try.opensRing (fun _ => rfl) h0 w0
  obtain ⟨x1, g1, b1⟩ := arg_cell Try.opensInt (fun _ => rfl) (int_cells _ _) h1 w1
  obtain ⟨x2, g2, b2⟩ := arg_cell Try.opensPoly (fun _ => rfl) (slice_cells _ _ _) h2 w2
  obtain ⟨x3, g3, b3⟩ := arg_cell Try.opensVec (fun _ => rfl) (slice_cells _ _ _) h3 w3
  obtain ⟨x4, g4, b4⟩ := arg_cell Try.opensVec (fun _ => rfl) (slice_cells _ _ _) h4 w4
  refine (law_calls (vectorOps_pure x0 x1 x2 x3 x4 (plLe b2) (vcLe b3) (vcLe b4)) (.cons g0 (.cons g1 (.cons g2 (.cons g3 (.cons g4 .nil)))))).mono fun e W' ⟨he, hb⟩ => ?_
  subst he
  exact ⟨_, rfl, law_post hW' rfl Try.laidOutK (of_decide_eq_true (by kernel_rfl)) (tb := 4) rfl Try.underlying4 rfl rfl rfl hb⟩

theorem vectorOps_holds : Rows.VectorOpsSaid :=
  OpenClaim.holds_of_wide 4 Try.f4 rfl rfl rfl rfl rfl rfl rfl ⟨rfl, rfl, rfl, rfl, rfl⟩ rfl rfl rfl rfl rfl (by kernel_rfl) Try.func4 (by kernel_rfl)
    (of_decide_eq_true (by kernel_rfl)) (by unfold Func.isWrapper; first | (rw [if_pos (by decide +kernel)]; kernel_rfl) | (rw [if_neg (by decide +kernel)]; exact ⟨rfl, rfl⟩))
    (fun os started H enc _ => vectorOps_lifted os started H enc)

end Go.Proofs.Ytblileclefbklaa
