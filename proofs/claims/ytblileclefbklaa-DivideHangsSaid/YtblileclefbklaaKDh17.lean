/-
  Package vector: great, First, Top, Lead; the document's Ahead, LeadOf. No condition.
-/
import Derived.Test.YtblileclefbklaaKDh15
import Derived.Test.YtblileclefbklaaKDh16
import Derived.Test.YtblileclefbklaaKDh7

namespace Go.Proofs.Ytblileclefbklaa
open Go.RowKit
set_option linter.unusedVariables false
set_option linter.unusedSimpArgs false
set_option maxHeartbeats 8000000

/-- Each polynomial of a vector, by a function. -/
theorem vEach_pureH {H : Heap} {f : FuncId} {caps : List D} (v o : Vc) (hl : v.length ≤ 1000000) (ho : o.length = v.length) (hg : ∀ H', Over H H' → ∀ (i : Nat) (h1 : i < v.length) (h2 : i < o.length), PureH Try.prog H' f (I i :: plD v[i] :: caps) (plD o[i])) :
    PureH Try.prog H 72 [vcD v, .fn f caps] (vcD o) := by
  refine PureH.of_body Try.func72 rfl (by decide) (Nat.le_of_ble_eq_true rfl) fun w0 => ?_
  (repeat (first | refine RO.S ?_ | refine RO.Y ?_ | refine RO.no rfl (by decide) rfl ?_ | refine RO.nil ?_ | refine DW.region ?_ | refine DW.seq ?_ | refine DW.block ?_ | refine DW.skip ?_ | refine DW.exit ?_ | refine DW.condT rfl ?_ | refine DW.condF rfl ?_))
  refine RO.dyn rfl (d_make rfl rfl (Nat.le_refl _) (by omega) (by omega) fun x hx => ?_)
  have hov : ∀ y, Over H (H.set x y) := fun y => (Over.refl _).set hx
  (repeat (first | refine RO.S ?_ | refine RO.Y ?_ | refine RO.no rfl (by decide) rfl ?_ | refine RO.nil ?_ | refine DW.region ?_ | refine DW.seq ?_ | refine DW.block ?_ | refine DW.skip ?_ | refine DW.exit ?_ | refine DW.condT rfl ?_ | refine DW.condF rfl ?_))
  rw [flatten_replicate1]
  refine DW.loopI (fun k : Nat => k ≤ v.length) (fun k => [(1, .fn f caps), (5, .ref x 0 v.length 1), (11, vcD v), (12, I v.length), (13, I k)]) (fun k => H.set x (41, rowTo (o.map plD) .nil k)) (fun k => v.length - k) 0 (Nat.zero_le _)
    (by rw [rowTo_zero, List.length_map, ho]) ⟨rfl, rfl, rfl, rfl, rfl, trivial⟩ fun k hk => ?_
  (repeat (first | refine RO.S ?_ | refine RO.Y ?_ | refine RO.no rfl (by decide) rfl ?_ | refine RO.nil ?_ | refine DW.region ?_ | refine DW.seq ?_ | refine DW.block ?_ | refine DW.skip ?_ | refine DW.exit ?_ | refine DW.condT rfl ?_ | refine DW.condF rfl ?_))
  refine DW.cond rfl (fun hb => ?_) (fun hb => ?_)
  · have hlt : k < v.length := by have := of_decide_eq_true hb; omega
    have hlt2 : k < o.length := by omega
    clear hb
    (repeat (first | refine RO.S ?_ | refine RO.Y ?_ | refine RO.no rfl (by decide) rfl ?_ | refine RO.nil ?_ | refine DW.region ?_ | refine DW.seq ?_ | refine DW.block ?_ | refine DW.skip ?_ | refine DW.exit ?_ | refine DW.condT rfl ?_ | refine DW.condF rfl ?_))
    refine RO.sta (sta_call rfl rfl (hg _ (hov _) k hlt hlt2)) rfl ?_
    refine RO.sta (s_indexRef rfl rfl hlt) rfl ?_
    refine RO.dyn rfl (d_store (k := 1) rfl rfl rfl (Heap.set_self _ _ _) (by rw [rowTo_len _ _ (by simp; omega)]; simp [cellsOf, plD]; omega) (by simp [cellsOf, D.isCell, plD]) ?_)
    (repeat (first | refine RO.S ?_ | refine RO.Y ?_ | refine RO.no rfl (by decide) rfl ?_ | refine RO.nil ?_ | refine DW.region ?_ | refine DW.seq ?_ | refine DW.block ?_ | refine DW.skip ?_ | refine DW.exit ?_ | refine DW.condT rfl ?_ | refine DW.condF rfl ?_))
    refine ⟨k + 1, hlt, by dsimp only; omega, ?_, rfl, rfl, rfl, rfl, rfl, trivial⟩
    rw [Heap.set_set]
    dsimp only
    have h1 := rowTo_set (l := o.map plD) (z := .nil) (k := k) (by simp; omega)
    rw [← h1]
    simp only [List.getElem_map, cellsOf, plD, Nat.zero_add, Nat.mul_one]
  · have hge : k = v.length := by have := of_decide_eq_false hb; omega
    subst hge
    (repeat (first | refine RO.S ?_ | refine RO.Y ?_ | refine RO.no rfl (by decide) rfl ?_ | refine RO.nil ?_ | refine DW.region ?_ | refine DW.seq ?_ | refine DW.block ?_ | refine DW.skip ?_ | refine DW.exit ?_ | refine DW.condT rfl ?_ | refine DW.condF rfl ?_))
    refine DW.ret ⟨.inl rfl, _, rfl, hov _, ?_⟩
    have : rowTo (o.map plD) .nil v.length = (o.map plD).flatMap cellsOf := by
      rw [flat_cells1 (fun _ => rfl)]
      have := rowTo_all (o.map plD) .nil
      rwa [List.length_map, ho] at this
    refine Frz.list (T := 41) (by rw [Heap.set_self, this]) hx (uni_pl _) (by simp [ho])

theorem vSum1_pureH {H : Heap} (r : Rg) (w : Vc) (i : Nat) (f g : Pl) (hi : i < w.length) (hs : PureH Try.prog H 37 [rgD r, plD f, plD w[i]] (plD g)) :
    PureH Try.prog H 83 [I i, plD f, .ipt 4 [rgD r] 0 0, .ipt 1 [vcD w] 0 0] (plD g) := by
  refine PureH.of_body Try.func83 rfl (by decide) (Nat.le_of_ble_eq_true rfl) fun w0 => ?_
  (repeat (first | refine RO.Sv ?_ | refine RO.Yv ?_ | refine RO.no rfl (by decide) rfl ?_ | refine RO.nil ?_ | refine DW.region ?_ | refine DW.seq ?_ | refine DW.block ?_ | refine DW.skip ?_ | refine DW.exit ?_ | refine DW.condT rfl ?_ | refine DW.condF rfl ?_))
  refine DW.drawS 6 Try.mixed (by kernel_rfl) (by decide) ?_
  dsimp only [List.take, List.drop]
  (repeat (first | refine RS.Sv ?_ | refine RS.Yv ?_ | refine RS.no rfl (by decide) rfl ?_ | refine RS.nil ?_))
  refine RO.sta (sta_call rfl rfl hs) rfl ?_
  (repeat (first | refine RO.Sv ?_ | refine RO.Yv ?_ | refine RO.no rfl (by decide) rfl ?_ | refine RO.nil ?_ | refine DW.region ?_ | refine DW.seq ?_ | refine DW.block ?_ | refine DW.skip ?_ | refine DW.exit ?_ | refine DW.condT rfl ?_ | refine DW.condF rfl ?_))
  exact DW.ret ⟨.inl rfl, _, rfl, Over.refl _, .same _⟩

theorem vsumT_len {r : Rg} {v w : Vc} (h : v.length = w.length) : (vsumT r v w).length = v.length := by unfold vsumT; rw [List.length_zipWith]; omega

theorem vSum_pure (r : Rg) (v w : Vc) {n : Nat} {B : Int} {L M : Nat} (hn : n ≤ 3) (hB : B ≤ 1000000) (hp : 2 ≤ r.p ∧ r.p ≤ 101) (hl : v.length ≤ 1000000) (hvw : v.length = w.length) (hLM : L + M ≤ 4000000000000) (hv : VB r n B L v) (hw : VB r n B M w) :
    Pure Try.prog 52 [rgD r, vcD v, vcD w] (vcD (vsumT r v w)) := by
  intro H
  refine PureH.of_body Try.func52 rfl (by decide) (Nat.le_of_ble_eq_true rfl) fun w0 => ?_
  (repeat (first | refine RO.Sv ?_ | refine RO.Yv ?_ | refine RO.no rfl (by decide) rfl ?_ | refine RO.nil ?_ | refine DW.region ?_ | refine DW.seq ?_ | refine DW.block ?_ | refine DW.skip ?_ | refine DW.exit ?_ | refine DW.condT rfl ?_ | refine DW.condF rfl ?_))
  refine RO.sta (sta_call rfl rfl (vEach_pureH v (vsumT r v w) hl (vsumT_len hvw) fun H' _ i h1 h2 => ?_)) rfl ?_
  · obtain ⟨a1, a2⟩ := hv _ (List.getElem_mem h1)
    obtain ⟨b1, b2⟩ := hw _ (List.getElem_mem (show i < w.length by omega))
    have he : (vsumT r v w)[i] = sumT r.p r.order v[i] (w[i]'(by omega)) := by simp [vsumT]
    rw [he]
    exact vSum1_pureH r w i v[i] _ (by omega) (sum_pure r v[i] w[i] hn hB hp (by omega) a1 b1 H')
  (repeat (first | refine RO.Sv ?_ | refine RO.Yv ?_ | refine RO.no rfl (by decide) rfl ?_ | refine RO.nil ?_ | refine DW.region ?_ | refine DW.seq ?_ | refine DW.block ?_ | refine DW.skip ?_ | refine DW.exit ?_ | refine DW.condT rfl ?_ | refine DW.condF rfl ?_))
  exact DW.ret ⟨.inl rfl, _, rfl, Over.refl _, .same _⟩

theorem vBy1_pureH {H : Heap} (r : Rg) (t : Tm) (i : Int) (f g : Pl) (hs : PureH Try.prog H 85 [rgD r, plD f, tmD t] (plD g)) :
    PureH Try.prog H 98 [I i, plD f, .ipt 4 [rgD r] 0 0, .ipt 2 [tmD t] 0 0] (plD g) := by
  refine PureH.of_body Try.func98 rfl (by decide) (Nat.le_of_ble_eq_true rfl) fun w0 => ?_
  (repeat (first | refine RO.Sv ?_ | refine RO.Yv ?_ | refine RO.no rfl (by decide) rfl ?_ | refine RO.nil ?_ | refine DW.region ?_ | refine DW.seq ?_ | refine DW.block ?_ | refine DW.skip ?_ | refine DW.exit ?_ | refine DW.condT rfl ?_ | refine DW.condF rfl ?_))
  refine RO.sta (sta_call rfl rfl hs) rfl ?_
  (repeat (first | refine RO.Sv ?_ | refine RO.Yv ?_ | refine RO.no rfl (by decide) rfl ?_ | refine RO.nil ?_ | refine DW.region ?_ | refine DW.seq ?_ | refine DW.block ?_ | refine DW.skip ?_ | refine DW.exit ?_ | refine DW.condT rfl ?_ | refine DW.condF rfl ?_))
  exact DW.ret ⟨.inl rfl, _, rfl, Over.refl _, .same _⟩

theorem vBy_pure (r : Rg) (v : Vc) (t : Tm) {n : Nat} {B C : Int} {L : Nat} (hn : n ≤ 3) (hB : B ≤ 1000000) (hC : C ≤ 1000000) (hp : 2 ≤ r.p ∧ r.p ≤ 101) (hl : v.length ≤ 1000000) (hL : L ≤ 4000000000000) (hv : VB r n B L v) (ht : TB 0 r.p n C t) :
    Pure Try.prog 76 [rgD r, vcD v, tmD t] (vcD (vbyT r v t)) := by
  intro H
  refine PureH.of_body Try.func76 rfl (by decide) (Nat.le_of_ble_eq_true rfl) fun w0 => ?_
  (repeat (first | refine RO.Sv ?_ | refine RO.Yv ?_ | refine RO.no rfl (by decide) rfl ?_ | refine RO.nil ?_ | refine DW.region ?_ | refine DW.seq ?_ | refine DW.block ?_ | refine DW.skip ?_ | refine DW.exit ?_ | refine DW.condT rfl ?_ | refine DW.condF rfl ?_))
  refine RO.sta (sta_call rfl rfl (vEach_pureH v (vbyT r v t) hl (by simp [vbyT]) fun H' _ i h1 h2 => ?_)) rfl ?_
  · obtain ⟨a1, a2⟩ := hv _ (List.getElem_mem h1)
    have he : (vbyT r v t)[i] = byT r.p v[i] t := by simp [vbyT]
    rw [he]
    exact vBy1_pureH r t i v[i] _ (by_pure r v[i] t hn hB hC hp (by omega) (fun x hx => (a1.all x hx).mono (by omega) (by omega)) ht H')
  (repeat (first | refine RO.Sv ?_ | refine RO.Yv ?_ | refine RO.no rfl (by decide) rfl ?_ | refine RO.nil ?_ | refine DW.region ?_ | refine DW.seq ?_ | refine DW.block ?_ | refine DW.skip ?_ | refine DW.exit ?_ | refine DW.condT rfl ?_ | refine DW.condF rfl ?_))
  exact DW.ret ⟨.inl rfl, _, rfl, Over.refl _, .same _⟩

theorem vCopied1_pureH {H : Heap} (i : Int) (f : Pl) (hl : f.length ≤ 4000000000000) (hm : ∀ t ∈ f, t.e.length ≤ 3) : PureH Try.prog H 100 [I i, plD f] (plD f) := by
  refine PureH.of_body Try.func100 rfl (by decide) (Nat.le_of_ble_eq_true rfl) fun w0 => ?_
  (repeat (first | refine RO.Sv ?_ | refine RO.Yv ?_ | refine RO.no rfl (by decide) rfl ?_ | refine RO.nil ?_ | refine DW.region ?_ | refine DW.seq ?_ | refine DW.block ?_ | refine DW.skip ?_ | refine DW.exit ?_ | refine DW.condT rfl ?_ | refine DW.condF rfl ?_))
  refine RO.sta (sta_call rfl rfl (copied_pure f hl hm _)) rfl ?_
  (repeat (first | refine RO.Sv ?_ | refine RO.Yv ?_ | refine RO.no rfl (by decide) rfl ?_ | refine RO.nil ?_ | refine DW.region ?_ | refine DW.seq ?_ | refine DW.block ?_ | refine DW.skip ?_ | refine DW.exit ?_ | refine DW.condT rfl ?_ | refine DW.condF rfl ?_))
  exact DW.ret ⟨.inl rfl, _, rfl, Over.refl _, .same _⟩

theorem vCopied_pure (v : Vc) (hl : v.length ≤ 1000000) (hm : ∀ f ∈ v, f.length ≤ 4000000000000 ∧ ∀ t ∈ f, t.e.length ≤ 3) : Pure Try.prog 79 [vcD v] (vcD v) := by
  intro H
  refine PureH.of_body Try.func79 rfl (by decide) (Nat.le_of_ble_eq_true rfl) fun w0 => ?_
  (repeat (first | refine RO.Sv ?_ | refine RO.Yv ?_ | refine RO.no rfl (by decide) rfl ?_ | refine RO.nil ?_ | refine DW.region ?_ | refine DW.seq ?_ | refine DW.block ?_ | refine DW.skip ?_ | refine DW.exit ?_ | refine DW.condT rfl ?_ | refine DW.condF rfl ?_))
  refine RO.sta (sta_call rfl rfl (vEach_pureH (caps := []) v v hl rfl fun H' _ i h1 h2 => ?_)) rfl ?_
  · exact vCopied1_pureH i v[i] (hm _ (List.getElem_mem h1)).1 (hm _ (List.getElem_mem h1)).2
  (repeat (first | refine RO.Sv ?_ | refine RO.Yv ?_ | refine RO.no rfl (by decide) rfl ?_ | refine RO.nil ?_ | refine DW.region ?_ | refine DW.seq ?_ | refine DW.block ?_ | refine DW.skip ?_ | refine DW.exit ?_ | refine DW.condT rfl ?_ | refine DW.condF rfl ?_))
  exact DW.ret ⟨.inl rfl, _, rfl, Over.refl _, .same _⟩

/-- Nought: a row that may be written. -/
theorem nought_call {H : Heap} (n : Nat) (hn : n ≤ 1000000) : CallD Try.prog H 54 [I n] (fun d H' => ∃ b, H b = none ∧ d = .ref b 0 n 1 ∧ H' = H.set b (41, List.replicate n .nil)) := by
  refine CallD.of_body Try.func54 rfl (by decide) (Nat.le_of_ble_eq_true rfl) fun w0 => ?_
  (repeat (first | refine RO.Sv ?_ | refine RO.Yv ?_ | refine RO.no rfl (by decide) rfl ?_ | refine RO.nil ?_ | refine DW.region ?_ | refine DW.seq ?_ | refine DW.block ?_ | refine DW.skip ?_ | refine DW.exit ?_ | refine DW.condT rfl ?_ | refine DW.condF rfl ?_))
  refine RO.dyn rfl (d_make rfl rfl (Nat.le_refl _) (by omega) (by omega) fun x hx => ?_)
  (repeat (first | refine RO.Sv ?_ | refine RO.Yv ?_ | refine RO.no rfl (by decide) rfl ?_ | refine RO.nil ?_ | refine DW.region ?_ | refine DW.seq ?_ | refine DW.block ?_ | refine DW.skip ?_ | refine DW.exit ?_ | refine DW.condT rfl ?_ | refine DW.condF rfl ?_))
  rw [flatten_replicate1]
  exact DW.ret ⟨.inl rfl, _, _, _, rfl, Heap.sub_refl _, .same _, x, hx, rfl, rfl⟩

theorem nought_pure (n : Nat) (hn : n ≤ 1000000) : Pure Try.prog 54 [I n] (vcD (List.replicate n [])) := by
  intro H
  refine PureH.of_body Try.func54 rfl (by decide) (Nat.le_of_ble_eq_true rfl) fun w0 => ?_
  (repeat (first | refine RO.Sv ?_ | refine RO.Yv ?_ | refine RO.no rfl (by decide) rfl ?_ | refine RO.nil ?_ | refine DW.region ?_ | refine DW.seq ?_ | refine DW.block ?_ | refine DW.skip ?_ | refine DW.exit ?_ | refine DW.condT rfl ?_ | refine DW.condF rfl ?_))
  refine RO.dyn rfl (d_make rfl rfl (Nat.le_refl _) (by omega) (by omega) fun x hx => ?_)
  (repeat (first | refine RO.Sv ?_ | refine RO.Yv ?_ | refine RO.no rfl (by decide) rfl ?_ | refine RO.nil ?_ | refine DW.region ?_ | refine DW.seq ?_ | refine DW.block ?_ | refine DW.skip ?_ | refine DW.exit ?_ | refine DW.condT rfl ?_ | refine DW.condF rfl ?_))
  rw [flatten_replicate1]
  refine DW.ret ⟨.inl rfl, _, rfl, (Over.refl _).set hx, ?_⟩
  unfold vcD
  rw [List.map_replicate]
  exact frz_nils (T := 41) (Heap.set_self _ _ _) hx

def vecE (x : Vc × Int) : D := .tup [vcD x.1, I x.2]

theorem vDone_pure (v : Vc) (hl : v.length ≤ 1000000) (hm : ∀ f ∈ v, f.length ≤ 4000000000000 ∧ ∀ t ∈ f, MOk t.e) : Pure Try.prog 38 [vcD v] (vecE (vdoneT v)) := by
  intro H
  refine PureH.of_body Try.func38 rfl (by decide) (Nat.le_of_ble_eq_true rfl) fun w0 => ?_
  (repeat (first | refine RO.Sv ?_ | refine RO.Yv ?_ | refine RO.no rfl (by decide) rfl ?_ | refine RO.nil ?_ | refine DW.region ?_ | refine DW.seq ?_ | refine DW.block ?_ | refine DW.skip ?_ | refine DW.exit ?_ | refine DW.condT rfl ?_ | refine DW.condF rfl ?_))
  refine DW.loopI (fun k : Nat => k ≤ v.length ∧ (v.drop k).any greatT = v.any greatT) (fun k => [(0, vcD v), (8, vcD v), (9, I v.length), (10, I k)]) (fun _ => H) (fun k => v.length - k) 0 ⟨Nat.zero_le _, rfl⟩ rfl ⟨rfl, rfl, rfl, rfl, trivial⟩ fun k ⟨hk, hg⟩ => ?_
  (repeat (first | refine RO.Sv ?_ | refine RO.Yv ?_ | refine RO.no rfl (by decide) rfl ?_ | refine RO.nil ?_ | refine DW.region ?_ | refine DW.seq ?_ | refine DW.block ?_ | refine DW.skip ?_ | refine DW.exit ?_ | refine DW.condT rfl ?_ | refine DW.condF rfl ?_))
  refine DW.cond rfl (fun hb => ?_) (fun hb => ?_)
  · have hlt : k < v.length := by have := of_decide_eq_true hb; omega
    obtain ⟨hv1, hv2⟩ := hm _ (List.getElem_mem hlt)
    rw [any_drop hlt] at hg
    clear hb
    (repeat (first | refine RO.Sv ?_ | refine RO.Yv ?_ | refine RO.no rfl (by decide) rfl ?_ | refine RO.nil ?_ | refine DW.region ?_ | refine DW.seq ?_ | refine DW.block ?_ | refine DW.skip ?_ | refine DW.exit ?_ | refine DW.condT rfl ?_ | refine DW.condF rfl ?_))
    refine RO.sta (sta_call rfl rfl (done_pure v[k] hv1 hv2 _)) rfl ?_
    (repeat (first | refine RO.Sv ?_ | refine RO.Yv ?_ | refine RO.no rfl (by decide) rfl ?_ | refine RO.nil ?_ | refine DW.region ?_ | refine DW.seq ?_ | refine DW.block ?_ | refine DW.skip ?_ | refine DW.exit ?_ | refine DW.condT rfl ?_ | refine DW.condF rfl ?_))
    cases h1 : greatT v[k]
    · have h2 : doneT v[k] = (v[k], 0) := by unfold doneT; rw [if_neg (by rw [h1]; simp)]
      rw [h1, Bool.false_or] at hg
      rw [h2]
      (repeat (first | refine RO.Sv ?_ | refine RO.Yv ?_ | refine RO.no rfl (by decide) rfl ?_ | refine RO.nil ?_ | refine DW.region ?_ | refine DW.seq ?_ | refine DW.block ?_ | refine DW.skip ?_ | refine DW.exit ?_ | refine DW.condT rfl ?_ | refine DW.condF rfl ?_))
      exact ⟨k + 1, ⟨hlt, hg⟩, by dsimp only; omega, rfl, rfl, rfl, rfl, rfl, trivial⟩
    · have h2 : doneT v[k] = ([], 2) := by unfold doneT; rw [if_pos h1]
      rw [h1, Bool.true_or] at hg
      have h3 : vdoneT v = ([], 2) := by unfold vdoneT vgreatT; rw [if_pos hg.symm]
      rw [h2, h3]
      (repeat (first | refine RO.Sv ?_ | refine RO.Yv ?_ | refine RO.no rfl (by decide) rfl ?_ | refine RO.nil ?_ | refine DW.region ?_ | refine DW.seq ?_ | refine DW.block ?_ | refine DW.skip ?_ | refine DW.exit ?_ | refine DW.condT rfl ?_ | refine DW.condF rfl ?_))
      exact DW.ret ⟨.inl rfl, _, rfl, Over.refl _, .tup2 (.nil _) (.same _)⟩
  · have hge : k = v.length := by have := of_decide_eq_false hb; omega
    have h0 : v.any greatT = false := by rw [← hg, hge, List.drop_length]; rfl
    have h3 : vdoneT v = (v, 0) := by unfold vdoneT vgreatT; rw [if_neg (by rw [h0]; simp)]
    rw [h3]
    (repeat (first | refine RO.Sv ?_ | refine RO.Yv ?_ | refine RO.no rfl (by decide) rfl ?_ | refine RO.nil ?_ | refine DW.region ?_ | refine DW.seq ?_ | refine DW.block ?_ | refine DW.skip ?_ | refine DW.exit ?_ | refine DW.condT rfl ?_ | refine DW.condF rfl ?_))
    refine RO.sta (sta_call rfl rfl (vCopied_pure v hl (fun f hf => ⟨(hm f hf).1, fun t ht => ((hm f hf).2 t ht).len⟩) _)) rfl ?_
    (repeat (first | refine RO.Sv ?_ | refine RO.Yv ?_ | refine RO.no rfl (by decide) rfl ?_ | refine RO.nil ?_ | refine DW.region ?_ | refine DW.seq ?_ | refine DW.block ?_ | refine DW.skip ?_ | refine DW.exit ?_ | refine DW.condT rfl ?_ | refine DW.condF rfl ?_))
    exact DW.ret ⟨.inl rfl, _, rfl, Over.refl _, .same _⟩

theorem VSum_pure (r : Rg) (v w : Vc) {n : Nat} {B : Int} {L M : Nat} (hn : n ≤ 3) (hB : B ≤ 1000000) (hp : 2 ≤ r.p ∧ r.p ≤ 101) (hl : v.length ≤ 1000000) (hvw : v.length = w.length) (hLM : L + M ≤ 4000000000000) (hv : VB r n B L v) (hw : VB r n B M w) :
    Pure Try.prog 20 [rgD r, vcD v, vcD w] (vcD (vsumT r v w)) := by
  intro H
  refine PureH.of_body Try.func20 rfl (by decide) (Nat.le_of_ble_eq_true rfl) fun w0 => ?_
  have hlen := vsumT_len (r := r) hvw
  (repeat (first | refine RO.Sv ?_ | refine RO.Yv ?_ | refine RO.no rfl (by decide) rfl ?_ | refine RO.nil ?_ | refine DW.region ?_ | refine DW.seq ?_ | refine DW.block ?_ | refine DW.skip ?_ | refine DW.exit ?_ | refine DW.condT rfl ?_ | refine DW.condF rfl ?_))
  refine DW.loopI (fun x : Nat × Heap × D => x.1 ≤ v.length ∧ Acc H x.2.1 x.2.2 1 41 (((vsumT r v w).take x.1).map plD) ∧ Over H x.2.1) (fun x => [(1, vcD v), (2, vcD w), (3, .ipt 4 [rgD r] 0 0), (7, x.2.2), (8, I x.1)]) (fun x => x.2.1) (fun x => v.length - x.1) (0, H, .nil)
    ⟨Nat.zero_le _, Acc.nil _ _ _ _, Over.refl _⟩ rfl ⟨rfl, rfl, rfl, rfl, rfl, trivial⟩ fun ⟨k, Hk, d⟩ ⟨hk, hacc, hov⟩ => ?_
  dsimp only at hk hacc hov
  dsimp only
  (repeat (first | refine RO.Sv ?_ | refine RO.Yv ?_ | refine RO.no rfl (by decide) rfl ?_ | refine RO.nil ?_ | refine DW.region ?_ | refine DW.seq ?_ | refine DW.block ?_ | refine DW.skip ?_ | refine DW.exit ?_ | refine DW.condT rfl ?_ | refine DW.condF rfl ?_))
  refine DW.cond rfl (fun hb => ?_) (fun hb => ?_)
  · have hlt : k < v.length := by have := of_decide_eq_true hb; omega
    have hlt2 : k < w.length := by omega
    clear hb
    obtain ⟨a1, a2⟩ := hv _ (List.getElem_mem hlt)
    obtain ⟨b1, b2⟩ := hw _ (List.getElem_mem hlt2)
    have he : (vsumT r v w)[k]'(by omega) = sumT r.p r.order v[k] w[k] := by simp [vsumT]
    (repeat (first | refine RO.Sv ?_ | refine RO.Yv ?_ | refine RO.no rfl (by decide) rfl ?_ | refine RO.nil ?_ | refine DW.region ?_ | refine DW.seq ?_ | refine DW.block ?_ | refine DW.skip ?_ | refine DW.exit ?_ | refine DW.condT rfl ?_ | refine DW.condF rfl ?_))
    refine DW.drawS 12 Try.mixed (by kernel_rfl) (by decide) ?_
    dsimp only [List.take, List.drop]
    (repeat (first | refine RS.Sv ?_ | refine RS.Yv ?_ | refine RS.no rfl (by decide) rfl ?_ | refine RS.nil ?_))
    refine RS.sta (fun H' hov => sta_call rfl rfl (refSum_pure r v[k] w[k] hn hB hp (by omega) a1 b1 _)) rfl ?_
    (repeat (first | refine RS.Sv ?_ | refine RS.Yv ?_ | refine RS.no rfl (by decide) rfl ?_ | refine RS.nil ?_))
    refine RO.dyn rfl (d_append (H0 := H) (xs := [plD (sumT r.p r.order v[k] w[k])]) rfl hacc hov rfl (.inl rfl) (uni_pl [sumT r.p r.order v[k] w[k]]) (by simp; omega) (by simp; omega) fun d' H' q1 q2 q3 => ?_)
    (repeat (first | refine RO.Sv ?_ | refine RO.Yv ?_ | refine RO.no rfl (by decide) rfl ?_ | refine RO.nil ?_ | refine DW.region ?_ | refine DW.seq ?_ | refine DW.block ?_ | refine DW.skip ?_ | refine DW.exit ?_ | refine DW.condT rfl ?_ | refine DW.condF rfl ?_))
    refine ⟨(k + 1, H', d'), ⟨hlt, ?_, q2⟩, by dsimp only; omega, rfl, rfl, rfl, rfl, rfl, rfl, trivial⟩
    dsimp only
    rw [List.take_succ_eq_append_getElem (by omega), List.map_append, he]
    exact q1
  · have hke : k = v.length := by have := of_decide_eq_false hb; omega
    rw [hke, List.take_of_length_le (by omega)] at hacc
    (repeat (first | refine RO.Sv ?_ | refine RO.Yv ?_ | refine RO.no rfl (by decide) rfl ?_ | refine RO.nil ?_ | refine DW.region ?_ | refine DW.seq ?_ | refine DW.block ?_ | refine DW.skip ?_ | refine DW.exit ?_ | refine DW.condT rfl ?_ | refine DW.condF rfl ?_))
    exact DW.ret ⟨.inl rfl, _, rfl, hov, hacc.done⟩

theorem VTimes_pure (r : Rg) (f : Pl) (v : Vc) {n : Nat} {B C : Int} {L : Nat} (hn : n ≤ 3) (hB : B + C ≤ 1000000) (hB0 : 0 ≤ B) (hC0 : 0 ≤ C) (hr : ckP r.p = 0) (hpr : Prm r.p) (hl : v.length ≤ 1000000) (hfl : f.length * L ≤ 4000000000000) (hL : L ≤ 4000000000000) (hf1 : f.length ≤ 4000000000000) (hf : PB 1 r.p r.order n C f) (hv : VB r n B L v) :
    Pure Try.prog 21 [rgD r, plD f, vcD v] (vcD (vtimesT r f v)) := by
  intro H
  refine PureH.of_body Try.func21 rfl (by decide) (Nat.le_of_ble_eq_true rfl) fun w0 => ?_
  have hlen : (vtimesT r f v).length = v.length := by simp [vtimesT]
  (repeat (first | refine RO.Sv ?_ | refine RO.Yv ?_ | refine RO.no rfl (by decide) rfl ?_ | refine RO.nil ?_ | refine DW.region ?_ | refine DW.seq ?_ | refine DW.block ?_ | refine DW.skip ?_ | refine DW.exit ?_ | refine DW.condT rfl ?_ | refine DW.condF rfl ?_))
  refine DW.loopI (fun x : Nat × Heap × D => x.1 ≤ v.length ∧ Acc H x.2.1 x.2.2 1 41 (((vtimesT r f v).take x.1).map plD) ∧ Over H x.2.1) (fun x => [(1, plD f), (2, vcD v), (3, .ipt 4 [rgD r] 0 0), (7, x.2.2), (8, I x.1)]) (fun x => x.2.1) (fun x => v.length - x.1) (0, H, .nil)
    ⟨Nat.zero_le _, Acc.nil _ _ _ _, Over.refl _⟩ rfl ⟨rfl, rfl, rfl, rfl, rfl, trivial⟩ fun ⟨k, Hk, d⟩ ⟨hk, hacc, hov⟩ => ?_
  dsimp only at hk hacc hov
  dsimp only
  (repeat (first | refine RO.Sv ?_ | refine RO.Yv ?_ | refine RO.no rfl (by decide) rfl ?_ | refine RO.nil ?_ | refine DW.region ?_ | refine DW.seq ?_ | refine DW.block ?_ | refine DW.skip ?_ | refine DW.exit ?_ | refine DW.condT rfl ?_ | refine DW.condF rfl ?_))
  refine DW.cond rfl (fun hb => ?_) (fun hb => ?_)
  · have hlt : k < v.length := by have := of_decide_eq_true hb; omega
    clear hb
    obtain ⟨a1, a2⟩ := hv _ (List.getElem_mem hlt)
    have he : (vtimesT r f v)[k]'(by omega) = prodT r.p r.order f v[k] := by simp [vtimesT]
    have hfv : f.length * v[k].length ≤ 4000000000000 := Nat.le_trans (Nat.mul_le_mul_left _ a2) hfl
    (repeat (first | refine RO.Sv ?_ | refine RO.Yv ?_ | refine RO.no rfl (by decide) rfl ?_ | refine RO.nil ?_ | refine DW.region ?_ | refine DW.seq ?_ | refine DW.block ?_ | refine DW.skip ?_ | refine DW.exit ?_ | refine DW.condT rfl ?_ | refine DW.condF rfl ?_))
    refine DW.drawS 9 Try.mixed (by kernel_rfl) (by decide) ?_
    dsimp only [List.take, List.drop]
    (repeat (first | refine RS.Sv ?_ | refine RS.Yv ?_ | refine RS.no rfl (by decide) rfl ?_ | refine RS.nil ?_))
    refine RS.sta (fun H' hov => sta_call rfl rfl (refProduct_pure r f v[k] hn hB hB0 hC0 hr hpr hfv hf a1 hf1 (by omega) _)) rfl ?_
    (repeat (first | refine RS.Sv ?_ | refine RS.Yv ?_ | refine RS.no rfl (by decide) rfl ?_ | refine RS.nil ?_))
    refine RO.dyn rfl (d_append (H0 := H) (xs := [plD (prodT r.p r.order f v[k])]) rfl hacc hov rfl (.inl rfl) (uni_pl [prodT r.p r.order f v[k]]) (by simp; omega) (by simp; omega) fun d' H' q1 q2 q3 => ?_)
    (repeat (first | refine RO.Sv ?_ | refine RO.Yv ?_ | refine RO.no rfl (by decide) rfl ?_ | refine RO.nil ?_ | refine DW.region ?_ | refine DW.seq ?_ | refine DW.block ?_ | refine DW.skip ?_ | refine DW.exit ?_ | refine DW.condT rfl ?_ | refine DW.condF rfl ?_))
    refine ⟨(k + 1, H', d'), ⟨hlt, ?_, q2⟩, by dsimp only; omega, rfl, rfl, rfl, rfl, rfl, rfl, trivial⟩
    dsimp only
    rw [List.take_succ_eq_append_getElem (by omega), List.map_append, he]
    exact q1
  · have hke : k = v.length := by have := of_decide_eq_false hb; omega
    rw [hke, List.take_of_length_le (by omega)] at hacc
    (repeat (first | refine RO.Sv ?_ | refine RO.Yv ?_ | refine RO.no rfl (by decide) rfl ?_ | refine RO.nil ?_ | refine DW.region ?_ | refine DW.seq ?_ | refine DW.block ?_ | refine DW.skip ?_ | refine DW.exit ?_ | refine DW.condT rfl ?_ | refine DW.condF rfl ?_))
    exact DW.ret ⟨.inl rfl, _, rfl, hov, hacc.done⟩

theorem VGreat_pure (v : Vc) (hl : v.length ≤ 4000000000000) (hm : ∀ f ∈ v, f.length ≤ 4000000000000 ∧ (∀ t ∈ f, MOk t.e) ∧ ∀ t ∈ f, t.e.sum ≤ topT f) : Pure Try.prog 12 [vcD v] (.bool (vgreatT v)) := by
  intro H
  refine PureH.of_body Try.func12 rfl (by decide) (Nat.le_of_ble_eq_true rfl) fun w0 => ?_
  unfold vgreatT
  (repeat (first | refine RO.Sv ?_ | refine RO.Yv ?_ | refine RO.no rfl (by decide) rfl ?_ | refine RO.nil ?_ | refine DW.region ?_ | refine DW.seq ?_ | refine DW.block ?_ | refine DW.skip ?_ | refine DW.exit ?_ | refine DW.condT rfl ?_ | refine DW.condF rfl ?_))
  refine DW.loopI (fun k : Nat => k ≤ v.length ∧ (v.drop k).any greatT = v.any greatT) (fun k => [(0, vcD v), (3, I k)]) (fun _ => H) (fun k => v.length - k) 0 ⟨Nat.zero_le _, rfl⟩ rfl ⟨rfl, rfl, trivial⟩ fun k ⟨hk, hg⟩ => ?_
  (repeat (first | refine RO.Sv ?_ | refine RO.Yv ?_ | refine RO.no rfl (by decide) rfl ?_ | refine RO.nil ?_ | refine DW.region ?_ | refine DW.seq ?_ | refine DW.block ?_ | refine DW.skip ?_ | refine DW.exit ?_ | refine DW.condT rfl ?_ | refine DW.condF rfl ?_))
  refine DW.cond rfl (fun hb => ?_) (fun hb => ?_)
  · have hlt : k < v.length := by have := of_decide_eq_true hb; omega
    obtain ⟨hv1, hv2, hv3⟩ := hm _ (List.getElem_mem hlt)
    rw [any_drop hlt] at hg
    clear hb
    (repeat (first | refine RO.Sv ?_ | refine RO.Yv ?_ | refine RO.no rfl (by decide) rfl ?_ | refine RO.nil ?_ | refine DW.region ?_ | refine DW.seq ?_ | refine DW.block ?_ | refine DW.skip ?_ | refine DW.exit ?_ | refine DW.condT rfl ?_ | refine DW.condF rfl ?_))
    refine RO.sta (sta_call rfl rfl (Great_pure v[k] hv1 hv2 hv3 _)) rfl ?_
    (repeat (first | refine RO.Sv ?_ | refine RO.Yv ?_ | refine RO.no rfl (by decide) rfl ?_ | refine RO.nil ?_ | refine DW.region ?_ | refine DW.seq ?_ | refine DW.block ?_ | refine DW.skip ?_ | refine DW.exit ?_ | refine DW.condT rfl ?_ | refine DW.condF rfl ?_))
    cases h1 : greatT v[k]
    · rw [h1, Bool.false_or] at hg
      (repeat (first | refine RO.Sv ?_ | refine RO.Yv ?_ | refine RO.no rfl (by decide) rfl ?_ | refine RO.nil ?_ | refine DW.region ?_ | refine DW.seq ?_ | refine DW.block ?_ | refine DW.skip ?_ | refine DW.exit ?_ | refine DW.condT rfl ?_ | refine DW.condF rfl ?_))
      exact ⟨k + 1, ⟨hlt, hg⟩, by dsimp only; omega, rfl, rfl, rfl, trivial⟩
    · rw [h1, Bool.true_or] at hg
      rw [← hg]
      (repeat (first | refine RO.Sv ?_ | refine RO.Yv ?_ | refine RO.no rfl (by decide) rfl ?_ | refine RO.nil ?_ | refine DW.region ?_ | refine DW.seq ?_ | refine DW.block ?_ | refine DW.skip ?_ | refine DW.exit ?_ | refine DW.condT rfl ?_ | refine DW.condF rfl ?_))
      exact DW.ret ⟨.inl rfl, _, rfl, Over.refl _, .same _⟩
  · have hge : k = v.length := by have := of_decide_eq_false hb; omega
    have h0 : v.any greatT = false := by rw [← hg, hge, List.drop_length]; rfl
    rw [h0]
    (repeat (first | refine RO.Sv ?_ | refine RO.Yv ?_ | refine RO.no rfl (by decide) rfl ?_ | refine RO.nil ?_ | refine DW.region ?_ | refine DW.seq ?_ | refine DW.block ?_ | refine DW.skip ?_ | refine DW.exit ?_ | refine DW.condT rfl ?_ | refine DW.condF rfl ?_))
    exact DW.ret ⟨.inl rfl, _, rfl, Over.refl _, .same _⟩

end Go.Proofs.Ytblileclefbklaa

namespace Go.Proofs.Ytblileclefbklaa
open Go.RowKit
set_option linter.unusedVariables false
set_option linter.unusedSimpArgs false
set_option maxHeartbeats 8000000

theorem great_pure (f g : Pl) (hfl : f.length ≤ 4000000000000) (hgl : g.length ≤ 4000000000000) (hf : ∀ t ∈ f, MOk t.e) (hg : ∀ t ∈ g, MOk t.e) : Pure Try.prog 55 [plD f, plD g] (.bool (bigT f g)) := by
  intro H
  refine PureH.of_body Try.func55 rfl (by decide) (Nat.le_of_ble_eq_true rfl) fun w0 => ?_
  have hemp : ∀ l : Pl, (!l.isEmpty) = decide ((0 : Int) < (l.length : Int)) := fun l => by cases l <;> simp <;> omega
  unfold bigT
  rw [hemp, hemp]
  (repeat (first | refine RO.Sv ?_ | refine RO.Yv ?_ | refine RO.no rfl (by decide) rfl ?_ | refine RO.nil ?_ | refine DW.region ?_ | refine DW.seq ?_ | refine DW.block ?_ | refine DW.skip ?_ | refine DW.exit ?_ | refine DW.condT rfl ?_ | refine DW.condF rfl ?_))
  cases h1 : decide ((0 : Int) < (f.length : Int))
  case false =>
    (repeat (first | refine RO.Sv ?_ | refine RO.Yv ?_ | refine RO.no rfl (by decide) rfl ?_ | refine RO.nil ?_ | refine DW.region ?_ | refine DW.seq ?_ | refine DW.block ?_ | refine DW.skip ?_ | refine DW.exit ?_ | refine DW.condT rfl ?_ | refine DW.condF rfl ?_))
    exact DW.ret ⟨.inl rfl, _, rfl, Over.refl _, .same _⟩
  (repeat (first | refine RO.Sv ?_ | refine RO.Yv ?_ | refine RO.no rfl (by decide) rfl ?_ | refine RO.nil ?_ | refine DW.region ?_ | refine DW.seq ?_ | refine DW.block ?_ | refine DW.skip ?_ | refine DW.exit ?_ | refine DW.condT rfl ?_ | refine DW.condF rfl ?_))
  cases h2 : decide ((0 : Int) < (g.length : Int))
  case false =>
    (repeat (first | refine RO.Sv ?_ | refine RO.Yv ?_ | refine RO.no rfl (by decide) rfl ?_ | refine RO.nil ?_ | refine DW.region ?_ | refine DW.seq ?_ | refine DW.block ?_ | refine DW.skip ?_ | refine DW.exit ?_ | refine DW.condT rfl ?_ | refine DW.condF rfl ?_))
    exact DW.ret ⟨.inl rfl, _, rfl, Over.refl _, .same _⟩
  have b1 : -1 ≤ topT f ∧ topT f ≤ 3000000 := topT_bounds hf
  have b2 : -1 ≤ topT g ∧ topT g ≤ 3000000 := topT_bounds hg
  (repeat (first | refine RO.Sv ?_ | refine RO.Yv ?_ | refine RO.no rfl (by decide) rfl ?_ | refine RO.nil ?_ | refine DW.region ?_ | refine DW.seq ?_ | refine DW.block ?_ | refine DW.skip ?_ | refine DW.exit ?_ | refine DW.condT rfl ?_ | refine DW.condF rfl ?_))
  refine RO.yes rfl rfl (OpD.of_sta (sta_call rfl rfl (top_pure f hfl hf _)) ?_)
  (repeat (first | refine RO.Sv ?_ | refine RO.Yv ?_ | refine RO.no rfl (by decide) rfl ?_ | refine RO.nil ?_ | refine DW.region ?_ | refine DW.seq ?_ | refine DW.block ?_ | refine DW.skip ?_ | refine DW.exit ?_ | refine DW.condT rfl ?_ | refine DW.condF rfl ?_))
  refine RO.yes rfl rfl (OpD.of_sta (sta_call rfl rfl (top_pure g hgl hg _)) ?_)
  (repeat (first | refine RO.Sv ?_ | refine RO.Yv ?_ | refine RO.no rfl (by decide) rfl ?_ | refine RO.nil ?_ | refine DW.region ?_ | refine DW.seq ?_ | refine DW.block ?_ | refine DW.skip ?_ | refine DW.exit ?_ | refine DW.condT rfl ?_ | refine DW.condF rfl ?_))
  exact DW.ret ⟨.inl rfl, _, rfl, Over.refl _, .same _⟩

theorem First_pure (r : Rg) (i k : Int) {a b : List Int} (ha : MOk a) (hb : MOk b) (hab : a.length = b.length) : Pure Try.prog 86 [rgD r, I i, intsD a, I k, intsD b] (.bool (firstT r i a k b)) := by
  intro H
  refine PureH.of_body Try.func86 rfl (by decide) (Nat.le_of_ble_eq_true rfl) fun w0 => ?_
  (repeat (first | refine RO.Sv ?_ | refine RO.Yv ?_ | refine RO.no rfl (by decide) rfl ?_ | refine RO.nil ?_ | refine DW.region ?_ | refine DW.seq ?_ | refine DW.block ?_ | refine DW.skip ?_ | refine DW.exit ?_ | refine DW.condT rfl ?_ | refine DW.condF rfl ?_))
  refine RO.sta (sta_call rfl rfl (Compare_pure r ha hb hab _)) rfl ?_
  (repeat (first | refine RO.Sv ?_ | refine RO.Yv ?_ | refine RO.no rfl (by decide) rfl ?_ | refine RO.nil ?_ | refine DW.region ?_ | refine DW.seq ?_ | refine DW.block ?_ | refine DW.skip ?_ | refine DW.exit ?_ | refine DW.condT rfl ?_ | refine DW.condF rfl ?_))
  unfold firstT
  cases h1 : (r.over == 2)
  case true =>
    (repeat (first | refine RO.Sv ?_ | refine RO.Yv ?_ | refine RO.no rfl (by decide) rfl ?_ | refine RO.nil ?_ | refine DW.region ?_ | refine DW.seq ?_ | refine DW.block ?_ | refine DW.skip ?_ | refine DW.exit ?_ | refine DW.condT rfl ?_ | refine DW.condF rfl ?_))
    cases h2 : (i != k)
    case true =>
      rw [if_pos (.inl ⟨by simpa using h1, by simpa using h2⟩)]
      (repeat (first | refine RO.Sv ?_ | refine RO.Yv ?_ | refine RO.no rfl (by decide) rfl ?_ | refine RO.nil ?_ | refine DW.region ?_ | refine DW.seq ?_ | refine DW.block ?_ | refine DW.skip ?_ | refine DW.exit ?_ | refine DW.condT rfl ?_ | refine DW.condF rfl ?_))
      exact DW.ret ⟨.inl rfl, _, rfl, Over.refl _, .same _⟩
    (repeat (first | refine RO.Sv ?_ | refine RO.Yv ?_ | refine RO.no rfl (by decide) rfl ?_ | refine RO.nil ?_ | refine DW.region ?_ | refine DW.seq ?_ | refine DW.block ?_ | refine DW.skip ?_ | refine DW.exit ?_ | refine DW.condT rfl ?_ | refine DW.condF rfl ?_))
    cases h3 : (cmpM r.order a b == 0)
    case true =>
      rw [if_pos (.inr (by simpa using h3))]
      (repeat (first | refine RO.Sv ?_ | refine RO.Yv ?_ | refine RO.no rfl (by decide) rfl ?_ | refine RO.nil ?_ | refine DW.region ?_ | refine DW.seq ?_ | refine DW.block ?_ | refine DW.skip ?_ | refine DW.exit ?_ | refine DW.condT rfl ?_ | refine DW.condF rfl ?_))
      exact DW.ret ⟨.inl rfl, _, rfl, Over.refl _, .same _⟩
    rw [if_neg (by simp at h2 h3; simp [h2, h3])]
    (repeat (first | refine RO.Sv ?_ | refine RO.Yv ?_ | refine RO.no rfl (by decide) rfl ?_ | refine RO.nil ?_ | refine DW.region ?_ | refine DW.seq ?_ | refine DW.block ?_ | refine DW.skip ?_ | refine DW.exit ?_ | refine DW.condT rfl ?_ | refine DW.condF rfl ?_))
    exact DW.ret ⟨.inl rfl, _, rfl, Over.refl _, .same _⟩
  (repeat (first | refine RO.Sv ?_ | refine RO.Yv ?_ | refine RO.no rfl (by decide) rfl ?_ | refine RO.nil ?_ | refine DW.region ?_ | refine DW.seq ?_ | refine DW.block ?_ | refine DW.skip ?_ | refine DW.exit ?_ | refine DW.condT rfl ?_ | refine DW.condF rfl ?_))
  cases h3 : (cmpM r.order a b == 0)
  case true =>
    rw [if_pos (.inr (by simpa using h3))]
    (repeat (first | refine RO.Sv ?_ | refine RO.Yv ?_ | refine RO.no rfl (by decide) rfl ?_ | refine RO.nil ?_ | refine DW.region ?_ | refine DW.seq ?_ | refine DW.block ?_ | refine DW.skip ?_ | refine DW.exit ?_ | refine DW.condT rfl ?_ | refine DW.condF rfl ?_))
    exact DW.ret ⟨.inl rfl, _, rfl, Over.refl _, .same _⟩
  rw [if_neg (by simp at h1 h3; simp [h1, h3])]
  (repeat (first | refine RO.Sv ?_ | refine RO.Yv ?_ | refine RO.no rfl (by decide) rfl ?_ | refine RO.nil ?_ | refine DW.region ?_ | refine DW.seq ?_ | refine DW.block ?_ | refine DW.skip ?_ | refine DW.exit ?_ | refine DW.condT rfl ?_ | refine DW.condF rfl ?_))
  exact DW.ret ⟨.inl rfl, _, rfl, Over.refl _, .same _⟩

theorem Ahead_pure (r : Rg) (i k : Int) {a b : List Int} (ha : MOk a) (hb : MOk b) (hab : a.length = b.length) : Pure Try.prog 63 [rgD r, I i, intsD a, I k, intsD b] (.bool (firstT r i a k b)) := by
  intro H
  refine PureH.of_body Try.func63 rfl (by decide) (Nat.le_of_ble_eq_true rfl) fun w0 => ?_
  have hsame : (a == b) = (cmpM r.order a b == 0) := by
    rw [Bool.eq_iff_iff]
    simp only [beq_iff_eq]
    exact ⟨fun h => by rw [h]; exact cmpM_self _ _, fun h => cmpM_zero hab h⟩
  have al := ha.len
  unfold firstT
  (repeat (first | refine RO.Sv ?_ | refine RO.Yv ?_ | refine RO.no rfl (by decide) rfl ?_ | refine RO.nil ?_ | refine DW.region ?_ | refine DW.seq ?_ | refine DW.block ?_ | refine DW.skip ?_ | refine DW.exit ?_ | refine DW.condT rfl ?_ | refine DW.condF rfl ?_))
  cases h1 : (r.over == 2)
  case true =>
    (repeat (first | refine RO.Sv ?_ | refine RO.Yv ?_ | refine RO.no rfl (by decide) rfl ?_ | refine RO.nil ?_ | refine DW.region ?_ | refine DW.seq ?_ | refine DW.block ?_ | refine DW.skip ?_ | refine DW.exit ?_ | refine DW.condT rfl ?_ | refine DW.condF rfl ?_))
    cases h2 : (i != k)
    case true =>
      rw [if_pos (.inl ⟨by simpa using h1, by simpa using h2⟩)]
      (repeat (first | refine RO.Sv ?_ | refine RO.Yv ?_ | refine RO.no rfl (by decide) rfl ?_ | refine RO.nil ?_ | refine DW.region ?_ | refine DW.seq ?_ | refine DW.block ?_ | refine DW.skip ?_ | refine DW.exit ?_ | refine DW.condT rfl ?_ | refine DW.condF rfl ?_))
      exact DW.ret ⟨.inl rfl, _, rfl, Over.refl _, .same _⟩
    (repeat (first | refine RO.Sv ?_ | refine RO.Yv ?_ | refine RO.no rfl (by decide) rfl ?_ | refine RO.nil ?_ | refine DW.region ?_ | refine DW.seq ?_ | refine DW.block ?_ | refine DW.skip ?_ | refine DW.exit ?_ | refine DW.condT rfl ?_ | refine DW.condF rfl ?_))
    refine RO.sta (sta_call rfl rfl (SameInts_pure a b (by omega) _)) rfl ?_
    rw [hsame]
    (repeat (first | refine RO.Sv ?_ | refine RO.Yv ?_ | refine RO.no rfl (by decide) rfl ?_ | refine RO.nil ?_ | refine DW.region ?_ | refine DW.seq ?_ | refine DW.block ?_ | refine DW.skip ?_ | refine DW.exit ?_ | refine DW.condT rfl ?_ | refine DW.condF rfl ?_))
    cases h3 : (cmpM r.order a b == 0)
    case true =>
      rw [if_pos (.inr (by simpa using h3))]
      (repeat (first | refine RO.Sv ?_ | refine RO.Yv ?_ | refine RO.no rfl (by decide) rfl ?_ | refine RO.nil ?_ | refine DW.region ?_ | refine DW.seq ?_ | refine DW.block ?_ | refine DW.skip ?_ | refine DW.exit ?_ | refine DW.condT rfl ?_ | refine DW.condF rfl ?_))
      exact DW.ret ⟨.inl rfl, _, rfl, Over.refl _, .same _⟩
    rw [if_neg (by simp at h2 h3; simp [h2, h3])]
    (repeat (first | refine RO.Sv ?_ | refine RO.Yv ?_ | refine RO.no rfl (by decide) rfl ?_ | refine RO.nil ?_ | refine DW.region ?_ | refine DW.seq ?_ | refine DW.block ?_ | refine DW.skip ?_ | refine DW.exit ?_ | refine DW.condT rfl ?_ | refine DW.condF rfl ?_))
    refine RO.sta (sta_call rfl rfl (More_pure r ha hb hab _)) rfl ?_
    (repeat (first | refine RO.Sv ?_ | refine RO.Yv ?_ | refine RO.no rfl (by decide) rfl ?_ | refine RO.nil ?_ | refine DW.region ?_ | refine DW.seq ?_ | refine DW.block ?_ | refine DW.skip ?_ | refine DW.exit ?_ | refine DW.condT rfl ?_ | refine DW.condF rfl ?_))
    exact DW.ret ⟨.inl rfl, _, rfl, Over.refl _, .same _⟩
  (repeat (first | refine RO.Sv ?_ | refine RO.Yv ?_ | refine RO.no rfl (by decide) rfl ?_ | refine RO.nil ?_ | refine DW.region ?_ | refine DW.seq ?_ | refine DW.block ?_ | refine DW.skip ?_ | refine DW.exit ?_ | refine DW.condT rfl ?_ | refine DW.condF rfl ?_))
  refine RO.sta (sta_call rfl rfl (SameInts_pure a b (by omega) _)) rfl ?_
  rw [hsame]
  (repeat (first | refine RO.Sv ?_ | refine RO.Yv ?_ | refine RO.no rfl (by decide) rfl ?_ | refine RO.nil ?_ | refine DW.region ?_ | refine DW.seq ?_ | refine DW.block ?_ | refine DW.skip ?_ | refine DW.exit ?_ | refine DW.condT rfl ?_ | refine DW.condF rfl ?_))
  cases h3 : (cmpM r.order a b == 0)
  case true =>
    rw [if_pos (.inr (by simpa using h3))]
    (repeat (first | refine RO.Sv ?_ | refine RO.Yv ?_ | refine RO.no rfl (by decide) rfl ?_ | refine RO.nil ?_ | refine DW.region ?_ | refine DW.seq ?_ | refine DW.block ?_ | refine DW.skip ?_ | refine DW.exit ?_ | refine DW.condT rfl ?_ | refine DW.condF rfl ?_))
    exact DW.ret ⟨.inl rfl, _, rfl, Over.refl _, .same _⟩
  rw [if_neg (by simp at h1 h3; simp [h1, h3])]
  (repeat (first | refine RO.Sv ?_ | refine RO.Yv ?_ | refine RO.no rfl (by decide) rfl ?_ | refine RO.nil ?_ | refine DW.region ?_ | refine DW.seq ?_ | refine DW.block ?_ | refine DW.skip ?_ | refine DW.exit ?_ | refine DW.condT rfl ?_ | refine DW.condF rfl ?_))
  refine RO.sta (sta_call rfl rfl (More_pure r ha hb hab _)) rfl ?_
  (repeat (first | refine RO.Sv ?_ | refine RO.Yv ?_ | refine RO.no rfl (by decide) rfl ?_ | refine RO.nil ?_ | refine DW.region ?_ | refine DW.seq ?_ | refine DW.block ?_ | refine DW.skip ?_ | refine DW.exit ?_ | refine DW.condT rfl ?_ | refine DW.condF rfl ?_))
  exact DW.ret ⟨.inl rfl, _, rfl, Over.refl _, .same _⟩

def leadD (x : Option (Nat × Tm)) : D := .tup [I (atOf x), tmD (tmOf x)]

def tmCells : Option (Nat × Tm) → List D
  | none => [I 0, .nil]
  | some x => [I x.2.c, intsD x.2.e]

theorem frz_tm0 {H H' : Heap} : Frz H H' (.agg [I 0, .nil]) (tmD ⟨0, []⟩) := .agg rfl fun j x y hx hy => by
  match j, hx, hy with
  | 0, hx, hy => cases hx; cases hy; exact .same _
  | 1, hx, hy => cases hx; cases hy; exact .nil 1
  | j + 2, hx, hy => simp at hx

theorem frz_tmCells {H H' : Heap} (x : Option (Nat × Tm)) : Frz H H' (.agg (tmCells x)) (tmD (tmOf x)) := by
  cases x with
  | none => exact frz_tm0
  | some x => exact .same _

theorem tmCells_len (x : Option (Nat × Tm)) : (tmCells x).length = 2 := by cases x <;> rfl

theorem vTop_pure (r : Rg) (v : Vc) {n : Nat} {B : Int} {L : Nat} (hn : n ≤ 3) (hB : B ≤ 1000000) (hl : v.length ≤ 1000000) (hv : VB r n B L v) : Pure Try.prog 57 [rgD r, vcD v] (leadD (topV r v)) := by
  intro H
  refine PureH.of_bodyR Try.func57 rfl (by decide) (Nat.le_of_ble_eq_true rfl) fun w0 => ?_
  (repeat (first | refine RO.Sv ?_ | refine RO.Yv ?_ | refine RO.no rfl (by decide) rfl ?_ | refine RO.nil ?_ | refine DW.region ?_ | refine DW.seq ?_ | refine DW.block ?_ | refine DW.skip ?_ | refine DW.exit ?_ | refine DW.condT rfl ?_ | refine DW.condF rfl ?_))
  refine RO.dyn rfl (d_alloc fun b5 hb5 => ?_)
  (repeat (first | refine RO.Sv ?_ | refine RO.Yv ?_ | refine RO.no rfl (by decide) rfl ?_ | refine RO.nil ?_ | refine DW.region ?_ | refine DW.seq ?_ | refine DW.block ?_ | refine DW.skip ?_ | refine DW.exit ?_ | refine DW.condT rfl ?_ | refine DW.condF rfl ?_))
  refine DW.loopI (fun k : Nat => k ≤ v.length) (fun k => [(1, vcD v), (2, .ipt 4 [rgD r] 0 0), (5, .ptr b5 0), (6, I (atOf (topAt r v k))), (9, vcD v), (10, I v.length), (11, I k)]) (fun _ => H.set b5 (47, [I 0, .nil])) (fun k => v.length - k) 0 (Nat.zero_le _) rfl ⟨rfl, rfl, rfl, rfl, rfl, rfl, rfl, trivial⟩ fun k hk => ?_
  have hok := fun (i : Nat) (hi : i < v.length) (h0 : 0 < v[i].length) => (hv _ (List.getElem_mem hi)).1.all _ (List.getElem_mem h0)
  (repeat (first | refine RO.Sv ?_ | refine RO.Yv ?_ | refine RO.no rfl (by decide) rfl ?_ | refine RO.nil ?_ | refine DW.region ?_ | refine DW.seq ?_ | refine DW.block ?_ | refine DW.skip ?_ | refine DW.exit ?_ | refine DW.condT rfl ?_ | refine DW.condF rfl ?_))
  refine DW.cond rfl (fun hb => ?_) (fun hb => ?_)
  · have hlt : k < v.length := by have := of_decide_eq_true hb; omega
    clear hb
    have hsucc := topAt_succ (r := r) hlt
    (repeat (first | refine RO.Sv ?_ | refine RO.Yv ?_ | refine RO.no rfl (by decide) rfl ?_ | refine RO.nil ?_ | refine DW.region ?_ | refine DW.seq ?_ | refine DW.block ?_ | refine DW.skip ?_ | refine DW.exit ?_ | refine DW.condT rfl ?_ | refine DW.condF rfl ?_))
    refine DW.drawS 24 Try.mixed (by kernel_rfl) (by decide) ?_
    dsimp only [List.take, List.drop]
    (repeat (first | refine RS.Sv ?_ | refine RS.Yv ?_ | refine RS.no rfl (by decide) rfl ?_ | refine RS.nil ?_))
    cases h1 : decide ((0 : Int) < (v[k].length : Int))
    case false =>
      have hnil : v[k] = [] := List.length_eq_zero_iff.1 (by have := of_decide_eq_false h1; omega)
      rw [hnil] at hsucc
      (repeat (first | refine RS.Sv ?_ | refine RS.Yv ?_ | refine RS.no rfl (by decide) rfl ?_ | refine RS.nil ?_))
      (repeat (first | refine RO.Sv ?_ | refine RO.Yv ?_ | refine RO.no rfl (by decide) rfl ?_ | refine RO.nil ?_ | refine DW.region ?_ | refine DW.seq ?_ | refine DW.block ?_ | refine DW.skip ?_ | refine DW.exit ?_ | refine DW.condT rfl ?_ | refine DW.condF rfl ?_))
      exact ⟨k + 1, hlt, by dsimp only; omega, rfl, rfl, rfl, rfl, by rw [hsucc]; rfl, rfl, rfl, rfl, trivial⟩
    have hlk : 0 < v[k].length := by have := of_decide_eq_true h1; omega
    have ht := hok k hlt hlk
    obtain ⟨t, g, hvk⟩ : ∃ t g, v[k] = t :: g := by
      cases hc : v[k] with
      | nil => rw [hc] at hlk; simp at hlk
      | cons t g => exact ⟨t, g, rfl⟩
    have hvk0 : v[k][0] = t := by simp [hvk]
    cases hx : topAt r v k with
    | none =>
      rw [hx, hvk] at hsucc
      (repeat (first | refine RS.Sv ?_ | refine RS.Yv ?_ | refine RS.no rfl (by decide) rfl ?_ | refine RS.nil ?_))
      (repeat (first | refine RO.Sv ?_ | refine RO.Yv ?_ | refine RO.no rfl (by decide) rfl ?_ | refine RO.nil ?_ | refine DW.region ?_ | refine DW.seq ?_ | refine DW.block ?_ | refine DW.skip ?_ | refine DW.exit ?_ | refine DW.condT rfl ?_ | refine DW.condF rfl ?_))
      exact ⟨k + 1, hlt, by dsimp only; omega, rfl, rfl, rfl, rfl, by rw [hsucc]; rfl, rfl, rfl, rfl, trivial⟩
    | some x =>
      obtain ⟨a, u⟩ := x
      obtain ⟨hak, ha, ha2, hau⟩ := topAt_ok hk hx
      have hu := hok a ha ha2
      have hat : atOf (some (a, u)) = (a : Int) := rfl
      have hneg : decide ((a : Int) < 0) = false := decide_eq_false (by omega)
      rw [hx, hvk] at hsucc
      rw [hat]
      (repeat (first | refine RS.Sv ?_ | refine RS.Yv ?_ | refine RS.no rfl (by decide) rfl ?_ | refine RS.nil ?_))
      rw [hneg]
      (repeat (first | refine RS.Sv ?_ | refine RS.Yv ?_ | refine RS.no rfl (by decide) rfl ?_ | refine RS.nil ?_))
      refine RS.yes rfl (fun H' hov => sta_call rfl rfl (First_pure r k a (ht.mok hn hB) (hu.mok hn hB) (by rw [ht.len, hu.len]) _)) rfl ?_
      (repeat (first | refine RS.Sv ?_ | refine RS.Yv ?_ | refine RS.no rfl (by decide) rfl ?_ | refine RS.nil ?_))
      have hst : topStep r (some (a, u)) k (t :: g) = if firstT r k v[k][0].e a v[a][0].e = true then some (k, t) else some (a, u) := by rw [hvk0, hau]; rfl
      rw [hst] at hsucc
      cases h2 : firstT r k v[k][0].e a v[a][0].e
      · rw [h2, if_neg (by simp)] at hsucc
        (repeat (first | refine RO.Sv ?_ | refine RO.Yv ?_ | refine RO.no rfl (by decide) rfl ?_ | refine RO.nil ?_ | refine DW.region ?_ | refine DW.seq ?_ | refine DW.block ?_ | refine DW.skip ?_ | refine DW.exit ?_ | refine DW.condT rfl ?_ | refine DW.condF rfl ?_))
        exact ⟨k + 1, hlt, by dsimp only; omega, rfl, rfl, rfl, rfl, by rw [hsucc]; rfl, rfl, rfl, rfl, trivial⟩
      · rw [h2, if_pos rfl] at hsucc
        (repeat (first | refine RO.Sv ?_ | refine RO.Yv ?_ | refine RO.no rfl (by decide) rfl ?_ | refine RO.nil ?_ | refine DW.region ?_ | refine DW.seq ?_ | refine DW.block ?_ | refine DW.skip ?_ | refine DW.exit ?_ | refine DW.condT rfl ?_ | refine DW.condF rfl ?_))
        exact ⟨k + 1, hlt, by dsimp only; omega, rfl, rfl, rfl, rfl, by rw [hsucc]; rfl, rfl, rfl, rfl, trivial⟩
  · have hke : k = v.length := by have := of_decide_eq_false hb; omega
    subst hke
    clear hb
    show DW _ _ _ _ _
    have hov := (Over.refl H).set (x := (47, [I 0, .nil])) hb5
    unfold topV
    cases hx : topAt r v v.length with
    | none =>
      (repeat (first | refine RO.Sv ?_ | refine RO.Yv ?_ | refine RO.no rfl (by decide) rfl ?_ | refine RO.nil ?_ | refine DW.region ?_ | refine DW.seq ?_ | refine DW.block ?_ | refine DW.skip ?_ | refine DW.exit ?_ | refine DW.condT rfl ?_ | refine DW.condF rfl ?_))
      refine RO.sta (s_buildT (out := [I 0, .nil]) rfl rfl) rfl ?_
      (repeat (first | refine RO.Sv ?_ | refine RO.Yv ?_ | refine RO.no rfl (by decide) rfl ?_ | refine RO.nil ?_ | refine DW.region ?_ | refine DW.seq ?_ | refine DW.block ?_ | refine DW.skip ?_ | refine DW.exit ?_ | refine DW.condT rfl ?_ | refine DW.condF rfl ?_))
      refine RO.dyn rfl (d_store (k := 2) rfl rfl rfl (Heap.set_self _ _ _) (by decide) (by simp [cellsOf, D.isCell]) ?_)
      (repeat (first | refine RO.Sv ?_ | refine RO.Yv ?_ | refine RO.no rfl (by decide) rfl ?_ | refine RO.nil ?_ | refine DW.region ?_ | refine DW.seq ?_ | refine DW.block ?_ | refine DW.skip ?_ | refine DW.exit ?_ | refine DW.condT rfl ?_ | refine DW.condF rfl ?_))
      rw [Heap.set_set]
      exact DW.ret ⟨.inl rfl, _, .tmp rfl (.cell (cells := [I 0, .nil]) inferInstance rfl (Heap.set_self _ _ _) .nil), (Over.refl _).set hb5, .tup2 (.same _) frz_tm0⟩
    | some x =>
      obtain ⟨a, u⟩ := x
      obtain ⟨hak, ha, ha2, hau⟩ := topAt_ok hk hx
      have hat : atOf (some (a, u)) = (a : Int) := rfl
      have hneg : decide ((a : Int) < 0) = false := decide_eq_false (by omega)
      rw [hat]
      (repeat (first | refine RO.Sv ?_ | refine RO.Yv ?_ | refine RO.no rfl (by decide) rfl ?_ | refine RO.nil ?_ | refine DW.region ?_ | refine DW.seq ?_ | refine DW.block ?_ | refine DW.skip ?_ | refine DW.exit ?_ | refine DW.condT rfl ?_ | refine DW.condF rfl ?_))
      rw [hneg]
      (repeat (first | refine RO.Sv ?_ | refine RO.Yv ?_ | refine RO.no rfl (by decide) rfl ?_ | refine RO.nil ?_ | refine DW.region ?_ | refine DW.seq ?_ | refine DW.block ?_ | refine DW.skip ?_ | refine DW.exit ?_ | refine DW.condT rfl ?_ | refine DW.condF rfl ?_))
      refine DW.drawS 8 Try.mixed (by kernel_rfl) (by decide) ?_
      dsimp only [List.take, List.drop]
      (repeat (first | refine RS.Sv ?_ | refine RS.Yv ?_ | refine RS.no rfl (by decide) rfl ?_ | refine RS.nil ?_))
      refine RO.dyn rfl (d_storeTm rfl rfl (Heap.set_self _ _ _) rfl ?_)
      (repeat (first | refine RO.Sv ?_ | refine RO.Yv ?_ | refine RO.no rfl (by decide) rfl ?_ | refine RO.nil ?_ | refine DW.region ?_ | refine DW.seq ?_ | refine DW.block ?_ | refine DW.skip ?_ | refine DW.exit ?_ | refine DW.condT rfl ?_ | refine DW.condF rfl ?_))
      rw [Heap.set_set]
      refine DW.ret ⟨.inl rfl, _, .tmp rfl (.cell (cells := [I v[a][0].c, intsD v[a][0].e]) inferInstance rfl (Heap.set_self _ _ _) .nil), (Over.refl _).set hb5, .tup2 (.same _) ?_⟩
      rw [hau]
      exact .same _

end Go.Proofs.Ytblileclefbklaa
