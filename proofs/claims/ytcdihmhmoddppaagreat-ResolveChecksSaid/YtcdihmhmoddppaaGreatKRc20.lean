/-
  Package poly: By, Sum, Product. No condition.
-/
import Derived.Test.YtcdihmhmoddppaaGreatKRc19
import Derived.Test.YtcdihmhmoddppaaGreatKRc9

namespace Go.Proofs.YtcdihmhmoddppaaGreat
open Go.RowKit
set_option linter.unusedVariables false
set_option linter.unusedSimpArgs false
set_option maxHeartbeats 8000000

instance : BuildT Tryz.prog 50 [I 0, .nil] #[(0, 1), (1, 1)] := .of (by kernel_rfl) Tryz.underlying50 (by kernel_rfl) rfl
instance : SizeT Tryz.prog 50 2 := .of (by kernel_rfl)

theorem clone_pure (l : List Int) (hl : l.length ≤ 1000000) : Pure Tryz.prog 101 [intsD l] (intsD l) := by
  intro H
  refine PureH.of_body Tryz.func101 rfl (by decide) (Nat.le_of_ble_eq_true rfl) fun w0 => ?_
  (repeat (first | refine RO.S ?_ | refine RO.Y ?_ | refine RO.no rfl (by decide) rfl ?_ | refine RO.nil ?_ | refine DW.region ?_ | refine DW.seq ?_ | refine DW.block ?_ | refine DW.skip ?_ | refine DW.exit ?_ | refine DW.condT rfl ?_ | refine DW.condF rfl ?_))
  refine RO.dyn rfl (d_eqNil rfl fun b hb => ?_)
  (repeat (first | refine RO.S ?_ | refine RO.Y ?_ | refine RO.no rfl (by decide) rfl ?_ | refine RO.nil ?_ | refine DW.region ?_ | refine DW.seq ?_ | refine DW.block ?_ | refine DW.skip ?_ | refine DW.exit ?_ | refine DW.condT rfl ?_ | refine DW.condF rfl ?_))
  refine DW.cond rfl (fun hbt => ?_) (fun hbt => ?_)
  · have hnil : l = [] := by
      cases l with
      | nil => rfl
      | cons x l => rw [hb (by simp)] at hbt; cases hbt
    subst hnil
    (repeat (first | refine RO.S ?_ | refine RO.Y ?_ | refine RO.no rfl (by decide) rfl ?_ | refine RO.nil ?_ | refine DW.region ?_ | refine DW.seq ?_ | refine DW.block ?_ | refine DW.skip ?_ | refine DW.exit ?_ | refine DW.condT rfl ?_ | refine DW.condF rfl ?_))
    exact DW.ret ⟨.inl rfl, _, rfl, Over.refl _, .nil 1⟩
  · (repeat (first | refine RO.S ?_ | refine RO.Y ?_ | refine RO.no rfl (by decide) rfl ?_ | refine RO.nil ?_ | refine DW.region ?_ | refine DW.seq ?_ | refine DW.block ?_ | refine DW.skip ?_ | refine DW.exit ?_ | refine DW.condT rfl ?_ | refine DW.condF rfl ?_))
    refine RO.sta (s_appendNil (xs := l.map I) rfl rfl (.inl rfl) (uni_I _) (by simp; omega) (by simp; omega)) rfl ?_
    (repeat (first | refine RO.S ?_ | refine RO.Y ?_ | refine RO.no rfl (by decide) rfl ?_ | refine RO.nil ?_ | refine DW.region ?_ | refine DW.seq ?_ | refine DW.block ?_ | refine DW.skip ?_ | refine DW.exit ?_ | refine DW.condT rfl ?_ | refine DW.condF rfl ?_))
    exact DW.ret ⟨.inl rfl, _, rfl, Over.refl _, .same _⟩

theorem copied_pure (f : Pl) (hl : f.length ≤ 4000000000000) (hm : ∀ t ∈ f, t.e.length ≤ 3) : Pure Tryz.prog 99 [plD f] (plD f) := by
  intro H
  refine PureH.of_body Tryz.func99 rfl (by decide) (Nat.le_of_ble_eq_true rfl) fun w0 => ?_
  (repeat (first | refine RO.S ?_ | refine RO.Y ?_ | refine RO.no rfl (by decide) rfl ?_ | refine RO.nil ?_ | refine DW.region ?_ | refine DW.seq ?_ | refine DW.block ?_ | refine DW.skip ?_ | refine DW.exit ?_ | refine DW.condT rfl ?_ | refine DW.condF rfl ?_))
  refine DW.loopI (fun x : Nat × Heap × D => x.1 ≤ f.length ∧ Acc H x.2.1 x.2.2 2 50 ((f.take x.1).map tmD) ∧ Over H x.2.1) (fun x => [(3, x.2.2), (6, plD f), (7, I f.length), (8, I x.1)]) (fun x => x.2.1) (fun x => f.length - x.1) (0, H, .nil)
    ⟨Nat.zero_le _, Acc.nil _ _ _ _, Over.refl _⟩ rfl ⟨rfl, rfl, rfl, rfl, trivial⟩ fun ⟨k, Hk, d⟩ ⟨hk, hacc, hov⟩ => ?_
  dsimp only at hk hacc hov
  dsimp only
  (repeat (first | refine RO.Sv ?_ | refine RO.Yv ?_ | refine RO.no rfl (by decide) rfl ?_ | refine RO.nil ?_ | refine DW.region ?_ | refine DW.seq ?_ | refine DW.block ?_ | refine DW.skip ?_ | refine DW.exit ?_ | refine DW.condT rfl ?_ | refine DW.condF rfl ?_))
  refine DW.cond rfl (fun hb => ?_) (fun hb => ?_)
  · have hlt : k < f.length := by have := of_decide_eq_true hb; omega
    clear hb
    (repeat (first | refine RO.Sv ?_ | refine RO.Yv ?_ | refine RO.no rfl (by decide) rfl ?_ | refine RO.nil ?_ | refine DW.region ?_ | refine DW.seq ?_ | refine DW.block ?_ | refine DW.skip ?_ | refine DW.exit ?_ | refine DW.condT rfl ?_ | refine DW.condF rfl ?_))
    (refine RO.dyn rfl (d_alloc fun bv hbv => ?_); (repeat (first | refine RO.Sv ?_ | refine RO.Yv ?_ | refine RO.no rfl (by decide) rfl ?_)); refine RO.dyn rfl (d_storeTm rfl rfl (Heap.set_self _ _ _) rfl ?_); rw [Heap.set_set])
    (repeat (first | refine RO.Sv ?_ | refine RO.Yv ?_ | refine RO.no rfl (by decide) rfl ?_ | refine RO.nil ?_ | refine DW.region ?_ | refine DW.seq ?_ | refine DW.block ?_ | refine DW.skip ?_ | refine DW.exit ?_ | refine DW.condT rfl ?_ | refine DW.condF rfl ?_))
    have hov2 := hov.set (x := (50, [I f[k].c, intsD f[k].e])) (hov.none hbv)
    refine DW.drawS 8 Tryz.mixed (by kernel_rfl) (by decide) ?_
    dsimp only [List.take, List.drop]
    (repeat (first | refine RS.Sv ?_ | refine RS.Yv ?_ | refine RS.no rfl (by decide) rfl ?_ | refine RS.nil ?_))
    refine RS.sta (fun H' hov => sta_call rfl rfl (clone_pure f[k].e (by have := hm _ (List.getElem_mem hlt); omega) _)) rfl ?_
    refine RS.sta (fun H' hov => s_buildT (out := [I f[k].c, intsD f[k].e]) rfl rfl) rfl ?_
    (repeat (first | refine RS.Sv ?_ | refine RS.Yv ?_ | refine RS.no rfl (by decide) rfl ?_ | refine RS.nil ?_))
    refine RO.dyn rfl (d_append (H0 := H) (xs := [tmD f[k]]) rfl (hacc.over' (Over.set (Over.refl _) hbv)) hov2 rfl (.inl rfl) (uni_tm [f[k]]) (by simp; omega) (by simp; omega) fun d' H' q1 q2 q3 => ?_)
    (repeat (first | refine RO.Sv ?_ | refine RO.Yv ?_ | refine RO.no rfl (by decide) rfl ?_ | refine RO.nil ?_ | refine DW.region ?_ | refine DW.seq ?_ | refine DW.block ?_ | refine DW.skip ?_ | refine DW.exit ?_ | refine DW.condT rfl ?_ | refine DW.condF rfl ?_))
    refine ⟨(k + 1, H', d'), ⟨hlt, ?_, q2⟩, by dsimp only; omega, rfl, rfl, rfl, rfl, rfl, trivial⟩
    dsimp only
    rw [List.take_succ_eq_append_getElem hlt, List.map_append]
    exact q1
  · have hke : k = f.length := by have := of_decide_eq_false hb; omega
    rw [hke, List.take_length] at hacc
    (repeat (first | refine RO.Sv ?_ | refine RO.Yv ?_ | refine RO.no rfl (by decide) rfl ?_ | refine RO.nil ?_ | refine DW.region ?_ | refine DW.seq ?_ | refine DW.block ?_ | refine DW.skip ?_ | refine DW.exit ?_ | refine DW.condT rfl ?_ | refine DW.condF rfl ?_))
    exact DW.ret ⟨.inl rfl, _, rfl, hov, hacc.done⟩

theorem top_pure (f : Pl) (hl : f.length ≤ 4000000000000) (hm : ∀ t ∈ f, MOk t.e) : Pure Tryz.prog 17 [plD f] (I (topT f)) := by
  intro H
  refine PureH.of_body Tryz.func17 rfl (by decide) (Nat.le_of_ble_eq_true rfl) fun w0 => ?_
  (repeat (first | refine RO.Sv ?_ | refine RO.Yv ?_ | refine RO.no rfl (by decide) rfl ?_ | refine RO.nil ?_ | refine DW.region ?_ | refine DW.seq ?_ | refine DW.block ?_ | refine DW.skip ?_ | refine DW.exit ?_ | refine DW.condT rfl ?_ | refine DW.condF rfl ?_))
  cases f with
  | nil =>
    (repeat (first | refine RO.Sv ?_ | refine RO.Yv ?_ | refine RO.no rfl (by decide) rfl ?_ | refine RO.nil ?_ | refine DW.region ?_ | refine DW.seq ?_ | refine DW.block ?_ | refine DW.skip ?_ | refine DW.exit ?_ | refine DW.condT rfl ?_ | refine DW.condF rfl ?_))
    exact DW.ret ⟨.inl rfl, _, rfl, Over.refl _, .same _⟩
  | cons t f =>
    have h0 : 0 < (t :: f).length := by simp
    rw [show (((t :: f).length : Int) == 0) = false by rw [beq_eq_false_iff_ne]; simp; omega]
    (repeat (first | refine RO.Sv ?_ | refine RO.Yv ?_ | refine RO.no rfl (by decide) rfl ?_ | refine RO.nil ?_ | refine DW.region ?_ | refine DW.seq ?_ | refine DW.block ?_ | refine DW.skip ?_ | refine DW.exit ?_ | refine DW.condT rfl ?_ | refine DW.condF rfl ?_))
    refine RO.sta (sta_call rfl rfl (Degree_pure (hm t (by simp)) _)) rfl ?_
    (repeat (first | refine RO.Sv ?_ | refine RO.Yv ?_ | refine RO.no rfl (by decide) rfl ?_ | refine RO.nil ?_ | refine DW.region ?_ | refine DW.seq ?_ | refine DW.block ?_ | refine DW.skip ?_ | refine DW.exit ?_ | refine DW.condT rfl ?_ | refine DW.condF rfl ?_))
    exact DW.ret ⟨.inl rfl, _, rfl, Over.refl _, .same _⟩

def plE (x : Pl × Int) : D := .tup [plD x.1, I x.2]

theorem TopOf_pure (f : Pl) (hl : f.length ≤ 4000000000000) (hm : ∀ t ∈ f, MOk t.e) (ht : ∀ t ∈ f, t.e.sum ≤ topT f) : Pure Tryz.prog 7 [plD f] (I (topT f)) := by
  intro H
  refine PureH.of_body Tryz.func7 rfl (by decide) (Nat.le_of_ble_eq_true rfl) fun w0 => ?_
  (repeat (first | refine RO.Sv ?_ | refine RO.Yv ?_ | refine RO.no rfl (by decide) rfl ?_ | refine RO.nil ?_ | refine DW.region ?_ | refine DW.seq ?_ | refine DW.block ?_ | refine DW.skip ?_ | refine DW.exit ?_ | refine DW.condT rfl ?_ | refine DW.condF rfl ?_))
  refine DW.loopI (fun x : Nat × Int => x.1 ≤ f.length ∧ (x.1 = 0 → x.2 = -1) ∧ (x.1 ≠ 0 → x.2 = topT f)) (fun x => [(0, plD f), (3, I x.2), (4, I x.1)]) (fun _ => H) (fun x => f.length - x.1) (0, -1) ⟨Nat.zero_le _, fun _ => rfl, fun h => absurd rfl h⟩ rfl ⟨rfl, rfl, rfl, trivial⟩ fun ⟨k, out⟩ ⟨hk, h0, h1⟩ => ?_
  dsimp only at hk h0 h1
  dsimp only
  (repeat (first | refine RO.Sv ?_ | refine RO.Yv ?_ | refine RO.no rfl (by decide) rfl ?_ | refine RO.nil ?_ | refine DW.region ?_ | refine DW.seq ?_ | refine DW.block ?_ | refine DW.skip ?_ | refine DW.exit ?_ | refine DW.condT rfl ?_ | refine DW.condF rfl ?_))
  refine DW.cond rfl (fun hb => ?_) (fun hb => ?_)
  · have hlt : k < f.length := by have := of_decide_eq_true hb; omega
    have hmk := hm _ (List.getElem_mem hlt)
    have hs := hmk.sum
    have htk := ht _ (List.getElem_mem hlt)
    clear hb
    (repeat (first | refine RO.Sv ?_ | refine RO.Yv ?_ | refine RO.no rfl (by decide) rfl ?_ | refine RO.nil ?_ | refine DW.region ?_ | refine DW.seq ?_ | refine DW.block ?_ | refine DW.skip ?_ | refine DW.exit ?_ | refine DW.condT rfl ?_ | refine DW.condF rfl ?_))
    refine RO.sta (sta_call rfl rfl (DegreeOf_pure hmk _)) rfl ?_
    (repeat (first | refine RO.Sv ?_ | refine RO.Yv ?_ | refine RO.no rfl (by decide) rfl ?_ | refine RO.nil ?_ | refine DW.region ?_ | refine DW.seq ?_ | refine DW.block ?_ | refine DW.skip ?_ | refine DW.exit ?_ | refine DW.condT rfl ?_ | refine DW.condF rfl ?_))
    by_cases hk0 : k = 0
    · subst hk0
      have ho : out = -1 := h0 rfl
      have hf0 : f[0].e.sum = topT f := by
        cases f with
        | nil => simp at hlt
        | cons t f => rfl
      rw [show decide (out < f[0].e.sum) = true from decide_eq_true (by omega)]
      (repeat (first | refine RO.Sv ?_ | refine RO.Yv ?_ | refine RO.no rfl (by decide) rfl ?_ | refine RO.nil ?_ | refine DW.region ?_ | refine DW.seq ?_ | refine DW.block ?_ | refine DW.skip ?_ | refine DW.exit ?_ | refine DW.condT rfl ?_ | refine DW.condF rfl ?_))
      refine RO.sta (sta_call rfl rfl (DegreeOf_pure hmk _)) rfl ?_
      (repeat (first | refine RO.Sv ?_ | refine RO.Yv ?_ | refine RO.no rfl (by decide) rfl ?_ | refine RO.nil ?_ | refine DW.region ?_ | refine DW.seq ?_ | refine DW.block ?_ | refine DW.skip ?_ | refine DW.exit ?_ | refine DW.condT rfl ?_ | refine DW.condF rfl ?_))
      exact ⟨(1, f[0].e.sum), ⟨hlt, fun h => by simp at h, fun _ => hf0⟩, by dsimp only; omega, rfl, rfl, rfl, rfl, trivial⟩
    · have ho := h1 hk0
      rw [show decide (out < f[k].e.sum) = false from decide_eq_false (by omega)]
      (repeat (first | refine RO.Sv ?_ | refine RO.Yv ?_ | refine RO.no rfl (by decide) rfl ?_ | refine RO.nil ?_ | refine DW.region ?_ | refine DW.seq ?_ | refine DW.block ?_ | refine DW.skip ?_ | refine DW.exit ?_ | refine DW.condT rfl ?_ | refine DW.condF rfl ?_))
      exact ⟨(k + 1, out), ⟨hlt, fun h => by simp at h, fun _ => ho⟩, by dsimp only; omega, rfl, rfl, rfl, rfl, trivial⟩
  · have hke : k = f.length := by have := of_decide_eq_false hb; omega
    have ho : out = topT f := by
      by_cases hk0 : k = 0
      · have : f = [] := List.eq_nil_of_length_eq_zero (by omega)
        rw [h0 hk0, this]; rfl
      · exact h1 hk0
    rw [← ho]
    (repeat (first | refine RO.Sv ?_ | refine RO.Yv ?_ | refine RO.no rfl (by decide) rfl ?_ | refine RO.nil ?_ | refine DW.region ?_ | refine DW.seq ?_ | refine DW.block ?_ | refine DW.skip ?_ | refine DW.exit ?_ | refine DW.condT rfl ?_ | refine DW.condF rfl ?_))
    exact DW.ret ⟨.inl rfl, _, rfl, Over.refl _, .same _⟩

end Go.Proofs.YtcdihmhmoddppaaGreat

namespace Go.Proofs.YtcdihmhmoddppaaGreat
open Go.RowKit
set_option linter.unusedVariables false
set_option linter.unusedSimpArgs false
set_option maxHeartbeats 8000000

theorem by_pure (r : Rg) (f : Pl) (t : Tm) {n : Nat} {B C : Int} (hn : n ≤ 3) (hB : B ≤ 1000000) (hC : C ≤ 1000000) (hp : 2 ≤ r.p ∧ r.p ≤ 101) (hl : f.length ≤ 4000000000000) (hf : ∀ x ∈ f, TB 0 r.p n B x) (ht : TB 0 r.p n C t) :
    Pure Tryz.prog 109 [rgD r, plD f, tmD t] (plD (byT r.p f t)) := by
  intro H
  have htc := ht.lo
  have htc2 := ht.hi
  refine PureH.of_body Tryz.func109 rfl (by decide) (Nat.le_of_ble_eq_true rfl) fun w0 => ?_
  (repeat (first | refine RO.Sv ?_ | refine RO.Yv ?_ | refine RO.no rfl (by decide) rfl ?_ | refine RO.nil ?_ | refine DW.region ?_ | refine DW.seq ?_ | refine DW.block ?_ | refine DW.skip ?_ | refine DW.exit ?_ | refine DW.condT rfl ?_ | refine DW.condF rfl ?_))
  (repeat (first | refine RO.Sv ?_ | refine RO.Yv ?_ | refine RO.no rfl (by decide) rfl ?_ | refine RO.nil ?_ | refine DW.region ?_ | refine DW.seq ?_ | refine DW.block ?_ | refine DW.skip ?_ | refine DW.exit ?_ | refine DW.condT rfl ?_ | refine DW.condF rfl ?_))
  by_cases hz : t.c = 0
  · have : byT r.p f t = [] := by unfold byT; rw [if_pos hz]
    rw [this, show (t.c == 0) = true by rw [hz]; rfl]
    (repeat (first | refine RO.Sv ?_ | refine RO.Yv ?_ | refine RO.no rfl (by decide) rfl ?_ | refine RO.nil ?_ | refine DW.region ?_ | refine DW.seq ?_ | refine DW.block ?_ | refine DW.skip ?_ | refine DW.exit ?_ | refine DW.condT rfl ?_ | refine DW.condF rfl ?_))
    exact DW.ret ⟨.inl rfl, _, rfl, Over.refl _, .nil _⟩
  have hby : byT r.p f t = f.map fun x => ⟨x.c * t.c % r.p, zipE (· + ·) x.e t.e⟩ := by unfold byT; rw [if_neg hz]
  have hbl : (byT r.p f t).length = f.length := by rw [hby, List.length_map]
  rw [show (t.c == 0) = false from beq_eq_false_iff_ne.2 hz]
  (repeat (first | refine RO.Sv ?_ | refine RO.Yv ?_ | refine RO.no rfl (by decide) rfl ?_ | refine RO.nil ?_ | refine DW.region ?_ | refine DW.seq ?_ | refine DW.block ?_ | refine DW.skip ?_ | refine DW.exit ?_ | refine DW.condT rfl ?_ | refine DW.condF rfl ?_))
  refine RO.dyn rfl (d_make rfl rfl (Nat.le_refl _) (by omega) (by omega) fun b hb0 => ?_)
  (repeat (first | refine RO.Sv ?_ | refine RO.Yv ?_ | refine RO.no rfl (by decide) rfl ?_ | refine RO.nil ?_ | refine DW.region ?_ | refine DW.seq ?_ | refine DW.block ?_ | refine DW.skip ?_ | refine DW.exit ?_ | refine DW.condT rfl ?_ | refine DW.condF rfl ?_))
  refine DW.loopG (fun k : Nat => k ≤ f.length) (fun k => [(3, .ipt 4 [rgD r] 0 0), (5, .ipt 2 [tmD t] 0 0), (7, .ref b 0 f.length 2), (16, plD f), (17, I f.length), (18, I k)]) (fun k => H.set b (50, (rowTo ((byT r.p f t).map tmD) (.agg [I 0, .nil]) k).flatMap cellsOf)) (fun k => f.length - k) 0 (Nat.zero_le _)
    ?_ (.one rfl (.one rfl (.one rfl (.one rfl (.one rfl (.one rfl trivial)))))) fun k hk => ?_
  · have : (List.replicate f.length [I 0, D.nil]).flatten = (rowTo ((byT r.p f t).map tmD) (.agg [I 0, .nil]) 0).flatMap cellsOf := by
      rw [rowTo_zero, List.length_map, hbl, List.flatMap_def, List.map_replicate]
      rfl
    rw [this]
    exact Heap.sub_refl _
  (repeat (first | refine RO.Sv ?_ | refine RO.Yv ?_ | refine RO.no rfl (by decide) rfl ?_ | refine RO.nil ?_ | refine DW.region ?_ | refine DW.seq ?_ | refine DW.block ?_ | refine DW.skip ?_ | refine DW.exit ?_ | refine DW.condT rfl ?_ | refine DW.condF rfl ?_))
  refine DW.cond rfl (fun hb => ?_) (fun hb => ?_)
  · have hlt : k < f.length := by have := of_decide_eq_true hb; omega
    clear hb
    have hx := hf _ (List.getElem_mem hlt)
    have hxc := hx.lo
    have hxc2 := hx.hi
    have hm0 : 0 ≤ f[k].c * t.c := Int.mul_nonneg (by omega) (by omega)
    have hm1 : f[k].c * t.c ≤ 101 * 101 := Int.mul_le_mul (by omega) (by omega) (by omega) (by omega)
    have hget : (byT r.p f t)[k]'(by omega) = ⟨f[k].c * t.c % r.p, zipE (· + ·) f[k].e t.e⟩ := by simp [hby]
    (repeat (first | refine RO.Sv ?_ | refine RO.Yv ?_ | refine RO.no rfl (by decide) rfl ?_ | refine RO.nil ?_ | refine DW.region ?_ | refine DW.seq ?_ | refine DW.block ?_ | refine DW.skip ?_ | refine DW.exit ?_ | refine DW.condT rfl ?_ | refine DW.condF rfl ?_))
    (refine RO.dyn rfl (d_alloc fun bv hbv => ?_); (repeat (first | refine RO.Sv ?_ | refine RO.Yv ?_ | refine RO.no rfl (by decide) rfl ?_)); refine RO.dyn rfl (d_storeTm rfl rfl (Heap.set_self _ _ _) rfl ?_); rw [Heap.set_set])
    (repeat (first | refine RO.Sv ?_ | refine RO.Yv ?_ | refine RO.no rfl (by decide) rfl ?_ | refine RO.nil ?_ | refine DW.region ?_ | refine DW.seq ?_ | refine DW.block ?_ | refine DW.skip ?_ | refine DW.exit ?_ | refine DW.condT rfl ?_ | refine DW.condF rfl ?_))
    have hbne : b ≠ bv := fun e => by rw [← e, Heap.set_self] at hbv; cases hbv
    refine DW.drawS 17 Tryz.mixed (by kernel_rfl) (by decide) ?_
    dsimp only [List.take, List.drop]
    (repeat (first | refine RS.Sv ?_ | refine RS.Yv ?_ | refine RS.no rfl (by decide) rfl ?_ | refine RS.nil ?_))
    refine RS.sta (fun H' hov => sta_call rfl rfl (Product_pure (hx.mok hn hB) (ht.mok hn hC) (by rw [hx.len, ht.len]) _)) rfl ?_
    refine RS.sta (fun H' hov => s_buildT (out := [I (f[k].c * t.c % r.p), intsD (zipE (· + ·) f[k].e t.e)]) rfl rfl) rfl ?_
    refine RS.sta (fun H' hov => s_ix2 (i := k) rfl rfl rfl hlt) rfl ?_
    (repeat (first | refine RS.Sv ?_ | refine RS.Yv ?_ | refine RS.no rfl (by decide) rfl ?_ | refine RS.nil ?_))
    refine RO.dyn rfl (d_store (k := 2) rfl rfl rfl (by rw [Heap.set_other _ _ hbne, Heap.set_self]) ?_ (fun z hz => by
      have hz' : z ∈ [I (f[k].c * t.c % r.p), intsD (zipE (· + ·) f[k].e t.e)] := hz
      simp at hz'
      rcases hz' with rfl | rfl <;> rfl) ?_)
    · rw [show (rowTo ((byT r.p f t).map tmD) (.agg [I 0, .nil]) k).flatMap cellsOf = (rowTo ((byT r.p f t).map tmD) (.agg [I 0, .nil]) k).flatMap cellsOf from rfl]
      have hu : Uni 2 (rowTo ((byT r.p f t).map tmD) (.agg [I 0, .nil]) k) := fun d hd => by
        unfold rowTo at hd
        rcases List.mem_append.1 hd with h | h
        · obtain ⟨y, _, rfl⟩ := List.mem_map.1 (List.mem_of_mem_take h)
          exact ⟨rfl, fun x hx => by simp [tmD, cellsOf] at hx; rcases hx with rfl | rfl <;> rfl⟩
        · rw [List.eq_of_mem_replicate h]
          exact ⟨rfl, fun x hx => by simp [cellsOf] at hx; rcases hx with rfl | rfl <;> rfl⟩
      rw [hu.length, rowTo_len _ _ (by simp; omega)]
      simp [cellsOf]
      omega
    have hel : ∀ d ∈ rowTo ((byT r.p f t).map tmD) (.agg [I 0, .nil]) k, (cellsOf d).length = 2 := fun d hd => by
      unfold rowTo at hd
      rcases List.mem_append.1 hd with h | h
      · obtain ⟨y, _, rfl⟩ := List.mem_map.1 (List.mem_of_mem_take h)
        rfl
      · rw [List.eq_of_mem_replicate h]; rfl
    rw [flat_set (k := 2) (by omega) hel (i := k) (by rw [rowTo_len _ _ (by simp; omega)]; simp; omega) rfl]
    have hput : (rowTo ((byT r.p f t).map tmD) (.agg [I 0, .nil]) k).set k (.agg [I (f[k].c * t.c % r.p), intsD (zipE (· + ·) f[k].e t.e)]) = rowTo ((byT r.p f t).map tmD) (.agg [I 0, .nil]) (k + 1) := by
      have := rowTo_put (l := (byT r.p f t).map tmD) (z := .agg [I 0, .nil]) (k := k) (by simp; omega)
      rw [← this]
      congr 1
      rw [List.getElem_map, hget]
      rfl
    rw [hput]
    (repeat (first | refine RO.Sv ?_ | refine RO.Yv ?_ | refine RO.no rfl (by decide) rfl ?_ | refine RO.nil ?_ | refine DW.region ?_ | refine DW.seq ?_ | refine DW.block ?_ | refine DW.skip ?_ | refine DW.exit ?_ | refine DW.condT rfl ?_ | refine DW.condF rfl ?_))
    refine ⟨k + 1, hlt, by dsimp only; omega, fun c x hc => ?_, .one rfl (.one rfl (.one rfl (.one rfl (.one rfl (.one rfl trivial)))))⟩
    dsimp only at hc
    by_cases hcb : c = b
    · subst hcb
      rw [Heap.set_self] at hc ⊢
      exact hc
    · rw [Heap.set_other _ _ hcb] at hc ⊢
      by_cases hcv : c = bv
      · subst hcv
        rw [Heap.set_other _ _ hcb] at hbv
        rw [hbv] at hc; cases hc
      · rw [Heap.set_other _ _ hcv, Heap.set_other _ _ hcb]
        exact hc
  · have hke : k = f.length := by have := of_decide_eq_false hb; omega
    have hall : rowTo ((byT r.p f t).map tmD) (.agg [I 0, .nil]) k = (byT r.p f t).map tmD := by
      have := rowTo_all ((byT r.p f t).map tmD) (.agg [I 0, .nil])
      rwa [List.length_map, hbl, ← hke] at this
    rw [hall]
    (repeat (first | refine RO.Sv ?_ | refine RO.Yv ?_ | refine RO.no rfl (by decide) rfl ?_ | refine RO.nil ?_ | refine DW.region ?_ | refine DW.seq ?_ | refine DW.block ?_ | refine DW.skip ?_ | refine DW.exit ?_ | refine DW.condT rfl ?_ | refine DW.condF rfl ?_))
    refine DW.ret ⟨.inl rfl, _, rfl, (Over.refl _).set hb0, ?_⟩
    exact Frz.list (T := 50) (Heap.set_self _ _ _) hb0 (uni_tm _) (by simp [hbl])

theorem sum_pure (r : Rg) (f g : Pl) {n : Nat} {B : Int} (hn : n ≤ 3) (hB : B ≤ 1000000) (hp : 2 ≤ r.p ∧ r.p ≤ 101) (hl : f.length + g.length ≤ 4000000000000) (hf : PB 1 r.p r.order n B f) (hg : PB 1 r.p r.order n B g) :
    Pure Tryz.prog 108 [rgD r, plD f, plD g] (plD (sumT r.p r.order f g)) := by
  intro H
  refine PureH.of_body Tryz.func108 rfl (by decide) (Nat.le_of_ble_eq_true rfl) fun w0 => ?_
  (repeat (first | refine RO.Sv ?_ | refine RO.Yv ?_ | refine RO.no rfl (by decide) rfl ?_ | refine RO.nil ?_ | refine DW.region ?_ | refine DW.seq ?_ | refine DW.block ?_ | refine DW.skip ?_ | refine DW.exit ?_ | refine DW.condT rfl ?_ | refine DW.condF rfl ?_))
  refine RO.dyn rfl (d_make (n := 0) (c := f.length + g.length) rfl (by simp; rfl) (Nat.zero_le _) (by omega) (by omega) fun b hb0 => ?_)
  (repeat (first | refine RO.Sv ?_ | refine RO.Yv ?_ | refine RO.no rfl (by decide) rfl ?_ | refine RO.nil ?_ | refine DW.region ?_ | refine DW.seq ?_ | refine DW.block ?_ | refine DW.skip ?_ | refine DW.exit ?_ | refine DW.condT rfl ?_ | refine DW.condF rfl ?_))
  refine DW.loopI (fun x : Pl × Pl × Pl × Heap × D => PB 1 r.p r.order n B x.1 ∧ PB 1 r.p r.order n B x.2.1 ∧ x.2.2.1 ++ sumT r.p r.order x.1 x.2.1 = sumT r.p r.order f g ∧ x.2.2.1.length + x.1.length + x.2.1.length ≤ f.length + g.length ∧ Acc H x.2.2.2.1 x.2.2.2.2 2 50 (x.2.2.1.map tmD) ∧ Over H x.2.2.2.1)
    (fun x => [(1, plD x.1), (2, plD x.2.1), (3, .ipt 4 [rgD r] 0 0), (7, x.2.2.2.2)]) (fun x => x.2.2.2.1) (fun x => x.1.length + x.2.1.length) (f, g, [], H.set b (50, []), .ref b 0 0 2)
    ⟨hf, hg, rfl, by simp, ⟨Uni.nil _, .inr ⟨b, hb0, rfl, Heap.set_self _ _ _⟩⟩, (Over.refl _).set hb0⟩ rfl ⟨rfl, rfl, rfl, rfl, trivial⟩ fun ⟨f1, g1, out, H1, d⟩ ⟨h1, h2, h3, h4, hacc, hov⟩ => ?_
  dsimp only at h1 h2 h3 h4 hacc hov
  dsimp only
  have fin : ∀ (f1 g1 : Pl), (f1 = [] ∨ g1 = []) → sumT r.p r.order f1 g1 = f1 ++ g1 := fun f1 g1 h => by
    rcases h with rfl | rfl
    · rfl
    · rw [sumT_nil', List.append_nil]
  (repeat (first | refine RO.Sv ?_ | refine RO.Yv ?_ | refine RO.no rfl (by decide) rfl ?_ | refine RO.nil ?_ | refine DW.region ?_ | refine DW.seq ?_ | refine DW.block ?_ | refine DW.skip ?_ | refine DW.exit ?_ | refine DW.condT rfl ?_ | refine DW.condF rfl ?_))
  cases hf1 : decide ((0 : Int) < (f1.length : Int))
  case false =>
    have he : f1 = [] := List.eq_nil_of_length_eq_zero (by have := of_decide_eq_false hf1; omega)
    rw [fin f1 g1 (.inl he)] at h3
    (repeat (first | refine RO.Sv ?_ | refine RO.Yv ?_ | refine RO.no rfl (by decide) rfl ?_ | refine RO.nil ?_ | refine DW.region ?_ | refine DW.seq ?_ | refine DW.block ?_ | refine DW.skip ?_ | refine DW.exit ?_ | refine DW.condT rfl ?_ | refine DW.condF rfl ?_))
    refine RO.dyn rfl (d_append (H0 := H) (xs := f1.map tmD) rfl hacc hov rfl (.inl rfl) (uni_tm f1) (by simp; omega) (by simp; omega) fun d' H' q1 q2 q3 => ?_)
    (repeat (first | refine RO.Sv ?_ | refine RO.Yv ?_ | refine RO.no rfl (by decide) rfl ?_ | refine RO.nil ?_ | refine DW.region ?_ | refine DW.seq ?_ | refine DW.block ?_ | refine DW.skip ?_ | refine DW.exit ?_ | refine DW.condT rfl ?_ | refine DW.condF rfl ?_))
    refine RO.dyn rfl (d_append (H0 := H) (xs := g1.map tmD) rfl q1 q2 rfl (.inl rfl) (uni_tm g1) (by simp; omega) (by simp; omega) fun d'' H'' s1 s2 s3 => ?_)
    (repeat (first | refine RO.Sv ?_ | refine RO.Yv ?_ | refine RO.no rfl (by decide) rfl ?_ | refine RO.nil ?_ | refine DW.region ?_ | refine DW.seq ?_ | refine DW.block ?_ | refine DW.skip ?_ | refine DW.exit ?_ | refine DW.condT rfl ?_ | refine DW.condF rfl ?_))
    rw [← List.map_append, ← List.map_append, List.append_assoc, h3] at s1
    exact DW.ret ⟨.inl rfl, _, rfl, s2, s1.done⟩
  have hf1p := of_decide_eq_true hf1
  (repeat (first | refine RO.Sv ?_ | refine RO.Yv ?_ | refine RO.no rfl (by decide) rfl ?_ | refine RO.nil ?_ | refine DW.region ?_ | refine DW.seq ?_ | refine DW.block ?_ | refine DW.skip ?_ | refine DW.exit ?_ | refine DW.condT rfl ?_ | refine DW.condF rfl ?_))
  cases hg1 : decide ((0 : Int) < (g1.length : Int))
  case false =>
    have he : g1 = [] := List.eq_nil_of_length_eq_zero (by have := of_decide_eq_false hg1; omega)
    rw [fin f1 g1 (.inr he)] at h3
    (repeat (first | refine RO.Sv ?_ | refine RO.Yv ?_ | refine RO.no rfl (by decide) rfl ?_ | refine RO.nil ?_ | refine DW.region ?_ | refine DW.seq ?_ | refine DW.block ?_ | refine DW.skip ?_ | refine DW.exit ?_ | refine DW.condT rfl ?_ | refine DW.condF rfl ?_))
    refine RO.dyn rfl (d_append (H0 := H) (xs := f1.map tmD) rfl hacc hov rfl (.inl rfl) (uni_tm f1) (by simp; omega) (by simp; omega) fun d' H' q1 q2 q3 => ?_)
    (repeat (first | refine RO.Sv ?_ | refine RO.Yv ?_ | refine RO.no rfl (by decide) rfl ?_ | refine RO.nil ?_ | refine DW.region ?_ | refine DW.seq ?_ | refine DW.block ?_ | refine DW.skip ?_ | refine DW.exit ?_ | refine DW.condT rfl ?_ | refine DW.condF rfl ?_))
    refine RO.dyn rfl (d_append (H0 := H) (xs := g1.map tmD) rfl q1 q2 rfl (.inl rfl) (uni_tm g1) (by simp; omega) (by simp; omega) fun d'' H'' s1 s2 s3 => ?_)
    (repeat (first | refine RO.Sv ?_ | refine RO.Yv ?_ | refine RO.no rfl (by decide) rfl ?_ | refine RO.nil ?_ | refine DW.region ?_ | refine DW.seq ?_ | refine DW.block ?_ | refine DW.skip ?_ | refine DW.exit ?_ | refine DW.condT rfl ?_ | refine DW.condF rfl ?_))
    rw [← List.map_append, ← List.map_append, List.append_assoc, h3] at s1
    exact DW.ret ⟨.inl rfl, _, rfl, s2, s1.done⟩
  have hg1p := of_decide_eq_true hg1
  clear fin hf1 hg1
  cases f1 with
  | nil => simp at hf1p
  | cons x f2 =>
  cases g1 with
  | nil => simp at hg1p
  | cons y g2 =>
  have lx := h1.head.len
  have ly := h2.head.len
  have cx := h1.head.lo
  have cx2 := h1.head.hi
  have cy := h2.head.lo
  have cy2 := h2.head.hi
  have hl1 : 0 < (x :: f2).length := by simp
  have hl2 : 0 < (y :: g2).length := by simp
  simp only [List.length_cons] at h4
  rw [sumT_cons] at h3
  (repeat (first | refine RO.Sv ?_ | refine RO.Yv ?_ | refine RO.no rfl (by decide) rfl ?_ | refine RO.nil ?_ | refine DW.region ?_ | refine DW.seq ?_ | refine DW.block ?_ | refine DW.skip ?_ | refine DW.exit ?_ | refine DW.condT rfl ?_ | refine DW.condF rfl ?_))
  refine DW.drawS 10 Tryz.mixed (by kernel_rfl) (by decide) ?_
  dsimp only [List.take, List.drop]
  (repeat (first | refine RS.Sv ?_ | refine RS.Yv ?_ | refine RS.no rfl (by decide) rfl ?_ | refine RS.nil ?_))
  refine RS.sta (fun H' hov => sta_call rfl rfl (Compare_pure r (h1.head.mok hn hB) (h2.head.mok hn hB) (by rw [lx, ly]) _)) rfl ?_
  (repeat (first | refine RS.Sv ?_ | refine RS.Yv ?_ | refine RS.no rfl (by decide) rfl ?_ | refine RS.nil ?_))
  (repeat (first | refine RO.Sv ?_ | refine RO.Yv ?_ | refine RO.no rfl (by decide) rfl ?_ | refine RO.nil ?_ | refine DW.region ?_ | refine DW.seq ?_ | refine DW.block ?_ | refine DW.skip ?_ | refine DW.exit ?_ | refine DW.condT rfl ?_ | refine DW.condF rfl ?_))
  rcases cmpM_range r.order x.e y.e with hc | hc | hc
  · rw [if_neg (by omega), if_neg (by omega)] at h3
    rw [hc]
    (repeat (first | refine RO.Sv ?_ | refine RO.Yv ?_ | refine RO.no rfl (by decide) rfl ?_ | refine RO.nil ?_ | refine DW.region ?_ | refine DW.seq ?_ | refine DW.block ?_ | refine DW.skip ?_ | refine DW.exit ?_ | refine DW.condT rfl ?_ | refine DW.condF rfl ?_))
    refine DW.drawS 13 Tryz.mixed (by kernel_rfl) (by decide) ?_
    dsimp only [List.take, List.drop]
    (repeat (first | refine RS.Sv ?_ | refine RS.Yv ?_ | refine RS.no rfl (by decide) rfl ?_ | refine RS.nil ?_))
    (repeat (first | refine RO.Sv ?_ | refine RO.Yv ?_ | refine RO.no rfl (by decide) rfl ?_ | refine RO.nil ?_ | refine DW.region ?_ | refine DW.seq ?_ | refine DW.block ?_ | refine DW.skip ?_ | refine DW.exit ?_ | refine DW.condT rfl ?_ | refine DW.condF rfl ?_))
    cases hcc : decide (0 < (x.c + y.c) % r.p)
    · rw [if_neg (of_decide_eq_false hcc)] at h3
      (repeat (first | refine RO.Sv ?_ | refine RO.Yv ?_ | refine RO.no rfl (by decide) rfl ?_ | refine RO.nil ?_ | refine DW.region ?_ | refine DW.seq ?_ | refine DW.block ?_ | refine DW.skip ?_ | refine DW.exit ?_ | refine DW.condT rfl ?_ | refine DW.condF rfl ?_))
      refine DW.drawX [0, 1, 2, 3] [2, 3] (fun _ => none) Tryz.mixed (by kernel_rfl) (Over.nul _) ?_
      (repeat (first | refine RX.A ?_ | refine RX.nil ?_))
      refine RX.any (fun H' => s_fromM rfl rfl (by omega) (by simp)) rfl ?_
      (repeat (first | refine RX.A ?_ | refine RX.nil ?_))
      refine RX.any (fun H' => s_fromM rfl rfl (by omega) (by simp)) rfl ?_
      (repeat (first | refine RX.A ?_ | refine RX.nil ?_))
      (repeat (first | refine RY.S ?_ | refine RY.nil ?_))
      (repeat (first | refine RO.Sv ?_ | refine RO.Yv ?_ | refine RO.no rfl (by decide) rfl ?_ | refine RO.nil ?_ | refine DW.region ?_ | refine DW.seq ?_ | refine DW.block ?_ | refine DW.skip ?_ | refine DW.exit ?_ | refine DW.condT rfl ?_ | refine DW.condF rfl ?_))
      exact ⟨(f2, g2, out, H1, d), ⟨h1.tail, h2.tail, h3, by dsimp only; omega, hacc, hov⟩, by dsimp only [List.length_cons]; omega, rfl, rfl, rfl, rfl, rfl, trivial⟩
    · rw [if_pos (of_decide_eq_true hcc)] at h3
      (repeat (first | refine RO.Sv ?_ | refine RO.Yv ?_ | refine RO.no rfl (by decide) rfl ?_ | refine RO.nil ?_ | refine DW.region ?_ | refine DW.seq ?_ | refine DW.block ?_ | refine DW.skip ?_ | refine DW.exit ?_ | refine DW.condT rfl ?_ | refine DW.condF rfl ?_))
      refine RO.sta (s_buildT (out := [I ((x.c + y.c) % r.p), intsD x.e]) rfl rfl) rfl ?_
      (repeat (first | refine RO.Sv ?_ | refine RO.Yv ?_ | refine RO.no rfl (by decide) rfl ?_ | refine RO.nil ?_ | refine DW.region ?_ | refine DW.seq ?_ | refine DW.block ?_ | refine DW.skip ?_ | refine DW.exit ?_ | refine DW.condT rfl ?_ | refine DW.condF rfl ?_))
      refine RO.dyn rfl (d_append (H0 := H) (xs := [tmD ⟨(x.c + y.c) % r.p, x.e⟩]) rfl hacc hov rfl (.inl rfl) (uni_tm [⟨(x.c + y.c) % r.p, x.e⟩]) (by simp; omega) (by simp; omega) fun d' H' q1 q2 q3 => ?_)
      (repeat (first | refine RO.Sv ?_ | refine RO.Yv ?_ | refine RO.no rfl (by decide) rfl ?_ | refine RO.nil ?_ | refine DW.region ?_ | refine DW.seq ?_ | refine DW.block ?_ | refine DW.skip ?_ | refine DW.exit ?_ | refine DW.condT rfl ?_ | refine DW.condF rfl ?_))
      refine DW.drawX [0, 1, 2, 3] [2, 3] (fun _ => none) Tryz.mixed (by kernel_rfl) (Over.nul _) ?_
      (repeat (first | refine RX.A ?_ | refine RX.nil ?_))
      refine RX.any (fun H' => s_fromM rfl rfl (by omega) (by simp)) rfl ?_
      (repeat (first | refine RX.A ?_ | refine RX.nil ?_))
      refine RX.any (fun H' => s_fromM rfl rfl (by omega) (by simp)) rfl ?_
      (repeat (first | refine RX.A ?_ | refine RX.nil ?_))
      (repeat (first | refine RY.S ?_ | refine RY.nil ?_))
      (repeat (first | refine RO.Sv ?_ | refine RO.Yv ?_ | refine RO.no rfl (by decide) rfl ?_ | refine RO.nil ?_ | refine DW.region ?_ | refine DW.seq ?_ | refine DW.block ?_ | refine DW.skip ?_ | refine DW.exit ?_ | refine DW.condT rfl ?_ | refine DW.condF rfl ?_))
      refine ⟨(f2, g2, out ++ [⟨(x.c + y.c) % r.p, x.e⟩], H', d'), ⟨h1.tail, h2.tail, by rw [List.append_assoc]; exact h3, by dsimp only; simp; omega, by dsimp only; rw [List.map_append]; exact q1, q2⟩, by dsimp only [List.length_cons]; omega, rfl, rfl, rfl, rfl, rfl, trivial⟩
  · rw [if_pos hc] at h3
    rw [hc]
    (repeat (first | refine RO.Sv ?_ | refine RO.Yv ?_ | refine RO.no rfl (by decide) rfl ?_ | refine RO.nil ?_ | refine DW.region ?_ | refine DW.seq ?_ | refine DW.block ?_ | refine DW.skip ?_ | refine DW.exit ?_ | refine DW.condT rfl ?_ | refine DW.condF rfl ?_))
    refine RO.dyn rfl (d_append (H0 := H) (xs := [tmD x]) rfl hacc hov rfl (.inl rfl) (uni_tm [x]) (by simp; omega) (by simp; omega) fun d' H' q1 q2 q3 => ?_)
    (repeat (first | refine RO.Sv ?_ | refine RO.Yv ?_ | refine RO.no rfl (by decide) rfl ?_ | refine RO.nil ?_ | refine DW.region ?_ | refine DW.seq ?_ | refine DW.block ?_ | refine DW.skip ?_ | refine DW.exit ?_ | refine DW.condT rfl ?_ | refine DW.condF rfl ?_))
    refine RO.sta (s_fromM rfl rfl (by omega) (by simp)) rfl ?_
    (repeat (first | refine RO.Sv ?_ | refine RO.Yv ?_ | refine RO.no rfl (by decide) rfl ?_ | refine RO.nil ?_ | refine DW.region ?_ | refine DW.seq ?_ | refine DW.block ?_ | refine DW.skip ?_ | refine DW.exit ?_ | refine DW.condT rfl ?_ | refine DW.condF rfl ?_))
    exact ⟨(f2, y :: g2, out ++ [x], H', d'), ⟨h1.tail, h2, by rw [List.append_assoc]; exact h3, by dsimp only; simp; omega, by dsimp only; rw [List.map_append]; exact q1, q2⟩, by dsimp only [List.length_cons]; omega, rfl, rfl, rfl, rfl, rfl, trivial⟩
  · rw [if_neg (by omega), if_pos hc] at h3
    rw [hc]
    (repeat (first | refine RO.Sv ?_ | refine RO.Yv ?_ | refine RO.no rfl (by decide) rfl ?_ | refine RO.nil ?_ | refine DW.region ?_ | refine DW.seq ?_ | refine DW.block ?_ | refine DW.skip ?_ | refine DW.exit ?_ | refine DW.condT rfl ?_ | refine DW.condF rfl ?_))
    refine RO.dyn rfl (d_append (H0 := H) (xs := [tmD y]) rfl hacc hov rfl (.inl rfl) (uni_tm [y]) (by simp; omega) (by simp; omega) fun d' H' q1 q2 q3 => ?_)
    (repeat (first | refine RO.Sv ?_ | refine RO.Yv ?_ | refine RO.no rfl (by decide) rfl ?_ | refine RO.nil ?_ | refine DW.region ?_ | refine DW.seq ?_ | refine DW.block ?_ | refine DW.skip ?_ | refine DW.exit ?_ | refine DW.condT rfl ?_ | refine DW.condF rfl ?_))
    refine RO.sta (s_fromM rfl rfl (by omega) (by simp)) rfl ?_
    (repeat (first | refine RO.Sv ?_ | refine RO.Yv ?_ | refine RO.no rfl (by decide) rfl ?_ | refine RO.nil ?_ | refine DW.region ?_ | refine DW.seq ?_ | refine DW.block ?_ | refine DW.skip ?_ | refine DW.exit ?_ | refine DW.condT rfl ?_ | refine DW.condF rfl ?_))
    exact ⟨(x :: f2, g2, out ++ [y], H', d'), ⟨h1, h2.tail, by rw [List.append_assoc]; exact h3, by dsimp only; simp; omega, by dsimp only; rw [List.map_append]; exact q1, q2⟩, by dsimp only [List.length_cons]; omega, rfl, rfl, rfl, rfl, rfl, trivial⟩

theorem product_pure (r : Rg) (f g : Pl) {n : Nat} {B C : Int} (hn : n ≤ 3) (hB : B + C ≤ 1000000) (hB0 : 0 ≤ B) (hC0 : 0 ≤ C) (hr : ckP r.p = 0) (hpr : Prm r.p) (hl : f.length * g.length + g.length ≤ 4000000000000) (hf : PB 1 r.p r.order n C f) (hg : PB 1 r.p r.order n B g) (hfl : f.length ≤ 4000000000000) :
    Pure Tryz.prog 77 [rgD r, plD f, plD g] (plD (prodT r.p r.order f g)) := by
  have hp := ckP_ok hr
  intro H
  refine PureH.of_body Tryz.func77 rfl (by decide) (Nat.le_of_ble_eq_true rfl) fun w0 => ?_
  (repeat (first | refine RO.Sv ?_ | refine RO.Yv ?_ | refine RO.no rfl (by decide) rfl ?_ | refine RO.nil ?_ | refine DW.region ?_ | refine DW.seq ?_ | refine DW.block ?_ | refine DW.skip ?_ | refine DW.exit ?_ | refine DW.condT rfl ?_ | refine DW.condF rfl ?_))
  have hf0 : ∀ t ∈ f, TB 0 r.p n C t := fun t ht => (hf.all t ht).mono (by omega) (by omega)
  have hg0 : ∀ t ∈ g, TB 0 r.p n B t := fun t ht => (hg.all t ht).mono (by omega) (by omega)
  refine DW.loopG (fun k : Nat => k ≤ f.length) (fun k => [(2, plD g), (3, .ipt 4 [rgD r] 0 0), (7, plD (prodT r.p r.order (f.take k) g)), (10, plD f), (11, I f.length), (12, I k)]) (fun _ => H) (fun k => f.length - k) 0 (Nat.zero_le _)
    (Heap.sub_refl _) (.one rfl (.one rfl (.nil1 rfl (.one rfl (.one rfl (.one rfl trivial)))))) fun k hk => ?_
  have hft : ∀ t ∈ f.take k, TB 0 r.p n C t := fun t ht => hf0 t (List.mem_of_mem_take ht)
  have hok := prodT_ok (o := r.order) (by omega) hpr hg hC0 hft
  have hlen := prodT_length (o := r.order) (by omega) hpr hg hC0 hft
  (repeat (first | refine RO.Sv ?_ | refine RO.Yv ?_ | refine RO.no rfl (by decide) rfl ?_ | refine RO.nil ?_ | refine DW.region ?_ | refine DW.seq ?_ | refine DW.block ?_ | refine DW.skip ?_ | refine DW.exit ?_ | refine DW.condT rfl ?_ | refine DW.condF rfl ?_))
  refine DW.cond rfl (fun hb => ?_) (fun hb => ?_)
  · have hlt : k < f.length := by have := of_decide_eq_true hb; omega
    clear hb
    have hsucc : prodT r.p r.order (f.take (k + 1)) g = sumT r.p r.order (prodT r.p r.order (f.take k) g) (byT r.p g f[k]) := by
      unfold prodT
      rw [List.take_succ_eq_append_getElem hlt, List.foldl_append]
      rfl
    have hbl := byT_length r.p g f[k]
    have hbig : (f.take k).length * g.length ≤ f.length * g.length := Nat.mul_le_mul_right _ (by simp; omega)
    have hbok := byT_ok (o := r.order) (by omega) hpr hg (hf0 _ (List.getElem_mem hlt))
    (repeat (first | refine RO.Sv ?_ | refine RO.Yv ?_ | refine RO.no rfl (by decide) rfl ?_ | refine RO.nil ?_ | refine DW.region ?_ | refine DW.seq ?_ | refine DW.block ?_ | refine DW.skip ?_ | refine DW.exit ?_ | refine DW.condT rfl ?_ | refine DW.condF rfl ?_))
    (refine RO.dyn rfl (d_alloc fun bv hbv => ?_); (repeat (first | refine RO.Sv ?_ | refine RO.Yv ?_ | refine RO.no rfl (by decide) rfl ?_)); refine RO.dyn rfl (d_storeTm rfl rfl (Heap.set_self _ _ _) rfl ?_); rw [Heap.set_set])
    (repeat (first | refine RO.Sv ?_ | refine RO.Yv ?_ | refine RO.no rfl (by decide) rfl ?_ | refine RO.nil ?_ | refine DW.region ?_ | refine DW.seq ?_ | refine DW.block ?_ | refine DW.skip ?_ | refine DW.exit ?_ | refine DW.condT rfl ?_ | refine DW.condF rfl ?_))
    refine DW.drawS 7 Tryz.mixed (by kernel_rfl) (by decide) ?_
    dsimp only [List.take, List.drop]
    (repeat (first | refine RS.Sv ?_ | refine RS.Yv ?_ | refine RS.no rfl (by decide) rfl ?_ | refine RS.nil ?_))
    refine RS.sta (fun H' hov => sta_call rfl rfl (by_pure r g f[k] (C := C) hn (by omega) (by omega) hp (by omega) hg0 (hf0 _ (List.getElem_mem hlt)) _)) rfl ?_
    refine RS.sta (fun H' hov => sta_call rfl rfl (sum_pure r _ _ hn hB hp (by omega) hok hbok _)) rfl ?_
    rw [← hsucc]
    (repeat (first | refine RS.Sv ?_ | refine RS.Yv ?_ | refine RS.no rfl (by decide) rfl ?_ | refine RS.nil ?_))
    (repeat (first | refine RO.Sv ?_ | refine RO.Yv ?_ | refine RO.no rfl (by decide) rfl ?_ | refine RO.nil ?_ | refine DW.region ?_ | refine DW.seq ?_ | refine DW.block ?_ | refine DW.skip ?_ | refine DW.exit ?_ | refine DW.condT rfl ?_ | refine DW.condF rfl ?_))
    exact ⟨k + 1, hlt, by dsimp only; omega, Heap.sub_set _ hbv, .one rfl (.one rfl (.one rfl (.one rfl (.one rfl (.one rfl trivial)))))⟩
  · have hke : k = f.length := by have := of_decide_eq_false hb; omega
    rw [hke, List.take_length]
    (repeat (first | refine RO.Sv ?_ | refine RO.Yv ?_ | refine RO.no rfl (by decide) rfl ?_ | refine RO.nil ?_ | refine DW.region ?_ | refine DW.seq ?_ | refine DW.block ?_ | refine DW.skip ?_ | refine DW.exit ?_ | refine DW.condT rfl ?_ | refine DW.condF rfl ?_))
    exact DW.ret ⟨.inl rfl, _, rfl, Over.refl _, .same _⟩

end Go.Proofs.YtcdihmhmoddppaaGreat
