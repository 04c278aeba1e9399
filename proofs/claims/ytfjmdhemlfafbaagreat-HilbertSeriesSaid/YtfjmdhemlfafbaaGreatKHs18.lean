/-
  Package vector: Each, Sum, By, Copied, Nought, Done; the document's VSum, VTimes, VGreat. No condition.
-/
import Derived.Test.YtfjmdhemlfafbaaGreatKHs17
import Derived.Test.YtfjmdhemlfafbaaGreatKHs8
import Derived.Test.YtfjmdhemlfafbaaGreatKHs11
import Derived.Test.YtfjmdhemlfafbaaGreatKHs9
set_option linter.unusedVariables false
set_option linter.unusedSimpArgs false

namespace Go.Proofs.YtfjmdhemlfafbaaGreat
open Go.RowKit
set_option maxHeartbeats 8000000

theorem by_pure (r : Rg) (f : Pl) (t : Tm) {n : Nat} {B C : Int} (hn : n ≤ 3) (hB : B ≤ 1000000) (hC : C ≤ 1000000) (hp : 2 ≤ r.p ∧ r.p ≤ 101) (hl : f.length ≤ 4000000000000) (hf : ∀ x ∈ f, TB 0 r.p n B x) (ht : TB 0 r.p n C t) :
    Pure Tryz.prog 92 [rgD r, plD f, tmD t] (plD (byT r.p f t)) := by
  intro H
  have htc := ht.lo
  have htc2 := ht.hi
  refine PureH.of_body Tryz.func92 rfl (by decide) (Nat.le_of_ble_eq_true rfl) fun w0 => ?_
  (repeat (first | refine RO.Sv ?_ | refine RO.Yv ?_ | refine RO.no rfl (by decide) rfl ?_ | refine RO.nil ?_ | refine DW.region ?_ | refine DW.seq ?_ | refine DW.block ?_ | refine DW.skip ?_ | refine DW.exit ?_ | refine DW.condT rfl ?_ | refine DW.condF rfl ?_))
  (repeat (first | refine RO.Sv ?_ | refine RO.Yv ?_ | refine RO.no rfl (by decide) rfl ?_ | refine RO.nil ?_ | refine DW.region ?_ | refine DW.seq ?_ | refine DW.block ?_ | refine DW.skip ?_ | refine DW.exit ?_ | refine DW.condT rfl ?_ | refine DW.condF rfl ?_))
  by_cases hz : t.c = 0
  · have : byT r.p f t = [] := by unfold byT; rw [if_pos hz]
    rw [this, show (t.c == 0) = true by rw [hz]; rfl]
    (repeat (first | refine RO.Sv ?_ | refine RO.Yv ?_ | refine RO.no rfl (by decide) rfl ?_ | refine RO.nil ?_ | refine DW.region ?_ | refine DW.seq ?_ | refine DW.block ?_ | refine DW.skip ?_ | refine DW.exit ?_ | refine DW.condT rfl ?_ | refine DW.condF rfl ?_))
    exact DW.ret ⟨.inl rfl, _, rfl, Over.refl _, .nil _⟩
  have hby : byT r.p f t = f.map fun x => ⟨x.c * t.c % r.p, zipE (· + ·) x.e t.e⟩ := by unfold byT; rw [if_neg hz]
  have hbl : (byT r.p f t).length = f.length := by rw [hby, List.length_map]
  rw [show (t.c == 0) = false from beq_eq_false_iff_ne.2 hz]
  (repeat (first | refine RO.Sv ?_ | refine RO.Yv ?_ | refine RO.no rfl (by decide) rfl ?_ | refine RO.nil ?_ | refine DW.region ?_ | refine DW.seq ?_ | refine DW.block ?_ | refine DW.skip ?_ | refine DW.exit ?_ | refine DW.condT rfl ?_ | refine DW.condF rfl ?_))
  refine RO.dyn rfl (d_make rfl rfl (Nat.le_refl _) (by omega) (by omega) fun b hb0 => ?_)
  (repeat (first | refine RO.Sv ?_ | refine RO.Yv ?_ | refine RO.no rfl (by decide) rfl ?_ | refine RO.nil ?_ | refine DW.region ?_ | refine DW.seq ?_ | refine DW.block ?_ | refine DW.skip ?_ | refine DW.exit ?_ | refine DW.condT rfl ?_ | refine DW.condF rfl ?_))
  refine DW.loopG (fun k : Nat => k ≤ f.length) (fun k => [(3, .ipt 4 [rgD r] 0 0), (5, .ipt 2 [tmD t] 0 0), (7, .ref b 0 f.length 2), (16, plD f), (17, I f.length), (18, I k)]) (fun k => H.set b (55, (rowTo ((byT r.p f t).map tmD) (.agg [I 0, .nil]) k).flatMap cellsOf)) (fun k => f.length - k) 0 (Nat.zero_le _)
    ?_ (.one rfl (.one rfl (.one rfl (.one rfl (.one rfl (.one rfl trivial)))))) fun k hk => ?_
  · have : (List.replicate f.length [I 0, D.nil]).flatten = (rowTo ((byT r.p f t).map tmD) (.agg [I 0, .nil]) 0).flatMap cellsOf := by
      rw [rowTo_zero, List.length_map, hbl, List.flatMap_def, List.map_replicate]
      rfl
    rw [this]
    exact Heap.sub_refl _
  (repeat (first | refine RO.Sv ?_ | refine RO.Yv ?_ | refine RO.no rfl (by decide) rfl ?_ | refine RO.nil ?_ | refine DW.region ?_ | refine DW.seq ?_ | refine DW.block ?_ | refine DW.skip ?_ | refine DW.exit ?_ | refine DW.condT rfl ?_ | refine DW.condF rfl ?_))
  refine DW.cond rfl (fun hb => ?_) (fun hb => ?_)
  · have hlt : k < f.length := by have := of_decide_eq_true hb; omega
    clear hb
    have hx := hf _ (List.getElem_mem hlt)
    have hxc := hx.lo
    have hxc2 := hx.hi
    have hm0 : 0 ≤ f[k].c * t.c := Int.mul_nonneg (by omega) (by omega)
    have hm1 : f[k].c * t.c ≤ 101 * 101 := Int.mul_le_mul (by omega) (by omega) (by omega) (by omega)
    have hget : (byT r.p f t)[k]'(by omega) = ⟨f[k].c * t.c % r.p, zipE (· + ·) f[k].e t.e⟩ := by simp [hby]
    (repeat (first | refine RO.Sv ?_ | refine RO.Yv ?_ | refine RO.no rfl (by decide) rfl ?_ | refine RO.nil ?_ | refine DW.region ?_ | refine DW.seq ?_ | refine DW.block ?_ | refine DW.skip ?_ | refine DW.exit ?_ | refine DW.condT rfl ?_ | refine DW.condF rfl ?_))
    (refine RO.dyn rfl (d_alloc fun bv hbv => ?_); (repeat (first | refine RO.Sv ?_ | refine RO.Yv ?_ | refine RO.no rfl (by decide) rfl ?_)); refine RO.dyn rfl (d_storeTm rfl rfl (Heap.set_self _ _ _) rfl ?_); rw [Heap.set_set])
    (repeat (first | refine RO.Sv ?_ | refine RO.Yv ?_ | refine RO.no rfl (by decide) rfl ?_ | refine RO.nil ?_ | refine DW.region ?_ | refine DW.seq ?_ | refine DW.block ?_ | refine DW.skip ?_ | refine DW.exit ?_ | refine DW.condT rfl ?_ | refine DW.condF rfl ?_))
    have hbne : b ≠ bv := fun e => by rw [← e, Heap.set_self] at hbv; cases hbv
    refine DW.drawS 17 Tryz.mixed (by kernel_rfl) (by decide) ?_
    dsimp only [List.take, List.drop]
    (repeat (first | refine RS.Sv ?_ | refine RS.Yv ?_ | refine RS.no rfl (by decide) rfl ?_ | refine RS.nil ?_))
    refine RS.sta (fun H' hov => sta_call rfl rfl (Product_pure (hx.mok hn hB) (ht.mok hn hC) (by rw [hx.len, ht.len]) _)) rfl ?_
    refine RS.sta (fun H' hov => s_buildT (out := [I (f[k].c * t.c % r.p), intsD (zipE (· + ·) f[k].e t.e)]) rfl rfl) rfl ?_
    refine RS.sta (fun H' hov => s_ix2 (i := k) rfl rfl rfl hlt) rfl ?_
    (repeat (first | refine RS.Sv ?_ | refine RS.Yv ?_ | refine RS.no rfl (by decide) rfl ?_ | refine RS.nil ?_))
    refine RO.dyn rfl (d_store (k := 2) rfl rfl rfl (by rw [Heap.set_other _ _ hbne, Heap.set_self]) ?_ (fun z hz => by
      have hz' : z ∈ [I (f[k].c * t.c % r.p), intsD (zipE (· + ·) f[k].e t.e)] := hz
      simp at hz'
      rcases hz' with rfl | rfl <;> rfl) ?_)
    · rw [show (rowTo ((byT r.p f t).map tmD) (.agg [I 0, .nil]) k).flatMap cellsOf = (rowTo ((byT r.p f t).map tmD) (.agg [I 0, .nil]) k).flatMap cellsOf from rfl]
      have hu : Uni 2 (rowTo ((byT r.p f t).map tmD) (.agg [I 0, .nil]) k) := fun d hd => by
        unfold rowTo at hd
        rcases List.mem_append.1 hd with h | h
        · obtain ⟨y, _, rfl⟩ := List.mem_map.1 (List.mem_of_mem_take h)
          exact ⟨rfl, fun x hx => by simp [tmD, cellsOf] at hx; rcases hx with rfl | rfl <;> rfl⟩
        · rw [List.eq_of_mem_replicate h]
          exact ⟨rfl, fun x hx => by simp [cellsOf] at hx; rcases hx with rfl | rfl <;> rfl⟩
      rw [hu.length, rowTo_len _ _ (by simp; omega)]
      simp [cellsOf]
      omega
    have hel : ∀ d ∈ rowTo ((byT r.p f t).map tmD) (.agg [I 0, .nil]) k, (cellsOf d).length = 2 := fun d hd => by
      unfold rowTo at hd
      rcases List.mem_append.1 hd with h | h
      · obtain ⟨y, _, rfl⟩ := List.mem_map.1 (List.mem_of_mem_take h)
        rfl
      · rw [List.eq_of_mem_replicate h]; rfl
    rw [flat_set (k := 2) (by omega) hel (i := k) (by rw [rowTo_len _ _ (by simp; omega)]; simp; omega) rfl]
    have hput : (rowTo ((byT r.p f t).map tmD) (.agg [I 0, .nil]) k).set k (.agg [I (f[k].c * t.c % r.p), intsD (zipE (· + ·) f[k].e t.e)]) = rowTo ((byT r.p f t).map tmD) (.agg [I 0, .nil]) (k + 1) := by
      have := rowTo_put (l := (byT r.p f t).map tmD) (z := .agg [I 0, .nil]) (k := k) (by simp; omega)
      rw [← this]
      congr 1
      rw [List.getElem_map, hget]
      rfl
    rw [hput]
    (repeat (first | refine RO.Sv ?_ | refine RO.Yv ?_ | refine RO.no rfl (by decide) rfl ?_ | refine RO.nil ?_ | refine DW.region ?_ | refine DW.seq ?_ | refine DW.block ?_ | refine DW.skip ?_ | refine DW.exit ?_ | refine DW.condT rfl ?_ | refine DW.condF rfl ?_))
    refine ⟨k + 1, hlt, by dsimp only; omega, fun c x hc => ?_, .one rfl (.one rfl (.one rfl (.one rfl (.one rfl (.one rfl trivial)))))⟩
    dsimp only at hc
    by_cases hcb : c = b
    · subst hcb
      rw [Heap.set_self] at hc ⊢
      exact hc
    · rw [Heap.set_other _ _ hcb] at hc ⊢
      by_cases hcv : c = bv
      · subst hcv
        rw [Heap.set_other _ _ hcb] at hbv
        rw [hbv] at hc; cases hc
      · rw [Heap.set_other _ _ hcv, Heap.set_other _ _ hcb]
        exact hc
  · have hke : k = f.length := by have := of_decide_eq_false hb; omega
    have hall : rowTo ((byT r.p f t).map tmD) (.agg [I 0, .nil]) k = (byT r.p f t).map tmD := by
      have := rowTo_all ((byT r.p f t).map tmD) (.agg [I 0, .nil])
      rwa [List.length_map, hbl, ← hke] at this
    rw [hall]
    (repeat (first | refine RO.Sv ?_ | refine RO.Yv ?_ | refine RO.no rfl (by decide) rfl ?_ | refine RO.nil ?_ | refine DW.region ?_ | refine DW.seq ?_ | refine DW.block ?_ | refine DW.skip ?_ | refine DW.exit ?_ | refine DW.condT rfl ?_ | refine DW.condF rfl ?_))
    refine DW.ret ⟨.inl rfl, _, rfl, (Over.refl _).set hb0, ?_⟩
    exact Frz.list (T := 55) (Heap.set_self _ _ _) hb0 (uni_tm _) (by simp [hbl])

theorem sum_pure (r : Rg) (f g : Pl) {n : Nat} {B : Int} (hn : n ≤ 3) (hB : B ≤ 1000000) (hp : 2 ≤ r.p ∧ r.p ≤ 101) (hl : f.length + g.length ≤ 4000000000000) (hf : PB 1 r.p r.order n B f) (hg : PB 1 r.p r.order n B g) :
    Pure Tryz.prog 102 [rgD r, plD f, plD g] (plD (sumT r.p r.order f g)) := by
  intro H
  refine PureH.of_body Tryz.func102 rfl (by decide) (Nat.le_of_ble_eq_true rfl) fun w0 => ?_
  (repeat (first | refine RO.Sv ?_ | refine RO.Yv ?_ | refine RO.no rfl (by decide) rfl ?_ | refine RO.nil ?_ | refine DW.region ?_ | refine DW.seq ?_ | refine DW.block ?_ | refine DW.skip ?_ | refine DW.exit ?_ | refine DW.condT rfl ?_ | refine DW.condF rfl ?_))
  refine RO.dyn rfl (d_make (n := 0) (c := f.length + g.length) rfl (by simp; rfl) (Nat.zero_le _) (by omega) (by omega) fun b hb0 => ?_)
  (repeat (first | refine RO.Sv ?_ | refine RO.Yv ?_ | refine RO.no rfl (by decide) rfl ?_ | refine RO.nil ?_ | refine DW.region ?_ | refine DW.seq ?_ | refine DW.block ?_ | refine DW.skip ?_ | refine DW.exit ?_ | refine DW.condT rfl ?_ | refine DW.condF rfl ?_))
  refine DW.loopI (fun x : Pl × Pl × Pl × Heap × D => PB 1 r.p r.order n B x.1 ∧ PB 1 r.p r.order n B x.2.1 ∧ x.2.2.1 ++ sumT r.p r.order x.1 x.2.1 = sumT r.p r.order f g ∧ x.2.2.1.length + x.1.length + x.2.1.length ≤ f.length + g.length ∧ Acc H x.2.2.2.1 x.2.2.2.2 2 55 (x.2.2.1.map tmD) ∧ Over H x.2.2.2.1)
    (fun x => [(1, plD x.1), (2, plD x.2.1), (3, .ipt 4 [rgD r] 0 0), (7, x.2.2.2.2)]) (fun x => x.2.2.2.1) (fun x => x.1.length + x.2.1.length) (f, g, [], H.set b (55, []), .ref b 0 0 2)
    ⟨hf, hg, rfl, by simp, ⟨Uni.nil _, .inr ⟨b, hb0, rfl, Heap.set_self _ _ _⟩⟩, (Over.refl _).set hb0⟩ rfl ⟨rfl, rfl, rfl, rfl, trivial⟩ fun ⟨f1, g1, out, H1, d⟩ ⟨h1, h2, h3, h4, hacc, hov⟩ => ?_
  dsimp only at h1 h2 h3 h4 hacc hov
  dsimp only
  have fin : ∀ (f1 g1 : Pl), (f1 = [] ∨ g1 = []) → sumT r.p r.order f1 g1 = f1 ++ g1 := fun f1 g1 h => by
    rcases h with rfl | rfl
    · rfl
    · rw [sumT_nil', List.append_nil]
  (repeat (first | refine RO.Sv ?_ | refine RO.Yv ?_ | refine RO.no rfl (by decide) rfl ?_ | refine RO.nil ?_ | refine DW.region ?_ | refine DW.seq ?_ | refine DW.block ?_ | refine DW.skip ?_ | refine DW.exit ?_ | refine DW.condT rfl ?_ | refine DW.condF rfl ?_))
  cases hf1 : decide ((0 : Int) < (f1.length : Int))
  case false =>
    have he : f1 = [] := List.eq_nil_of_length_eq_zero (by have := of_decide_eq_false hf1; omega)
    rw [fin f1 g1 (.inl he)] at h3
    (repeat (first | refine RO.Sv ?_ | refine RO.Yv ?_ | refine RO.no rfl (by decide) rfl ?_ | refine RO.nil ?_ | refine DW.region ?_ | refine DW.seq ?_ | refine DW.block ?_ | refine DW.skip ?_ | refine DW.exit ?_ | refine DW.condT rfl ?_ | refine DW.condF rfl ?_))
    refine RO.dyn rfl (d_append (H0 := H) (xs := f1.map tmD) rfl hacc hov rfl (.inl rfl) (uni_tm f1) (by simp; omega) (by simp; omega) fun d' H' q1 q2 q3 => ?_)
    (repeat (first | refine RO.Sv ?_ | refine RO.Yv ?_ | refine RO.no rfl (by decide) rfl ?_ | refine RO.nil ?_ | refine DW.region ?_ | refine DW.seq ?_ | refine DW.block ?_ | refine DW.skip ?_ | refine DW.exit ?_ | refine DW.condT rfl ?_ | refine DW.condF rfl ?_))
    refine RO.dyn rfl (d_append (H0 := H) (xs := g1.map tmD) rfl q1 q2 rfl (.inl rfl) (uni_tm g1) (by simp; omega) (by simp; omega) fun d'' H'' s1 s2 s3 => ?_)
    (repeat (first | refine RO.Sv ?_ | refine RO.Yv ?_ | refine RO.no rfl (by decide) rfl ?_ | refine RO.nil ?_ | refine DW.region ?_ | refine DW.seq ?_ | refine DW.block ?_ | refine DW.skip ?_ | refine DW.exit ?_ | refine DW.condT rfl ?_ | refine DW.condF rfl ?_))
    rw [← List.map_append, ← List.map_append, List.append_assoc, h3] at s1
    exact DW.ret ⟨.inl rfl, _, rfl, s2, s1.done⟩
  have hf1p := of_decide_eq_true hf1
  (repeat (first | refine RO.Sv ?_ | refine RO.Yv ?_ | refine RO.no rfl (by decide) rfl ?_ | refine RO.nil ?_ | refine DW.region ?_ | refine DW.seq ?_ | refine DW.block ?_ | refine DW.skip ?_ | refine DW.exit ?_ | refine DW.condT rfl ?_ | refine DW.condF rfl ?_))
  cases hg1 : decide ((0 : Int) < (g1.length : Int))
  case false =>
    have he : g1 = [] := List.eq_nil_of_length_eq_zero (by have := of_decide_eq_false hg1; omega)
    rw [fin f1 g1 (.inr he)] at h3
    (repeat (first | refine RO.Sv ?_ | refine RO.Yv ?_ | refine RO.no rfl (by decide) rfl ?_ | refine RO.nil ?_ | refine DW.region ?_ | refine DW.seq ?_ | refine DW.block ?_ | refine DW.skip ?_ | refine DW.exit ?_ | refine DW.condT rfl ?_ | refine DW.condF rfl ?_))
    refine RO.dyn rfl (d_append (H0 := H) (xs := f1.map tmD) rfl hacc hov rfl (.inl rfl) (uni_tm f1) (by simp; omega) (by simp; omega) fun d' H' q1 q2 q3 => ?_)
    (repeat (first | refine RO.Sv ?_ | refine RO.Yv ?_ | refine RO.no rfl (by decide) rfl ?_ | refine RO.nil ?_ | refine DW.region ?_ | refine DW.seq ?_ | refine DW.block ?_ | refine DW.skip ?_ | refine DW.exit ?_ | refine DW.condT rfl ?_ | refine DW.condF rfl ?_))
    refine RO.dyn rfl (d_append (H0 := H) (xs := g1.map tmD) rfl q1 q2 rfl (.inl rfl) (uni_tm g1) (by simp; omega) (by simp; omega) fun d'' H'' s1 s2 s3 => ?_)
    (repeat (first | refine RO.Sv ?_ | refine RO.Yv ?_ | refine RO.no rfl (by decide) rfl ?_ | refine RO.nil ?_ | refine DW.region ?_ | refine DW.seq ?_ | refine DW.block ?_ | refine DW.skip ?_ | refine DW.exit ?_ | refine DW.condT rfl ?_ | refine DW.condF rfl ?_))
    rw [← List.map_append, ← List.map_append, List.append_assoc, h3] at s1
    exact DW.ret ⟨.inl rfl, _, rfl, s2, s1.done⟩
  have hg1p := of_decide_eq_true hg1
  clear fin hf1 hg1
  cases f1 with
  | nil => simp at hf1p
  | cons x f2 =>
  cases g1 with
  | nil => simp at hg1p
  | cons y g2 =>
  have lx := h1.head.len
  have ly := h2.head.len
  have cx := h1.head.lo
  have cx2 := h1.head.hi
  have cy := h2.head.lo
  have cy2 := h2.head.hi
  have hl1 : 0 < (x :: f2).length := by simp
  have hl2 : 0 < (y :: g2).length := by simp
  simp only [List.length_cons] at h4
  rw [sumT_cons] at h3
  (repeat (first | refine RO.Sv ?_ | refine RO.Yv ?_ | refine RO.no rfl (by decide) rfl ?_ | refine RO.nil ?_ | refine DW.region ?_ | refine DW.seq ?_ | refine DW.block ?_ | refine DW.skip ?_ | refine DW.exit ?_ | refine DW.condT rfl ?_ | refine DW.condF rfl ?_))
  refine DW.drawS 10 Tryz.mixed (by kernel_rfl) (by decide) ?_
  dsimp only [List.take, List.drop]
  (repeat (first | refine RS.Sv ?_ | refine RS.Yv ?_ | refine RS.no rfl (by decide) rfl ?_ | refine RS.nil ?_))
  refine RS.sta (fun H' hov => sta_call rfl rfl (Compare_pure r (h1.head.mok hn hB) (h2.head.mok hn hB) (by rw [lx, ly]) _)) rfl ?_
  (repeat (first | refine RS.Sv ?_ | refine RS.Yv ?_ | refine RS.no rfl (by decide) rfl ?_ | refine RS.nil ?_))
  (repeat (first | refine RO.Sv ?_ | refine RO.Yv ?_ | refine RO.no rfl (by decide) rfl ?_ | refine RO.nil ?_ | refine DW.region ?_ | refine DW.seq ?_ | refine DW.block ?_ | refine DW.skip ?_ | refine DW.exit ?_ | refine DW.condT rfl ?_ | refine DW.condF rfl ?_))
  rcases cmpM_range r.order x.e y.e with hc | hc | hc
  · rw [if_neg (by omega), if_neg (by omega)] at h3
    rw [hc]
    (repeat (first | refine RO.Sv ?_ | refine RO.Yv ?_ | refine RO.no rfl (by decide) rfl ?_ | refine RO.nil ?_ | refine DW.region ?_ | refine DW.seq ?_ | refine DW.block ?_ | refine DW.skip ?_ | refine DW.exit ?_ | refine DW.condT rfl ?_ | refine DW.condF rfl ?_))
    refine DW.drawS 13 Tryz.mixed (by kernel_rfl) (by decide) ?_
    dsimp only [List.take, List.drop]
    (repeat (first | refine RS.Sv ?_ | refine RS.Yv ?_ | refine RS.no rfl (by decide) rfl ?_ | refine RS.nil ?_))
    (repeat (first | refine RO.Sv ?_ | refine RO.Yv ?_ | refine RO.no rfl (by decide) rfl ?_ | refine RO.nil ?_ | refine DW.region ?_ | refine DW.seq ?_ | refine DW.block ?_ | refine DW.skip ?_ | refine DW.exit ?_ | refine DW.condT rfl ?_ | refine DW.condF rfl ?_))
    cases hcc : decide (0 < (x.c + y.c) % r.p)
    · rw [if_neg (of_decide_eq_false hcc)] at h3
      (repeat (first | refine RO.Sv ?_ | refine RO.Yv ?_ | refine RO.no rfl (by decide) rfl ?_ | refine RO.nil ?_ | refine DW.region ?_ | refine DW.seq ?_ | refine DW.block ?_ | refine DW.skip ?_ | refine DW.exit ?_ | refine DW.condT rfl ?_ | refine DW.condF rfl ?_))
      refine DW.drawX [0, 1, 2, 3] [2, 3] (fun _ => none) Tryz.mixed (by kernel_rfl) (Over.nul _) ?_
      (repeat (first | refine RX.A ?_ | refine RX.nil ?_))
      refine RX.any (fun H' => s_fromM rfl rfl (by omega) (by simp)) rfl ?_
      (repeat (first | refine RX.A ?_ | refine RX.nil ?_))
      refine RX.any (fun H' => s_fromM rfl rfl (by omega) (by simp)) rfl ?_
      (repeat (first | refine RX.A ?_ | refine RX.nil ?_))
      (repeat (first | refine RY.S ?_ | refine RY.nil ?_))
      (repeat (first | refine RO.Sv ?_ | refine RO.Yv ?_ | refine RO.no rfl (by decide) rfl ?_ | refine RO.nil ?_ | refine DW.region ?_ | refine DW.seq ?_ | refine DW.block ?_ | refine DW.skip ?_ | refine DW.exit ?_ | refine DW.condT rfl ?_ | refine DW.condF rfl ?_))
      exact ⟨(f2, g2, out, H1, d), ⟨h1.tail, h2.tail, h3, by dsimp only; omega, hacc, hov⟩, by dsimp only [List.length_cons]; omega, rfl, rfl, rfl, rfl, rfl, trivial⟩
    · rw [if_pos (of_decide_eq_true hcc)] at h3
      (repeat (first | refine RO.Sv ?_ | refine RO.Yv ?_ | refine RO.no rfl (by decide) rfl ?_ | refine RO.nil ?_ | refine DW.region ?_ | refine DW.seq ?_ | refine DW.block ?_ | refine DW.skip ?_ | refine DW.exit ?_ | refine DW.condT rfl ?_ | refine DW.condF rfl ?_))
      refine RO.sta (s_buildT (out := [I ((x.c + y.c) % r.p), intsD x.e]) rfl rfl) rfl ?_
      (repeat (first | refine RO.Sv ?_ | refine RO.Yv ?_ | refine RO.no rfl (by decide) rfl ?_ | refine RO.nil ?_ | refine DW.region ?_ | refine DW.seq ?_ | refine DW.block ?_ | refine DW.skip ?_ | refine DW.exit ?_ | refine DW.condT rfl ?_ | refine DW.condF rfl ?_))
      refine RO.dyn rfl (d_append (H0 := H) (xs := [tmD ⟨(x.c + y.c) % r.p, x.e⟩]) rfl hacc hov rfl (.inl rfl) (uni_tm [⟨(x.c + y.c) % r.p, x.e⟩]) (by simp; omega) (by simp; omega) fun d' H' q1 q2 q3 => ?_)
      (repeat (first | refine RO.Sv ?_ | refine RO.Yv ?_ | refine RO.no rfl (by decide) rfl ?_ | refine RO.nil ?_ | refine DW.region ?_ | refine DW.seq ?_ | refine DW.block ?_ | refine DW.skip ?_ | refine DW.exit ?_ | refine DW.condT rfl ?_ | refine DW.condF rfl ?_))
      refine DW.drawX [0, 1, 2, 3] [2, 3] (fun _ => none) Tryz.mixed (by kernel_rfl) (Over.nul _) ?_
      (repeat (first | refine RX.A ?_ | refine RX.nil ?_))
      refine RX.any (fun H' => s_fromM rfl rfl (by omega) (by simp)) rfl ?_
      (repeat (first | refine RX.A ?_ | refine RX.nil ?_))
      refine RX.any (fun H' => s_fromM rfl rfl (by omega) (by simp)) rfl ?_
      (repeat (first | refine RX.A ?_ | refine RX.nil ?_))
      (repeat (first | refine RY.S ?_ | refine RY.nil ?_))
      (repeat (first | refine RO.Sv ?_ | refine RO.Yv ?_ | refine RO.no rfl (by decide) rfl ?_ | refine RO.nil ?_ | refine DW.region ?_ | refine DW.seq ?_ | refine DW.block ?_ | refine DW.skip ?_ | refine DW.exit ?_ | refine DW.condT rfl ?_ | refine DW.condF rfl ?_))
      refine ⟨(f2, g2, out ++ [⟨(x.c + y.c) % r.p, x.e⟩], H', d'), ⟨h1.tail, h2.tail, by rw [List.append_assoc]; exact h3, by dsimp only; simp; omega, by dsimp only; rw [List.map_append]; exact q1, q2⟩, by dsimp only [List.length_cons]; omega, rfl, rfl, rfl, rfl, rfl, trivial⟩
  · rw [if_pos hc] at h3
    rw [hc]
    (repeat (first | refine RO.Sv ?_ | refine RO.Yv ?_ | refine RO.no rfl (by decide) rfl ?_ | refine RO.nil ?_ | refine DW.region ?_ | refine DW.seq ?_ | refine DW.block ?_ | refine DW.skip ?_ | refine DW.exit ?_ | refine DW.condT rfl ?_ | refine DW.condF rfl ?_))
    refine RO.dyn rfl (d_append (H0 := H) (xs := [tmD x]) rfl hacc hov rfl (.inl rfl) (uni_tm [x]) (by simp; omega) (by simp; omega) fun d' H' q1 q2 q3 => ?_)
    (repeat (first | refine RO.Sv ?_ | refine RO.Yv ?_ | refine RO.no rfl (by decide) rfl ?_ | refine RO.nil ?_ | refine DW.region ?_ | refine DW.seq ?_ | refine DW.block ?_ | refine DW.skip ?_ | refine DW.exit ?_ | refine DW.condT rfl ?_ | refine DW.condF rfl ?_))
    refine RO.sta (s_fromM rfl rfl (by omega) (by simp)) rfl ?_
    (repeat (first | refine RO.Sv ?_ | refine RO.Yv ?_ | refine RO.no rfl (by decide) rfl ?_ | refine RO.nil ?_ | refine DW.region ?_ | refine DW.seq ?_ | refine DW.block ?_ | refine DW.skip ?_ | refine DW.exit ?_ | refine DW.condT rfl ?_ | refine DW.condF rfl ?_))
    exact ⟨(f2, y :: g2, out ++ [x], H', d'), ⟨h1.tail, h2, by rw [List.append_assoc]; exact h3, by dsimp only; simp; omega, by dsimp only; rw [List.map_append]; exact q1, q2⟩, by dsimp only [List.length_cons]; omega, rfl, rfl, rfl, rfl, rfl, trivial⟩
  · rw [if_neg (by omega), if_pos hc] at h3
    rw [hc]
    (repeat (first | refine RO.Sv ?_ | refine RO.Yv ?_ | refine RO.no rfl (by decide) rfl ?_ | refine RO.nil ?_ | refine DW.region ?_ | refine DW.seq ?_ | refine DW.block ?_ | refine DW.skip ?_ | refine DW.exit ?_ | refine DW.condT rfl ?_ | refine DW.condF rfl ?_))
    refine RO.dyn rfl (d_append (H0 := H) (xs := [tmD y]) rfl hacc hov rfl (.inl rfl) (uni_tm [y]) (by simp; omega) (by simp; omega) fun d' H' q1 q2 q3 => ?_)
    (repeat (first | refine RO.Sv ?_ | refine RO.Yv ?_ | refine RO.no rfl (by decide) rfl ?_ | refine RO.nil ?_ | refine DW.region ?_ | refine DW.seq ?_ | refine DW.block ?_ | refine DW.skip ?_ | refine DW.exit ?_ | refine DW.condT rfl ?_ | refine DW.condF rfl ?_))
    refine RO.sta (s_fromM rfl rfl (by omega) (by simp)) rfl ?_
    (repeat (first | refine RO.Sv ?_ | refine RO.Yv ?_ | refine RO.no rfl (by decide) rfl ?_ | refine RO.nil ?_ | refine DW.region ?_ | refine DW.seq ?_ | refine DW.block ?_ | refine DW.skip ?_ | refine DW.exit ?_ | refine DW.condT rfl ?_ | refine DW.condF rfl ?_))
    exact ⟨(x :: f2, g2, out ++ [y], H', d'), ⟨h1, h2.tail, by rw [List.append_assoc]; exact h3, by dsimp only; simp; omega, by dsimp only; rw [List.map_append]; exact q1, q2⟩, by dsimp only [List.length_cons]; omega, rfl, rfl, rfl, rfl, rfl, trivial⟩

end Go.Proofs.YtfjmdhemlfafbaaGreat

namespace Go.Proofs.YtfjmdhemlfafbaaGreat
open Go.RowKit
set_option maxHeartbeats 8000000

end Go.Proofs.YtfjmdhemlfafbaaGreat

namespace Go.Proofs.YtfjmdhemlfafbaaGreat
open Go.RowKit
set_option maxHeartbeats 8000000

end Go.Proofs.YtfjmdhemlfafbaaGreat

namespace Go.Proofs.YtfjmdhemlfafbaaGreat
open Go.RowKit
set_option maxHeartbeats 8000000

theorem vpolys_pure (r : Rg) (l : Vc) (hr : ringCk r = 0) (hl : l.length ≤ 4611686018427387904) (hf : ∀ f ∈ l, f.length ≤ 4611686018427387904) : Pure Tryz.prog 81 [rgD r, vcD l] (I (polysGo r l)) := by
  intro H
  refine PureH.of_body Tryz.func81 rfl (by decide) (Nat.le_of_ble_eq_true rfl) fun w0 => ?_
  (repeat (first | refine RO.Sv ?_ | refine RO.Yv ?_ | refine RO.no rfl (by decide) rfl ?_ | refine RO.nil ?_ | refine DW.region ?_ | refine DW.seq ?_ | refine DW.block ?_ | refine DW.skip ?_ | refine DW.exit ?_ | refine DW.condT rfl ?_ | refine DW.condF rfl ?_))
  refine DW.loopI (fun k : Nat => k ≤ l.length ∧ polysGo r (l.drop k) = polysGo r l) (fun k => [(2, .ipt 4 [rgD r] 0 0), (8, vcD l), (9, I l.length), (10, I k)]) (fun _ => H) (fun k => l.length - k) 0 ⟨Nat.zero_le _, rfl⟩ rfl ⟨rfl, rfl, rfl, rfl, trivial⟩ fun k ⟨hk, hg⟩ => ?_
  (repeat (first | refine RO.Sv ?_ | refine RO.Yv ?_ | refine RO.no rfl (by decide) rfl ?_ | refine RO.nil ?_ | refine DW.region ?_ | refine DW.seq ?_ | refine DW.block ?_ | refine DW.skip ?_ | refine DW.exit ?_ | refine DW.condT rfl ?_ | refine DW.condF rfl ?_))
  refine DW.cond rfl (fun hb => ?_) (fun hb => ?_)
  · have hlt : k < l.length := by have := of_decide_eq_true hb; omega
    rw [polysGo_drop hlt] at hg
    (repeat (first | refine RO.Sv ?_ | refine RO.Yv ?_ | refine RO.no rfl (by decide) rfl ?_ | refine RO.nil ?_ | refine DW.region ?_ | refine DW.seq ?_ | refine DW.block ?_ | refine DW.skip ?_ | refine DW.exit ?_ | refine DW.condT rfl ?_ | refine DW.condF rfl ?_))
    refine RO.sta (sta_call rfl rfl (pOwn_pure r l[k] hr (hf _ (List.getElem_mem hlt)) _)) rfl ?_
    (repeat (first | refine RO.Sv ?_ | refine RO.Yv ?_ | refine RO.no rfl (by decide) rfl ?_ | refine RO.nil ?_ | refine DW.region ?_ | refine DW.seq ?_ | refine DW.block ?_ | refine DW.skip ?_ | refine DW.exit ?_ | refine DW.condT rfl ?_ | refine DW.condF rfl ?_))
    by_cases hc : polyCk r l[k] = 0
    · rw [if_pos hc] at hg
      rw [show (polyCk r l[k] != 0) = false by simpa using hc]
      (repeat (first | refine RO.Sv ?_ | refine RO.Yv ?_ | refine RO.no rfl (by decide) rfl ?_ | refine RO.nil ?_ | refine DW.region ?_ | refine DW.seq ?_ | refine DW.block ?_ | refine DW.skip ?_ | refine DW.exit ?_ | refine DW.condT rfl ?_ | refine DW.condF rfl ?_))
      exact ⟨k + 1, ⟨hlt, hg⟩, by dsimp only; omega, rfl, rfl, rfl, rfl, rfl, trivial⟩
    · rw [if_neg hc] at hg
      rw [← hg, show (polyCk r l[k] != 0) = true by simpa using hc]
      (repeat (first | refine RO.Sv ?_ | refine RO.Yv ?_ | refine RO.no rfl (by decide) rfl ?_ | refine RO.nil ?_ | refine DW.region ?_ | refine DW.seq ?_ | refine DW.block ?_ | refine DW.skip ?_ | refine DW.exit ?_ | refine DW.condT rfl ?_ | refine DW.condF rfl ?_))
      exact DW.ret ⟨.inl rfl, _, rfl, Over.refl _, .same _⟩
  · have hge : k = l.length := by have := of_decide_eq_false hb; omega
    subst hge
    have : polysGo r l = 0 := by rw [← hg]; simp [polysGo]
    rw [this]
    (repeat (first | refine RO.Sv ?_ | refine RO.Yv ?_ | refine RO.no rfl (by decide) rfl ?_ | refine RO.nil ?_ | refine DW.region ?_ | refine DW.seq ?_ | refine DW.block ?_ | refine DW.skip ?_ | refine DW.exit ?_ | refine DW.condT rfl ?_ | refine DW.condF rfl ?_))
    exact DW.ret ⟨.inl rfl, _, rfl, Over.refl _, .same _⟩

theorem vOwn_pure (r : Rg) (rank : Int) (l : List Vc) (hr : ringCk r = 0) (hl : l.length ≤ 4611686018427387904) (hv : ∀ v ∈ l, v.length ≤ 4611686018427387904 ∧ ∀ f ∈ v, f.length ≤ 4611686018427387904) : Pure Tryz.prog 57 [rgD r, I rank, vcsD l] (I (ownCk r rank l)) := by
  intro H
  refine PureH.of_body Tryz.func57 rfl (by decide) (Nat.le_of_ble_eq_true rfl) fun w0 => ?_
  (repeat (first | refine RO.Sv ?_ | refine RO.Yv ?_ | refine RO.no rfl (by decide) rfl ?_ | refine RO.nil ?_ | refine DW.region ?_ | refine DW.seq ?_ | refine DW.block ?_ | refine DW.skip ?_ | refine DW.exit ?_ | refine DW.condT rfl ?_ | refine DW.condF rfl ?_))
  have hm : (decide (rank < 1) || decide (40 < rank)) = true ∨ (1 ≤ rank ∧ rank ≤ 40) := by
    rcases Int.lt_or_le rank 1 with h | h
    · exact .inl (by rw [decide_eq_true h]; rfl)
    · rcases Int.lt_or_le 40 rank with h2 | h2
      · exact .inl (by rw [decide_eq_true h2]; simp)
      · exact .inr ⟨h, h2⟩
  cases h1 : decide (rank < 1)
  case true =>
    have : ownCk r rank l = 3 := by unfold ownCk; rw [if_pos (.inl (of_decide_eq_true h1))]
    rw [this]
    (repeat (first | refine RO.Sv ?_ | refine RO.Yv ?_ | refine RO.no rfl (by decide) rfl ?_ | refine RO.nil ?_ | refine DW.region ?_ | refine DW.seq ?_ | refine DW.block ?_ | refine DW.skip ?_ | refine DW.exit ?_ | refine DW.condT rfl ?_ | refine DW.condF rfl ?_))
    exact DW.ret ⟨.inl rfl, _, rfl, Over.refl _, .same _⟩
  (repeat (first | refine RO.Sv ?_ | refine RO.Yv ?_ | refine RO.no rfl (by decide) rfl ?_ | refine RO.nil ?_ | refine DW.region ?_ | refine DW.seq ?_ | refine DW.block ?_ | refine DW.skip ?_ | refine DW.exit ?_ | refine DW.condT rfl ?_ | refine DW.condF rfl ?_))
  cases h2 : decide (40 < rank)
  case true =>
    have : ownCk r rank l = 3 := by unfold ownCk; rw [if_pos (.inr (of_decide_eq_true h2))]
    rw [this]
    (repeat (first | refine RO.Sv ?_ | refine RO.Yv ?_ | refine RO.no rfl (by decide) rfl ?_ | refine RO.nil ?_ | refine DW.region ?_ | refine DW.seq ?_ | refine DW.block ?_ | refine DW.skip ?_ | refine DW.exit ?_ | refine DW.condT rfl ?_ | refine DW.condF rfl ?_))
    exact DW.ret ⟨.inl rfl, _, rfl, Over.refl _, .same _⟩
  have hrk : ¬ (rank < 1 ∨ 40 < rank) := by have := of_decide_eq_false h1; have := of_decide_eq_false h2; omega
  (repeat (first | refine RO.Sv ?_ | refine RO.Yv ?_ | refine RO.no rfl (by decide) rfl ?_ | refine RO.nil ?_ | refine DW.region ?_ | refine DW.seq ?_ | refine DW.block ?_ | refine DW.skip ?_ | refine DW.exit ?_ | refine DW.condT rfl ?_ | refine DW.condF rfl ?_))
  cases h3 : decide ((60 : Int) < (l.length : Int))
  case true =>
    have : ownCk r rank l = 2 := by unfold ownCk; rw [if_neg hrk, if_pos (by have := of_decide_eq_true h3; omega)]
    rw [this]
    (repeat (first | refine RO.Sv ?_ | refine RO.Yv ?_ | refine RO.no rfl (by decide) rfl ?_ | refine RO.nil ?_ | refine DW.region ?_ | refine DW.seq ?_ | refine DW.block ?_ | refine DW.skip ?_ | refine DW.exit ?_ | refine DW.condT rfl ?_ | refine DW.condF rfl ?_))
    exact DW.ret ⟨.inl rfl, _, rfl, Over.refl _, .same _⟩
  have : ownCk r rank l = vecsGo r rank l := by unfold ownCk; rw [if_neg hrk, if_neg (by have := of_decide_eq_false h3; omega)]
  rw [this]
  (repeat (first | refine RO.Sv ?_ | refine RO.Yv ?_ | refine RO.no rfl (by decide) rfl ?_ | refine RO.nil ?_ | refine DW.region ?_ | refine DW.seq ?_ | refine DW.block ?_ | refine DW.skip ?_ | refine DW.exit ?_ | refine DW.condT rfl ?_ | refine DW.condF rfl ?_))
  refine DW.loopI (fun k : Nat => k ≤ l.length ∧ vecsGo r rank (l.drop k) = vecsGo r rank l) (fun k => [(1, I rank), (3, .ipt 4 [rgD r] 0 0), (21, vcsD l), (22, I l.length), (23, I k)]) (fun _ => H) (fun k => l.length - k) 0 ⟨Nat.zero_le _, rfl⟩ rfl ⟨rfl, rfl, rfl, rfl, rfl, trivial⟩ fun k ⟨hk, hg⟩ => ?_
  (repeat (first | refine RO.Sv ?_ | refine RO.Yv ?_ | refine RO.no rfl (by decide) rfl ?_ | refine RO.nil ?_ | refine DW.region ?_ | refine DW.seq ?_ | refine DW.block ?_ | refine DW.skip ?_ | refine DW.exit ?_ | refine DW.condT rfl ?_ | refine DW.condF rfl ?_))
  refine DW.cond rfl (fun hb => ?_) (fun hb => ?_)
  · have hlt : k < l.length := by have := of_decide_eq_true hb; omega
    obtain ⟨hv1, hv2⟩ := hv _ (List.getElem_mem hlt)
    rw [vecsGo_drop hlt] at hg
    clear hb
    (repeat (first | refine RO.Sv ?_ | refine RO.Yv ?_ | refine RO.no rfl (by decide) rfl ?_ | refine RO.nil ?_ | refine DW.region ?_ | refine DW.seq ?_ | refine DW.block ?_ | refine DW.skip ?_ | refine DW.exit ?_ | refine DW.condT rfl ?_ | refine DW.condF rfl ?_))
    by_cases hc : (l[k].length : Int) = rank
    case neg =>
      rw [if_pos hc] at hg
      rw [← hg, show ((l[k].length : Int) != rank) = true by simpa using hc]
      (repeat (first | refine RO.Sv ?_ | refine RO.Yv ?_ | refine RO.no rfl (by decide) rfl ?_ | refine RO.nil ?_ | refine DW.region ?_ | refine DW.seq ?_ | refine DW.block ?_ | refine DW.skip ?_ | refine DW.exit ?_ | refine DW.condT rfl ?_ | refine DW.condF rfl ?_))
      exact DW.ret ⟨.inl rfl, _, rfl, Over.refl _, .same _⟩
    rw [if_neg (by simpa using hc)] at hg
    rw [show ((l[k].length : Int) != rank) = false by simpa using hc]
    (repeat (first | refine RO.Sv ?_ | refine RO.Yv ?_ | refine RO.no rfl (by decide) rfl ?_ | refine RO.nil ?_ | refine DW.region ?_ | refine DW.seq ?_ | refine DW.block ?_ | refine DW.skip ?_ | refine DW.exit ?_ | refine DW.condT rfl ?_ | refine DW.condF rfl ?_))
    refine RO.sta (sta_call rfl rfl (vpolys_pure r l[k] hr hv1 hv2 _)) rfl ?_
    (repeat (first | refine RO.Sv ?_ | refine RO.Yv ?_ | refine RO.no rfl (by decide) rfl ?_ | refine RO.nil ?_ | refine DW.region ?_ | refine DW.seq ?_ | refine DW.block ?_ | refine DW.skip ?_ | refine DW.exit ?_ | refine DW.condT rfl ?_ | refine DW.condF rfl ?_))
    by_cases hc2 : polysGo r l[k] = 0
    · rw [if_pos hc2] at hg
      rw [show (polysGo r l[k] != 0) = false by simpa using hc2]
      (repeat (first | refine RO.Sv ?_ | refine RO.Yv ?_ | refine RO.no rfl (by decide) rfl ?_ | refine RO.nil ?_ | refine DW.region ?_ | refine DW.seq ?_ | refine DW.block ?_ | refine DW.skip ?_ | refine DW.exit ?_ | refine DW.condT rfl ?_ | refine DW.condF rfl ?_))
      exact ⟨k + 1, ⟨hlt, hg⟩, by dsimp only; omega, rfl, rfl, rfl, rfl, rfl, rfl, trivial⟩
    · rw [if_neg hc2] at hg
      rw [← hg, show (polysGo r l[k] != 0) = true by simpa using hc2]
      (repeat (first | refine RO.Sv ?_ | refine RO.Yv ?_ | refine RO.no rfl (by decide) rfl ?_ | refine RO.nil ?_ | refine DW.region ?_ | refine DW.seq ?_ | refine DW.block ?_ | refine DW.skip ?_ | refine DW.exit ?_ | refine DW.condT rfl ?_ | refine DW.condF rfl ?_))
      exact DW.ret ⟨.inl rfl, _, rfl, Over.refl _, .same _⟩
  · have hge : k = l.length := by have := of_decide_eq_false hb; omega
    subst hge
    have : vecsGo r rank l = 0 := by rw [← hg]; simp [vecsGo]
    rw [this]
    (repeat (first | refine RO.Sv ?_ | refine RO.Yv ?_ | refine RO.no rfl (by decide) rfl ?_ | refine RO.nil ?_ | refine DW.region ?_ | refine DW.seq ?_ | refine DW.block ?_ | refine DW.skip ?_ | refine DW.exit ?_ | refine DW.condT rfl ?_ | refine DW.condF rfl ?_))
    exact DW.ret ⟨.inl rfl, _, rfl, Over.refl _, .same _⟩

theorem vCheck_pure (r : Rg) (rank : Int) (l : List Vc) (hl : l.length ≤ 4611686018427387904) (hv : ∀ v ∈ l, v.length ≤ 4611686018427387904 ∧ ∀ f ∈ v, f.length ≤ 4611686018427387904) : Pure Tryz.prog 39 [rgD r, I rank, vcsD l] (I (vecsCk r rank l)) := by
  intro H
  refine PureH.of_body Tryz.func39 rfl (by decide) (Nat.le_of_ble_eq_true rfl) fun w0 => ?_
  (repeat (first | refine RO.Sv ?_ | refine RO.Yv ?_ | refine RO.no rfl (by decide) rfl ?_ | refine RO.nil ?_ | refine DW.region ?_ | refine DW.seq ?_ | refine DW.block ?_ | refine DW.skip ?_ | refine DW.exit ?_ | refine DW.condT rfl ?_ | refine DW.condF rfl ?_))
  refine RO.sta (sta_call rfl rfl (Ring_pure _ _)) rfl ?_
  (repeat (first | refine RO.Sv ?_ | refine RO.Yv ?_ | refine RO.no rfl (by decide) rfl ?_ | refine RO.nil ?_ | refine DW.region ?_ | refine DW.seq ?_ | refine DW.block ?_ | refine DW.skip ?_ | refine DW.exit ?_ | refine DW.condT rfl ?_ | refine DW.condF rfl ?_))
  by_cases hr : ringCk r = 0
  case neg =>
    have h : vecsCk r rank l = ringCk r := by unfold vecsCk; rw [if_neg hr]
    rw [h, show (ringCk r != 0) = true by simpa using hr]
    (repeat (first | refine RO.Sv ?_ | refine RO.Yv ?_ | refine RO.no rfl (by decide) rfl ?_ | refine RO.nil ?_ | refine DW.region ?_ | refine DW.seq ?_ | refine DW.block ?_ | refine DW.skip ?_ | refine DW.exit ?_ | refine DW.condT rfl ?_ | refine DW.condF rfl ?_))
    exact DW.ret ⟨.inl rfl, _, rfl, Over.refl _, .same _⟩
  have h : vecsCk r rank l = ownCk r rank l := by unfold vecsCk; rw [if_pos hr]
  rw [h, show (ringCk r != 0) = false by simpa using hr]
  (repeat (first | refine RO.Sv ?_ | refine RO.Yv ?_ | refine RO.no rfl (by decide) rfl ?_ | refine RO.nil ?_ | refine DW.region ?_ | refine DW.seq ?_ | refine DW.block ?_ | refine DW.skip ?_ | refine DW.exit ?_ | refine DW.condT rfl ?_ | refine DW.condF rfl ?_))
  refine RO.sta (sta_call rfl rfl (vOwn_pure r rank l hr hl hv _)) rfl ?_
  (repeat (first | refine RO.Sv ?_ | refine RO.Yv ?_ | refine RO.no rfl (by decide) rfl ?_ | refine RO.nil ?_ | refine DW.region ?_ | refine DW.seq ?_ | refine DW.block ?_ | refine DW.skip ?_ | refine DW.exit ?_ | refine DW.condT rfl ?_ | refine DW.condF rfl ?_))
  exact DW.ret ⟨.inl rfl, _, rfl, Over.refl _, .same _⟩

theorem CheckList_pure (r : Rg) (rank : Int) (l : List Vc) (hr : ringCk r = 0) (hl : l.length ≤ 4611686018427387904) (hv : ∀ v ∈ l, v.length ≤ 4611686018427387904 ∧ ∀ f ∈ v, f.length ≤ 4611686018427387904) : Pure Tryz.prog 55 [rgD r, I rank, vcsD l] (I (ownCk r rank l)) := by
  intro H
  refine PureH.of_body Tryz.func55 rfl (by decide) (Nat.le_of_ble_eq_true rfl) fun w0 => ?_
  (repeat (first | refine RO.Sv ?_ | refine RO.Yv ?_ | refine RO.no rfl (by decide) rfl ?_ | refine RO.nil ?_ | refine DW.region ?_ | refine DW.seq ?_ | refine DW.block ?_ | refine DW.skip ?_ | refine DW.exit ?_ | refine DW.condT rfl ?_ | refine DW.condF rfl ?_))
  refine RO.sta (sta_call rfl rfl (between_pure _ _ _ _)) rfl ?_
  (repeat (first | refine RO.Sv ?_ | refine RO.Yv ?_ | refine RO.no rfl (by decide) rfl ?_ | refine RO.nil ?_ | refine DW.region ?_ | refine DW.seq ?_ | refine DW.block ?_ | refine DW.skip ?_ | refine DW.exit ?_ | refine DW.condT rfl ?_ | refine DW.condF rfl ?_))
  cases h1 : (decide (1 ≤ rank) && decide (rank ≤ 40))
  case false =>
    have : ownCk r rank l = 3 := by
      unfold ownCk
      rw [if_pos]
      simp only [Bool.and_eq_false_iff, decide_eq_false_iff_not] at h1
      omega
    rw [this]
    (repeat (first | refine RO.Sv ?_ | refine RO.Yv ?_ | refine RO.no rfl (by decide) rfl ?_ | refine RO.nil ?_ | refine DW.region ?_ | refine DW.seq ?_ | refine DW.block ?_ | refine DW.skip ?_ | refine DW.exit ?_ | refine DW.condT rfl ?_ | refine DW.condF rfl ?_))
    exact DW.ret ⟨.inl rfl, _, rfl, Over.refl _, .same _⟩
  have hrk : ¬ (rank < 1 ∨ 40 < rank) := by
    simp only [Bool.and_eq_true, decide_eq_true_eq] at h1
    omega
  (repeat (first | refine RO.Sv ?_ | refine RO.Yv ?_ | refine RO.no rfl (by decide) rfl ?_ | refine RO.nil ?_ | refine DW.region ?_ | refine DW.seq ?_ | refine DW.block ?_ | refine DW.skip ?_ | refine DW.exit ?_ | refine DW.condT rfl ?_ | refine DW.condF rfl ?_))
  cases h3 : decide ((60 : Int) < (l.length : Int))
  case true =>
    have : ownCk r rank l = 2 := by unfold ownCk; rw [if_neg hrk, if_pos (by have := of_decide_eq_true h3; omega)]
    rw [this]
    (repeat (first | refine RO.Sv ?_ | refine RO.Yv ?_ | refine RO.no rfl (by decide) rfl ?_ | refine RO.nil ?_ | refine DW.region ?_ | refine DW.seq ?_ | refine DW.block ?_ | refine DW.skip ?_ | refine DW.exit ?_ | refine DW.condT rfl ?_ | refine DW.condF rfl ?_))
    exact DW.ret ⟨.inl rfl, _, rfl, Over.refl _, .same _⟩
  have : ownCk r rank l = vecsGo r rank l := by unfold ownCk; rw [if_neg hrk, if_neg (by have := of_decide_eq_false h3; omega)]
  rw [this]
  (repeat (first | refine RO.Sv ?_ | refine RO.Yv ?_ | refine RO.no rfl (by decide) rfl ?_ | refine RO.nil ?_ | refine DW.region ?_ | refine DW.seq ?_ | refine DW.block ?_ | refine DW.skip ?_ | refine DW.exit ?_ | refine DW.condT rfl ?_ | refine DW.condF rfl ?_))
  refine DW.loopI (fun k : Nat => k ≤ l.length ∧ vecsGo r rank (l.drop k) = vecsGo r rank l) (fun k => [(1, I rank), (2, vcsD l), (3, .ipt 4 [rgD r] 0 0), (7, I k)]) (fun _ => H) (fun k => l.length - k) 0 ⟨Nat.zero_le _, rfl⟩ rfl ⟨rfl, rfl, rfl, rfl, trivial⟩ fun k ⟨hk, hg⟩ => ?_
  (repeat (first | refine RO.Sv ?_ | refine RO.Yv ?_ | refine RO.no rfl (by decide) rfl ?_ | refine RO.nil ?_ | refine DW.region ?_ | refine DW.seq ?_ | refine DW.block ?_ | refine DW.skip ?_ | refine DW.exit ?_ | refine DW.condT rfl ?_ | refine DW.condF rfl ?_))
  refine DW.cond rfl (fun hb => ?_) (fun hb => ?_)
  · have hlt : k < l.length := by have := of_decide_eq_true hb; omega
    obtain ⟨hv1, hv2⟩ := hv _ (List.getElem_mem hlt)
    rw [vecsGo_drop hlt] at hg
    clear hb
    (repeat (first | refine RO.Sv ?_ | refine RO.Yv ?_ | refine RO.no rfl (by decide) rfl ?_ | refine RO.nil ?_ | refine DW.region ?_ | refine DW.seq ?_ | refine DW.block ?_ | refine DW.skip ?_ | refine DW.exit ?_ | refine DW.condT rfl ?_ | refine DW.condF rfl ?_))
    by_cases hc : (l[k].length : Int) = rank
    case neg =>
      rw [if_pos hc] at hg
      rw [← hg, show ((l[k].length : Int) != rank) = true by simpa using hc]
      (repeat (first | refine RO.Sv ?_ | refine RO.Yv ?_ | refine RO.no rfl (by decide) rfl ?_ | refine RO.nil ?_ | refine DW.region ?_ | refine DW.seq ?_ | refine DW.block ?_ | refine DW.skip ?_ | refine DW.exit ?_ | refine DW.condT rfl ?_ | refine DW.condF rfl ?_))
      exact DW.ret ⟨.inl rfl, _, rfl, Over.refl _, .same _⟩
    rw [if_neg (by simpa using hc)] at hg
    rw [show ((l[k].length : Int) != rank) = false by simpa using hc]
    (repeat (first | refine RO.Sv ?_ | refine RO.Yv ?_ | refine RO.no rfl (by decide) rfl ?_ | refine RO.nil ?_ | refine DW.region ?_ | refine DW.seq ?_ | refine DW.block ?_ | refine DW.skip ?_ | refine DW.exit ?_ | refine DW.condT rfl ?_ | refine DW.condF rfl ?_))
    refine DW.loopI (fun j : Nat => j ≤ l[k].length ∧ polysGo r (l[k].drop j) = polysGo r l[k]) (fun j => [(1, I rank), (2, vcsD l), (3, .ipt 4 [rgD r] 0 0), (7, I k), (8, I j)]) (fun _ => H) (fun j => l[k].length - j) 0 ⟨Nat.zero_le _, rfl⟩ rfl ⟨rfl, rfl, rfl, rfl, rfl, trivial⟩ fun j ⟨hj, hgj⟩ => ?_
    (repeat (first | refine RO.Sv ?_ | refine RO.Yv ?_ | refine RO.no rfl (by decide) rfl ?_ | refine RO.nil ?_ | refine DW.region ?_ | refine DW.seq ?_ | refine DW.block ?_ | refine DW.skip ?_ | refine DW.exit ?_ | refine DW.condT rfl ?_ | refine DW.condF rfl ?_))
    refine DW.cond rfl (fun hb => ?_) (fun hb => ?_)
    · have hjl : j < l[k].length := by have := of_decide_eq_true hb; omega
      rw [polysGo_drop hjl] at hgj
      clear hb
      (repeat (first | refine RO.Sv ?_ | refine RO.Yv ?_ | refine RO.no rfl (by decide) rfl ?_ | refine RO.nil ?_ | refine DW.region ?_ | refine DW.seq ?_ | refine DW.block ?_ | refine DW.skip ?_ | refine DW.exit ?_ | refine DW.condT rfl ?_ | refine DW.condF rfl ?_))
      refine DW.drawS 10 Tryz.mixed (by kernel_rfl) (by decide) ?_
      dsimp only [List.take, List.drop]
      (repeat (first | refine RS.Sv ?_ | refine RS.Yv ?_ | refine RS.no rfl (by decide) rfl ?_ | refine RS.nil ?_))
      refine RS.sta (fun H' hov => sta_call rfl rfl (CheckOne_pure r l[k][j] hr (hv2 _ (List.getElem_mem hjl)) _)) rfl ?_
      (repeat (first | refine RS.Sv ?_ | refine RS.Yv ?_ | refine RS.no rfl (by decide) rfl ?_ | refine RS.nil ?_))
      (repeat (first | refine RO.Sv ?_ | refine RO.Yv ?_ | refine RO.no rfl (by decide) rfl ?_ | refine RO.nil ?_ | refine DW.region ?_ | refine DW.seq ?_ | refine DW.block ?_ | refine DW.skip ?_ | refine DW.exit ?_ | refine DW.condT rfl ?_ | refine DW.condF rfl ?_))
      by_cases hc2 : polyCk r l[k][j] = 0
      · rw [if_pos hc2] at hgj
        rw [show (polyCk r l[k][j] != 0) = false by simpa using hc2]
        (repeat (first | refine RO.Sv ?_ | refine RO.Yv ?_ | refine RO.no rfl (by decide) rfl ?_ | refine RO.nil ?_ | refine DW.region ?_ | refine DW.seq ?_ | refine DW.block ?_ | refine DW.skip ?_ | refine DW.exit ?_ | refine DW.condT rfl ?_ | refine DW.condF rfl ?_))
        exact ⟨j + 1, ⟨hjl, hgj⟩, by dsimp only; omega, rfl, rfl, rfl, rfl, rfl, rfl, trivial⟩
      · rw [if_neg hc2] at hgj
        rw [← hgj, if_neg hc2] at hg
        rw [← hg, show (polyCk r l[k][j] != 0) = true by simpa using hc2]
        (repeat (first | refine RO.Sv ?_ | refine RO.Yv ?_ | refine RO.no rfl (by decide) rfl ?_ | refine RO.nil ?_ | refine DW.region ?_ | refine DW.seq ?_ | refine DW.block ?_ | refine DW.skip ?_ | refine DW.exit ?_ | refine DW.condT rfl ?_ | refine DW.condF rfl ?_))
        exact DW.ret ⟨.inl rfl, _, rfl, Over.refl _, .same _⟩
    · have hje : j = l[k].length := by have := of_decide_eq_false hb; omega
      have hz : polysGo r l[k] = 0 := by rw [← hgj, hje, List.drop_length]; rfl
      rw [if_pos hz] at hg
      (repeat (first | refine RO.Sv ?_ | refine RO.Yv ?_ | refine RO.no rfl (by decide) rfl ?_ | refine RO.nil ?_ | refine DW.region ?_ | refine DW.seq ?_ | refine DW.block ?_ | refine DW.skip ?_ | refine DW.exit ?_ | refine DW.condT rfl ?_ | refine DW.condF rfl ?_))
      exact ⟨k + 1, ⟨hlt, hg⟩, by dsimp only; omega, rfl, rfl, rfl, rfl, rfl, trivial⟩
  · have hge : k = l.length := by have := of_decide_eq_false hb; omega
    subst hge
    have : vecsGo r rank l = 0 := by rw [← hg]; simp [vecsGo]
    rw [this]
    (repeat (first | refine RO.Sv ?_ | refine RO.Yv ?_ | refine RO.no rfl (by decide) rfl ?_ | refine RO.nil ?_ | refine DW.region ?_ | refine DW.seq ?_ | refine DW.block ?_ | refine DW.skip ?_ | refine DW.exit ?_ | refine DW.condT rfl ?_ | refine DW.condF rfl ?_))
    exact DW.ret ⟨.inl rfl, _, rfl, Over.refl _, .same _⟩

theorem CheckVectors_pure (r : Rg) (rank : Int) (l : List Vc) (hl : l.length ≤ 4611686018427387904) (hv : ∀ v ∈ l, v.length ≤ 4611686018427387904 ∧ ∀ f ∈ v, f.length ≤ 4611686018427387904) : Pure Tryz.prog 36 [rgD r, I rank, vcsD l] (I (vecsCk r rank l)) := by
  intro H
  refine PureH.of_body Tryz.func36 rfl (by decide) (Nat.le_of_ble_eq_true rfl) fun w0 => ?_
  (repeat (first | refine RO.Sv ?_ | refine RO.Yv ?_ | refine RO.no rfl (by decide) rfl ?_ | refine RO.nil ?_ | refine DW.region ?_ | refine DW.seq ?_ | refine DW.block ?_ | refine DW.skip ?_ | refine DW.exit ?_ | refine DW.condT rfl ?_ | refine DW.condF rfl ?_))
  refine RO.sta (sta_call rfl rfl (CheckRing_pure _ _)) rfl ?_
  (repeat (first | refine RO.Sv ?_ | refine RO.Yv ?_ | refine RO.no rfl (by decide) rfl ?_ | refine RO.nil ?_ | refine DW.region ?_ | refine DW.seq ?_ | refine DW.block ?_ | refine DW.skip ?_ | refine DW.exit ?_ | refine DW.condT rfl ?_ | refine DW.condF rfl ?_))
  by_cases hr : ringCk r = 0
  case neg =>
    have h : vecsCk r rank l = ringCk r := by unfold vecsCk; rw [if_neg hr]
    rw [h, show (ringCk r == 0) = false by simpa using hr]
    (repeat (first | refine RO.Sv ?_ | refine RO.Yv ?_ | refine RO.no rfl (by decide) rfl ?_ | refine RO.nil ?_ | refine DW.region ?_ | refine DW.seq ?_ | refine DW.block ?_ | refine DW.skip ?_ | refine DW.exit ?_ | refine DW.condT rfl ?_ | refine DW.condF rfl ?_))
    exact DW.ret ⟨.inl rfl, _, rfl, Over.refl _, .same _⟩
  have h : vecsCk r rank l = ownCk r rank l := by unfold vecsCk; rw [if_pos hr]
  rw [h, show (ringCk r == 0) = true by simpa using hr]
  (repeat (first | refine RO.Sv ?_ | refine RO.Yv ?_ | refine RO.no rfl (by decide) rfl ?_ | refine RO.nil ?_ | refine DW.region ?_ | refine DW.seq ?_ | refine DW.block ?_ | refine DW.skip ?_ | refine DW.exit ?_ | refine DW.condT rfl ?_ | refine DW.condF rfl ?_))
  refine RO.sta (sta_call rfl rfl (CheckList_pure r rank l hr hl hv _)) rfl ?_
  (repeat (first | refine RO.Sv ?_ | refine RO.Yv ?_ | refine RO.no rfl (by decide) rfl ?_ | refine RO.nil ?_ | refine DW.region ?_ | refine DW.seq ?_ | refine DW.block ?_ | refine DW.skip ?_ | refine DW.exit ?_ | refine DW.condT rfl ?_ | refine DW.condF rfl ?_))
  exact DW.ret ⟨.inl rfl, _, rfl, Over.refl _, .same _⟩

end Go.Proofs.YtfjmdhemlfafbaaGreat

namespace Go.Proofs.YtfjmdhemlfafbaaGreat
open Go.RowKit
set_option maxHeartbeats 8000000

theorem vEach_pureH {H : Heap} {f : FuncId} {caps : List D} (v o : Vc) (hl : v.length ≤ 1000000) (ho : o.length = v.length) (hg : ∀ H', Over H H' → ∀ (i : Nat) (h1 : i < v.length) (h2 : i < o.length), PureH Tryz.prog H' f (I i :: plD v[i] :: caps) (plD o[i])) :
    PureH Tryz.prog H 90 [vcD v, .fn f caps] (vcD o) := by
  refine PureH.of_body Tryz.func90 rfl (by decide) (Nat.le_of_ble_eq_true rfl) fun w0 => ?_
  (repeat (first | refine RO.S ?_ | refine RO.Y ?_ | refine RO.no rfl (by decide) rfl ?_ | refine RO.nil ?_ | refine DW.region ?_ | refine DW.seq ?_ | refine DW.block ?_ | refine DW.skip ?_ | refine DW.exit ?_ | refine DW.condT rfl ?_ | refine DW.condF rfl ?_))
  refine RO.dyn rfl (d_make rfl rfl (Nat.le_refl _) (by omega) (by omega) fun x hx => ?_)
  have hov : ∀ y, Over H (H.set x y) := fun y => (Over.refl _).set hx
  (repeat (first | refine RO.S ?_ | refine RO.Y ?_ | refine RO.no rfl (by decide) rfl ?_ | refine RO.nil ?_ | refine DW.region ?_ | refine DW.seq ?_ | refine DW.block ?_ | refine DW.skip ?_ | refine DW.exit ?_ | refine DW.condT rfl ?_ | refine DW.condF rfl ?_))
  rw [flatten_replicate1]
  refine DW.loopI (fun k : Nat => k ≤ v.length) (fun k => [(1, .fn f caps), (5, .ref x 0 v.length 1), (11, vcD v), (12, I v.length), (13, I k)]) (fun k => H.set x (57, rowTo (o.map plD) .nil k)) (fun k => v.length - k) 0 (Nat.zero_le _)
    (by rw [rowTo_zero, List.length_map, ho]) ⟨rfl, rfl, rfl, rfl, rfl, trivial⟩ fun k hk => ?_
  (repeat (first | refine RO.S ?_ | refine RO.Y ?_ | refine RO.no rfl (by decide) rfl ?_ | refine RO.nil ?_ | refine DW.region ?_ | refine DW.seq ?_ | refine DW.block ?_ | refine DW.skip ?_ | refine DW.exit ?_ | refine DW.condT rfl ?_ | refine DW.condF rfl ?_))
  refine DW.cond rfl (fun hb => ?_) (fun hb => ?_)
  · have hlt : k < v.length := by have := of_decide_eq_true hb; omega
    have hlt2 : k < o.length := by omega
    clear hb
    (repeat (first | refine RO.S ?_ | refine RO.Y ?_ | refine RO.no rfl (by decide) rfl ?_ | refine RO.nil ?_ | refine DW.region ?_ | refine DW.seq ?_ | refine DW.block ?_ | refine DW.skip ?_ | refine DW.exit ?_ | refine DW.condT rfl ?_ | refine DW.condF rfl ?_))
    refine RO.sta (sta_call rfl rfl (hg _ (hov _) k hlt hlt2)) rfl ?_
    refine RO.sta (s_indexRef rfl rfl hlt) rfl ?_
    refine RO.dyn rfl (d_store (k := 1) rfl rfl rfl (Heap.set_self _ _ _) (by rw [rowTo_len _ _ (by simp; omega)]; simp [cellsOf, plD]; omega) (by simp [cellsOf, D.isCell, plD]) ?_)
    (repeat (first | refine RO.S ?_ | refine RO.Y ?_ | refine RO.no rfl (by decide) rfl ?_ | refine RO.nil ?_ | refine DW.region ?_ | refine DW.seq ?_ | refine DW.block ?_ | refine DW.skip ?_ | refine DW.exit ?_ | refine DW.condT rfl ?_ | refine DW.condF rfl ?_))
    refine ⟨k + 1, hlt, by dsimp only; omega, ?_, rfl, rfl, rfl, rfl, rfl, trivial⟩
    rw [Heap.set_set]
    dsimp only
    have h1 := rowTo_set (l := o.map plD) (z := .nil) (k := k) (by simp; omega)
    rw [← h1]
    simp only [List.getElem_map, cellsOf, plD, Nat.zero_add, Nat.mul_one]
  · have hge : k = v.length := by have := of_decide_eq_false hb; omega
    subst hge
    (repeat (first | refine RO.S ?_ | refine RO.Y ?_ | refine RO.no rfl (by decide) rfl ?_ | refine RO.nil ?_ | refine DW.region ?_ | refine DW.seq ?_ | refine DW.block ?_ | refine DW.skip ?_ | refine DW.exit ?_ | refine DW.condT rfl ?_ | refine DW.condF rfl ?_))
    refine DW.ret ⟨.inl rfl, _, rfl, hov _, ?_⟩
    have : rowTo (o.map plD) .nil v.length = (o.map plD).flatMap cellsOf := by
      rw [flat_cells1 (fun _ => rfl)]
      have := rowTo_all (o.map plD) .nil
      rwa [List.length_map, ho] at this
    refine Frz.list (T := 57) (by rw [Heap.set_self, this]) hx (uni_pl _) (by simp [ho])

theorem vSum1_pureH {H : Heap} (r : Rg) (w : Vc) (i : Nat) (f g : Pl) (hi : i < w.length) (hs : PureH Tryz.prog H 102 [rgD r, plD f, plD w[i]] (plD g)) :
    PureH Tryz.prog H 101 [I i, plD f, .ipt 4 [rgD r] 0 0, .ipt 1 [vcD w] 0 0] (plD g) := by
  refine PureH.of_body Tryz.func101 rfl (by decide) (Nat.le_of_ble_eq_true rfl) fun w0 => ?_
  (repeat (first | refine RO.Sv ?_ | refine RO.Yv ?_ | refine RO.no rfl (by decide) rfl ?_ | refine RO.nil ?_ | refine DW.region ?_ | refine DW.seq ?_ | refine DW.block ?_ | refine DW.skip ?_ | refine DW.exit ?_ | refine DW.condT rfl ?_ | refine DW.condF rfl ?_))
  refine DW.drawS 6 Tryz.mixed (by kernel_rfl) (by decide) ?_
  dsimp only [List.take, List.drop]
  (repeat (first | refine RS.Sv ?_ | refine RS.Yv ?_ | refine RS.no rfl (by decide) rfl ?_ | refine RS.nil ?_))
  refine RO.sta (sta_call rfl rfl hs) rfl ?_
  (repeat (first | refine RO.Sv ?_ | refine RO.Yv ?_ | refine RO.no rfl (by decide) rfl ?_ | refine RO.nil ?_ | refine DW.region ?_ | refine DW.seq ?_ | refine DW.block ?_ | refine DW.skip ?_ | refine DW.exit ?_ | refine DW.condT rfl ?_ | refine DW.condF rfl ?_))
  exact DW.ret ⟨.inl rfl, _, rfl, Over.refl _, .same _⟩

theorem vsumT_len {r : Rg} {v w : Vc} (h : v.length = w.length) : (vsumT r v w).length = v.length := by unfold vsumT; rw [List.length_zipWith]; omega

theorem vSum_pure (r : Rg) (v w : Vc) {n : Nat} {B : Int} {L M : Nat} (hn : n ≤ 3) (hB : B ≤ 1000000) (hp : 2 ≤ r.p ∧ r.p ≤ 101) (hl : v.length ≤ 1000000) (hvw : v.length = w.length) (hLM : L + M ≤ 4000000000000) (hv : VB r n B L v) (hw : VB r n B M w) :
    Pure Tryz.prog 88 [rgD r, vcD v, vcD w] (vcD (vsumT r v w)) := by
  intro H
  refine PureH.of_body Tryz.func88 rfl (by decide) (Nat.le_of_ble_eq_true rfl) fun w0 => ?_
  (repeat (first | refine RO.Sv ?_ | refine RO.Yv ?_ | refine RO.no rfl (by decide) rfl ?_ | refine RO.nil ?_ | refine DW.region ?_ | refine DW.seq ?_ | refine DW.block ?_ | refine DW.skip ?_ | refine DW.exit ?_ | refine DW.condT rfl ?_ | refine DW.condF rfl ?_))
  refine RO.sta (sta_call rfl rfl (vEach_pureH v (vsumT r v w) hl (vsumT_len hvw) fun H' _ i h1 h2 => ?_)) rfl ?_
  · obtain ⟨a1, a2⟩ := hv _ (List.getElem_mem h1)
    obtain ⟨b1, b2⟩ := hw _ (List.getElem_mem (show i < w.length by omega))
    have he : (vsumT r v w)[i] = sumT r.p r.order v[i] (w[i]'(by omega)) := by simp [vsumT]
    rw [he]
    exact vSum1_pureH r w i v[i] _ (by omega) (sum_pure r v[i] w[i] hn hB hp (by omega) a1 b1 H')
  (repeat (first | refine RO.Sv ?_ | refine RO.Yv ?_ | refine RO.no rfl (by decide) rfl ?_ | refine RO.nil ?_ | refine DW.region ?_ | refine DW.seq ?_ | refine DW.block ?_ | refine DW.skip ?_ | refine DW.exit ?_ | refine DW.condT rfl ?_ | refine DW.condF rfl ?_))
  exact DW.ret ⟨.inl rfl, _, rfl, Over.refl _, .same _⟩

theorem vBy1_pureH {H : Heap} (r : Rg) (t : Tm) (i : Int) (f g : Pl) (hs : PureH Tryz.prog H 92 [rgD r, plD f, tmD t] (plD g)) :
    PureH Tryz.prog H 91 [I i, plD f, .ipt 4 [rgD r] 0 0, .ipt 2 [tmD t] 0 0] (plD g) := by
  refine PureH.of_body Tryz.func91 rfl (by decide) (Nat.le_of_ble_eq_true rfl) fun w0 => ?_
  (repeat (first | refine RO.Sv ?_ | refine RO.Yv ?_ | refine RO.no rfl (by decide) rfl ?_ | refine RO.nil ?_ | refine DW.region ?_ | refine DW.seq ?_ | refine DW.block ?_ | refine DW.skip ?_ | refine DW.exit ?_ | refine DW.condT rfl ?_ | refine DW.condF rfl ?_))
  refine RO.sta (sta_call rfl rfl hs) rfl ?_
  (repeat (first | refine RO.Sv ?_ | refine RO.Yv ?_ | refine RO.no rfl (by decide) rfl ?_ | refine RO.nil ?_ | refine DW.region ?_ | refine DW.seq ?_ | refine DW.block ?_ | refine DW.skip ?_ | refine DW.exit ?_ | refine DW.condT rfl ?_ | refine DW.condF rfl ?_))
  exact DW.ret ⟨.inl rfl, _, rfl, Over.refl _, .same _⟩

theorem vBy_pure (r : Rg) (v : Vc) (t : Tm) {n : Nat} {B C : Int} {L : Nat} (hn : n ≤ 3) (hB : B ≤ 1000000) (hC : C ≤ 1000000) (hp : 2 ≤ r.p ∧ r.p ≤ 101) (hl : v.length ≤ 1000000) (hL : L ≤ 4000000000000) (hv : VB r n B L v) (ht : TB 0 r.p n C t) :
    Pure Tryz.prog 74 [rgD r, vcD v, tmD t] (vcD (vbyT r v t)) := by
  intro H
  refine PureH.of_body Tryz.func74 rfl (by decide) (Nat.le_of_ble_eq_true rfl) fun w0 => ?_
  (repeat (first | refine RO.Sv ?_ | refine RO.Yv ?_ | refine RO.no rfl (by decide) rfl ?_ | refine RO.nil ?_ | refine DW.region ?_ | refine DW.seq ?_ | refine DW.block ?_ | refine DW.skip ?_ | refine DW.exit ?_ | refine DW.condT rfl ?_ | refine DW.condF rfl ?_))
  refine RO.sta (sta_call rfl rfl (vEach_pureH v (vbyT r v t) hl (by simp [vbyT]) fun H' _ i h1 h2 => ?_)) rfl ?_
  · obtain ⟨a1, a2⟩ := hv _ (List.getElem_mem h1)
    have he : (vbyT r v t)[i] = byT r.p v[i] t := by simp [vbyT]
    rw [he]
    exact vBy1_pureH r t i v[i] _ (by_pure r v[i] t hn hB hC hp (by omega) (fun x hx => (a1.all x hx).mono (by omega) (by omega)) ht H')
  (repeat (first | refine RO.Sv ?_ | refine RO.Yv ?_ | refine RO.no rfl (by decide) rfl ?_ | refine RO.nil ?_ | refine DW.region ?_ | refine DW.seq ?_ | refine DW.block ?_ | refine DW.skip ?_ | refine DW.exit ?_ | refine DW.condT rfl ?_ | refine DW.condF rfl ?_))
  exact DW.ret ⟨.inl rfl, _, rfl, Over.refl _, .same _⟩

theorem nought_call {H : Heap} (n : Nat) (hn : n ≤ 1000000) : CallD Tryz.prog H 65 [I n] (fun d H' => ∃ b, H b = none ∧ d = .ref b 0 n 1 ∧ H' = H.set b (57, List.replicate n .nil)) := by
  refine CallD.of_body Tryz.func65 rfl (by decide) (Nat.le_of_ble_eq_true rfl) fun w0 => ?_
  (repeat (first | refine RO.Sv ?_ | refine RO.Yv ?_ | refine RO.no rfl (by decide) rfl ?_ | refine RO.nil ?_ | refine DW.region ?_ | refine DW.seq ?_ | refine DW.block ?_ | refine DW.skip ?_ | refine DW.exit ?_ | refine DW.condT rfl ?_ | refine DW.condF rfl ?_))
  refine RO.dyn rfl (d_make rfl rfl (Nat.le_refl _) (by omega) (by omega) fun x hx => ?_)
  (repeat (first | refine RO.Sv ?_ | refine RO.Yv ?_ | refine RO.no rfl (by decide) rfl ?_ | refine RO.nil ?_ | refine DW.region ?_ | refine DW.seq ?_ | refine DW.block ?_ | refine DW.skip ?_ | refine DW.exit ?_ | refine DW.condT rfl ?_ | refine DW.condF rfl ?_))
  rw [flatten_replicate1]
  exact DW.ret ⟨.inl rfl, _, _, _, rfl, Heap.sub_refl _, .same _, x, hx, rfl, rfl⟩

end Go.Proofs.YtfjmdhemlfafbaaGreat
