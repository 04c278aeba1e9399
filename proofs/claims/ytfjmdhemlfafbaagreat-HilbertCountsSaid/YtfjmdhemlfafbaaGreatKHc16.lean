/-
  The document's Sum and Product. No condition.
-/
import Derived.Test.YtfjmdhemlfafbaaGreatKHc15
import Derived.Test.YtfjmdhemlfafbaaGreatKHc8
set_option linter.unusedVariables false
set_option linter.unusedSimpArgs false

namespace Go.Proofs.YtfjmdhemlfafbaaGreat
section
open Go.RowKit
set_option maxHeartbeats 8000000

theorem by_pure (r : Rg) (f : Pl) (t : Tm) {n : Nat} {B C : Int} (hn : n ≤ 3) (hB : B ≤ 1000000) (hC : C ≤ 1000000) (hp : 2 ≤ r.p ∧ r.p ≤ 101) (hl : f.length ≤ 4000000000000) (hf : ∀ x ∈ f, TB 0 r.p n B x) (ht : TB 0 r.p n C t) :
  Pure Tryz.prog 92 [rgD r, plD f, tmD t] (plD (byT r.p f t)) := by
 intro H
 have htc := ht.lo
 have htc2 := ht.hi
 refine PureH.of_body Tryz.func92 rfl (by decide) (Nat.le_of_ble_eq_true rfl) fun w0 => ?_
 (repeat(first|refine zA ?_|refine zB ?_|refine zE rfl (by decide) rfl ?_|refine zF ?_|refine zG ?_|refine zH ?_|refine zI ?_|refine zJ ?_|refine zK ?_|refine zL rfl ?_|refine zM rfl ?_))
 (repeat(first|refine zA ?_|refine zB ?_|refine zE rfl (by decide) rfl ?_|refine zF ?_|refine zG ?_|refine zH ?_|refine zI ?_|refine zJ ?_|refine zK ?_|refine zL rfl ?_|refine zM rfl ?_))
 by_cases hz : t.c = 0
 ·have : byT r.p f t = [] := by unfold byT; rw [if_pos hz]
  rw [this, show (t.c == 0) = true by rw [hz]; rfl]
  (repeat(first|refine zA ?_|refine zB ?_|refine zE rfl (by decide) rfl ?_|refine zF ?_|refine zG ?_|refine zH ?_|refine zI ?_|refine zJ ?_|refine zK ?_|refine zL rfl ?_|refine zM rfl ?_))
  exact DW.ret ⟨.inl rfl, _, rfl, Over.refl _, .nil _⟩
 have hby : byT r.p f t = f.map fun x => ⟨x.c * t.c % r.p, zipE (· + ·) x.e t.e⟩ := by unfold byT; rw [if_neg hz]
 have hbl : (byT r.p f t).length = f.length := by rw [hby, List.length_map]
 rw [show (t.c == 0) = false from beq_eq_false_iff_ne.2 hz]
 (repeat(first|refine zA ?_|refine zB ?_|refine zE rfl (by decide) rfl ?_|refine zF ?_|refine zG ?_|refine zH ?_|refine zI ?_|refine zJ ?_|refine zK ?_|refine zL rfl ?_|refine zM rfl ?_))
 refine RO.dyn rfl (d_make rfl rfl (Nat.le_refl _) (by omega) (by omega) fun b hb0 => ?_)
 (repeat(first|refine zA ?_|refine zB ?_|refine zE rfl (by decide) rfl ?_|refine zF ?_|refine zG ?_|refine zH ?_|refine zI ?_|refine zJ ?_|refine zK ?_|refine zL rfl ?_|refine zM rfl ?_))
 refine DW.loopG (fun k : Nat => k ≤ f.length) (fun k => [(3, .ipt 4 [rgD r] 0 0), (5, .ipt 2 [tmD t] 0 0), (7, .ref b 0 f.length 2), (16, plD f), (17, I f.length), (18, I k)]) (fun k => H.set b (55, (rowTo ((byT r.p f t).map tmD) (.agg [I 0, .nil]) k).flatMap cellsOf)) (fun k => f.length - k) 0 (Nat.zero_le _)
  ?_ (.one rfl (.one rfl (.one rfl (.one rfl (.one rfl (.one rfl trivial)))))) fun k hk => ?_
 ·have : (List.replicate f.length [I 0, D.nil]).flatten = (rowTo ((byT r.p f t).map tmD) (.agg [I 0, .nil]) 0).flatMap cellsOf := by
   rw [rowTo_zero, List.length_map, hbl, List.flatMap_def, List.map_replicate]
   rfl
  rw [this]
  exact Heap.sub_refl _
 (repeat(first|refine zA ?_|refine zB ?_|refine zE rfl (by decide) rfl ?_|refine zF ?_|refine zG ?_|refine zH ?_|refine zI ?_|refine zJ ?_|refine zK ?_|refine zL rfl ?_|refine zM rfl ?_))
 refine DW.cond rfl (fun hb => ?_) (fun hb => ?_)
 ·have hlt : k < f.length := by have := of_decide_eq_true hb; omega
  clear hb
  have hx := hf _ (List.getElem_mem hlt)
  have hxc := hx.lo
  have hxc2 := hx.hi
  have hm0 : 0 ≤ f[k].c * t.c := Int.mul_nonneg (by omega) (by omega)
  have hm1 : f[k].c * t.c ≤ 101 * 101 := Int.mul_le_mul (by omega) (by omega) (by omega) (by omega)
  have hget : (byT r.p f t)[k]'(by omega) = ⟨f[k].c * t.c % r.p, zipE (· + ·) f[k].e t.e⟩ := by simp [hby]
  (repeat(first|refine zA ?_|refine zB ?_|refine zE rfl (by decide) rfl ?_|refine zF ?_|refine zG ?_|refine zH ?_|refine zI ?_|refine zJ ?_|refine zK ?_|refine zL rfl ?_|refine zM rfl ?_))
  (refine RO.dyn rfl (d_alloc fun bv hbv => ?_); (repeat(first|refine zA ?_|refine zB ?_|refine zE rfl (by decide) rfl ?_)); refine RO.dyn rfl (d_storeTm rfl rfl (Heap.set_self _ _ _) rfl ?_); rw [Heap.set_set])
  (repeat(first|refine zA ?_|refine zB ?_|refine zE rfl (by decide) rfl ?_|refine zF ?_|refine zG ?_|refine zH ?_|refine zI ?_|refine zJ ?_|refine zK ?_|refine zL rfl ?_|refine zM rfl ?_))
  have hbne : b ≠ bv := fun e => by rw [← e, Heap.set_self] at hbv; cases hbv
  refine DW.drawS 17 Tryz.mixed (by kernel_rfl) (by decide) ?_
  dsimp only [List.take, List.drop]
  (repeat(first|refine zN ?_|refine zO ?_|refine zR rfl (by decide) rfl ?_|refine zS ?_))
  refine RS.sta (fun H' hov => sta_call rfl rfl (Product_pure (hx.mok hn hB) (ht.mok hn hC) (by rw [hx.len, ht.len]) _)) rfl ?_
  refine RS.sta (fun H' hov => s_buildT (out := [I (f[k].c * t.c % r.p), intsD (zipE (· + ·) f[k].e t.e)]) rfl rfl) rfl ?_
  refine RS.sta (fun H' hov => s_ix2 (i := k) rfl rfl rfl hlt) rfl ?_
  (repeat(first|refine zN ?_|refine zO ?_|refine zR rfl (by decide) rfl ?_|refine zS ?_))
  refine RO.dyn rfl (d_store (k := 2) rfl rfl rfl (by rw [Heap.set_other _ _ hbne, Heap.set_self]) ?_ (fun z hz => by
   have hz' : z ∈ [I (f[k].c * t.c % r.p), intsD (zipE (· + ·) f[k].e t.e)] := hz
   simp at hz'
   rcases hz' with rfl | rfl <;> rfl) ?_)
  ·rw [show (rowTo ((byT r.p f t).map tmD) (.agg [I 0, .nil]) k).flatMap cellsOf = (rowTo ((byT r.p f t).map tmD) (.agg [I 0, .nil]) k).flatMap cellsOf from rfl]
   have hu : Uni 2 (rowTo ((byT r.p f t).map tmD) (.agg [I 0, .nil]) k) := fun d hd => by
    unfold rowTo at hd
    rcases List.mem_append.1 hd with h | h
    ·obtain ⟨y, _, rfl⟩ := List.mem_map.1 (List.mem_of_mem_take h)
     exact ⟨rfl, fun x hx => by simp [tmD, cellsOf] at hx; rcases hx with rfl | rfl <;> rfl⟩
    ·rw [List.eq_of_mem_replicate h]
     exact ⟨rfl, fun x hx => by simp [cellsOf] at hx; rcases hx with rfl | rfl <;> rfl⟩
   rw [hu.length, rowTo_len _ _ (by simp; omega)]
   simp [cellsOf]
   omega
  have hel : ∀ d ∈ rowTo ((byT r.p f t).map tmD) (.agg [I 0, .nil]) k, (cellsOf d).length = 2 := fun d hd => by
   unfold rowTo at hd
   rcases List.mem_append.1 hd with h | h
   ·obtain ⟨y, _, rfl⟩ := List.mem_map.1 (List.mem_of_mem_take h)
    rfl
   ·rw [List.eq_of_mem_replicate h]; rfl
  rw [flat_set (k := 2) (by omega) hel (i := k) (by rw [rowTo_len _ _ (by simp; omega)]; simp; omega) rfl]
  have hput : (rowTo ((byT r.p f t).map tmD) (.agg [I 0, .nil]) k).set k (.agg [I (f[k].c * t.c % r.p), intsD (zipE (· + ·) f[k].e t.e)]) = rowTo ((byT r.p f t).map tmD) (.agg [I 0, .nil]) (k + 1) := by
   have := rowTo_put (l := (byT r.p f t).map tmD) (z := .agg [I 0, .nil]) (k := k) (by simp; omega)
   rw [← this]
   congr 1
   rw [List.getElem_map, hget]
   rfl
  rw [hput]
  (repeat(first|refine zA ?_|refine zB ?_|refine zE rfl (by decide) rfl ?_|refine zF ?_|refine zG ?_|refine zH ?_|refine zI ?_|refine zJ ?_|refine zK ?_|refine zL rfl ?_|refine zM rfl ?_))
  refine ⟨k + 1, hlt, by dsimp only; omega, fun c x hc => ?_, .one rfl (.one rfl (.one rfl (.one rfl (.one rfl (.one rfl trivial)))))⟩
  dsimp only at hc
  by_cases hcb : c = b
  ·subst hcb
   rw [Heap.set_self] at hc ⊢
   exact hc
  ·rw [Heap.set_other _ _ hcb] at hc ⊢
   by_cases hcv : c = bv
   ·subst hcv
    rw [Heap.set_other _ _ hcb] at hbv
    rw [hbv] at hc; cases hc
   ·rw [Heap.set_other _ _ hcv, Heap.set_other _ _ hcb]
    exact hc
 ·have hke : k = f.length := by have := of_decide_eq_false hb; omega
  have hall : rowTo ((byT r.p f t).map tmD) (.agg [I 0, .nil]) k = (byT r.p f t).map tmD := by
   have := rowTo_all ((byT r.p f t).map tmD) (.agg [I 0, .nil])
   rwa [List.length_map, hbl, ← hke] at this
  rw [hall]
  (repeat(first|refine zA ?_|refine zB ?_|refine zE rfl (by decide) rfl ?_|refine zF ?_|refine zG ?_|refine zH ?_|refine zI ?_|refine zJ ?_|refine zK ?_|refine zL rfl ?_|refine zM rfl ?_))
  refine DW.ret ⟨.inl rfl, _, rfl, (Over.refl _).set hb0, ?_⟩
  exact Frz.list (T := 55) (Heap.set_self _ _ _) hb0 (uni_tm _) (by simp [hbl])

theorem sum_pure (r : Rg) (f g : Pl) {n : Nat} {B : Int} (hn : n ≤ 3) (hB : B ≤ 1000000) (hp : 2 ≤ r.p ∧ r.p ≤ 101) (hl : f.length + g.length ≤ 4000000000000) (hf : PB 1 r.p r.order n B f) (hg : PB 1 r.p r.order n B g) :
  Pure Tryz.prog 102 [rgD r, plD f, plD g] (plD (sumT r.p r.order f g)) := by
 intro H
 refine PureH.of_body Tryz.func102 rfl (by decide) (Nat.le_of_ble_eq_true rfl) fun w0 => ?_
 (repeat(first|refine zA ?_|refine zB ?_|refine zE rfl (by decide) rfl ?_|refine zF ?_|refine zG ?_|refine zH ?_|refine zI ?_|refine zJ ?_|refine zK ?_|refine zL rfl ?_|refine zM rfl ?_))
 refine RO.dyn rfl (d_make (n := 0) (c := f.length + g.length) rfl (by simp; rfl) (Nat.zero_le _) (by omega) (by omega) fun b hb0 => ?_)
 (repeat(first|refine zA ?_|refine zB ?_|refine zE rfl (by decide) rfl ?_|refine zF ?_|refine zG ?_|refine zH ?_|refine zI ?_|refine zJ ?_|refine zK ?_|refine zL rfl ?_|refine zM rfl ?_))
 refine DW.loopI (fun x : Pl × Pl × Pl × Heap × D => PB 1 r.p r.order n B x.1 ∧ PB 1 r.p r.order n B x.2.1 ∧ x.2.2.1 ++ sumT r.p r.order x.1 x.2.1 = sumT r.p r.order f g ∧ x.2.2.1.length + x.1.length + x.2.1.length ≤ f.length + g.length ∧ Acc H x.2.2.2.1 x.2.2.2.2 2 55 (x.2.2.1.map tmD) ∧ Over H x.2.2.2.1)
  (fun x => [(1, plD x.1), (2, plD x.2.1), (3, .ipt 4 [rgD r] 0 0), (7, x.2.2.2.2)]) (fun x => x.2.2.2.1) (fun x => x.1.length + x.2.1.length) (f, g, [], H.set b (55, []), .ref b 0 0 2)
  ⟨hf, hg, rfl, by simp, ⟨Uni.nil _, .inr ⟨b, hb0, rfl, Heap.set_self _ _ _⟩⟩, (Over.refl _).set hb0⟩ rfl ⟨rfl, rfl, rfl, rfl, trivial⟩ fun ⟨f1, g1, out, H1, d⟩ ⟨h1, h2, h3, h4, hacc, hov⟩ => ?_
 dsimp only at h1 h2 h3 h4 hacc hov
 dsimp only
 have fin : ∀ (f1 g1 : Pl), (f1 = [] ∨ g1 = []) → sumT r.p r.order f1 g1 = f1 ++ g1 := fun f1 g1 h => by
  rcases h with rfl | rfl
  ·rfl
  ·rw [sumT_nil', List.append_nil]
 (repeat(first|refine zA ?_|refine zB ?_|refine zE rfl (by decide) rfl ?_|refine zF ?_|refine zG ?_|refine zH ?_|refine zI ?_|refine zJ ?_|refine zK ?_|refine zL rfl ?_|refine zM rfl ?_))
 cases hf1 : decide ((0 : Int) < (f1.length : Int))
 case false =>
  have he : f1 = [] := List.eq_nil_of_length_eq_zero (by have := of_decide_eq_false hf1; omega)
  rw [fin f1 g1 (.inl he)] at h3
  (repeat(first|refine zA ?_|refine zB ?_|refine zE rfl (by decide) rfl ?_|refine zF ?_|refine zG ?_|refine zH ?_|refine zI ?_|refine zJ ?_|refine zK ?_|refine zL rfl ?_|refine zM rfl ?_))
  refine RO.dyn rfl (d_append (H0 := H) (xs := f1.map tmD) rfl hacc hov rfl (.inl rfl) (uni_tm f1) (by simp; omega) (by simp; omega) fun d' H' q1 q2 q3 => ?_)
  (repeat(first|refine zA ?_|refine zB ?_|refine zE rfl (by decide) rfl ?_|refine zF ?_|refine zG ?_|refine zH ?_|refine zI ?_|refine zJ ?_|refine zK ?_|refine zL rfl ?_|refine zM rfl ?_))
  refine RO.dyn rfl (d_append (H0 := H) (xs := g1.map tmD) rfl q1 q2 rfl (.inl rfl) (uni_tm g1) (by simp; omega) (by simp; omega) fun d'' H'' s1 s2 s3 => ?_)
  (repeat(first|refine zA ?_|refine zB ?_|refine zE rfl (by decide) rfl ?_|refine zF ?_|refine zG ?_|refine zH ?_|refine zI ?_|refine zJ ?_|refine zK ?_|refine zL rfl ?_|refine zM rfl ?_))
  rw [← List.map_append, ← List.map_append, List.append_assoc, h3] at s1
  exact DW.ret ⟨.inl rfl, _, rfl, s2, s1.done⟩
 have hf1p := of_decide_eq_true hf1
 (repeat(first|refine zA ?_|refine zB ?_|refine zE rfl (by decide) rfl ?_|refine zF ?_|refine zG ?_|refine zH ?_|refine zI ?_|refine zJ ?_|refine zK ?_|refine zL rfl ?_|refine zM rfl ?_))
 cases hg1 : decide ((0 : Int) < (g1.length : Int))
 case false =>
  have he : g1 = [] := List.eq_nil_of_length_eq_zero (by have := of_decide_eq_false hg1; omega)
  rw [fin f1 g1 (.inr he)] at h3
  (repeat(first|refine zA ?_|refine zB ?_|refine zE rfl (by decide) rfl ?_|refine zF ?_|refine zG ?_|refine zH ?_|refine zI ?_|refine zJ ?_|refine zK ?_|refine zL rfl ?_|refine zM rfl ?_))
  refine RO.dyn rfl (d_append (H0 := H) (xs := f1.map tmD) rfl hacc hov rfl (.inl rfl) (uni_tm f1) (by simp; omega) (by simp; omega) fun d' H' q1 q2 q3 => ?_)
  (repeat(first|refine zA ?_|refine zB ?_|refine zE rfl (by decide) rfl ?_|refine zF ?_|refine zG ?_|refine zH ?_|refine zI ?_|refine zJ ?_|refine zK ?_|refine zL rfl ?_|refine zM rfl ?_))
  refine RO.dyn rfl (d_append (H0 := H) (xs := g1.map tmD) rfl q1 q2 rfl (.inl rfl) (uni_tm g1) (by simp; omega) (by simp; omega) fun d'' H'' s1 s2 s3 => ?_)
  (repeat(first|refine zA ?_|refine zB ?_|refine zE rfl (by decide) rfl ?_|refine zF ?_|refine zG ?_|refine zH ?_|refine zI ?_|refine zJ ?_|refine zK ?_|refine zL rfl ?_|refine zM rfl ?_))
  rw [← List.map_append, ← List.map_append, List.append_assoc, h3] at s1
  exact DW.ret ⟨.inl rfl, _, rfl, s2, s1.done⟩
 have hg1p := of_decide_eq_true hg1
 clear fin hf1 hg1
 cases f1 with
 | nil => simp at hf1p
 | cons x f2 =>
 cases g1 with
 | nil => simp at hg1p
 | cons y g2 =>
 have lx := h1.head.len
 have ly := h2.head.len
 have cx := h1.head.lo
 have cx2 := h1.head.hi
 have cy := h2.head.lo
 have cy2 := h2.head.hi
 have hl1 : 0 < (x :: f2).length := by simp
 have hl2 : 0 < (y :: g2).length := by simp
 simp only [List.length_cons] at h4
 rw [sumT_cons] at h3
 (repeat(first|refine zA ?_|refine zB ?_|refine zE rfl (by decide) rfl ?_|refine zF ?_|refine zG ?_|refine zH ?_|refine zI ?_|refine zJ ?_|refine zK ?_|refine zL rfl ?_|refine zM rfl ?_))
 refine DW.drawS 10 Tryz.mixed (by kernel_rfl) (by decide) ?_
 dsimp only [List.take, List.drop]
 (repeat(first|refine zN ?_|refine zO ?_|refine zR rfl (by decide) rfl ?_|refine zS ?_))
 refine RS.sta (fun H' hov => sta_call rfl rfl (Compare_pure r (h1.head.mok hn hB) (h2.head.mok hn hB) (by rw [lx, ly]) _)) rfl ?_
 (repeat(first|refine zN ?_|refine zO ?_|refine zR rfl (by decide) rfl ?_|refine zS ?_))
 (repeat(first|refine zA ?_|refine zB ?_|refine zE rfl (by decide) rfl ?_|refine zF ?_|refine zG ?_|refine zH ?_|refine zI ?_|refine zJ ?_|refine zK ?_|refine zL rfl ?_|refine zM rfl ?_))
 rcases cmpM_range r.order x.e y.e with hc | hc | hc
 ·rw [if_neg (by omega), if_neg (by omega)] at h3
  rw [hc]
  (repeat(first|refine zA ?_|refine zB ?_|refine zE rfl (by decide) rfl ?_|refine zF ?_|refine zG ?_|refine zH ?_|refine zI ?_|refine zJ ?_|refine zK ?_|refine zL rfl ?_|refine zM rfl ?_))
  refine DW.drawS 13 Tryz.mixed (by kernel_rfl) (by decide) ?_
  dsimp only [List.take, List.drop]
  (repeat(first|refine zN ?_|refine zO ?_|refine zR rfl (by decide) rfl ?_|refine zS ?_))
  (repeat(first|refine zA ?_|refine zB ?_|refine zE rfl (by decide) rfl ?_|refine zF ?_|refine zG ?_|refine zH ?_|refine zI ?_|refine zJ ?_|refine zK ?_|refine zL rfl ?_|refine zM rfl ?_))
  cases hcc : decide (0 < (x.c + y.c) % r.p)
  ·rw [if_neg (of_decide_eq_false hcc)] at h3
   (repeat(first|refine zA ?_|refine zB ?_|refine zE rfl (by decide) rfl ?_|refine zF ?_|refine zG ?_|refine zH ?_|refine zI ?_|refine zJ ?_|refine zK ?_|refine zL rfl ?_|refine zM rfl ?_))
   refine DW.drawX [0, 1, 2, 3] [2, 3] (fun _ => none) Tryz.mixed (by kernel_rfl) (Over.nul _) ?_
   (repeat(first|refine RX.A ?_|refine RX.nil ?_))
   refine RX.any (fun H' => s_fromM rfl rfl (by omega) (by simp)) rfl ?_
   (repeat(first|refine RX.A ?_|refine RX.nil ?_))
   refine RX.any (fun H' => s_fromM rfl rfl (by omega) (by simp)) rfl ?_
   (repeat(first|refine RX.A ?_|refine RX.nil ?_))
   (repeat(first|refine RY.S ?_|refine RY.nil ?_))
   (repeat(first|refine zA ?_|refine zB ?_|refine zE rfl (by decide) rfl ?_|refine zF ?_|refine zG ?_|refine zH ?_|refine zI ?_|refine zJ ?_|refine zK ?_|refine zL rfl ?_|refine zM rfl ?_))
   exact ⟨(f2, g2, out, H1, d), ⟨h1.tail, h2.tail, h3, by dsimp only; omega, hacc, hov⟩, by dsimp only [List.length_cons]; omega, rfl, rfl, rfl, rfl, rfl, trivial⟩
  ·rw [if_pos (of_decide_eq_true hcc)] at h3
   (repeat(first|refine zA ?_|refine zB ?_|refine zE rfl (by decide) rfl ?_|refine zF ?_|refine zG ?_|refine zH ?_|refine zI ?_|refine zJ ?_|refine zK ?_|refine zL rfl ?_|refine zM rfl ?_))
   refine RO.sta (s_buildT (out := [I ((x.c + y.c) % r.p), intsD x.e]) rfl rfl) rfl ?_
   (repeat(first|refine zA ?_|refine zB ?_|refine zE rfl (by decide) rfl ?_|refine zF ?_|refine zG ?_|refine zH ?_|refine zI ?_|refine zJ ?_|refine zK ?_|refine zL rfl ?_|refine zM rfl ?_))
   refine RO.dyn rfl (d_append (H0 := H) (xs := [tmD ⟨(x.c + y.c) % r.p, x.e⟩]) rfl hacc hov rfl (.inl rfl) (uni_tm [⟨(x.c + y.c) % r.p, x.e⟩]) (by simp; omega) (by simp; omega) fun d' H' q1 q2 q3 => ?_)
   (repeat(first|refine zA ?_|refine zB ?_|refine zE rfl (by decide) rfl ?_|refine zF ?_|refine zG ?_|refine zH ?_|refine zI ?_|refine zJ ?_|refine zK ?_|refine zL rfl ?_|refine zM rfl ?_))
   refine DW.drawX [0, 1, 2, 3] [2, 3] (fun _ => none) Tryz.mixed (by kernel_rfl) (Over.nul _) ?_
   (repeat(first|refine RX.A ?_|refine RX.nil ?_))
   refine RX.any (fun H' => s_fromM rfl rfl (by omega) (by simp)) rfl ?_
   (repeat(first|refine RX.A ?_|refine RX.nil ?_))
   refine RX.any (fun H' => s_fromM rfl rfl (by omega) (by simp)) rfl ?_
   (repeat(first|refine RX.A ?_|refine RX.nil ?_))
   (repeat(first|refine RY.S ?_|refine RY.nil ?_))
   (repeat(first|refine zA ?_|refine zB ?_|refine zE rfl (by decide) rfl ?_|refine zF ?_|refine zG ?_|refine zH ?_|refine zI ?_|refine zJ ?_|refine zK ?_|refine zL rfl ?_|refine zM rfl ?_))
   refine ⟨(f2, g2, out ++ [⟨(x.c + y.c) % r.p, x.e⟩], H', d'), ⟨h1.tail, h2.tail, by rw [List.append_assoc]; exact h3, by dsimp only; simp; omega, by dsimp only; rw [List.map_append]; exact q1, q2⟩, by dsimp only [List.length_cons]; omega, rfl, rfl, rfl, rfl, rfl, trivial⟩
 ·rw [if_pos hc] at h3
  rw [hc]
  (repeat(first|refine zA ?_|refine zB ?_|refine zE rfl (by decide) rfl ?_|refine zF ?_|refine zG ?_|refine zH ?_|refine zI ?_|refine zJ ?_|refine zK ?_|refine zL rfl ?_|refine zM rfl ?_))
  refine RO.dyn rfl (d_append (H0 := H) (xs := [tmD x]) rfl hacc hov rfl (.inl rfl) (uni_tm [x]) (by simp; omega) (by simp; omega) fun d' H' q1 q2 q3 => ?_)
  (repeat(first|refine zA ?_|refine zB ?_|refine zE rfl (by decide) rfl ?_|refine zF ?_|refine zG ?_|refine zH ?_|refine zI ?_|refine zJ ?_|refine zK ?_|refine zL rfl ?_|refine zM rfl ?_))
  refine RO.sta (s_fromM rfl rfl (by omega) (by simp)) rfl ?_
  (repeat(first|refine zA ?_|refine zB ?_|refine zE rfl (by decide) rfl ?_|refine zF ?_|refine zG ?_|refine zH ?_|refine zI ?_|refine zJ ?_|refine zK ?_|refine zL rfl ?_|refine zM rfl ?_))
  exact ⟨(f2, y :: g2, out ++ [x], H', d'), ⟨h1.tail, h2, by rw [List.append_assoc]; exact h3, by dsimp only; simp; omega, by dsimp only; rw [List.map_append]; exact q1, q2⟩, by dsimp only [List.length_cons]; omega, rfl, rfl, rfl, rfl, rfl, trivial⟩
 ·rw [if_neg (by omega), if_pos hc] at h3
  rw [hc]
  (repeat(first|refine zA ?_|refine zB ?_|refine zE rfl (by decide) rfl ?_|refine zF ?_|refine zG ?_|refine zH ?_|refine zI ?_|refine zJ ?_|refine zK ?_|refine zL rfl ?_|refine zM rfl ?_))
  refine RO.dyn rfl (d_append (H0 := H) (xs := [tmD y]) rfl hacc hov rfl (.inl rfl) (uni_tm [y]) (by simp; omega) (by simp; omega) fun d' H' q1 q2 q3 => ?_)
  (repeat(first|refine zA ?_|refine zB ?_|refine zE rfl (by decide) rfl ?_|refine zF ?_|refine zG ?_|refine zH ?_|refine zI ?_|refine zJ ?_|refine zK ?_|refine zL rfl ?_|refine zM rfl ?_))
  refine RO.sta (s_fromM rfl rfl (by omega) (by simp)) rfl ?_
  (repeat(first|refine zA ?_|refine zB ?_|refine zE rfl (by decide) rfl ?_|refine zF ?_|refine zG ?_|refine zH ?_|refine zI ?_|refine zJ ?_|refine zK ?_|refine zL rfl ?_|refine zM rfl ?_))
  exact ⟨(x :: f2, g2, out ++ [y], H', d'), ⟨h1, h2.tail, by rw [List.append_assoc]; exact h3, by dsimp only; simp; omega, by dsimp only; rw [List.map_append]; exact q1, q2⟩, by dsimp only [List.length_cons]; omega, rfl, rfl, rfl, rfl, rfl, trivial⟩
end
section
open Go.RowKit
set_option maxHeartbeats 8000000

structure AtOk (o : Int) (out : Pl) (t : Tm) (k : Nat) : Prop where
 le : k ≤ out.length
 ahead : ∀ (j : Nat) (hj : j < out.length), j < k → 0 < cmpM o out[j].e t.e
 stop : ∀ (h : k < out.length), ¬ 0 < cmpM o out[k].e t.e

theorem insT_at {p o : Int} {t : Tm} : ∀ {out : Pl} {k : Nat}, AtOk o out t k →
  (∀ (h : k < out.length), out[k].e = t.e → insT p o t out = out.set k ⟨(out[k].c + t.c) % p, out[k].e⟩) ∧ ((∀ (h : k < out.length), out[k].e ≠ t.e) → insT p o t out = out.take k ++ t :: out.drop k)
 | [], k, h => by
  have := h.le
  simp at this
  subst this
  exact ⟨fun h => by simp at h, fun _ => rfl⟩
 | x :: out, 0, h => by
  have hs := h.stop (by simp)
  simp only [List.getElem_cons_zero] at hs
  refine ⟨fun _ he => ?_, fun hn => ?_⟩
  ·simp only [List.getElem_cons_zero] at he
   unfold insT
   rw [if_neg hs, if_pos he]
   rfl
  ·have he := hn (by simp)
   simp only [List.getElem_cons_zero] at he
   unfold insT
   rw [if_neg hs, if_neg he]
   rfl
 | x :: out, k + 1, h => by
  have h0 := h.ahead 0 (by simp) (by omega)
  simp only [List.getElem_cons_zero] at h0
  have h' : AtOk o out t k := ⟨by have := h.le; simpa using this, fun j hj hjk => by have := h.ahead (j + 1) (by simpa using hj) (by omega); simpa using this, fun hk => by have := h.stop (by simpa using hk); simpa using this⟩
  obtain ⟨i1, i2⟩ := insT_at (p := p) h'
  refine ⟨fun hk he => ?_, fun hn => ?_⟩
  ·have hk' : k < out.length := by simpa using hk
   simp only [List.getElem_cons_succ] at he
   show (if 0 < cmpM o x.e t.e then x :: insT p o t out else _) = _
   rw [if_pos h0, i1 hk' he]
   rfl
  ·show (if 0 < cmpM o x.e t.e then x :: insT p o t out else _) = _
   rw [if_pos h0, i2 fun hk => by have := hn (by simpa using hk); simpa using this]
   rfl

theorem Over.trans' {A B C : Heap} (h : Over A B) (k : Over B C) : Over A C := fun b x hx => k b x (h b x hx)

def insAll (p o : Int) (l : Pl) : Pl := l.foldl (fun out t => insT p o t out) []

theorem insAll_succ {p o : Int} {l : Pl} {k : Nat} (h : k < l.length) : insAll p o (l.take (k + 1)) = insT p o l[k] (insAll p o (l.take k)) := by
 unfold insAll
 rw [List.take_succ_eq_append_getElem h, List.foldl_append]
 rfl

theorem collect_pure (r : Rg) (l : Pl) {n : Nat} {B : Int} (hn : n ≤ 3) (hB : B ≤ 1000000) (hp : 2 ≤ r.p ∧ r.p ≤ 101) (hl : l.length ≤ 4000000000000) (hm : ∀ t ∈ l, TB 0 r.p n B t) :
  Pure Tryz.prog 60 [rgD r, plD l] (plD (collectT r.p r.order l)) := by
 intro H
 refine PureH.of_body Tryz.func60 rfl (by decide) (Nat.le_of_ble_eq_true rfl) fun w0 => ?_
 (repeat(first|refine zA ?_|refine zB ?_|refine zE rfl (by decide) rfl ?_|refine zF ?_|refine zG ?_|refine zH ?_|refine zI ?_|refine zJ ?_|refine zK ?_|refine zL rfl ?_|refine zM rfl ?_))
 refine DW.loopI (fun x : Nat × Heap × D => x.1 ≤ l.length ∧ Acc H x.2.1 x.2.2 2 55 ((insAll r.p r.order (l.take x.1)).map tmD) ∧ Over H x.2.1) (fun x => [(1, plD l), (2, .ipt 4 [rgD r] 0 0), (5, x.2.2), (6, I x.1)]) (fun x => x.2.1) (fun x => l.length - x.1) (0, H, .nil)
  ⟨Nat.zero_le _, Acc.nil _ _ _ _, Over.refl _⟩ rfl ⟨rfl, rfl, rfl, rfl, trivial⟩ fun ⟨i, Hi, d⟩ ⟨hi, hacc, hov⟩ => ?_
 dsimp only at hi hacc hov
 dsimp only
 have hout := foldIns_ok (o := r.order) (p := r.p) (n := n) (B := B) (by omega) (l := l.take i) (out := []) (fun t ht => hm t (List.mem_of_mem_take ht)) (PB.nil _ _ _ _ _)
 have holen := foldIns_length (p := r.p) (o := r.order) (l.take i) []
 change PB 0 r.p r.order n B (insAll r.p r.order (l.take i)) at hout
 change (insAll r.p r.order (l.take i)).length ≤ _ at holen
 have hol : (insAll r.p r.order (l.take i)).length ≤ i := by simp at holen; omega
 have hsucc := fun h : i < l.length => insAll_succ (p := r.p) (o := r.order) h
 have hend : i = l.length → collectT r.p r.order l = (insAll r.p r.order (l.take i)).filter fun t => t.c % r.p != 0 := fun h => by rw [h, List.take_length]; rfl
 generalize insAll r.p r.order (l.take i) = out at hacc hout hol hsucc hend
 clear holen
 (repeat(first|refine zA ?_|refine zB ?_|refine zE rfl (by decide) rfl ?_|refine zF ?_|refine zG ?_|refine zH ?_|refine zI ?_|refine zJ ?_|refine zK ?_|refine zL rfl ?_|refine zM rfl ?_))
 refine DW.cond rfl (fun hb => ?_) (fun hb => ?_)
 ·have hlt : i < l.length := by have := of_decide_eq_true hb; omega
  have hti := hm _ (List.getElem_mem hlt)
  have hs := hsucc hlt
  clear hb
  (repeat(first|refine zA ?_|refine zB ?_|refine zE rfl (by decide) rfl ?_|refine zF ?_|refine zG ?_|refine zH ?_|refine zI ?_|refine zJ ?_|refine zK ?_|refine zL rfl ?_|refine zM rfl ?_))
  refine DW.cutB (α := Nat) (fun k => AtOk r.order out l[i] k) (fun k => [(1, plD l), (2, .ipt 4 [rgD r] 0 0), (5, d), (6, I i), (7, I k)]) (fun _ => Hi) (fun k hk => ?_) ?_
  ·-- where it belongs
   have hkl := hk.le
   obtain ⟨hsame, hins⟩ := insT_at (p := r.p) hk
   (repeat(first|refine zA ?_|refine zB ?_|refine zE rfl (by decide) rfl ?_|refine zF ?_|refine zG ?_|refine zH ?_|refine zI ?_|refine zJ ?_|refine zK ?_|refine zL rfl ?_|refine zM rfl ?_))
   refine DW.cutE (α := Bool) (fun bl => (bl = true → ∃ h : k < out.length, out[k].e = l[i].e) ∧ (bl = false → ∀ (h : k < out.length), out[k].e ≠ l[i].e)) (fun bl => [(1, plD l), (2, .ipt 4 [rgD r] 0 0), (5, d), (6, I i), (7, I k), (53, .bool bl)]) (fun _ => Hi) (fun bl hbl => ?_) ?_
   ·cases bl
    case true =>
     obtain ⟨hkl2, he⟩ := hbl.1 rfl
     have hs2 := hsame hkl2 he
     obtain ⟨b, hb0, hd, hHb⟩ := hacc.ref (by rw [List.length_map]; omega)
     rw [List.length_map] at hd
     have htk := hout.all _ (List.getElem_mem hkl2)
     have c1 := htk.lo
     have c2 := htk.hi
     have c3 := hti.lo
     have c4 := hti.hi
     rw [hd]
     (repeat(first|refine zA ?_|refine zB ?_|refine zE rfl (by decide) rfl ?_|refine zF ?_|refine zG ?_|refine zH ?_|refine zI ?_|refine zJ ?_|refine zK ?_|refine zL rfl ?_|refine zM rfl ?_))
     refine DW.drawS 18 Tryz.mixed (by kernel_rfl) (by decide) ?_
     dsimp only [List.take, List.drop]
     (repeat(first|refine zN ?_|refine zO ?_|refine zR rfl (by decide) rfl ?_|refine zS ?_))
     refine RS.sta (fun H' hov => s_ix2 (i := k) rfl rfl rfl hkl2) rfl ?_
     (repeat(first|refine zN ?_|refine zO ?_|refine zR rfl (by decide) rfl ?_|refine zS ?_))
     refine RS.sta (fun H' hov => s_outC (i := k) rfl (hov _ _ hHb) rfl hkl2) rfl ?_
     (repeat(first|refine zN ?_|refine zO ?_|refine zR rfl (by decide) rfl ?_|refine zS ?_))
     refine RS.sta (fun H' hov => s_ix2 (i := k) rfl rfl rfl hkl2) rfl ?_
     (repeat(first|refine zN ?_|refine zO ?_|refine zR rfl (by decide) rfl ?_|refine zS ?_))
     refine RO.dyn rfl (d_store (k := 1) rfl rfl rfl hHb (by
      have := (uni_tm out).length
      rw [this, List.length_map]
      simp [cellsOf]
      omega) (by simp [cellsOf, D.isCell]) ?_)
     rw [show setMany ((out.map tmD).flatMap cellsOf) (k * 2 + 0) (cellsOf (I ((out[k].c + l[i].c) % r.p))) = ((insT r.p r.order l[i] out).map tmD).flatMap cellsOf by
      rw [hs2]
      exact tm_setC out k hkl2 _]
     (repeat(first|refine zA ?_|refine zB ?_|refine zE rfl (by decide) rfl ?_|refine zF ?_|refine zG ?_|refine zH ?_|refine zI ?_|refine zJ ?_|refine zK ?_|refine zL rfl ?_|refine zM rfl ?_))
     refine ⟨(i + 1, Hi.set b (55, ((insT r.p r.order l[i] out).map tmD).flatMap cellsOf), .ref b 0 out.length 2), ⟨hlt, ?_, hov.set hb0⟩, by dsimp only; omega, rfl, rfl, rfl, rfl, rfl, trivial⟩
     dsimp only
     rw [hs]
     exact ⟨uni_tm _, .inr ⟨b, hb0, by rw [List.length_map, hs2, List.length_set], Heap.set_self _ _ _⟩⟩
    case false =>
     have hi2 := hins (hbl.2 rfl)
     (repeat(first|refine zA ?_|refine zB ?_|refine zE rfl (by decide) rfl ?_|refine zF ?_|refine zG ?_|refine zH ?_|refine zI ?_|refine zJ ?_|refine zK ?_|refine zL rfl ?_|refine zM rfl ?_))
     refine RO.sta (s_dropAcc (m := k) rfl hacc rfl rfl (by rw [List.length_map]; omega)) rfl ?_
     refine RO.dyn rfl (d_appendSrc (H0 := Hi) (l := []) (xs := (out.map tmD).drop k) rfl (Acc.nil _ _ _ _) (Over.refl _) rfl (SrcOk.drop hacc (by omega) (by rw [List.length_map]; omega)) (fun d hd => uni_tm out d (List.mem_of_mem_drop hd)) (by simp; omega) (by simp; omega) fun d8 H8 a8 o8 _ => ?_)
     (repeat(first|refine zA ?_|refine zB ?_|refine zE rfl (by decide) rfl ?_|refine zF ?_|refine zG ?_|refine zH ?_|refine zI ?_|refine zJ ?_|refine zK ?_|refine zL rfl ?_|refine zM rfl ?_))
     refine DW.drawX [0, 1, 2, 3, 5, 6, 7, 8, 9, 11] [5, 6, 7, 8, 9, 11] (fun _ => none) Tryz.mixed (by kernel_rfl) (Over.nul _) ?_
     (repeat(first|refine RX.A ?_|refine RX.nil ?_))
     refine RX.any (fun H' => s_takeAcc (m := k) rfl hacc rfl rfl (by rw [List.length_map]; omega)) rfl ?_
     (repeat(first|refine RX.A ?_|refine RX.nil ?_))
     refine RY.dyn rfl (d_appendSrc (H0 := H8) (l := []) (xs := (out.map tmD).take k) rfl (Acc.nil _ _ _ _) (Over.refl _) rfl (SrcOk.take (hacc.over' o8) (by rw [List.length_map]; omega)) (fun d hd => uni_tm out d (List.mem_of_mem_take hd)) (by simp; omega) (by simp; omega) fun d1 H9 q1 q2 _ => ⟨Over.nul _, ?_⟩)
     refine RY.dyn rfl (d_append (H0 := H8) (xs := [tmD l[i]]) rfl q1 q2 rfl (.inl rfl) (uni_tm [l[i]]) (by simp; omega) (by simp; omega) fun d2 H10 s1 s2 _ => ⟨Over.nul _, ?_⟩)
     refine RY.dyn rfl (d_appendSrc (H0 := H8) rfl s1 s2 rfl (SrcOk.acc (a8.over' s2)) (fun d hd => uni_tm out d (List.mem_of_mem_drop (by simpa using hd))) (by simp; omega) (by simp; omega) fun d3 H11 t1 t2 _ => ⟨Over.nul _, ?_⟩)
     (repeat(first|refine RY.S ?_|refine RY.nil ?_))
     (repeat(first|refine zA ?_|refine zB ?_|refine zE rfl (by decide) rfl ?_|refine zF ?_|refine zG ?_|refine zH ?_|refine zI ?_|refine zJ ?_|refine zK ?_|refine zL rfl ?_|refine zM rfl ?_))
     refine ⟨(i + 1, H11, d3), ⟨hlt, ?_, (hov.trans' o8).trans' t2⟩, by dsimp only; omega, rfl, rfl, rfl, rfl, rfl, trivial⟩
     dsimp only
     rw [hs, hi2]
     have := t1.weaken (hov.trans' o8)
     simpa using this
   ·refine DW.drawS 17 Tryz.mixed (by kernel_rfl) (by decide) ?_
    dsimp only [List.take, List.drop]
    (repeat(first|refine zN ?_|refine zO ?_|refine zR rfl (by decide) rfl ?_|refine zS ?_))
    refine RS.sta (fun H' hov => s_len (n := out.length) rfl (by rw [hacc.len', List.length_map])) rfl ?_
    (repeat(first|refine zN ?_|refine zO ?_|refine zR rfl (by decide) rfl ?_|refine zS ?_))
    cases hkl3 : decide ((k : Int) < (out.length : Int))
    case false =>
     have hke : k = out.length := by have := of_decide_eq_false hkl3; omega
     (repeat(first|refine zN ?_|refine zO ?_|refine zR rfl (by decide) rfl ?_|refine zS ?_))
     exact ⟨false, ⟨fun h => (by cases h), fun _ h => by omega⟩, Heap.sub_refl _, .one rfl (.one rfl (.one rfl (.one rfl (.one rfl (.one rfl trivial)))))⟩
    have hkl2 : k < out.length := by have := of_decide_eq_true hkl3; omega
    obtain ⟨b, hb0, hd, hHb⟩ := hacc.ref (by rw [List.length_map]; omega)
    rw [List.length_map] at hd
    have htk := hout.all _ (List.getElem_mem hkl2)
    have hlen3 := htk.len
    rw [hd]
    (repeat(first|refine zN ?_|refine zO ?_|refine zR rfl (by decide) rfl ?_|refine zS ?_))
    refine RS.yes rfl (fun H' hov => s_ix2 (i := k) rfl rfl rfl hkl2) rfl ?_
    (repeat(first|refine zN ?_|refine zO ?_|refine zR rfl (by decide) rfl ?_|refine zS ?_))
    refine RS.yes rfl (fun H' hov => s_outE (i := k) rfl (hov _ _ hHb) rfl hkl2) rfl ?_
    (repeat(first|refine zN ?_|refine zO ?_|refine zR rfl (by decide) rfl ?_|refine zS ?_))
    refine RS.yes rfl (fun H' hov => sta_call rfl rfl (SameInts_pure out[k].e l[i].e (by omega) _)) rfl ?_
    (repeat(first|refine zN ?_|refine zO ?_|refine zR rfl (by decide) rfl ?_|refine zS ?_))
    exact ⟨(out[k].e == l[i].e), ⟨fun h => ⟨hkl2, by simpa using h⟩, fun h _ => by simpa using h⟩, Heap.sub_refl _, .one rfl (.one rfl (.one rfl (.one rfl (.one rfl (.one rfl trivial)))))⟩
  ·refine DW.loopI (fun k : Nat => k ≤ out.length ∧ ∀ (j : Nat) (hj : j < out.length), j < k → 0 < cmpM r.order out[j].e l[i].e) (fun k => [(1, plD l), (2, .ipt 4 [rgD r] 0 0), (5, d), (6, I i), (7, I k)]) (fun _ => Hi) (fun k => out.length - k) 0 ⟨Nat.zero_le _, fun j hj h => absurd h (Nat.not_lt_zero _)⟩ rfl ⟨rfl, rfl, rfl, rfl, rfl, trivial⟩ fun k ⟨hk, hka⟩ => ?_
   (repeat(first|refine zA ?_|refine zB ?_|refine zE rfl (by decide) rfl ?_|refine zF ?_|refine zG ?_|refine zH ?_|refine zI ?_|refine zJ ?_|refine zK ?_|refine zL rfl ?_|refine zM rfl ?_))
   refine DW.drawS 18 Tryz.mixed (by kernel_rfl) (by decide) ?_
   dsimp only [List.take, List.drop]
   (repeat(first|refine zN ?_|refine zO ?_|refine zR rfl (by decide) rfl ?_|refine zS ?_))
   refine RS.sta (fun H' hov => s_len (n := out.length) rfl (by rw [hacc.len', List.length_map])) rfl ?_
   (repeat(first|refine zN ?_|refine zO ?_|refine zR rfl (by decide) rfl ?_|refine zS ?_))
   cases hkl : decide ((k : Int) < (out.length : Int))
   case false =>
    have hke : k = out.length := by have := of_decide_eq_false hkl; omega
    (repeat(first|refine zN ?_|refine zO ?_|refine zR rfl (by decide) rfl ?_|refine zS ?_))
    (repeat(first|refine zA ?_|refine zB ?_|refine zE rfl (by decide) rfl ?_|refine zF ?_|refine zG ?_|refine zH ?_|refine zI ?_|refine zJ ?_|refine zK ?_|refine zL rfl ?_|refine zM rfl ?_))
    exact ⟨k, ⟨hk, hka, fun h => by omega⟩, Heap.sub_refl _, .one rfl (.one rfl (.one rfl (.one rfl (.one rfl trivial))))⟩
   have hkl2 : k < out.length := by have := of_decide_eq_true hkl; omega
   obtain ⟨b, hb0, hd, hHb⟩ := hacc.ref (by rw [List.length_map]; omega)
   rw [List.length_map] at hd
   have htk := hout.all _ (List.getElem_mem hkl2)
   rw [hd]
   (repeat(first|refine zN ?_|refine zO ?_|refine zR rfl (by decide) rfl ?_|refine zS ?_))
   refine RS.yes rfl (fun H' hov => s_ix2 (i := k) rfl rfl rfl hkl2) rfl ?_
   (repeat(first|refine zN ?_|refine zO ?_|refine zR rfl (by decide) rfl ?_|refine zS ?_))
   refine RS.yes rfl (fun H' hov => s_outE (i := k) rfl (hov _ _ hHb) rfl hkl2) rfl ?_
   (repeat(first|refine zN ?_|refine zO ?_|refine zR rfl (by decide) rfl ?_|refine zS ?_))
   refine RS.yes rfl (fun H' hov => sta_call rfl rfl (More_pure r (htk.mok hn hB) (hti.mok hn hB) (by rw [htk.len, hti.len]) _)) rfl ?_
   (repeat(first|refine zN ?_|refine zO ?_|refine zR rfl (by decide) rfl ?_|refine zS ?_))
   (repeat(first|refine zA ?_|refine zB ?_|refine zE rfl (by decide) rfl ?_|refine zF ?_|refine zG ?_|refine zH ?_|refine zI ?_|refine zJ ?_|refine zK ?_|refine zL rfl ?_|refine zM rfl ?_))
   refine DW.cond rfl (fun hb => ?_) (fun hb => ?_)
   ·have hc := of_decide_eq_true hb
    (repeat(first|refine zA ?_|refine zB ?_|refine zE rfl (by decide) rfl ?_|refine zF ?_|refine zG ?_|refine zH ?_|refine zI ?_|refine zJ ?_|refine zK ?_|refine zL rfl ?_|refine zM rfl ?_))
    rw [← hd]
    refine ⟨k + 1, ⟨hkl2, fun j hj hjk => ?_⟩, by dsimp only; omega, rfl, rfl, rfl, rfl, rfl, rfl, trivial⟩
    by_cases h : j = k
    ·subst h; exact hc
    ·exact hka j hj (by omega)
   ·have hc := of_decide_eq_false hb
    (repeat(first|refine zA ?_|refine zB ?_|refine zE rfl (by decide) rfl ?_|refine zF ?_|refine zG ?_|refine zH ?_|refine zI ?_|refine zJ ?_|refine zK ?_|refine zL rfl ?_|refine zM rfl ?_))
    rw [← hd]
    exact ⟨k, ⟨hk, hka, fun _ => hc⟩, Heap.sub_refl _, .one rfl (.one rfl (.one rfl (.one rfl (.one rfl trivial))))⟩
 ·have hie : i = l.length := by have := of_decide_eq_false hb; omega
  have hres := hend hie
  clear hb hend hsucc
  (repeat(first|refine zA ?_|refine zB ?_|refine zE rfl (by decide) rfl ?_|refine zF ?_|refine zG ?_|refine zH ?_|refine zI ?_|refine zJ ?_|refine zK ?_|refine zL rfl ?_|refine zM rfl ?_))
  refine DW.loopI (fun x : Nat × Heap × D => x.1 ≤ out.length ∧ Acc Hi x.2.1 x.2.2 2 55 (((out.take x.1).filter fun t => t.c % r.p != 0).map tmD) ∧ Over Hi x.2.1) (fun x => [(2, .ipt 4 [rgD r] 0 0), (5, d), (9, x.2.2), (10, I x.1)]) (fun x => x.2.1) (fun x => out.length - x.1) (0, Hi, .nil)
   ⟨Nat.zero_le _, Acc.nil _ _ _ _, Over.refl _⟩ rfl ⟨rfl, rfl, rfl, rfl, trivial⟩ fun ⟨k, H2, d9⟩ ⟨hk, h9, o9⟩ => ?_
  dsimp only at hk h9 o9
  dsimp only
  have hfl : ((out.take k).filter fun t => t.c % r.p != 0).length ≤ k := by
   have := List.length_filter_le (fun t => t.c % r.p != 0) (out.take k)
   rw [List.length_take] at this
   omega
  (repeat(first|refine zA ?_|refine zB ?_|refine zE rfl (by decide) rfl ?_|refine zF ?_|refine zG ?_|refine zH ?_|refine zI ?_|refine zJ ?_|refine zK ?_|refine zL rfl ?_|refine zM rfl ?_))
  refine RO.sta (s_len (n := out.length) rfl (by rw [hacc.len', List.length_map])) rfl ?_
  (repeat(first|refine zA ?_|refine zB ?_|refine zE rfl (by decide) rfl ?_|refine zF ?_|refine zG ?_|refine zH ?_|refine zI ?_|refine zJ ?_|refine zK ?_|refine zL rfl ?_|refine zM rfl ?_))
  refine DW.cond rfl (fun hb => ?_) (fun hb => ?_)
  ·have hkl : k < out.length := by have := of_decide_eq_true hb; omega
   clear hb
   obtain ⟨b, hb0, hd, hHb⟩ := hacc.ref (by rw [List.length_map]; omega)
   rw [List.length_map] at hd
   have hHb2 := o9 _ _ hHb
   have htk := hout.all _ (List.getElem_mem hkl)
   have c1 := htk.lo
   rw [hd]
   (repeat(first|refine zA ?_|refine zB ?_|refine zE rfl (by decide) rfl ?_|refine zF ?_|refine zG ?_|refine zH ?_|refine zI ?_|refine zJ ?_|refine zK ?_|refine zL rfl ?_|refine zM rfl ?_))
   refine DW.drawS 9 Tryz.mixed (by kernel_rfl) (by decide) ?_
   dsimp only [List.take, List.drop]
   (repeat(first|refine zN ?_|refine zO ?_|refine zR rfl (by decide) rfl ?_|refine zS ?_))
   refine RS.sta (fun H' hov => s_ix2 (i := k) rfl rfl rfl hkl) rfl ?_
   (repeat(first|refine zN ?_|refine zO ?_|refine zR rfl (by decide) rfl ?_|refine zS ?_))
   refine RS.sta (fun H' hov => s_outC (i := k) rfl (hov _ _ hHb2) rfl hkl) rfl ?_
   (repeat(first|refine zN ?_|refine zO ?_|refine zR rfl (by decide) rfl ?_|refine zS ?_))
   (repeat(first|refine zA ?_|refine zB ?_|refine zE rfl (by decide) rfl ?_|refine zF ?_|refine zG ?_|refine zH ?_|refine zI ?_|refine zJ ?_|refine zK ?_|refine zL rfl ?_|refine zM rfl ?_))
   cases hz : (out[k].c % r.p != 0)
   ·have hsk : ((out.take (k + 1)).filter fun t => t.c % r.p != 0) = (out.take k).filter fun t => t.c % r.p != 0 := by
     rw [List.take_succ_eq_append_getElem hkl, List.filter_append]
     simp [hz]
    (repeat(first|refine zA ?_|refine zB ?_|refine zE rfl (by decide) rfl ?_|refine zF ?_|refine zG ?_|refine zH ?_|refine zI ?_|refine zJ ?_|refine zK ?_|refine zL rfl ?_|refine zM rfl ?_))
    rw [← hd]
    exact ⟨(k + 1, H2, d9), ⟨hkl, by dsimp only; rw [hsk]; exact h9, o9⟩, by dsimp only; omega, rfl, rfl, rfl, rfl, rfl, trivial⟩
   ·have hsk : ((out.take (k + 1)).filter fun t => t.c % r.p != 0) = ((out.take k).filter fun t => t.c % r.p != 0) ++ [out[k]] := by
     rw [List.take_succ_eq_append_getElem hkl, List.filter_append]
     simp [hz]
    (repeat(first|refine zA ?_|refine zB ?_|refine zE rfl (by decide) rfl ?_|refine zF ?_|refine zG ?_|refine zH ?_|refine zI ?_|refine zJ ?_|refine zK ?_|refine zL rfl ?_|refine zM rfl ?_))
    refine RO.sta (s_ix2 (i := k) rfl rfl rfl hkl) rfl ?_
    refine RO.sta (s_outTm (i := k) rfl hHb2 rfl hkl) rfl ?_
    (repeat(first|refine zA ?_|refine zB ?_|refine zE rfl (by decide) rfl ?_|refine zF ?_|refine zG ?_|refine zH ?_|refine zI ?_|refine zJ ?_|refine zK ?_|refine zL rfl ?_|refine zM rfl ?_))
    refine RO.dyn rfl (d_append (H0 := Hi) (xs := [tmD out[k]]) rfl h9 o9 rfl (.inl rfl) (uni_tm [out[k]]) (by rw [List.length_map, List.length_singleton]; omega) (by rw [List.length_map, List.length_singleton]; omega) fun d' H' q1 q2 q3 => ?_)
    (repeat(first|refine zA ?_|refine zB ?_|refine zE rfl (by decide) rfl ?_|refine zF ?_|refine zG ?_|refine zH ?_|refine zI ?_|refine zJ ?_|refine zK ?_|refine zL rfl ?_|refine zM rfl ?_))
    rw [← hd]
    exact ⟨(k + 1, H', d'), ⟨hkl, by dsimp only; rw [hsk, List.map_append]; exact q1, q2⟩, by dsimp only; omega, rfl, rfl, rfl, rfl, rfl, trivial⟩
  ·have hke : k = out.length := by have := of_decide_eq_false hb; omega
   rw [hke, List.take_length, ← hres] at h9
   (repeat(first|refine zA ?_|refine zB ?_|refine zE rfl (by decide) rfl ?_|refine zF ?_|refine zG ?_|refine zH ?_|refine zI ?_|refine zJ ?_|refine zK ?_|refine zL rfl ?_|refine zM rfl ?_))
   exact DW.ret ⟨.inl rfl, _, rfl, hov.trans' o9, (h9.weaken hov).done⟩
end
section
open Go.RowKit
set_option maxHeartbeats 8000000

theorem putE_1' : putE 1 = (· + ·) := by funext x y; simp [putE]

theorem pairsT_append (p : Int) (f f' g : Pl) : pairsT p (f ++ f') g = pairsT p f g ++ pairsT p f' g := by simp [pairsT]

theorem pairsT_length (p : Int) (g : Pl) : ∀ (f : Pl), (pairsT p f g).length = f.length * g.length
 | [] => by simp [pairsT]
 | t :: f => by
  have ih := pairsT_length p g f
  have : pairsT p (t :: f) g = (g.map fun u => ⟨t.c * u.c % p, zipE (· + ·) t.e u.e⟩) ++ pairsT p f g := rfl
  rw [this, List.length_append, List.length_map, ih, List.length_cons, Nat.add_mul]
  omega

theorem pairs_one (p : Int) (t : Tm) (g : Pl) {k : Nat} (h : k < g.length) : pairsT p [t] (g.take (k + 1)) = pairsT p [t] (g.take k) ++ [⟨t.c * g[k].c % p, zipE (· + ·) t.e g[k].e⟩] := by
 rw [List.take_succ_eq_append_getElem h]
 unfold pairsT
 simp only [List.flatMap_cons, List.flatMap_nil, List.append_nil, List.map_append, List.map_cons, List.map_nil]

theorem refProduct_pure (r : Rg) (f g : Pl) {n : Nat} {B C : Int} (hn : n ≤ 3) (hB : B + C ≤ 1000000) (hB0 : 0 ≤ B) (hC0 : 0 ≤ C) (hr : ckP r.p = 0) (hpr : Prm r.p) (hl : f.length * g.length ≤ 4000000000000) (hf : PB 1 r.p r.order n C f) (hg : PB 1 r.p r.order n B g) (hfl : f.length ≤ 4000000000000) (hgl : g.length ≤ 4000000000000) :
    Pure Tryz.prog 43 [rgD r, plD f, plD g] (plD (prodT r.p r.order f g)) := by
  have hp := ckP_ok hr
  intro H
  have hf0 : ∀ t ∈ f, TB 0 r.p n C t := fun t ht => (hf.all t ht).mono (by omega) (by omega)
  have hg0 : ∀ t ∈ g, TB 0 r.p n B t := fun t ht => (hg.all t ht).mono (by omega) (by omega)
  refine PureH.of_body Tryz.func43 rfl (by decide) (Nat.le_of_ble_eq_true rfl) fun w0 => ?_
  (repeat(first|refine zA ?_|refine zB ?_|refine zE rfl (by decide) rfl ?_|refine zF ?_|refine zG ?_|refine zH ?_|refine zI ?_|refine zJ ?_|refine zK ?_|refine zL rfl ?_|refine zM rfl ?_))
  refine DW.loopI (fun x : Nat × Heap × D => x.1 ≤ f.length ∧ Acc H x.2.1 x.2.2 2 55 ((pairsT r.p (f.take x.1) g).map tmD) ∧ Over H x.2.1) (fun x => [(1, plD f), (2, plD g), (3, .ipt 4 [rgD r] 0 0), (7, x.2.2), (8, I x.1)]) (fun x => x.2.1) (fun x => f.length - x.1) (0, H, .nil)
    ⟨Nat.zero_le _, Acc.nil _ _ _ _, Over.refl _⟩ rfl ⟨rfl, rfl, rfl, rfl, rfl, trivial⟩ fun ⟨i, Hi, d⟩ ⟨hi, hacc, hov⟩ => ?_
  dsimp only at hi hacc hov
  dsimp only
  (repeat(first|refine zA ?_|refine zB ?_|refine zE rfl (by decide) rfl ?_|refine zF ?_|refine zG ?_|refine zH ?_|refine zI ?_|refine zJ ?_|refine zK ?_|refine zL rfl ?_|refine zM rfl ?_))
  refine DW.cond rfl (fun hb => ?_) (fun hb => ?_)
  · have hlt : i < f.length := by have := of_decide_eq_true hb; omega
    clear hb
    have hx := hf0 _ (List.getElem_mem hlt)
    have hx1 := hx.lo
    have hx2 := hx.hi
    have hpl := pairsT_length r.p g (f.take i)
    have hbig : (f.take i).length * g.length + g.length ≤ f.length * g.length := by
      have : (i + 1) * g.length ≤ f.length * g.length := Nat.mul_le_mul_right _ hlt
      rw [Nat.add_mul] at this
      rw [List.length_take, Nat.min_eq_left hi]
      omega
    (repeat(first|refine zA ?_|refine zB ?_|refine zE rfl (by decide) rfl ?_|refine zF ?_|refine zG ?_|refine zH ?_|refine zI ?_|refine zJ ?_|refine zK ?_|refine zL rfl ?_|refine zM rfl ?_))
    refine DW.loopI (fun x : Nat × Heap × D => x.1 ≤ g.length ∧ Acc H x.2.1 x.2.2 2 55 ((pairsT r.p (f.take i) g ++ pairsT r.p [f[i]] (g.take x.1)).map tmD) ∧ Over H x.2.1) (fun x => [(1, plD f), (2, plD g), (3, .ipt 4 [rgD r] 0 0), (7, x.2.2), (8, I i), (9, I x.1)]) (fun x => x.2.1) (fun x => g.length - x.1) (0, Hi, d)
      ⟨Nat.zero_le _, by have : pairsT r.p [f[i]] (g.take 0) = [] := rfl
                         rw [this, List.append_nil]; exact hacc, hov⟩ rfl ⟨rfl, rfl, rfl, rfl, rfl, rfl, trivial⟩ fun ⟨k, Hk, dk⟩ ⟨hk, hak, hok⟩ => ?_
    dsimp only at hk hak hok
    dsimp only
    have hpk := pairsT_length r.p (g.take k) [f[i]]
    simp only [List.length_singleton, List.length_take, Nat.one_mul] at hpk
    (repeat(first|refine zA ?_|refine zB ?_|refine zE rfl (by decide) rfl ?_|refine zF ?_|refine zG ?_|refine zH ?_|refine zI ?_|refine zJ ?_|refine zK ?_|refine zL rfl ?_|refine zM rfl ?_))
    refine DW.cond rfl (fun hb => ?_) (fun hb => ?_)
    · have hkl : k < g.length := by have := of_decide_eq_true hb; omega
      clear hb
      have hy := hg0 _ (List.getElem_mem hkl)
      have hy1 := hy.lo
      have hy2 := hy.hi
      have hm0 : 0 ≤ f[i].c * g[k].c := Int.mul_nonneg (by omega) (by omega)
      have hm1 : f[i].c * g[k].c ≤ 101 * 101 := Int.mul_le_mul (by omega) (by omega) (by omega) (by omega)
      have hput := Put_pure 1 (hx.mok hn (by omega)) (hy.mok hn (by omega)) (by rw [hx.len, hy.len])
      rw [putE_1'] at hput
      (repeat(first|refine zA ?_|refine zB ?_|refine zE rfl (by decide) rfl ?_|refine zF ?_|refine zG ?_|refine zH ?_|refine zI ?_|refine zJ ?_|refine zK ?_|refine zL rfl ?_|refine zM rfl ?_))
      refine DW.drawS 28 Tryz.mixed (by kernel_rfl) (by decide) ?_
      dsimp only [List.take, List.drop]
      (repeat(first|refine zN ?_|refine zO ?_|refine zR rfl (by decide) rfl ?_|refine zS ?_))
      refine RS.sta (fun H' hov => sta_call rfl rfl (hput _)) rfl ?_
      refine RS.sta (fun H' hov => s_buildT (out := [I (f[i].c * g[k].c % r.p), intsD (zipE (· + ·) f[i].e g[k].e)]) rfl rfl) rfl ?_
      (repeat(first|refine zN ?_|refine zO ?_|refine zR rfl (by decide) rfl ?_|refine zS ?_))
      refine RO.dyn rfl (d_append (H0 := H) (xs := [tmD ⟨f[i].c * g[k].c % r.p, zipE (· + ·) f[i].e g[k].e⟩]) rfl hak hok rfl (.inl rfl) (uni_tm [⟨f[i].c * g[k].c % r.p, zipE (· + ·) f[i].e g[k].e⟩]) (by rw [List.length_map, List.length_append, List.length_singleton]; omega) (by rw [List.length_map, List.length_append, List.length_singleton]; omega) fun d' H' q1 q2 q3 => ?_)
      (repeat(first|refine zA ?_|refine zB ?_|refine zE rfl (by decide) rfl ?_|refine zF ?_|refine zG ?_|refine zH ?_|refine zI ?_|refine zJ ?_|refine zK ?_|refine zL rfl ?_|refine zM rfl ?_))
      refine ⟨(k + 1, H', d'), ⟨hkl, ?_, q2⟩, by dsimp only; omega, rfl, rfl, rfl, rfl, rfl, rfl, rfl, trivial⟩
      dsimp only
      rw [pairs_one r.p f[i] g hkl, ← List.append_assoc, List.map_append]
      exact q1
    · have hke : k = g.length := by have := of_decide_eq_false hb; omega
      rw [hke, List.take_length, ← pairsT_append, ← List.take_succ_eq_append_getElem hlt] at hak
      (repeat(first|refine zA ?_|refine zB ?_|refine zE rfl (by decide) rfl ?_|refine zF ?_|refine zG ?_|refine zH ?_|refine zI ?_|refine zJ ?_|refine zK ?_|refine zL rfl ?_|refine zM rfl ?_))
      exact ⟨(i + 1, Hk, dk), ⟨hlt, hak, hok⟩, by dsimp only; omega, rfl, rfl, rfl, rfl, rfl, rfl, trivial⟩
  · have hie : i = f.length := by have := of_decide_eq_false hb; omega
    rw [hie, List.take_length] at hacc
    have hcol := collect_pure r (pairsT r.p f g) hn (B := B + C) (by omega) hp (by rw [pairsT_length]; exact hl) (pairsT_mem (by omega) hf0 hg0)
    rw [collect_prod (by omega) hpr hC0 hf hg] at hcol
    (repeat(first|refine zA ?_|refine zB ?_|refine zE rfl (by decide) rfl ?_|refine zF ?_|refine zG ?_|refine zH ?_|refine zI ?_|refine zJ ?_|refine zK ?_|refine zL rfl ?_|refine zM rfl ?_))
    refine RO.dyn rfl (opD_callF (ds' := [rgD r, plD (pairsT r.p f g)]) (H' := H) rfl rfl hov (.cons (.same _) (.cons hacc.done .nil)) (hcol H) ?_)
    (repeat(first|refine zA ?_|refine zB ?_|refine zE rfl (by decide) rfl ?_|refine zF ?_|refine zG ?_|refine zH ?_|refine zI ?_|refine zJ ?_|refine zK ?_|refine zL rfl ?_|refine zM rfl ?_))
    exact DW.ret ⟨.inl rfl, _, rfl, Over.refl _, .same _⟩
end
end Go.Proofs.YtfjmdhemlfafbaaGreat
