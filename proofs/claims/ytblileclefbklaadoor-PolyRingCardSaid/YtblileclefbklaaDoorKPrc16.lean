/-
  The value of a polynomial at a point: plain law. No condition.
-/
import Derived.Test.YtblileclefbklaaDoorKPrc15
import Derived.Test.YtblileclefbklaaDoorKPrc11
import Derived.Test.YtblileclefbklaaDoorKPrc5
import Derived.Test.YtblileclefbklaaDoorKPrc13
import Derived.Test.YtblileclefbklaaDoorKPrc9
import Derived.Test.YtblileclefbklaaDoorKPrc12
import Derived.Test.YtblileclefbklaaDoorKPrc7

namespace Go.Proofs.YtblileclefbklaaDoor
open Go.RowKit
set_option linter.unusedVariables false
set_option linter.unusedSimpArgs false
set_option maxHeartbeats 8000000

theorem refSum_pure (r : Rg) (f g : Pl) {n : Nat} {B : Int} (hn : n ≤ 3) (hB : B ≤ 1000000) (hp : 2 ≤ r.p ∧ r.p ≤ 101) (hl : f.length + g.length ≤ 4000000000000) (hf : PB 1 r.p r.order n B f) (hg : PB 1 r.p r.order n B g) :
    Pure Tryd.prog 9 [rgD r, plD f, plD g] (plD (sumT r.p r.order f g)) := by
  intro H
  refine PureH.of_body Tryd.func9 rfl (by decide) (Nat.le_of_ble_eq_true rfl) fun w0 => ?_
  (repeat (first | refine RO.Sv ?_ | refine RO.Yv ?_ | refine RO.no rfl (by decide) rfl ?_ | refine RO.nil ?_ | refine DW.region ?_ | refine DW.seq ?_ | refine DW.block ?_ | refine DW.skip ?_ | refine DW.exit ?_ | refine DW.condT rfl ?_ | refine DW.condF rfl ?_))
  refine DW.drawX [0, 1, 2, 4] [0, 4] (fun _ => none) Tryd.mixed (by kernel_rfl) (Over.nul _) ?_
  (repeat (first | refine RX.A ?_ | refine RX.nil ?_))
  refine RY.dyn rfl (opD_types (d_append (H0 := H) (l := []) (xs := f.map tmD) rfl (Acc.nil _ _ _ _) (Over.refl _) rfl (.inl rfl) (uni_tm f) (by simp; omega) (by simp; omega) fun d1 H1 q1 q2 _ => ⟨Over.nul _, ?_⟩))
  refine RY.dyn rfl (opD_types (d_append (H0 := H) (xs := g.map tmD) rfl q1 q2 rfl (.inl rfl) (uni_tm g) (by simp; omega) (by simp; omega) fun d2 H2 s1 s2 _ => ⟨Over.nul _, ?_⟩))
  rw [List.nil_append, ← List.map_append] at s1
  have hm : ∀ t ∈ f ++ g, TB 0 r.p n B t := fun t ht => by
    rcases List.mem_append.1 ht with h | h
    · exact (hf.all t h).mono (by omega) (by omega)
    · exact (hg.all t h).mono (by omega) (by omega)
  have hcol := collect_pure r (f ++ g) hn hB hp (by simp; omega) hm
  rw [collect_sum (by omega) hf hg] at hcol
  refine RY.dyn rfl (opD_callF (ds' := [rgD r, plD (f ++ g)]) (H' := H) rfl rfl s2 (.cons (.same _) (.cons s1.done .nil)) (hcol H) ⟨Over.nul _, ?_⟩)
  (repeat (first | refine RY.S ?_ | refine RY.nil ?_))
  (repeat (first | refine RO.Sv ?_ | refine RO.Yv ?_ | refine RO.no rfl (by decide) rfl ?_ | refine RO.nil ?_ | refine DW.region ?_ | refine DW.seq ?_ | refine DW.block ?_ | refine DW.skip ?_ | refine DW.exit ?_ | refine DW.condT rfl ?_ | refine DW.condF rfl ?_))
  exact DW.ret ⟨.inl rfl, _, rfl, Over.refl _, .same _⟩

theorem putE_1' : putE 1 = (· + ·) := by funext x y; simp [putE]

theorem pairsT_append (p : Int) (f f' g : Pl) : pairsT p (f ++ f') g = pairsT p f g ++ pairsT p f' g := by simp [pairsT]

theorem pairsT_length (p : Int) (g : Pl) : ∀ (f : Pl), (pairsT p f g).length = f.length * g.length
  | [] => by simp [pairsT]
  | t :: f => by
    have ih := pairsT_length p g f
    have : pairsT p (t :: f) g = (g.map fun u => ⟨t.c * u.c % p, zipE (· + ·) t.e u.e⟩) ++ pairsT p f g := rfl
    rw [this, List.length_append, List.length_map, ih, List.length_cons, Nat.add_mul]
    omega

theorem pairs_one (p : Int) (t : Tm) (g : Pl) {k : Nat} (h : k < g.length) : pairsT p [t] (g.take (k + 1)) = pairsT p [t] (g.take k) ++ [⟨t.c * g[k].c % p, zipE (· + ·) t.e g[k].e⟩] := by
  rw [List.take_succ_eq_append_getElem h]
  unfold pairsT
  simp only [List.flatMap_cons, List.flatMap_nil, List.append_nil, List.map_append, List.map_cons, List.map_nil]

theorem refProduct_pure (r : Rg) (f g : Pl) {n : Nat} {B C : Int} (hn : n ≤ 3) (hB : B + C ≤ 1000000) (hB0 : 0 ≤ B) (hC0 : 0 ≤ C) (hr : ckP r.p = 0) (hpr : Prm r.p) (hl : f.length * g.length ≤ 4000000000000) (hf : PB 1 r.p r.order n C f) (hg : PB 1 r.p r.order n B g) (hfl : f.length ≤ 4000000000000) (hgl : g.length ≤ 4000000000000) :
    Pure Tryd.prog 10 [rgD r, plD f, plD g] (plD (prodT r.p r.order f g)) := by
  have hp := ckP_ok hr
  intro H
  have hf0 : ∀ t ∈ f, TB 0 r.p n C t := fun t ht => (hf.all t ht).mono (by omega) (by omega)
  have hg0 : ∀ t ∈ g, TB 0 r.p n B t := fun t ht => (hg.all t ht).mono (by omega) (by omega)
  refine PureH.of_body Tryd.func10 rfl (by decide) (Nat.le_of_ble_eq_true rfl) fun w0 => ?_
  (repeat (first | refine RO.Sv ?_ | refine RO.Yv ?_ | refine RO.no rfl (by decide) rfl ?_ | refine RO.nil ?_ | refine DW.region ?_ | refine DW.seq ?_ | refine DW.block ?_ | refine DW.skip ?_ | refine DW.exit ?_ | refine DW.condT rfl ?_ | refine DW.condF rfl ?_))
  refine DW.loopI (fun x : Nat × Heap × D => x.1 ≤ f.length ∧ Acc H x.2.1 x.2.2 2 54 ((pairsT r.p (f.take x.1) g).map tmD) ∧ Over H x.2.1) (fun x => [(1, plD f), (2, plD g), (3, .ipt 4 [rgD r] 0 0), (7, x.2.2), (8, I x.1)]) (fun x => x.2.1) (fun x => f.length - x.1) (0, H, .nil)
    ⟨Nat.zero_le _, Acc.nil _ _ _ _, Over.refl _⟩ rfl ⟨rfl, rfl, rfl, rfl, rfl, trivial⟩ fun ⟨i, Hi, d⟩ ⟨hi, hacc, hov⟩ => ?_
  dsimp only at hi hacc hov
  dsimp only
  (repeat (first | refine RO.Sv ?_ | refine RO.Yv ?_ | refine RO.no rfl (by decide) rfl ?_ | refine RO.nil ?_ | refine DW.region ?_ | refine DW.seq ?_ | refine DW.block ?_ | refine DW.skip ?_ | refine DW.exit ?_ | refine DW.condT rfl ?_ | refine DW.condF rfl ?_))
  refine DW.cond rfl (fun hb => ?_) (fun hb => ?_)
  · have hlt : i < f.length := by have := of_decide_eq_true hb; omega
    clear hb
    have hx := hf0 _ (List.getElem_mem hlt)
    have hx1 := hx.lo
    have hx2 := hx.hi
    have hpl := pairsT_length r.p g (f.take i)
    have hbig : (f.take i).length * g.length + g.length ≤ f.length * g.length := by
      have : (i + 1) * g.length ≤ f.length * g.length := Nat.mul_le_mul_right _ hlt
      rw [Nat.add_mul] at this
      rw [List.length_take, Nat.min_eq_left hi]
      omega
    (repeat (first | refine RO.Sv ?_ | refine RO.Yv ?_ | refine RO.no rfl (by decide) rfl ?_ | refine RO.nil ?_ | refine DW.region ?_ | refine DW.seq ?_ | refine DW.block ?_ | refine DW.skip ?_ | refine DW.exit ?_ | refine DW.condT rfl ?_ | refine DW.condF rfl ?_))
    refine DW.loopI (fun x : Nat × Heap × D => x.1 ≤ g.length ∧ Acc H x.2.1 x.2.2 2 54 ((pairsT r.p (f.take i) g ++ pairsT r.p [f[i]] (g.take x.1)).map tmD) ∧ Over H x.2.1) (fun x => [(1, plD f), (2, plD g), (3, .ipt 4 [rgD r] 0 0), (7, x.2.2), (8, I i), (9, I x.1)]) (fun x => x.2.1) (fun x => g.length - x.1) (0, Hi, d)
      ⟨Nat.zero_le _, by have : pairsT r.p [f[i]] (g.take 0) = [] := rfl
                         rw [this, List.append_nil]; exact hacc, hov⟩ rfl ⟨rfl, rfl, rfl, rfl, rfl, rfl, trivial⟩ fun ⟨k, Hk, dk⟩ ⟨hk, hak, hok⟩ => ?_
    dsimp only at hk hak hok
    dsimp only
    have hpk := pairsT_length r.p (g.take k) [f[i]]
    simp only [List.length_singleton, List.length_take, Nat.one_mul] at hpk
    (repeat (first | refine RO.Sv ?_ | refine RO.Yv ?_ | refine RO.no rfl (by decide) rfl ?_ | refine RO.nil ?_ | refine DW.region ?_ | refine DW.seq ?_ | refine DW.block ?_ | refine DW.skip ?_ | refine DW.exit ?_ | refine DW.condT rfl ?_ | refine DW.condF rfl ?_))
    refine DW.cond rfl (fun hb => ?_) (fun hb => ?_)
    · have hkl : k < g.length := by have := of_decide_eq_true hb; omega
      clear hb
      have hy := hg0 _ (List.getElem_mem hkl)
      have hy1 := hy.lo
      have hy2 := hy.hi
      have hm0 : 0 ≤ f[i].c * g[k].c := Int.mul_nonneg (by omega) (by omega)
      have hm1 : f[i].c * g[k].c ≤ 101 * 101 := Int.mul_le_mul (by omega) (by omega) (by omega) (by omega)
      have hput := Put_pure 1 (hx.mok hn (by omega)) (hy.mok hn (by omega)) (by rw [hx.len, hy.len])
      rw [putE_1'] at hput
      (repeat (first | refine RO.Sv ?_ | refine RO.Yv ?_ | refine RO.no rfl (by decide) rfl ?_ | refine RO.nil ?_ | refine DW.region ?_ | refine DW.seq ?_ | refine DW.block ?_ | refine DW.skip ?_ | refine DW.exit ?_ | refine DW.condT rfl ?_ | refine DW.condF rfl ?_))
      refine DW.drawS 28 Tryd.mixed (by kernel_rfl) (by decide) ?_
      dsimp only [List.take, List.drop]
      (repeat (first | refine RS.Sv ?_ | refine RS.Yv ?_ | refine RS.no rfl (by decide) rfl ?_ | refine RS.nil ?_))
      refine RS.sta (fun H' hov => sta_call rfl rfl (hput _)) rfl ?_
      refine RS.sta (fun H' hov => s_buildT (out := [I (f[i].c * g[k].c % r.p), intsD (zipE (· + ·) f[i].e g[k].e)]) rfl rfl) rfl ?_
      (repeat (first | refine RS.Sv ?_ | refine RS.Yv ?_ | refine RS.no rfl (by decide) rfl ?_ | refine RS.nil ?_))
      refine RO.dyn rfl (d_append (H0 := H) (xs := [tmD ⟨f[i].c * g[k].c % r.p, zipE (· + ·) f[i].e g[k].e⟩]) rfl hak hok rfl (.inl rfl) (uni_tm [⟨f[i].c * g[k].c % r.p, zipE (· + ·) f[i].e g[k].e⟩]) (by rw [List.length_map, List.length_append, List.length_singleton]; omega) (by rw [List.length_map, List.length_append, List.length_singleton]; omega) fun d' H' q1 q2 q3 => ?_)
      (repeat (first | refine RO.Sv ?_ | refine RO.Yv ?_ | refine RO.no rfl (by decide) rfl ?_ | refine RO.nil ?_ | refine DW.region ?_ | refine DW.seq ?_ | refine DW.block ?_ | refine DW.skip ?_ | refine DW.exit ?_ | refine DW.condT rfl ?_ | refine DW.condF rfl ?_))
      refine ⟨(k + 1, H', d'), ⟨hkl, ?_, q2⟩, by dsimp only; omega, rfl, rfl, rfl, rfl, rfl, rfl, rfl, trivial⟩
      dsimp only
      rw [pairs_one r.p f[i] g hkl, ← List.append_assoc, List.map_append]
      exact q1
    · have hke : k = g.length := by have := of_decide_eq_false hb; omega
      rw [hke, List.take_length, ← pairsT_append, ← List.take_succ_eq_append_getElem hlt] at hak
      (repeat (first | refine RO.Sv ?_ | refine RO.Yv ?_ | refine RO.no rfl (by decide) rfl ?_ | refine RO.nil ?_ | refine DW.region ?_ | refine DW.seq ?_ | refine DW.block ?_ | refine DW.skip ?_ | refine DW.exit ?_ | refine DW.condT rfl ?_ | refine DW.condF rfl ?_))
      exact ⟨(i + 1, Hk, dk), ⟨hlt, hak, hok⟩, by dsimp only; omega, rfl, rfl, rfl, rfl, rfl, rfl, trivial⟩
  · have hie : i = f.length := by have := of_decide_eq_false hb; omega
    rw [hie, List.take_length] at hacc
    have hcol := collect_pure r (pairsT r.p f g) hn (B := B + C) (by omega) hp (by rw [pairsT_length]; exact hl) (pairsT_mem (by omega) hf0 hg0)
    rw [collect_prod (by omega) hpr hC0 hf hg] at hcol
    (repeat (first | refine RO.Sv ?_ | refine RO.Yv ?_ | refine RO.no rfl (by decide) rfl ?_ | refine RO.nil ?_ | refine DW.region ?_ | refine DW.seq ?_ | refine DW.block ?_ | refine DW.skip ?_ | refine DW.exit ?_ | refine DW.condT rfl ?_ | refine DW.condF rfl ?_))
    refine RO.dyn rfl (opD_callF (ds' := [rgD r, plD (pairsT r.p f g)]) (H' := H) rfl rfl hov (.cons (.same _) (.cons hacc.done .nil)) (hcol H) ?_)
    (repeat (first | refine RO.Sv ?_ | refine RO.Yv ?_ | refine RO.no rfl (by decide) rfl ?_ | refine RO.nil ?_ | refine DW.region ?_ | refine DW.seq ?_ | refine DW.block ?_ | refine DW.skip ?_ | refine DW.exit ?_ | refine DW.condT rfl ?_ | refine DW.condF rfl ?_))
    exact DW.ret ⟨.inl rfl, _, rfl, Over.refl _, .same _⟩

end Go.Proofs.YtblileclefbklaaDoor

namespace Go.Proofs.YtblileclefbklaaDoor
open Go.RowKit
set_option linter.unusedVariables false
set_option linter.unusedSimpArgs false
set_option maxHeartbeats 4000000

def xyR : Rg := ⟨7, 2, 1, 1⟩

instance instRing1 : BuildT Tryd.prog 23 [I 0, I 0, I 0, I 0] #[(0, 1), (1, 1), (2, 1), (3, 1)] := .of (by kernel_rfl) Tryd.underlying23 (by kernel_rfl) rfl
instance instRing2 : SizeT Tryd.prog 23 4 := .of (by kernel_rfl)

theorem xy_pure : Pure Tryd.prog 32 [] (rgD xyR) := by
  intro H
  refine PureH.of_bodyCell (r := 0) (t := 23) (T0 := 23) (cells := [I 7, I 2, I 1, I 1]) Tryd.func32 rfl (by decide) (Nat.le_of_ble_eq_true rfl) rfl fun w0 => ?_
  (repeat (first | refine RO.S ?_ | refine RO.Y ?_ | refine RO.no rfl (by decide) rfl ?_ | refine RO.nil ?_ | refine DW.region ?_ | refine DW.seq ?_ | refine DW.block ?_ | refine DW.skip ?_ | refine DW.exit ?_ | refine DW.condT rfl ?_ | refine DW.condF rfl ?_))
  refine RO.dyn rfl (d_alloc fun b hb => ?_)
  (repeat (first | refine RO.S ?_ | refine RO.Y ?_ | refine RO.no rfl (by decide) rfl ?_ | refine RO.nil ?_ | refine DW.region ?_ | refine DW.seq ?_ | refine DW.block ?_ | refine DW.skip ?_ | refine DW.exit ?_ | refine DW.condT rfl ?_ | refine DW.condF rfl ?_))
  refine RO.sta (s_buildT (out := [I 7, I 2, I 1, I 1]) rfl rfl) rfl ?_
  refine RO.dyn rfl (d_store (k := 4) rfl rfl rfl (Heap.set_self _ _ _) (by decide) (by simp [cellsOf, D.isCell]) ?_)
  rw [Heap.set_set]
  (repeat (first | refine RO.S ?_ | refine RO.Y ?_ | refine RO.no rfl (by decide) rfl ?_ | refine RO.nil ?_ | refine DW.region ?_ | refine DW.seq ?_ | refine DW.block ?_ | refine DW.skip ?_ | refine DW.exit ?_ | refine DW.condT rfl ?_ | refine DW.condF rfl ?_))
  exact DW.ret ⟨.inl rfl, b, rfl, Heap.set_self _ _ _, (Over.refl _).set hb, hb⟩

end Go.Proofs.YtblileclefbklaaDoor

namespace Go.Proofs.YtblileclefbklaaDoor
set_option linter.unusedVariables false
set_option linter.unusedSimpArgs false

def vGo (r : Rg) : List Vc → Int
  | [] => 0
  | v :: l => if polysGo r v = 0 then vGo r l else polysGo r v

def vecsGo (r : Rg) (rank : Int) : List Vc → Int
  | [] => 0
  | v :: l => if (v.length : Int) ≠ rank then 1 else if polysGo r v = 0 then vecsGo r rank l else polysGo r v

def ownCk (r : Rg) (rank : Int) (l : List Vc) : Int := if rank < 1 ∨ 40 < rank then 3 else if 60 < l.length then 2 else vecsGo r rank l

def vecsCk (r : Rg) (rank : Int) (l : List Vc) : Int := if ringCk r = 0 then ownCk r rank l else ringCk r

def badLen (v : Vc) : Bool := decide ((v.length : Int) < 1) || decide (40 < (v.length : Int))

def unlike (l : List Vc) (v : Vc) : Bool := (v.length : Int) != ((l.headD []).length : Int)

def alikeCk (r : Rg) (l : List Vc) : Int := if ringCk r ≠ 0 then ringCk r else if l.any badLen = true then 3 else if l.any (unlike l) = true then 1 else vGo r l

theorem vGo_drop {r : Rg} {l : List Vc} {k : Nat} (h : k < l.length) : vGo r (l.drop k) = if polysGo r l[k] = 0 then vGo r (l.drop (k + 1)) else polysGo r l[k] := by
  rw [List.drop_eq_getElem_cons h]
  rfl

theorem vecsGo_drop {r : Rg} {rank : Int} {l : List Vc} {k : Nat} (h : k < l.length) : vecsGo r rank (l.drop k) = if (l[k].length : Int) ≠ rank then 1 else if polysGo r l[k] = 0 then vecsGo r rank (l.drop (k + 1)) else polysGo r l[k] := by
  rw [List.drop_eq_getElem_cons h]
  rfl

theorem any_drop {α : Type} {p : α → Bool} {l : List α} {k : Nat} (h : k < l.length) : (l.drop k).any p = (p l[k] || (l.drop (k + 1)).any p) := by
  rw [List.drop_eq_getElem_cons h]
  rfl

/-- A vector that is right, of a rank. -/
structure VOk (r : Rg) (k : Nat) (v : Vc) : Prop where
  len : v.length = k
  all : ∀ f ∈ v, POk r f

theorem vGo_mem {r : Rg} : ∀ {l : List Vc}, vGo r l = 0 → ∀ v ∈ l, polysGo r v = 0
  | u :: l, h, v, hv => by
    unfold vGo at h
    split at h
    · rename_i h1
      rcases List.mem_cons.1 hv with rfl | hv
      · exact h1
      · exact vGo_mem h v hv
    · rename_i h1; exact absurd h h1

theorem vecsGo_mem {r : Rg} {rank : Int} : ∀ {l : List Vc}, vecsGo r rank l = 0 → ∀ v ∈ l, (v.length : Int) = rank ∧ polysGo r v = 0
  | u :: l, h, v, hv => by
    unfold vecsGo at h
    split at h
    · cases h
    · rename_i h0
      split at h
      · rename_i h1
        rcases List.mem_cons.1 hv with rfl | hv
        · exact ⟨Classical.byContradiction fun hn => h0 hn, h1⟩
        · exact vecsGo_mem h v hv
      · rename_i h1; exact absurd h h1

theorem polysGo_ok {r : Rg} (hr : ringCk r = 0) {v : Vc} (h : polysGo r v = 0) : ∀ f ∈ v, POk r f := fun f hf => polyCk_ok hr (polysGo_mem h f hf)

theorem alikeCk_ok {r : Rg} {l : List Vc} (h : alikeCk r l = 0) : ringCk r = 0 ∧ ∀ v ∈ l, 1 ≤ v.length ∧ v.length ≤ 40 ∧ VOk r (l.headD []).length v := by
  unfold alikeCk at h
  split at h
  · rename_i h1; exact absurd h h1
  · rename_i h1
    have hr : ringCk r = 0 := Classical.byContradiction fun hn => h1 hn
    split at h
    · cases h
    · rename_i h2
      split at h
      · cases h
      · rename_i h3
        refine ⟨hr, fun v hv => ?_⟩
        have h2' : badLen v = false := by
          cases hb : badLen v
          · rfl
          · exact absurd (List.any_eq_true.2 ⟨v, hv, hb⟩) h2
        have h3' : unlike l v = false := by
          cases hb : unlike l v
          · rfl
          · exact absurd (List.any_eq_true.2 ⟨v, hv, hb⟩) h3
        unfold badLen at h2'
        simp only [Bool.or_eq_false_iff, decide_eq_false_iff_not] at h2'
        unfold unlike at h3'
        simp only [bne_eq_false_iff_eq] at h3'
        exact ⟨by omega, by omega, by omega, polysGo_ok hr (vGo_mem h v hv)⟩

theorem ownCk_ok {r : Rg} {rank : Int} {l : List Vc} (hr : ringCk r = 0) (h : ownCk r rank l = 0) : 1 ≤ rank ∧ rank ≤ 40 ∧ l.length ≤ 60 ∧ ∀ v ∈ l, VOk r rank.toNat v := by
  unfold ownCk at h
  split at h
  · cases h
  · rename_i h1
    split at h
    · cases h
    · rename_i h2
      refine ⟨by omega, by omega, by omega, fun v hv => ?_⟩
      obtain ⟨h3, h4⟩ := vecsGo_mem h v hv
      exact ⟨by omega, polysGo_ok hr h4⟩

theorem vecsCk_ok {r : Rg} {rank : Int} {l : List Vc} (h : vecsCk r rank l = 0) : ringCk r = 0 ∧ 1 ≤ rank ∧ rank ≤ 40 ∧ l.length ≤ 60 ∧ ∀ v ∈ l, VOk r rank.toNat v := by
  unfold vecsCk at h
  split at h
  · rename_i hr; exact ⟨hr, ownCk_ok hr h⟩
  · rename_i hr; exact absurd h hr

def vsumT (r : Rg) (v w : Vc) : Vc := List.zipWith (sumT r.p r.order) v w
def vtimesT (r : Rg) (f : Pl) (v : Vc) : Vc := v.map (prodT r.p r.order f)
def vbyT (r : Rg) (v : Vc) (t : Tm) : Vc := v.map fun f => byT r.p f t
def vgreatT (v : Vc) : Bool := v.any greatT
def vdoneT (v : Vc) : Vc × Int := if vgreatT v = true then ([], 2) else (v, 0)

/-- Does the product of two have too great a degree? -/
def bigT (f g : Pl) : Bool := !f.isEmpty && (!g.isEmpty && decide (200 < topT f + topT g))

end Go.Proofs.YtblileclefbklaaDoor

namespace Go.Proofs.YtblileclefbklaaDoor
set_option linter.unusedVariables false
set_option linter.unusedSimpArgs false

/-- Each polynomial of a vector is bounded. -/
def VB (r : Rg) (n : Nat) (B : Int) (L : Nat) (v : Vc) : Prop := ∀ f ∈ v, PB 1 r.p r.order n B f ∧ f.length ≤ L

theorem VOk.vb {r : Rg} {k : Nat} {v : Vc} (h : VOk r k v) : VB r r.n.toNat 200 2000 v := fun f hf => ⟨(h.all f hf).ok, (h.all f hf).len⟩

theorem topT_bounds {f : Pl} (h : ∀ t ∈ f, MOk t.e) : -1 ≤ topT f ∧ topT f ≤ 3000000 := by
  cases f with
  | nil => exact ⟨Int.le_refl _, by decide⟩
  | cons t f => have := (h t (by simp)).sum; exact ⟨by show -1 ≤ t.e.sum; omega, this.2⟩

def firstT (r : Rg) (i : Int) (a : List Int) (k : Int) (b : List Int) : Bool := if (r.over = 2 ∧ i ≠ k) ∨ cmpM r.order a b = 0 then decide (i < k) else decide (0 < cmpM r.order a b)

def topStep (r : Rg) (x : Option (Nat × Tm)) (i : Nat) : Pl → Option (Nat × Tm)
  | [] => x
  | t :: _ => match x with
    | none => some (i, t)
    | some (a, u) => if firstT r i t.e a u.e = true then some (i, t) else some (a, u)

def topAt (r : Rg) (v : Vc) : Nat → Option (Nat × Tm)
  | 0 => none
  | k + 1 => topStep r (topAt r v k) k (v.getD k [])

/-- The lead of a vector: its place, and its term. -/
def topV (r : Rg) (v : Vc) : Option (Nat × Tm) := topAt r v v.length

def atOf : Option (Nat × Tm) → Int
  | none => -1
  | some x => x.1

def tmOf : Option (Nat × Tm) → Tm
  | none => ⟨0, []⟩
  | some x => x.2

theorem topAt_succ {r : Rg} {v : Vc} {k : Nat} (h : k < v.length) : topAt r v (k + 1) = topStep r (topAt r v k) k v[k] := by
  show topStep r (topAt r v k) k (v.getD k []) = _
  rw [List.getD_eq_getElem?_getD, List.getElem?_eq_getElem h]
  rfl

theorem topStep_none {r : Rg} {k : Nat} {f : Pl} (h : 0 < f.length) : topStep r none k f = some (k, f[0]) := by
  cases f with
  | nil => simp at h
  | cons t g => rfl

theorem topStep_some {r : Rg} {k a : Nat} {u : Tm} {f : Pl} (h : 0 < f.length) : topStep r (some (a, u)) k f = if firstT r k f[0].e a u.e = true then some (k, f[0]) else some (a, u) := by
  cases f with
  | nil => simp at h
  | cons t g => rfl

theorem topAt_ok {r : Rg} {v : Vc} : ∀ {k : Nat}, k ≤ v.length → ∀ {a : Nat} {u : Tm}, topAt r v k = some (a, u) → a < k ∧ ∃ (h : a < v.length) (h2 : 0 < v[a].length), v[a][0] = u
  | 0, _, a, u, h => by cases h
  | k + 1, hk, a, u, h => by
    rw [topAt_succ hk] at h
    have old : ∀ {a u}, topAt r v k = some (a, u) → a < k + 1 ∧ ∃ (h : a < v.length) (h2 : 0 < v[a].length), v[a][0] = u := fun hx => by
      obtain ⟨h1, h2⟩ := topAt_ok (by omega) hx
      exact ⟨by omega, h2⟩
    unfold topStep at h
    split at h
    · exact old h
    · rename_i t g hv
      have new : k < k + 1 ∧ ∃ (h : k < v.length) (h2 : 0 < v[k].length), v[k][0] = t := ⟨by omega, hk, by rw [hv]; simp, by simp [hv]⟩
      split at h
      · cases h; exact new
      · rename_i a' u' hx
        split at h
        · cases h; exact new
        · cases h; exact old hx

/-- A term behind the first one is never ahead. -/
theorem ahead_no {r : Rg} {v : Vc} {n : Nat} {B : Int} {L : Nat} (hv : VB r n B L v) {i j : Nat} (hi : i < v.length) (hj0 : 0 < j) (hj : j < v[i].length) : ∃ a u, topAt r v (i + 1) = some (a, u) ∧ firstT r i v[i][j].e a u.e = false := by
  have hvi := (hv _ (List.getElem_mem hi)).1
  rw [topAt_succ hi]
  match hf : v[i], hj with
  | [], hj => simp at hj
  | t :: g, hj =>
    have hpb : PB 1 r.p r.order n B (t :: g) := hf ▸ hvi
    have hjm : (t :: g)[j] ∈ g := by
      match j, hj0, hj with
      | j + 1, _, hj => simp
    have hlt : 0 < cmpM r.order t.e (t :: g)[j].e := hpb.below _ hjm
    have hanti := cmpM_anti r.order (t :: g)[j].e t.e
    have hlen : (t :: g)[j].e.length = t.e.length := by rw [(hpb.all _ (List.getElem_mem hj)).len, hpb.head.len]
    generalize hs : (t :: g)[j] = s at *
    have self : firstT r i s.e i t.e = false := by
      unfold firstT
      rw [if_neg (by omega)]
      exact decide_eq_false (by omega)
    unfold topStep
    cases hx : topAt r v i with
    | none => exact ⟨i, t, rfl, self⟩
    | some x =>
      obtain ⟨a, u⟩ := x
      dsimp only
      split
      · exact ⟨i, t, rfl, self⟩
      · rename_i hno
        refine ⟨a, u, rfl, ?_⟩
        obtain ⟨_, ha, ha2, hau⟩ := topAt_ok (Nat.le_of_lt hi) hx
        have hul : u.e.length = t.e.length := by
          have h1 := ((hv _ (List.getElem_mem ha)).1.all _ (List.getElem_mem ha2)).len
          rw [hau] at h1
          rw [h1, hpb.head.len]
        have hanti2 := cmpM_anti r.order t.e u.e
        have hanti3 := cmpM_anti r.order s.e u.e
        unfold firstT at hno ⊢
        by_cases hov : r.over = 2 ∧ (i : Int) ≠ a
        · rw [if_pos (.inl hov)] at hno ⊢
          simpa using hno
        · by_cases h0 : cmpM r.order t.e u.e = 0
          · rw [if_pos (.inr h0)] at hno
            have hteq := cmpM_zero hul.symm h0
            rw [← hteq, if_neg (by simp only [hov, false_or]; omega)]
            exact decide_eq_false (by omega)
          · rw [if_neg (by simp only [hov, false_or]; exact h0)] at hno
            have hno' : ¬ 0 < cmpM r.order t.e u.e := by simpa using hno
            have := (cmpM_trans (o := r.order) (a := u.e) (b := t.e) (c := s.e) hul hlen.symm (by omega) (by omega)).2 (.inr hlt)
            rw [if_neg (by simp only [hov, false_or]; omega)]
            exact decide_eq_false (by omega)

/-- What Lead answers. -/
def leadT (r : Rg) (v : Vc) : Int × Tm × Int := if alikeCk r [v] ≠ 0 then (0, ⟨0, []⟩, alikeCk r [v]) else match topV r v with
  | none => (0, ⟨0, []⟩, 5)
  | some (a, t) => (a, t, 0)

end Go.Proofs.YtblileclefbklaaDoor

namespace Go.Proofs.YtblileclefbklaaDoor
set_option linter.unusedVariables false
set_option linter.unusedSimpArgs false

theorem Lf_zero {φ : List Int → Int} : ∀ {f : Pl}, (∀ s ∈ f, φ s.e = 0) → Lf φ f = 0
  | [], _ => rfl
  | t :: f, h => by rw [Lf_cons, Lf_zero fun s hs => h s (by simp [hs]), h t (by simp)]; simp

theorem LfP_zero {φ : List Int → Int} {g : Pl} : ∀ {f : Pl}, (∀ t ∈ f, Lf (shift φ t.e) g = 0) → LfP φ f g = 0
  | [], _ => rfl
  | t :: f, h => by
    have : LfP φ (t :: f) g = t.c * Lf (shift φ t.e) g + LfP φ f g := by simp [LfP]
    rw [this, LfP_zero fun s hs => h s (by simp [hs]), h t (by simp)]; simp

theorem prod_head {p o : Int} {n : Nat} {B C : Int} (hp : 1 < p) (hpr : Prm p) {t u : Tm} {f g : Pl} (hC : 0 ≤ C) (hf : PB 1 p o n C (t :: f)) (hg : PB 1 p o n B (u :: g)) :
    ∃ s ∈ prodT p o (t :: f) (u :: g), s.e = zipE (· + ·) t.e u.e := by
  have htl := hf.head.len
  have hul := hg.head.len
  generalize hm : zipE (· + ·) t.e u.e = m
  have hgl : ∀ s ∈ u :: g, s.e.length = n ∧ 0 ≤ cmpM o u.e s.e := fun s hs => by
    refine ⟨(hg.all s hs).len, ?_⟩
    rcases List.mem_cons.1 hs with rfl | hs
    · rw [cmpM_self]; exact Int.le_refl _
    · exact Int.le_of_lt (hg.below s hs)
  have far : ∀ (a b : List Int), a.length = n → b.length = n → 0 ≤ cmpM o t.e a → 0 ≤ cmpM o u.e b → (0 < cmpM o t.e a ∨ 0 < cmpM o u.e b) → zipE (· + ·) b a ≠ m := fun a b ha hb h1 h2 h3 he => by
    rw [zipE_comm] at he
    have c1 : cmpM o m (zipE (· + ·) a u.e) = cmpM o t.e a := by rw [← hm]; exact cmpM_add (by omega) (by omega)
    have c2 : cmpM o (zipE (· + ·) a u.e) (zipE (· + ·) a b) = cmpM o u.e b := by
      rw [zipE_comm (a := a) (b := u.e), zipE_comm (a := a) (b := b)]
      exact cmpM_add (by omega) (by omega)
    have l1 : m.length = n := by rw [← hm, zipE_len (by omega)]; exact htl
    have l2 : (zipE (· + ·) a u.e).length = n := by rw [zipE_len (by omega)]; exact ha
    have l3 : (zipE (· + ·) a b).length = n := by rw [zipE_len (by omega)]; exact ha
    have := (cmpM_trans (o := o) (a := m) (b := zipE (· + ·) a u.e) (c := zipE (· + ·) a b) (by omega) (by omega) (by omega) (by omega)).2 (by rw [c1, c2]; exact h3)
    rw [he, cmpM_self] at this
    omega
  have k1 : ∀ t' ∈ f, Lf (shift (delta m) t'.e) (u :: g) = 0 := fun t' ht' => Lf_zero fun s hs => by
    have := far t'.e s.e (hf.all t' (by simp [ht'])).len (hgl s hs).1 (Int.le_of_lt (hf.below t' ht')) (hgl s hs).2 (.inl (hf.below t' ht'))
    simp [shift, delta, this]
  have k2 : Lf (shift (delta m) t.e) (u :: g) = u.c := by
    rw [Lf_cons, Lf_zero (f := g) fun s hs => by
      have := far t.e s.e htl (hgl s (by simp [hs])).1 (by rw [cmpM_self]; exact Int.le_refl _) (hgl s (by simp [hs])).2 (.inr (hg.below s hs))
      simp [shift, delta, this]]
    have : zipE (· + ·) u.e t.e = m := by rw [zipE_comm]; exact hm
    simp [shift, delta, this]
  have k3 : LfP (delta m) (t :: f) (u :: g) = t.c * u.c := by
    have : LfP (delta m) (t :: f) (u :: g) = t.c * Lf (shift (delta m) t.e) (u :: g) + LfP (delta m) f (u :: g) := by simp [LfP]
    rw [this, k2, LfP_zero k1]; simp
  have hL := prodT_L hp hpr hg hC (fun x hx => (hf.all x hx).mono (by omega) (Int.le_refl _)) (delta m)
  rw [k3] at hL
  refine Classical.byContradiction fun hno => ?_
  have h0 : Lf (delta m) (prodT p o (t :: f) (u :: g)) = 0 := Lf_zero fun s hs => by
    have : s.e ≠ m := fun e => hno ⟨s, hs, e⟩
    simp [delta, this]
  rw [h0] at hL
  have hd : p ∣ t.c * u.c := by
    have := Int.dvd_neg.2 hL
    rwa [show -(0 - t.c * u.c) = t.c * u.c by omega] at this
  have t1 := hf.head.lo
  have t2 := hf.head.hi
  have u1 := hg.head.lo
  have u2 := hg.head.hi
  rcases hpr _ _ hd with h | h
  · have := Int.le_of_dvd (by omega) h; omega
  · have := Int.le_of_dvd (by omega) h; omega

/-- A product of too great a degree is too great. -/
theorem big_great {p o : Int} {n : Nat} {B C : Int} (hp : 1 < p) (hpr : Prm p) {f g : Pl} (hC : 0 ≤ C) (hf : PB 1 p o n C f) (hg : PB 1 p o n B g) (h : bigT f g = true) : greatT (prodT p o f g) = true := by
  unfold bigT at h
  cases f with
  | nil => simp at h
  | cons t f =>
    cases g with
    | nil => simp at h
    | cons u g =>
      obtain ⟨s, hs, he⟩ := prod_head hp hpr hC hf hg
      have ht := topT_ge (prodT_ok hp hpr hg hC (fun x hx => (hf.all x hx).mono (by omega) (Int.le_refl _))) s hs
      rw [he, zipE_sum (by rw [hf.head.len, hg.head.len])] at ht
      have hsum : 200 < topT (t :: f) + topT (u :: g) := by simpa using h
      unfold greatT
      have h1 : topT (t :: f) = t.e.sum := rfl
      have h2 : topT (u :: g) = u.e.sum := rfl
      rw [decide_eq_true (show 200 < topT (prodT p o (t :: f) (u :: g)) by omega)]
      rfl

end Go.Proofs.YtblileclefbklaaDoor

namespace Go.Proofs.YtblileclefbklaaDoor
set_option linter.unusedVariables false

theorem turn_all' : ((List.range 102).all fun p => ckP (p : Int) != 0 || ((List.range p).all fun a => a == 0 || ((a : Int) * turnP p a % p == 1))) = true := by decide +kernel

theorem turnP_inv' {p : Int} (hp : ckP p = 0) : InvOk (turnP p) p := by
  intro a h0 h1
  have h2 := ckP_ok hp
  obtain ⟨q, rfl⟩ := Int.eq_ofNat_of_zero_le (show 0 ≤ p by omega)
  obtain ⟨b, rfl⟩ := Int.eq_ofNat_of_zero_le (show 0 ≤ a by omega)
  have h3 := List.all_eq_true.1 turn_all' q (List.mem_range.2 (by omega))
  rw [hp] at h3
  have h4 : ((List.range q).all fun a => a == 0 || ((a : Int) * turnP q a % q == 1)) = true := h3
  have h5 := List.all_eq_true.1 h4 b (List.mem_range.2 (by omega))
  simp only [Bool.or_eq_true, beq_iff_eq] at h5
  exact h5.resolve_left (by omega)

theorem turnGo_in {p : Int} (hp : 0 < p) : ∀ (f : Nat) (n a out : Int), 0 ≤ out → out < p → 0 ≤ turnGo p f n a out ∧ turnGo p f n a out < p
  | 0, _, _, out, h0, h1 => ⟨h0, h1⟩
  | f + 1, n, a, out, h0, h1 => by
    simp only [turnGo]
    split
    · exact ⟨h0, h1⟩
    · refine turnGo_in hp f _ _ _ ?_ ?_
      · split
        · exact Int.emod_nonneg _ (by omega)
        · exact h0
      · split
        · exact Int.emod_lt_of_pos _ hp
        · exact h1

theorem turnP_in {p : Int} (hp : 2 ≤ p) (a : Int) : 0 ≤ turnP p a ∧ turnP p a < p := turnGo_in (by omega) _ _ _ _ (by omega) (by omega)

theorem ckP_prm {p : Int} (hp : ckP p = 0) : Prm p := Prm.of (by have := ckP_ok hp; omega) (turnP_inv' hp)

end Go.Proofs.YtblileclefbklaaDoor

namespace Go.Proofs.YtblileclefbklaaDoor
open Go.RowKit
set_option linter.unusedVariables false
set_option linter.unusedSimpArgs false
set_option maxHeartbeats 8000000

theorem term_pure (c : Int) (e : List Int) : Pure Tryd.prog 31 [I c, intsD e] (tmD ⟨c, e⟩) := by
  intro H
  refine PureH.of_bodyCell (r := 4) (t := 54) (T0 := 54) (cells := [I c, intsD e]) Tryd.func31 rfl (by decide) (Nat.le_of_ble_eq_true rfl) rfl fun w0 => ?_
  (repeat (first | refine RO.Sv ?_ | refine RO.Yv ?_ | refine RO.no rfl (by decide) rfl ?_ | refine RO.nil ?_ | refine DW.region ?_ | refine DW.seq ?_ | refine DW.block ?_ | refine DW.skip ?_ | refine DW.exit ?_ | refine DW.condT rfl ?_ | refine DW.condF rfl ?_))
  refine RO.dyn rfl (d_alloc fun b hb => ?_)
  (repeat (first | refine RO.Sv ?_ | refine RO.Yv ?_ | refine RO.no rfl (by decide) rfl ?_ | refine RO.nil ?_ | refine DW.region ?_ | refine DW.seq ?_ | refine DW.block ?_ | refine DW.skip ?_ | refine DW.exit ?_ | refine DW.condT rfl ?_ | refine DW.condF rfl ?_))
  refine RO.sta (s_buildT (out := [I c, intsD e]) rfl rfl) rfl ?_
  refine RO.dyn rfl (d_store (k := 2) rfl rfl rfl (Heap.set_self _ _ _) (by show 0 + 2 ≤ 2; omega) (by simp [cellsOf, D.isCell, intsD]) ?_)
  rw [Heap.set_set]
  (repeat (first | refine RO.Sv ?_ | refine RO.Yv ?_ | refine RO.no rfl (by decide) rfl ?_ | refine RO.nil ?_ | refine DW.region ?_ | refine DW.seq ?_ | refine DW.block ?_ | refine DW.skip ?_ | refine DW.exit ?_ | refine DW.condT rfl ?_ | refine DW.condF rfl ?_))
  exact DW.ret ⟨.inl rfl, b, rfl, Heap.set_self _ _ _, (Over.refl _).set hb, hb⟩

theorem two_polys {f g : Pl} (hf : f.length ≤ 4611686018427387904) (hg : g.length ≤ 4611686018427387904) : ∀ u ∈ [f, g], u.length ≤ 4611686018427387904 := fun u hu => by
  simp at hu
  rcases hu with rfl | rfl <;> assumption

/-- What Add answers. -/
def paddT (r : Rg) (f g : Pl) : Pl × Int := if polysCk r [f, g] ≠ 0 then ([], polysCk r [f, g]) else doneT (sumT r.p r.order f g)

/-- What Mul answers. -/
def pmulT (r : Rg) (f g : Pl) : Pl × Int := if polysCk r [f, g] ≠ 0 then ([], polysCk r [f, g]) else if bigT f g = true then ([], 2) else doneT (prodT r.p r.order f g)

theorem pAdd_pure (r : Rg) (f g : Pl) (hf : f.length ≤ 4611686018427387904) (hg : g.length ≤ 4611686018427387904) : Pure Tryd.prog 6 [rgD r, plD f, plD g] (plE (paddT r f g)) := by
  intro H
  refine PureH.of_body Tryd.func6 rfl (by decide) (Nat.le_of_ble_eq_true rfl) fun w0 => ?_
  (repeat (first | refine RO.Sv ?_ | refine RO.Yv ?_ | refine RO.no rfl (by decide) rfl ?_ | refine RO.nil ?_ | refine DW.region ?_ | refine DW.seq ?_ | refine DW.block ?_ | refine DW.skip ?_ | refine DW.exit ?_ | refine DW.condT rfl ?_ | refine DW.condF rfl ?_))
  refine RO.sta (s_lit (pd := [(0, plD f), (1, plD g)]) (ds := [plD f, plD g]) (by decide) (by decide) rfl rfl (fun d hd => by simp at hd; rcases hd with rfl | rfl <;> rfl) rfl) rfl ?_
  refine RO.sta (sta_call rfl rfl (pcheck_pure r [f, g] (by simp) (two_polys hf hg) _)) rfl ?_
  (repeat (first | refine RO.Sv ?_ | refine RO.Yv ?_ | refine RO.no rfl (by decide) rfl ?_ | refine RO.nil ?_ | refine DW.region ?_ | refine DW.seq ?_ | refine DW.block ?_ | refine DW.skip ?_ | refine DW.exit ?_ | refine DW.condT rfl ?_ | refine DW.condF rfl ?_))
  unfold paddT
  by_cases hck : polysCk r [f, g] = 0
  case neg =>
    rw [if_pos (by simpa using hck), show (polysCk r [f, g] != 0) = true by simpa using hck]
    (repeat (first | refine RO.Sv ?_ | refine RO.Yv ?_ | refine RO.no rfl (by decide) rfl ?_ | refine RO.nil ?_ | refine DW.region ?_ | refine DW.seq ?_ | refine DW.block ?_ | refine DW.skip ?_ | refine DW.exit ?_ | refine DW.condT rfl ?_ | refine DW.condF rfl ?_))
    exact DW.ret ⟨.inl rfl, _, rfl, Over.refl _, .tup2 (.nil _) (.same _)⟩
  obtain ⟨hr, hal⟩ := polysCk_ok hck
  have hfo := hal f (by simp)
  have hgo := hal g (by simp)
  have hr2 := ringCk_ok hr
  have hp := ckP_ok hr2.1
  have e1 := hfo.len
  have e2 := hgo.len
  rw [if_neg (by simpa using hck), show (polysCk r [f, g] != 0) = false by simpa using hck]
  (repeat (first | refine RO.Sv ?_ | refine RO.Yv ?_ | refine RO.no rfl (by decide) rfl ?_ | refine RO.nil ?_ | refine DW.region ?_ | refine DW.seq ?_ | refine DW.block ?_ | refine DW.skip ?_ | refine DW.exit ?_ | refine DW.condT rfl ?_ | refine DW.condF rfl ?_))
  have hsum := sumT_ok (p := r.p) (o := r.order) (by omega) f g hfo.ok hgo.ok
  have hsl := sumT_length (p := r.p) (o := r.order) f g
  refine RO.sta (sta_call rfl rfl (sum_pure r f g (n := r.n.toNat) (B := 200) (by omega) (by omega) hp (by omega) hfo.ok hgo.ok _)) rfl ?_
  refine RO.sta (sta_call rfl rfl (done_pure (sumT r.p r.order f g) (by omega) (fun t ht => (hsum.all t ht).mok (by omega) (by omega)) _)) rfl ?_
  (repeat (first | refine RO.Sv ?_ | refine RO.Yv ?_ | refine RO.no rfl (by decide) rfl ?_ | refine RO.nil ?_ | refine DW.region ?_ | refine DW.seq ?_ | refine DW.block ?_ | refine DW.skip ?_ | refine DW.exit ?_ | refine DW.condT rfl ?_ | refine DW.condF rfl ?_))
  exact DW.ret ⟨.inl rfl, _, rfl, Over.refl _, .same _⟩

theorem pMul_pure (r : Rg) (f g : Pl) (hf : f.length ≤ 4611686018427387904) (hg : g.length ≤ 4611686018427387904) : Pure Tryd.prog 7 [rgD r, plD f, plD g] (plE (pmulT r f g)) := by
  intro H
  refine PureH.of_body Tryd.func7 rfl (by decide) (Nat.le_of_ble_eq_true rfl) fun w0 => ?_
  (repeat (first | refine RO.Sv ?_ | refine RO.Yv ?_ | refine RO.no rfl (by decide) rfl ?_ | refine RO.nil ?_ | refine DW.region ?_ | refine DW.seq ?_ | refine DW.block ?_ | refine DW.skip ?_ | refine DW.exit ?_ | refine DW.condT rfl ?_ | refine DW.condF rfl ?_))
  refine RO.sta (s_lit (pd := [(0, plD f), (1, plD g)]) (ds := [plD f, plD g]) (by decide) (by decide) rfl rfl (fun d hd => by simp at hd; rcases hd with rfl | rfl <;> rfl) rfl) rfl ?_
  refine RO.sta (sta_call rfl rfl (pcheck_pure r [f, g] (by simp) (two_polys hf hg) _)) rfl ?_
  (repeat (first | refine RO.Sv ?_ | refine RO.Yv ?_ | refine RO.no rfl (by decide) rfl ?_ | refine RO.nil ?_ | refine DW.region ?_ | refine DW.seq ?_ | refine DW.block ?_ | refine DW.skip ?_ | refine DW.exit ?_ | refine DW.condT rfl ?_ | refine DW.condF rfl ?_))
  unfold pmulT
  by_cases hck : polysCk r [f, g] = 0
  case neg =>
    rw [if_pos (by simpa using hck), show (polysCk r [f, g] != 0) = true by simpa using hck]
    (repeat (first | refine RO.Sv ?_ | refine RO.Yv ?_ | refine RO.no rfl (by decide) rfl ?_ | refine RO.nil ?_ | refine DW.region ?_ | refine DW.seq ?_ | refine DW.block ?_ | refine DW.skip ?_ | refine DW.exit ?_ | refine DW.condT rfl ?_ | refine DW.condF rfl ?_))
    exact DW.ret ⟨.inl rfl, _, rfl, Over.refl _, .tup2 (.nil _) (.same _)⟩
  obtain ⟨hr, hal⟩ := polysCk_ok hck
  have hfo := hal f (by simp)
  have hgo := hal g (by simp)
  have hr2 := ringCk_ok hr
  have hp := ckP_ok hr2.1
  have hpr : Prm r.p := ckP_prm hr2.1
  have e1 := hfo.len
  have e2 := hgo.len
  have hmul : f.length * g.length ≤ 2000 * 2000 := Nat.mul_le_mul e1 e2
  have hfm : ∀ t ∈ f, MOk t.e := fun t ht => (hfo.ok.all t ht).mok (by omega) (by omega)
  have hgm : ∀ t ∈ g, MOk t.e := fun t ht => (hgo.ok.all t ht).mok (by omega) (by omega)
  have h0 : ∀ t ∈ f, TB 0 r.p r.n.toNat 200 t := fun t ht => (hfo.ok.all t ht).mono (by omega) (by omega)
  have hpk := prodT_ok (o := r.order) (by omega) hpr hgo.ok (by omega) h0
  have hpl := prodT_length (o := r.order) (by omega) hpr hgo.ok (by omega) h0
  rw [if_neg (by simpa using hck), show (polysCk r [f, g] != 0) = false by simpa using hck]
  have hemp : ∀ l : Pl, (!l.isEmpty) = decide ((0 : Int) < (l.length : Int)) := fun l => by cases l <;> simp <;> omega
  have b1 : -1 ≤ topT f ∧ topT f ≤ 3000000 := topT_bounds hfm
  have b2 : -1 ≤ topT g ∧ topT g ≤ 3000000 := topT_bounds hgm
  (repeat (first | refine RO.Sv ?_ | refine RO.Yv ?_ | refine RO.no rfl (by decide) rfl ?_ | refine RO.nil ?_ | refine DW.region ?_ | refine DW.seq ?_ | refine DW.block ?_ | refine DW.skip ?_ | refine DW.exit ?_ | refine DW.condT rfl ?_ | refine DW.condF rfl ?_))
  cases h1 : decide ((0 : Int) < (f.length : Int))
  case false =>
    have h2 : True := trivial
    (repeat (first | refine RO.Sv ?_ | refine RO.Yv ?_ | refine RO.no rfl (by decide) rfl ?_ | refine RO.nil ?_ | refine DW.region ?_ | refine DW.seq ?_ | refine DW.block ?_ | refine DW.skip ?_ | refine DW.exit ?_ | refine DW.condT rfl ?_ | refine DW.condF rfl ?_))
    rw [if_neg (by unfold bigT; rw [hemp, hemp, h1]; first | (rw [h2]; exact Bool.false_ne_true) | exact Bool.false_ne_true)]
    (repeat (first | refine RO.Sv ?_ | refine RO.Yv ?_ | refine RO.no rfl (by decide) rfl ?_ | refine RO.nil ?_ | refine DW.region ?_ | refine DW.seq ?_ | refine DW.block ?_ | refine DW.skip ?_ | refine DW.exit ?_ | refine DW.condT rfl ?_ | refine DW.condF rfl ?_))
    refine RO.sta (sta_call rfl rfl (product_pure r f g (n := r.n.toNat) (by omega) (B := 200) (C := 200) (by omega) (by omega) (by omega) hr2.1 hpr (by omega) hfo.ok hgo.ok (by omega) _)) rfl ?_
    refine RO.sta (sta_call rfl rfl (done_pure (prodT r.p r.order f g) (by omega) (fun t ht => (hpk.all t ht).mok (by omega) (by omega)) _)) rfl ?_
    (repeat (first | refine RO.Sv ?_ | refine RO.Yv ?_ | refine RO.no rfl (by decide) rfl ?_ | refine RO.nil ?_ | refine DW.region ?_ | refine DW.seq ?_ | refine DW.block ?_ | refine DW.skip ?_ | refine DW.exit ?_ | refine DW.condT rfl ?_ | refine DW.condF rfl ?_))
    exact DW.ret ⟨.inl rfl, _, rfl, Over.refl _, .same _⟩
  (repeat (first | refine RO.Sv ?_ | refine RO.Yv ?_ | refine RO.no rfl (by decide) rfl ?_ | refine RO.nil ?_ | refine DW.region ?_ | refine DW.seq ?_ | refine DW.block ?_ | refine DW.skip ?_ | refine DW.exit ?_ | refine DW.condT rfl ?_ | refine DW.condF rfl ?_))
  cases h2 : decide ((0 : Int) < (g.length : Int))
  case false =>
    (repeat (first | refine RO.Sv ?_ | refine RO.Yv ?_ | refine RO.no rfl (by decide) rfl ?_ | refine RO.nil ?_ | refine DW.region ?_ | refine DW.seq ?_ | refine DW.block ?_ | refine DW.skip ?_ | refine DW.exit ?_ | refine DW.condT rfl ?_ | refine DW.condF rfl ?_))
    rw [if_neg (by unfold bigT; rw [hemp, hemp, h1]; first | (rw [h2]; exact Bool.false_ne_true) | exact Bool.false_ne_true)]
    (repeat (first | refine RO.Sv ?_ | refine RO.Yv ?_ | refine RO.no rfl (by decide) rfl ?_ | refine RO.nil ?_ | refine DW.region ?_ | refine DW.seq ?_ | refine DW.block ?_ | refine DW.skip ?_ | refine DW.exit ?_ | refine DW.condT rfl ?_ | refine DW.condF rfl ?_))
    refine RO.sta (sta_call rfl rfl (product_pure r f g (n := r.n.toNat) (by omega) (B := 200) (C := 200) (by omega) (by omega) (by omega) hr2.1 hpr (by omega) hfo.ok hgo.ok (by omega) _)) rfl ?_
    refine RO.sta (sta_call rfl rfl (done_pure (prodT r.p r.order f g) (by omega) (fun t ht => (hpk.all t ht).mok (by omega) (by omega)) _)) rfl ?_
    (repeat (first | refine RO.Sv ?_ | refine RO.Yv ?_ | refine RO.no rfl (by decide) rfl ?_ | refine RO.nil ?_ | refine DW.region ?_ | refine DW.seq ?_ | refine DW.block ?_ | refine DW.skip ?_ | refine DW.exit ?_ | refine DW.condT rfl ?_ | refine DW.condF rfl ?_))
    exact DW.ret ⟨.inl rfl, _, rfl, Over.refl _, .same _⟩
  (repeat (first | refine RO.Sv ?_ | refine RO.Yv ?_ | refine RO.no rfl (by decide) rfl ?_ | refine RO.nil ?_ | refine DW.region ?_ | refine DW.seq ?_ | refine DW.block ?_ | refine DW.skip ?_ | refine DW.exit ?_ | refine DW.condT rfl ?_ | refine DW.condF rfl ?_))
  refine RO.yes rfl rfl (OpD.of_sta (sta_call rfl rfl (top_pure f (by omega) hfm _)) ?_)
  (repeat (first | refine RO.Sv ?_ | refine RO.Yv ?_ | refine RO.no rfl (by decide) rfl ?_ | refine RO.nil ?_ | refine DW.region ?_ | refine DW.seq ?_ | refine DW.block ?_ | refine DW.skip ?_ | refine DW.exit ?_ | refine DW.condT rfl ?_ | refine DW.condF rfl ?_))
  refine RO.yes rfl rfl (OpD.of_sta (sta_call rfl rfl (top_pure g (by omega) hgm _)) ?_)
  (repeat (first | refine RO.Sv ?_ | refine RO.Yv ?_ | refine RO.no rfl (by decide) rfl ?_ | refine RO.nil ?_ | refine DW.region ?_ | refine DW.seq ?_ | refine DW.block ?_ | refine DW.skip ?_ | refine DW.exit ?_ | refine DW.condT rfl ?_ | refine DW.condF rfl ?_))
  cases h3 : decide ((200 : Int) < topT f + topT g)
  case false =>
    rw [show bigT f g = false by unfold bigT; rw [hemp, hemp, h1, h2, h3]; rfl]
    (repeat (first | refine RO.Sv ?_ | refine RO.Yv ?_ | refine RO.no rfl (by decide) rfl ?_ | refine RO.nil ?_ | refine DW.region ?_ | refine DW.seq ?_ | refine DW.block ?_ | refine DW.skip ?_ | refine DW.exit ?_ | refine DW.condT rfl ?_ | refine DW.condF rfl ?_))
    refine RO.sta (sta_call rfl rfl (product_pure r f g (n := r.n.toNat) (by omega) (B := 200) (C := 200) (by omega) (by omega) (by omega) hr2.1 hpr (by omega) hfo.ok hgo.ok (by omega) _)) rfl ?_
    refine RO.sta (sta_call rfl rfl (done_pure (prodT r.p r.order f g) (by omega) (fun t ht => (hpk.all t ht).mok (by omega) (by omega)) _)) rfl ?_
    (repeat (first | refine RO.Sv ?_ | refine RO.Yv ?_ | refine RO.no rfl (by decide) rfl ?_ | refine RO.nil ?_ | refine DW.region ?_ | refine DW.seq ?_ | refine DW.block ?_ | refine DW.skip ?_ | refine DW.exit ?_ | refine DW.condT rfl ?_ | refine DW.condF rfl ?_))
    exact DW.ret ⟨.inl rfl, _, rfl, Over.refl _, .same _⟩
  rw [if_pos (by unfold bigT; rw [hemp, hemp, h1, h2, h3]; rfl)]
  (repeat (first | refine RO.Sv ?_ | refine RO.Yv ?_ | refine RO.no rfl (by decide) rfl ?_ | refine RO.nil ?_ | refine DW.region ?_ | refine DW.seq ?_ | refine DW.block ?_ | refine DW.skip ?_ | refine DW.exit ?_ | refine DW.condT rfl ?_ | refine DW.condF rfl ?_))
  exact DW.ret ⟨.inl rfl, _, rfl, Over.refl _, .tup2 (.nil _) (.same _)⟩

/-- What must come. -/
def pisT (w : Int) (want : Pl) : Pl × Int := if w = 0 then doneT want else ([], w)

theorem polyIs_pure (f : Pl) (e w : Int) (want : Pl) (hl : f.length ≤ 4000000000000) (hm : ∀ t ∈ f, t.e.length ≤ 3)
    (hw : w = 0 → want.length ≤ 4000000000000 ∧ (∀ t ∈ want, MOk t.e) ∧ ∀ t ∈ want, t.e.sum ≤ topT want) (h : (f, e) = pisT w want) :
    Pure Tryd.prog 13 [plD f, I e, I w, plD want] (.bool true) := by
  intro H
  refine PureH.of_body Tryd.func13 rfl (by decide) (Nat.le_of_ble_eq_true rfl) fun w0 => ?_
  unfold pisT at h
  (repeat (first | refine RO.Sv ?_ | refine RO.Yv ?_ | refine RO.no rfl (by decide) rfl ?_ | refine RO.nil ?_ | refine DW.region ?_ | refine DW.seq ?_ | refine DW.block ?_ | refine DW.skip ?_ | refine DW.exit ?_ | refine DW.condT rfl ?_ | refine DW.condF rfl ?_))
  by_cases hw0 : w = 0
  · subst hw0
    obtain ⟨g1, g2, g3⟩ := hw rfl
    rw [if_pos rfl] at h
    (repeat (first | refine RO.Sv ?_ | refine RO.Yv ?_ | refine RO.no rfl (by decide) rfl ?_ | refine RO.nil ?_ | refine DW.region ?_ | refine DW.seq ?_ | refine DW.block ?_ | refine DW.skip ?_ | refine DW.exit ?_ | refine DW.condT rfl ?_ | refine DW.condF rfl ?_))
    refine RO.yes rfl rfl (OpD.of_sta (sta_call rfl rfl (Great_pure want g1 g2 g3 _)) ?_)
    (repeat (first | refine RO.Sv ?_ | refine RO.Yv ?_ | refine RO.no rfl (by decide) rfl ?_ | refine RO.nil ?_ | refine DW.region ?_ | refine DW.seq ?_ | refine DW.block ?_ | refine DW.skip ?_ | refine DW.exit ?_ | refine DW.condT rfl ?_ | refine DW.condF rfl ?_))
    unfold doneT at h
    cases hg : greatT want
    · rw [hg, if_neg (by simp)] at h
      cases h
      (repeat (first | refine RO.Sv ?_ | refine RO.Yv ?_ | refine RO.no rfl (by decide) rfl ?_ | refine RO.nil ?_ | refine DW.region ?_ | refine DW.seq ?_ | refine DW.block ?_ | refine DW.skip ?_ | refine DW.exit ?_ | refine DW.condT rfl ?_ | refine DW.condF rfl ?_))
      refine RO.yes rfl rfl (OpD.of_sta (sta_call rfl rfl (SamePoly_pure f hl hm _)) ?_)
      (repeat (first | refine RO.Sv ?_ | refine RO.Yv ?_ | refine RO.no rfl (by decide) rfl ?_ | refine RO.nil ?_ | refine DW.region ?_ | refine DW.seq ?_ | refine DW.block ?_ | refine DW.skip ?_ | refine DW.exit ?_ | refine DW.condT rfl ?_ | refine DW.condF rfl ?_))
      exact DW.ret ⟨.inl rfl, _, rfl, Over.refl _, .same _⟩
    · rw [hg, if_pos rfl] at h
      cases h
      (repeat (first | refine RO.Sv ?_ | refine RO.Yv ?_ | refine RO.no rfl (by decide) rfl ?_ | refine RO.nil ?_ | refine DW.region ?_ | refine DW.seq ?_ | refine DW.block ?_ | refine DW.skip ?_ | refine DW.exit ?_ | refine DW.condT rfl ?_ | refine DW.condF rfl ?_))
      refine RO.yes rfl rfl (OpD.of_sta (sta_call rfl rfl (PureH.nilAt (ds := [plD [], .nil]) 1 2 (SamePoly_pure [] hl hm _) rfl)) ?_)
      (repeat (first | refine RO.Sv ?_ | refine RO.Yv ?_ | refine RO.no rfl (by decide) rfl ?_ | refine RO.nil ?_ | refine DW.region ?_ | refine DW.seq ?_ | refine DW.block ?_ | refine DW.skip ?_ | refine DW.exit ?_ | refine DW.condT rfl ?_ | refine DW.condF rfl ?_))
      exact DW.ret ⟨.inl rfl, _, rfl, Over.refl _, .same _⟩
  · rw [if_neg hw0] at h
    obtain ⟨hv0, he0⟩ := Prod.mk.inj h
    subst hv0
    rw [he0]
    rw [show (w == 0) = false by simpa using hw0]
    (repeat (first | refine RO.Sv ?_ | refine RO.Yv ?_ | refine RO.no rfl (by decide) rfl ?_ | refine RO.nil ?_ | refine DW.region ?_ | refine DW.seq ?_ | refine DW.block ?_ | refine DW.skip ?_ | refine DW.exit ?_ | refine DW.condT rfl ?_ | refine DW.condF rfl ?_))
    rw [show (w != 0) = true by simpa using hw0]
    (repeat (first | refine RO.Sv ?_ | refine RO.Yv ?_ | refine RO.no rfl (by decide) rfl ?_ | refine RO.nil ?_ | refine DW.region ?_ | refine DW.seq ?_ | refine DW.block ?_ | refine DW.skip ?_ | refine DW.exit ?_ | refine DW.condT rfl ?_ | refine DW.condF rfl ?_))
    rw [show (w == w) = true by simp]
    (repeat (first | refine RO.Sv ?_ | refine RO.Yv ?_ | refine RO.no rfl (by decide) rfl ?_ | refine RO.nil ?_ | refine DW.region ?_ | refine DW.seq ?_ | refine DW.block ?_ | refine DW.skip ?_ | refine DW.exit ?_ | refine DW.condT rfl ?_ | refine DW.condF rfl ?_))
    refine RO.yes rfl rfl (OpD.of_sta (sta_call rfl rfl (PureH.nilAt (ds := [plD [], .nil]) 1 2 (SamePoly_pure [] hl hm _) rfl)) ?_)
    (repeat (first | refine RO.Sv ?_ | refine RO.Yv ?_ | refine RO.no rfl (by decide) rfl ?_ | refine RO.nil ?_ | refine DW.region ?_ | refine DW.seq ?_ | refine DW.block ?_ | refine DW.skip ?_ | refine DW.exit ?_ | refine DW.condT rfl ?_ | refine DW.condF rfl ?_))
    exact DW.ret ⟨.inl rfl, _, rfl, Over.refl _, .same _⟩

end Go.Proofs.YtblileclefbklaaDoor

namespace Go.Proofs.YtblileclefbklaaDoor
set_option linter.unusedVariables false
set_option linter.unusedSimpArgs false

/-- A monomial's value at a point. -/
def evP : List Int → List Int → Int
  | a :: at', k :: e => a ^ k.toNat * evP at' e
  | _, _ => 1

/-- A polynomial's value. -/
def valT (p : Int) (at' : List Int) (f : Pl) : Int := Lf (evP at') f % p

theorem evP_nil (at' : List Int) : evP at' [] = 1 := by cases at' <;> rfl

theorem evP_snoc : ∀ {at' e : List Int} {k : Nat} (h1 : k < at'.length) (h2 : k < e.length), evP (at'.take (k + 1)) (e.take (k + 1)) = evP (at'.take k) (e.take k) * at'[k] ^ e[k].toNat
  | a :: at', x :: e, 0, _, _ => by simp [evP, evP_nil]
  | a :: at', x :: e, k + 1, h1, h2 => by
    have := evP_snoc (at' := at') (e := e) (k := k) (by simpa using h1) (by simpa using h2)
    simp only [List.take_succ_cons, evP, this, List.getElem_cons_succ, Int.mul_assoc]

theorem evP_add : ∀ {at' a b : List Int}, a.length = at'.length → b.length = at'.length → (∀ x ∈ a, 0 ≤ x) → (∀ x ∈ b, 0 ≤ x) → evP at' (zipE (· + ·) a b) = evP at' a * evP at' b
  | [], [], [], _, _, _, _ => by simp [evP, zipE]
  | c :: at', x :: a, y :: b, h1, h2, h3, h4 => by
    have ih := evP_add (at' := at') (a := a) (b := b) (by simpa using h1) (by simpa using h2) (fun z hz => h3 z (by simp [hz])) (fun z hz => h4 z (by simp [hz]))
    have hx := h3 x (by simp)
    have hy := h4 y (by simp)
    show c ^ (x + y).toNat * evP at' (zipE (· + ·) a b) = c ^ x.toNat * evP at' a * (c ^ y.toNat * evP at' b)
    rw [ih, Int.toNat_add hx hy, Int.pow_add]
    grind

theorem mod_eq {p a b : Int} (h : p ∣ a - b) : a % p = b % p := Int.emod_eq_emod_iff_emod_sub_eq_zero.2 (Int.emod_eq_zero_of_dvd h)

theorem Lf_take {φ : List Int → Int} {f : Pl} {k : Nat} (h : k < f.length) : Lf φ (f.take (k + 1)) = Lf φ (f.take k) + f[k].c * φ f[k].e := by
  rw [List.take_succ_eq_append_getElem h, Lf_append]
  simp [Lf]

/-- One more term. -/
theorem val_step {p : Int} {φ : List Int → Int} {f : Pl} {k : Nat} (h : k < f.length) : (Lf φ (f.take k) % p + f[k].c * φ f[k].e % p) % p = Lf φ (f.take (k + 1)) % p := by
  rw [Lf_take h, ← Int.add_emod]

/-- One more factor, all powers of it. -/
theorem pow_step {p c : Int} {at' e : List Int} {k : Nat} (h1 : k < at'.length) (h2 : k < e.length) :
    (c * evP (at'.take k) (e.take k) % p) * (at'[k] ^ e[k].toNat % p) % p = c * evP (at'.take (k + 1)) (e.take (k + 1)) % p := by
  rw [evP_snoc h1 h2, ← Int.mul_emod, Int.mul_assoc]

/-- One more factor. -/
theorem one_step {p c a : Int} (j : Nat) : (c * a ^ j % p) * a % p = c * a ^ (j + 1) % p := by
  rw [Int.mul_emod, Int.emod_emod_of_dvd _ (Int.dvd_refl p), ← Int.mul_emod, Int.pow_succ, Int.mul_assoc]

theorem mod_range {p x : Int} (hp : 2 ≤ p ∧ p ≤ 101) : 0 ≤ x % p ∧ x % p ≤ 100 := by
  have h1 := Int.emod_nonneg x (show p ≠ 0 by omega)
  have h2 := Int.emod_lt_of_pos x (show 0 < p by omega)
  omega

theorem mul_range {a b : Int} (ha : 0 ≤ a ∧ a ≤ 100) (hb : 0 ≤ b ∧ b ≤ 100) : 0 ≤ a * b ∧ a * b ≤ 10000 := by
  have h1 := Int.mul_nonneg ha.1 hb.1
  have h2 := Int.mul_le_mul ha.2 hb.2 hb.1 (by decide)
  omega

/-- What is wrong with a point. -/
def atCk (r : Rg) (at' : List Int) : Int := if (at'.length : Int) = r.n then (if at'.all (inP r.p) then 0 else 3) else 1

/-- What Value answers. -/
def valueR (r : Rg) (f : Pl) (at' : List Int) : Int × Int := if polysCk r [f] ≠ 0 then (0, polysCk r [f]) else if atCk r at' ≠ 0 then (0, atCk r at') else (valT r.p at' f, 0)

end Go.Proofs.YtblileclefbklaaDoor
