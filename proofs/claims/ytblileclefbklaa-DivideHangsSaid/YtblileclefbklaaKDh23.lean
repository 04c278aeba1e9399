/-
  Package vector: Made; the document's CombineOf. No condition.
-/
import Derived.Test.YtblileclefbklaaKDh22
import Derived.Test.YtblileclefbklaaKDh19
import Derived.Test.YtblileclefbklaaKDh20
import Derived.Test.YtblileclefbklaaKDh7

namespace Go.Proofs.Ytblileclefbklaa
open Go.RowKit
set_option linter.unusedVariables false
set_option linter.unusedSimpArgs false
set_option maxHeartbeats 8000000

theorem inv_all : ((List.range 102).all fun p => ckP (p : Int) != 0 || ((List.range p).all fun a => a == 0 || (invT p a == turnP p a))) = true := by decide +kernel

theorem invT_turn {p a : Int} (hp : ckP p = 0) (h0 : 0 < a) (h1 : a < p) : invT p a = turnP p a := by
  have h2 := ckP_ok hp
  obtain ⟨q, rfl⟩ := Int.eq_ofNat_of_zero_le (show 0 ≤ p by omega)
  obtain ⟨b, rfl⟩ := Int.eq_ofNat_of_zero_le (show 0 ≤ a by omega)
  have h3 := List.all_eq_true.1 inv_all q (List.mem_range.2 (by omega))
  rw [hp] at h3
  have h4 : ((List.range q).all fun a => a == 0 || (invT q a == turnP q a)) = true := h3
  have h5 := List.all_eq_true.1 h4 b (List.mem_range.2 (by omega))
  simp only [Bool.or_eq_true, beq_iff_eq] at h5
  exact h5.resolve_left (by omega)

/-- What is taken away with the lead. -/
def awayT (r : Rg) (m a : Nat) (u : Tm) : Vc := (List.replicate m []).set a [negT r u]

theorem vsum_away {r : Rg} {v : Vc} {a : Nat} {u : Tm} {f : Pl} (ha : a < v.length) (hf : v[a] = u :: f) (hp : 0 < r.p) : vsumT r v (awayT r v.length a u) = v.set a (v.getD a []).tail := by
  have hg : (v.getD a []).tail = f := by rw [List.getD_eq_getElem?_getD, List.getElem?_eq_getElem ha]; show (v[a]).tail = f; rw [hf]; rfl
  rw [hg]
  refine List.ext_getElem (by simp [vsumT, awayT]) fun i h1 h2 => ?_
  have hi : i < v.length := by simpa using h2
  have e1 : (vsumT r v (awayT r v.length a u))[i] = sumT r.p r.order v[i] (if a = i then [negT r u] else []) := by
    simp only [vsumT, awayT, List.getElem_zipWith]
    rw [List.getElem_set]
    simp
  rw [e1, List.getElem_set]
  by_cases hia : a = i
  · subst hia
    rw [if_pos rfl, if_pos rfl, hf, sumT_cancel (u := u) (v := negT r u) rfl (by show (u.c + (r.p - u.c)) % r.p = 0; rw [show u.c + (r.p - u.c) = r.p by omega]; exact Int.emod_self), sumT_nil']
  · rw [if_neg hia, if_neg hia, sumT_nil']

structure DOInv (r : Rg) (rank : Nat) (l : List Vc) (v : Vc) (H0 : Heap) (bq bL : Nat) (s : DS) (H : Heap) (ds : List D) : Prop where
  at_ : DAt r rank l v s
  row : H bq = some (41, s.q.map plD)
  keep : Over H0 H
  rows : RowsOk (fun c => H0 c ≠ none ∨ c = bq) H bL 41 47 2 (tmsD s.left) ds

def divPairD (s : DS) : D := .tup [vcD s.q, vcD s.left]

theorem DivideOf_pure (r : Rg) {rank : Nat} (v : Vc) (l : List Vc) (hl : DL r rank l) (hv : VOk r rank v) : Pure Try.prog 10 [rgD r, vcD v, vcsD l] (divPairD (divT r rank l v)) := by
  intro H0
  obtain ⟨hp, hn3, hn1, hpr, hck⟩ := hl.rg
  have hrk := hl.rank2
  have hll := hl.len
  have hd : ∀ d ∈ l, VD r r.n.toNat d := fun d hd => (hl.vecs d hd).vd hn3 hrk
  have hvl := hv.len
  refine PureH.of_body Try.func10 rfl (by decide) (Nat.le_of_ble_eq_true rfl) fun w0 => ?_
  (repeat (first | refine RO.Sv ?_ | refine RO.Yv ?_ | refine RO.no rfl (by decide) rfl ?_ | refine RO.nil ?_ | refine DW.region ?_ | refine DW.seq ?_ | refine DW.block ?_ | refine DW.skip ?_ | refine DW.exit ?_ | refine DW.condT rfl ?_ | refine DW.condF rfl ?_))
  refine RO.dyn rfl (d_make rfl rfl (Nat.le_refl _) (by omega) (by omega) fun bq hbq => ?_)
  rw [flatten_replicate1]
  (repeat (first | refine RO.Sv ?_ | refine RO.Yv ?_ | refine RO.no rfl (by decide) rfl ?_ | refine RO.nil ?_ | refine DW.region ?_ | refine DW.seq ?_ | refine DW.block ?_ | refine DW.skip ?_ | refine DW.exit ?_ | refine DW.condT rfl ?_ | refine DW.condF rfl ?_))
  refine RO.dyn rfl (d_make rfl rfl (Nat.le_refl _) (by omega) (by omega) fun bL hbL => ?_)
  rw [flatten_replicate1]
  have hneL : bq ≠ bL := fun e => by rw [← e, Heap.set_self] at hbL; cases hbL
  have hbL' : H0 bL = none := Heap.none_of_set hneL hbL
  (repeat (first | refine RO.Sv ?_ | refine RO.Yv ?_ | refine RO.no rfl (by decide) rfl ?_))
  refine RO.nil ?_
  refine DW.seeCells ((List.replicate l.length []).map plD) (by rw [Heap.set_other _ _ hneL, Heap.set_self]) (by simp) (fun j x x' hx hx' => by
    have hj : j < l.length := by have := (List.getElem?_eq_some_iff.1 hx).1; simpa using this
    rw [List.getElem?_replicate, if_pos hj] at hx
    rw [List.getElem?_map, List.getElem?_replicate, if_pos hj] at hx'
    cases hx; cases hx'
    exact ⟨rfl, .inr ⟨rfl, 2, rfl⟩⟩) ?_
  refine DW.asH (fun H2 => DOInv r rank l v H0 bq bL (divInit rank l v) H2 (List.replicate v.length .nil)) ⟨.init hl hv, Heap.set_self _ _ _, fun c z hc => by
    have c1 : c ≠ bq := fun e => by rw [e, hbq] at hc; cases hc
    have c2 : c ≠ bL := fun e => by rw [e, hbL'] at hc; cases hc
    rw [Heap.set_other _ _ c1, Heap.set_other _ _ c2, Heap.set_other _ _ c1]; exact hc, by
    rw [show tmsD (divInit rank l v).left = List.replicate v.length [] by simp [tmsD, divInit, hvl]]
    exact .init (by rw [Heap.set_other _ _ hneL.symm, Heap.set_self])⟩ fun H2 hinit => ?_
  (repeat (first | refine RO.Sv ?_ | refine RO.Yv ?_ | refine RO.no rfl (by decide) rfl ?_ | refine RO.nil ?_ | refine DW.region ?_ | refine DW.seq ?_ | refine DW.block ?_ | refine DW.skip ?_ | refine DW.exit ?_ | refine DW.condT rfl ?_ | refine DW.condF rfl ?_))
  refine DW.loopG (fun x : DS × Heap × List D => DOInv r rank l v H0 bq bL x.1 x.2.1 x.2.2) (fun x => [(1, vcD x.1.v), (2, vcsD l), (3, .ipt 4 [rgD r] 0 0), (8, .ref bq 0 l.length 1), (9, .ref bL 0 v.length 1)]) (fun x => x.2.1) (fun x => muT r x.1.v) (divInit rank l v, H2, List.replicate v.length .nil)
    hinit (Heap.sub_refl _) (by repeat first | exact trivial | refine HasG.one rfl ?_ | refine HasN.one rfl ?_) fun ⟨s, Hk, ds⟩ hi => ?_
  dsimp only at hi ⊢
  clear hinit
  have hinv := hi.at_.inv
  have hvd := hinv.vd
  have hsl := hvd.len
  have hsv := hinv.vlen
  have hql := hinv.qlen
  (repeat (first | refine RO.Sv ?_ | refine RO.Yv ?_ | refine RO.no rfl (by decide) rfl ?_ | refine RO.nil ?_ | refine DW.region ?_ | refine DW.seq ?_ | refine DW.block ?_ | refine DW.skip ?_ | refine DW.exit ?_ | refine DW.condT rfl ?_ | refine DW.condF rfl ?_))
  refine RO.sta (sta_call rfl rfl (LeadOf_pure r s.v (n := r.n.toNat) (B := 8000) (L := 512192024001) (by omega) (by omega) (by omega) (by omega) hvd.vb _)) rfl ?_
  (repeat (first | refine RO.Sv ?_ | refine RO.Yv ?_ | refine RO.no rfl (by decide) rfl ?_ | refine RO.nil ?_ | refine DW.region ?_ | refine DW.seq ?_ | refine DW.block ?_ | refine DW.skip ?_ | refine DW.exit ?_ | refine DW.condT rfl ?_ | refine DW.condF rfl ?_))
  refine RO.dyn rfl (d_alloc fun b11 hb11 => ?_)
  (repeat (first | refine RO.Sv ?_ | refine RO.Yv ?_ | refine RO.no rfl (by decide) rfl ?_ | refine RO.nil ?_ | refine DW.region ?_ | refine DW.seq ?_ | refine DW.block ?_ | refine DW.skip ?_ | refine DW.exit ?_ | refine DW.condT rfl ?_ | refine DW.condF rfl ?_))
  refine RO.dyn rfl (d_storeTm (tm := tmOf (topV r s.v)) rfl rfl (Heap.set_self _ _ _) rfl ?_)
  rw [Heap.set_set]
  refine RO.nil ?_
  refine DW.asH (fun H2 => H2 b11 = some (47, tmCl (tmOf (topV r s.v))) ∧ Over Hk H2) ⟨Heap.set_self _ _ _, Over.other hb11⟩ fun H2 ⟨g11, gov⟩ => ?_
  have hrows := hi.rows.over gov
  have hkeep2 : Over H0 H2 := fun c z hc => gov _ _ (hi.keep c z hc)
  have hrow2 := gov _ _ hi.row
  have hD2 : ∀ c, (H0 c ≠ none ∨ c = bq) → H2 c ≠ none := fun c hc => by
    rcases hc with hc | rfl
    · cases hx : H0 c with
      | none => exact absurd hx hc
      | some z => rw [hkeep2 c z hx]; simp
    · rw [hrow2]; simp
  have hlen := hrows.len
  have hlen2 : (tmsD s.left).length = rank := by simp [tmsD, hinv.llen]
  (repeat (first | refine RO.Sv ?_ | refine RO.Yv ?_ | refine RO.no rfl (by decide) rfl ?_ | refine RO.nil ?_ | refine DW.region ?_ | refine DW.seq ?_ | refine DW.block ?_ | refine DW.skip ?_ | refine DW.exit ?_ | refine DW.condT rfl ?_ | refine DW.condF rfl ?_))
  cases hx : topV r s.v with
  | none =>
    rw [hi.at_.done hx]
    (repeat (first | refine RO.Sv ?_ | refine RO.Yv ?_ | refine RO.no rfl (by decide) rfl ?_ | refine RO.nil ?_ | refine DW.region ?_ | refine DW.seq ?_ | refine DW.block ?_ | refine DW.skip ?_ | refine DW.exit ?_ | refine DW.condT rfl ?_ | refine DW.condF rfl ?_))
    refine DW.ret ⟨.inl rfl, _, rfl, hkeep2, .tup2 (Frz.list (T := 41) (by rw [hrow2, flat_cells1 (fun _ => rfl)]) hbq (uni_pl _) (by simp [hql])) ?_⟩
    rw [← tmsD_vc]
    exact hrows.frz (by rw [hlen2]; exact hvl) hbL' fun b hb => by
      cases hz : H0 b with
      | none => rfl
      | some z => exact absurd (.inl (by rw [hz]; simp)) hb
  | some x =>
    obtain ⟨a, u⟩ := x
    rw [hx] at g11
    have hat : atOf (some (a, u)) = (a : Int) := rfl
    have hneg : decide ((a : Int) < 0) = false := decide_eq_false (by omega)
    have iv := topV_is hvd hx
    have ha := iv.lt
    obtain ⟨fu, hfu⟩ := iv.at_
    have tu : TB 1 r.p r.n.toNat 8000 u := (hvd.all a ha).all u (by rw [hfu]; simp)
    have hu1 := tu.lo
    have hu2 := tu.hi
    rw [hat, hneg]
    (repeat (first | refine RO.Sv ?_ | refine RO.Yv ?_ | refine RO.no rfl (by decide) rfl ?_ | refine RO.nil ?_ | refine DW.region ?_ | refine DW.seq ?_ | refine DW.block ?_ | refine DW.skip ?_ | refine DW.exit ?_ | refine DW.condT rfl ?_ | refine DW.condF rfl ?_))
    refine RO.dyn rfl (d_make rfl rfl (Nat.le_refl _) (by omega) (by omega) fun b12 hb12 => ?_)
    rw [flatten_replicate1]
    (repeat (first | refine RO.Sv ?_ | refine RO.Yv ?_ | refine RO.no rfl (by decide) rfl ?_))
    refine RO.nil ?_
    refine DW.seeCells ((List.replicate s.v.length []).map plD) (Heap.set_self _ _ _) (by simp) (fun j x x' hx hx' => by
      have hj : j < s.v.length := by have := (List.getElem?_eq_some_iff.1 hx).1; simpa using this
      rw [List.getElem?_replicate, if_pos hj] at hx
      rw [List.getElem?_map, List.getElem?_replicate, if_pos hj] at hx'
      cases hx; cases hx'
      exact ⟨rfl, .inr ⟨rfl, 2, rfl⟩⟩) ?_
    rw [Heap.set_set]
    refine DW.asH (fun H3 => H3 b12 = some (41, (List.replicate s.v.length []).map plD) ∧ Over H2 H3) ⟨Heap.set_self _ _ _, Over.other hb12⟩ fun H3 ⟨g12, gov3⟩ => ?_
    have g11' := gov3 _ _ g11
    (repeat (first | refine RO.Sv ?_ | refine RO.Yv ?_ | refine RO.no rfl (by decide) rfl ?_ | refine RO.nil ?_ | refine DW.region ?_ | refine DW.seq ?_ | refine DW.block ?_ | refine DW.skip ?_ | refine DW.exit ?_ | refine DW.condT rfl ?_ | refine DW.condF rfl ?_))
    refine RO.sta (s_loadMutAgg (ds := tmCl u) rfl g11' rfl rfl) rfl ?_
    refine RO.sta (sta_call rfl rfl (Divisor_pure r l a u (by omega) hd iv.me _)) rfl ?_
    (repeat (first | refine RO.Sv ?_ | refine RO.Yv ?_ | refine RO.no rfl (by decide) rfl ?_ | refine RO.nil ?_ | refine DW.region ?_ | refine DW.seq ?_ | refine DW.block ?_ | refine DW.skip ?_ | refine DW.exit ?_ | refine DW.condT rfl ?_ | refine DW.condF rfl ?_))
    have ha2 : a < ds.length := by rw [hlen, hlen2, ← hsv]; exact ha
    have ha3 : a < s.left.length := by rw [hinv.llen, ← hsv]; exact ha
    have ha4 : a < (tmsD s.left).length := by rw [hlen2, ← hsv]; exact ha
    have hrows3 := hrows.over gov3
    have hkeep3 : Over H0 H3 := fun c z hc => gov3 _ _ (hkeep2 c z hc)
    have hrow3 := gov3 _ _ hrow2
    have hD3 : ∀ c, (H0 c ≠ none ∨ c = bq) → H3 c ≠ none := fun c hc => by
      cases hx : H2 c with
      | none => exact absurd hx (hD2 c hc)
      | some z => rw [gov3 c z hx]; simp
    have h12bq : b12 ≠ bq := fun e => by rw [e, hrow2] at hb12; cases hb12
    have h12L : b12 ≠ bL := fun e => by rw [e, hrows.row] at hb12; cases hb12
    have h11L : b11 ≠ bL := fun e => by rw [e, hi.rows.row] at hb11; cases hb11
    cases hg : goesT r l a u.e with
    | none =>
      obtain ⟨n1, n2⟩ := hi.at_.stepA hl hx hg
      obtain ⟨l1, l2⟩ := hinv.left a ha3
      have hlong := len_le8 l1 l2 hn3 (degB_range r (by omega)).2
      have hta : (tmsD s.left)[a] = s.left[a].map tmD := by simp [tmsD]
      have hrows3' := (hrows.more hb12).over gov3
      have hD3' : ∀ c, ((H0 c ≠ none ∨ c = bq) ∨ c = b12) → H3 c ≠ none := fun c hc => by
        rcases hc with hc | rfl
        · exact hD3 c hc
        · rw [g12]; simp
      have hHs : Over (Heap.set (fun _ => none) b11 (47, tmCl u)) H3 := fun c z hc => by
        by_cases h : c = b11
        · subst h; rw [Heap.set_self] at hc; rw [← hc]; exact g11'
        · rw [Heap.set_other _ _ h] at hc; cases hc
      (repeat (first | refine RO.Sv ?_ | refine RO.Yv ?_ | refine RO.no rfl (by decide) rfl ?_ | refine RO.nil ?_ | refine DW.region ?_ | refine DW.seq ?_ | refine DW.block ?_ | refine DW.skip ?_ | refine DW.exit ?_ | refine DW.condT rfl ?_ | refine DW.condF rfl ?_))
      refine DW.drawX [0, 1, 2, 3, 4, 5, 6, 8, 9] [0, 1, 8, 9] (Heap.set (fun _ => none) b11 (47, tmCl u)) Try.mixed (by kernel_rfl) hHs ?_
      (repeat (first | refine RX.A ?_ | refine RX.nil ?_))
      refine RX.any (fun H' => s_indexRef (i := a) rfl rfl (by omega)) rfl ?_
      refine RX.sta rfl (r_loadMut (d := ds[a]) rfl hrows3.row (by rw [show 0 + a * 1 = a by omega, List.getElem?_eq_getElem ha2])) rfl ?_
      refine RX.fre hHs (fun H' hs => s_loadMutAgg (ds := tmCl u) rfl (hs _ _ (Heap.set_self _ _ _)) rfl rfl) rfl ?_
      (repeat (first | refine RX.A ?_ | refine RX.nil ?_))
      refine RY.dyn rfl (d_appendSrc (H0 := H3) (l := []) (xs := (tmsD s.left)[a]) rfl (Acc.nil _ _ _ _) (Over.refl _) rfl (SrcOk.acc (hrows3.acc ha2 ha4)) (hrows3.acc ha2 ha4).uni (by rw [hta, List.length_map]; simp; omega) (by rw [hta, List.length_map]; simp; omega) fun d1 H4 q1 q2 _ => ⟨fun c z hc => q2 c z (hHs c z hc), ?_⟩)
      refine RY.dyn rfl (d_append (H0 := H3) (xs := [tmD u]) rfl q1 q2 rfl (.inl rfl) (uni_tm [u]) (by rw [hta]; simp; omega) (by rw [hta]; simp; omega) fun d2 H5 s1 s2 _ => ⟨fun c z hc => s2 c z (hHs c z hc), ?_⟩)
      refine RY.sta (fun c z hc => s2 c z (hHs c z hc)) (s_indexRef (i := a) rfl rfl (by omega)) rfl ?_
      refine RY.dyn rfl (d_store (k := 1) rfl rfl (by rw [s1.cell.1]; rfl) (s2 _ _ hrows3.row) (by rw [s1.cell.1]; show 0 + a * 1 + 1 ≤ ds.length; omega) (by rw [s1.cell.1]; intro z hz; rw [List.mem_singleton.1 hz]; exact s1.cell.2) ⟨(show Over _ _ from fun c z hc => s2 c z (hHs c z hc)).set (by rw [Heap.set_other _ _ h11L.symm]), ?_⟩)
      have hset : setMany ds (0 + a * 1) (cellsOf d2) = ds.set a d2 := by rw [show 0 + a * 1 = a by omega]; exact setManyD ds a d2 s1.cell.1 ha2
      rw [hset]
      refine RY.nil ?_
      have hrows6 := hrows3'.put hD3' ha2 s1 (fun b hb => .inl hb) fun c z hc _ => s2 c z hc
      have hp6 : ∀ c z, H3 c = some z → c ≠ bL → (H5.set bL (41, ds.set a d2)) c = some z := fun c z hc h => by rw [Heap.set_other _ _ h]; exact s2 c z hc
      refine DW.asH (fun H6 => RowsOk (fun c => (H0 c ≠ none ∨ c = bq) ∨ c = b12) H6 bL 41 47 2 ((tmsD s.left).set a ([] ++ (tmsD s.left)[a] ++ [tmD u])) (ds.set a d2) ∧ ∀ c z, H3 c = some z → c ≠ bL → H6 c = some z) ⟨hrows6, hp6⟩ fun H6 ⟨hrows6, hp6⟩ => ?_
      have g11'' := hp6 _ _ g11' h11L
      have g12' := hp6 _ _ g12 h12L
      (repeat (first | refine RO.Sv ?_ | refine RO.Yv ?_ | refine RO.no rfl (by decide) rfl ?_ | refine RO.nil ?_ | refine DW.region ?_ | refine DW.seq ?_ | refine DW.block ?_ | refine DW.skip ?_ | refine DW.exit ?_ | refine DW.condT rfl ?_ | refine DW.condF rfl ?_))
      refine RO.sta (s_loadMut (d := I u.c) rfl g11'' rfl) rfl ?_
      (repeat (first | refine RO.Sv ?_ | refine RO.Yv ?_ | refine RO.no rfl (by decide) rfl ?_ | refine RO.nil ?_ | refine DW.region ?_ | refine DW.seq ?_ | refine DW.block ?_ | refine DW.skip ?_ | refine DW.exit ?_ | refine DW.condT rfl ?_ | refine DW.condF rfl ?_))
      refine RO.sta (s_loadMut (d := intsD u.e) rfl g11'' rfl) rfl ?_
      refine RO.sta (s_buildT (out := [I (negT r u).c, intsD (negT r u).e]) rfl rfl) rfl ?_
      (repeat (first | refine RO.Sv ?_ | refine RO.Yv ?_ | refine RO.no rfl (by decide) rfl ?_ | refine RO.nil ?_ | refine DW.region ?_ | refine DW.seq ?_ | refine DW.block ?_ | refine DW.skip ?_ | refine DW.exit ?_ | refine DW.condT rfl ?_ | refine DW.condF rfl ?_))
      refine RO.sta (s_indexRef (i := a) rfl rfl ha) rfl ?_
      refine RO.dyn rfl (d_store (k := 1) (d := plD [negT r u]) rfl rfl rfl g12' (by simp [cellsOf, plD]; omega) (by simp [cellsOf, D.isCell, plD]) ?_)
      rw [set_map_pl _ _ _ (by simpa using ha)]
      refine RO.nil ?_
      (repeat (first | refine RO.Sv ?_ | refine RO.Yv ?_ | refine RO.no rfl (by decide) rfl ?_ | refine RO.nil ?_ | refine DW.region ?_ | refine DW.seq ?_ | refine DW.block ?_ | refine DW.skip ?_ | refine DW.exit ?_ | refine DW.condT rfl ?_ | refine DW.condF rfl ?_))
      have haw : (List.replicate s.v.length []).set a [negT r u] = awayT r s.v.length a u := rfl
      rw [haw]
      have hawl : (awayT r s.v.length a u).length = s.v.length := by simp [awayT]
      have hawb : VB r r.n.toNat 8000 1 (awayT r s.v.length a u) := fun f hf => by
        rcases List.mem_or_eq_of_mem_set hf with hf | rfl
        · rw [List.eq_of_mem_replicate hf]; exact ⟨PB.nil _ _ _ _ _, by simp⟩
        · exact ⟨PB.one (negT_ok tu), Nat.le_refl _⟩
      refine RO.dyn rfl (opD_callF (ds' := [rgD r, vcD s.v, vcD (awayT r s.v.length a u)]) (H' := Heap.del (Heap.set H6 b12 (41, (awayT r s.v.length a u).map plD)) b12) rfl rfl (Heap.sub_del _ _) (.cons (.same _) (.cons (.same _) (.cons (Frz.list (T := 41) (by rw [Heap.set_self, flat_cells1 (fun _ => rfl)]) (by simp [Heap.del]) (uni_pl _) (by simp [hawl])) .nil))) (VSum_pure r s.v (awayT r s.v.length a u) (n := r.n.toNat) (B := 8000) (L := 512192024001) (M := 1) hn3 (by omega) hp (by omega) hawl.symm (by omega) hvd.vb hawb _) ?_)
      have hfin : ∀ c z, H6 c = some z → c ≠ b12 → Heap.del (Heap.set H6 b12 (41, (awayT r s.v.length a u).map plD)) b12 c = some z := fun c z hc h => by
        simp only [Heap.del]
        rw [if_neg h, Heap.set_other _ _ h]; exact hc
      rw [vsum_away ha hfu (by omega)]
      have hsa : (stepA s a u).left = s.left.set a (s.left[a] ++ [u]) := by
        unfold stepA
        rw [List.getD_eq_getElem?_getD, List.getD_eq_getElem?_getD, List.getElem?_eq_getElem ha3]; rfl
      (repeat (first | refine RO.Sv ?_ | refine RO.Yv ?_ | refine RO.no rfl (by decide) rfl ?_ | refine RO.nil ?_ | refine DW.region ?_ | refine DW.seq ?_ | refine DW.block ?_ | refine DW.skip ?_ | refine DW.exit ?_ | refine DW.condT rfl ?_ | refine DW.condF rfl ?_))
      refine ⟨(stepA s a u, _, ds.set a d2), ⟨n1, hfin _ _ (hp6 _ _ hrow3 hneL) h12bq.symm, fun c z hc => hfin c z (hp6 c z (hkeep3 c z hc) (fun e => by rw [e, hbL'] at hc; cases hc)) (fun e => by rw [e] at hc; rw [hkeep2 _ _ hc] at hb12; cases hb12), ?_⟩, n2, Heap.sub_refl _, (by repeat first | exact trivial | refine HasG.one rfl ?_ | refine HasN.one rfl ?_)⟩
      dsimp only
      rw [hsa, show tmsD (s.left.set a (s.left[a] ++ [u])) = (tmsD s.left).set a ([] ++ (tmsD s.left)[a] ++ [tmD u]) by simp [tmsD, List.map_set]]
      exact (hrows6.frame fun c z hc hh => hfin c z hc fun e => hh.elim (fun h => h12L (e.symm.trans h)) fun h => h (.inr e)).less fun c hc => .inl hc
    | some i =>
      have hgi : goIdx (some i) = (i : Int) := rfl
      have hneg2 : decide ((i : Int) < 0) = false := decide_eq_false (by omega)
      rw [hgi, hneg2]
      obtain ⟨n1, n2, hil, w, htd, hgm, hby, tb, me⟩ := stepB_ok hl hi.at_.inv hx hg
      have hdi := hd _ (List.getElem_mem hil)
      have hdil := hdi.len
      have hdl := (hl.vecs _ (List.getElem_mem hil))
      have iw := topV_is hdi htd
      obtain ⟨fw, hfw⟩ := iw.at_
      have tw : TB 1 r.p r.n.toNat 8000 w := (hdi.all a iw.lt).all w (by rw [hfw]; simp)
      have hw1 := tw.lo
      have hw2 := tw.hi
      have htr := turnP_in hp.1 w.c
      have hmul : 0 ≤ u.c * turnP r.p w.c ∧ u.c * turnP r.p w.c ≤ 101 * 101 := ⟨Int.mul_nonneg (by omega) htr.1, Int.mul_le_mul (by omega) (by omega) htr.1 (by omega)⟩
      have hlen3 : u.e.length = w.e.length := by rw [iv.me.len, iw.me.len]
      have tb1 := tb.lo
      have tb2 := tb.hi
      have tn := negT_ok tb
      have hiq : i < s.q.length := by omega
      obtain ⟨q1, q2⟩ := hinv.q _ (List.getElem_mem hiq)
      have ql := len_le8 q1 q2 hn3 (by omega)
      have cL := fun H' => LeadOf_pure r l[i] (n := r.n.toNat) (B := 8000) (L := 512192024001) (by omega) (by omega) (by omega) (by omega) hdi.vb H'
      rw [htd] at cL
      have cI := fun H' => inverseOf_pure r.p w.c hp.1 hp.2 (by omega) hw2 H'
      rw [invT_turn hck (by omega) hw2] at cI
      have cP := fun H' => Put_pure 2 (tu.mok hn3 (by omega)) (tw.mok hn3 (by omega)) hlen3 H'
      rw [show zipE (putE 2) u.e w.e = (byOf r u w).e from rfl] at cP
      have cT := fun H' => VTimes_pure r [negT r (byOf r u w)] l[i] (n := r.n.toNat) (B := 8000) (C := 8000) (L := 512192024001) hn3 (by omega) (by omega) (by omega) hck hpr (by omega) (by simp) (by omega) (by simp) (PB.one tn) hdi.vb H'
      rw [show vtimesT r [negT r (byOf r u w)] l[i] = vbyT r l[i] (negT r (byOf r u w)) from rfl] at cT
      (repeat (first | refine RO.Sv ?_ | refine RO.Yv ?_ | refine RO.no rfl (by decide) rfl ?_ | refine RO.nil ?_ | refine DW.region ?_ | refine DW.seq ?_ | refine DW.block ?_ | refine DW.skip ?_ | refine DW.exit ?_ | refine DW.condT rfl ?_ | refine DW.condF rfl ?_))
      refine DW.drawX [0, 1, 2, 3, 4, 5, 6, 7, 8] [0, 1, 2, 3, 4, 5, 6, 7, 8] (fun _ => none) Try.mixed (by kernel_rfl) (Over.nul _) ?_
      (repeat (first | refine RX.A ?_ | refine RX.nil ?_))
      refine RX.any (fun H' => sta_call rfl rfl (cL _)) rfl ?_
      (repeat (first | refine RX.A ?_ | refine RX.nil ?_))
      refine RY.dyn rfl (d_alloc fun b15 hb15 => ⟨Over.nul _, ?_⟩)
      (repeat (first | refine RY.S ?_ | refine RY.nil ?_))
      refine RY.dyn rfl (d_storeTm (tm := w) rfl rfl (Heap.set_self _ _ _) rfl ⟨Over.nul _, ?_⟩)
      rw [Heap.set_set]
      refine RY.nil ?_
      refine DW.asH (fun H4 => H4 b15 = some (47, tmCl w) ∧ Over H3 H4) ⟨Heap.set_self _ _ _, Over.other hb15⟩ fun H4 ⟨g15, gov4⟩ => ?_
      have g11q := gov4 _ _ g11'
      (repeat (first | refine RO.Sv ?_ | refine RO.Yv ?_ | refine RO.no rfl (by decide) rfl ?_ | refine RO.nil ?_ | refine DW.region ?_ | refine DW.seq ?_ | refine DW.block ?_ | refine DW.skip ?_ | refine DW.exit ?_ | refine DW.condT rfl ?_ | refine DW.condF rfl ?_))
      refine DW.drawA 17 Try.mixed (by kernel_rfl) rfl rfl ?_
      dsimp only [List.take, List.drop]
      (repeat (first | refine RS.Sv ?_ | refine RS.Yv ?_ | refine RS.no rfl (by decide) rfl ?_ | refine RS.nil ?_))
      refine RS.sta (r_loadMut (d := I u.c) rfl g11q rfl) rfl ?_
      (repeat (first | refine RS.Sv ?_ | refine RS.Yv ?_ | refine RS.no rfl (by decide) rfl ?_ | refine RS.nil ?_))
      refine RS.sta (r_loadMut (d := I w.c) rfl g15 rfl) rfl ?_
      refine RS.sta (fun H' hov => sta_call rfl rfl (cI _)) rfl ?_
      (repeat (first | refine RS.Sv ?_ | refine RS.Yv ?_ | refine RS.no rfl (by decide) rfl ?_ | refine RS.nil ?_))
      refine RS.sta (r_loadMut (d := intsD u.e) rfl g11q rfl) rfl ?_
      (repeat (first | refine RS.Sv ?_ | refine RS.Yv ?_ | refine RS.no rfl (by decide) rfl ?_ | refine RS.nil ?_))
      refine RS.sta (r_loadMut (d := intsD w.e) rfl g15 rfl) rfl ?_
      refine RS.sta (fun H' hov => sta_call rfl rfl (cP _)) rfl ?_
      refine RS.sta (fun H' hov => s_buildT (out := [I (byOf r u w).c, intsD (byOf r u w).e]) rfl rfl) rfl ?_
      refine RS.nil ?_
      intro b16 hb16
      refine RO.dyn rfl (d_storeTm (tm := byOf r u w) rfl rfl (Heap.set_self _ _ _) rfl ?_)
      rw [Heap.set_set]
      refine RO.nil ?_
      refine DW.asH (fun H5 => H5 b16 = some (47, tmCl (byOf r u w)) ∧ Over H3 H5) ⟨Heap.set_self _ _ _, fun c z hc => Over.other hb16 c z (gov4 c z hc)⟩ fun H5 ⟨g16, gov5⟩ => ?_
      have hrow5 := gov5 _ _ hrow3
      (repeat (first | refine RO.Sv ?_ | refine RO.Yv ?_ | refine RO.no rfl (by decide) rfl ?_ | refine RO.nil ?_ | refine DW.region ?_ | refine DW.seq ?_ | refine DW.block ?_ | refine DW.skip ?_ | refine DW.exit ?_ | refine DW.condT rfl ?_ | refine DW.condF rfl ?_))
      refine DW.drawS 10 Try.mixed (by kernel_rfl) (by decide) ?_
      dsimp only [List.take, List.drop]
      (repeat (first | refine RS.Sv ?_ | refine RS.Yv ?_ | refine RS.no rfl (by decide) rfl ?_ | refine RS.nil ?_))
      refine RS.sta (fun H' hov => s_indexRef (i := i) rfl rfl hil) rfl ?_
      refine RS.sta (r_loadMut (d := plD s.q[i]) rfl hrow5 (by rw [show 0 + i * 1 = i by omega, List.getElem?_map, List.getElem?_eq_getElem hiq]; rfl)) rfl ?_
      refine RS.sta (r_loadMutAgg (ds := tmCl (byOf r u w)) rfl g16 rfl rfl) rfl ?_
      (repeat (first | refine RS.Sv ?_ | refine RS.Yv ?_ | refine RS.no rfl (by decide) rfl ?_ | refine RS.nil ?_))
      refine RS.sta (fun H' hov => sta_call rfl rfl (refSum_pure r s.q[i] [byOf r u w] (n := r.n.toNat) (B := 8000) hn3 (by omega) hp (by simp; omega) q1 (PB.one tb) _)) rfl ?_
      refine RS.nil ?_
      refine RO.sta (s_indexRef (i := i) rfl rfl hil) rfl ?_
      refine RO.dyn rfl (d_store (k := 1) rfl rfl rfl hrow5 (by simp [cellsOf, plD]; omega) (by simp [cellsOf, D.isCell, plD]) ?_)
      rw [set_map_pl _ _ _ hiq]
      refine RO.nil ?_
      have h16bq : b16 ≠ bq := fun e => by rw [e, gov4 _ _ hrow3] at hb16; cases hb16
      have hqs : (stepB r l s u i).q = s.q.set i (sumT r.p r.order s.q[i] [byOf r u w]) := by
        unfold stepB
        rw [hby, List.getD_eq_getElem?_getD, List.getD_eq_getElem?_getD, List.getElem?_eq_getElem hiq]; rfl
      rw [← hqs]
      refine DW.asH (fun H6 => H6 bq = some (41, (stepB r l s u i).q.map plD) ∧ ∀ c z, H5 c = some z → c ≠ bq → H6 c = some z) ⟨Heap.set_self _ _ _, fun c z hc h => by rw [Heap.set_other _ _ h]; exact hc⟩ fun H6 ⟨hrow6, hp6⟩ => ?_
      have g16' := hp6 _ _ g16 h16bq
      (repeat (first | refine RO.Sv ?_ | refine RO.Yv ?_ | refine RO.no rfl (by decide) rfl ?_ | refine RO.nil ?_ | refine DW.region ?_ | refine DW.seq ?_ | refine DW.block ?_ | refine DW.skip ?_ | refine DW.exit ?_ | refine DW.condT rfl ?_ | refine DW.condF rfl ?_))
      refine DW.drawS 15 Try.mixed (by kernel_rfl) (by decide) ?_
      dsimp only [List.take, List.drop]
      (repeat (first | refine RS.Sv ?_ | refine RS.Yv ?_ | refine RS.no rfl (by decide) rfl ?_ | refine RS.nil ?_))
      refine RS.sta (r_loadMut (d := I (byOf r u w).c) rfl g16' rfl) rfl ?_
      (repeat (first | refine RS.Sv ?_ | refine RS.Yv ?_ | refine RS.no rfl (by decide) rfl ?_ | refine RS.nil ?_))
      refine RS.sta (r_loadMut (d := intsD (byOf r u w).e) rfl g16' rfl) rfl ?_
      refine RS.sta (fun H' hov => s_buildT (out := [I (negT r (byOf r u w)).c, intsD (negT r (byOf r u w)).e]) rfl rfl) rfl ?_
      (repeat (first | refine RS.Sv ?_ | refine RS.Yv ?_ | refine RS.no rfl (by decide) rfl ?_ | refine RS.nil ?_))
      refine RS.sta (fun H' hov => sta_call rfl rfl (cT _)) rfl ?_
      (repeat (first | refine RS.Sv ?_ | refine RS.Yv ?_ | refine RS.no rfl (by decide) rfl ?_ | refine RS.nil ?_))
      (repeat (first | refine RO.Sv ?_ | refine RO.Yv ?_ | refine RO.no rfl (by decide) rfl ?_ | refine RO.nil ?_ | refine DW.region ?_ | refine DW.seq ?_ | refine DW.block ?_ | refine DW.skip ?_ | refine DW.exit ?_ | refine DW.condT rfl ?_ | refine DW.condF rfl ?_))
      refine RO.sta (sta_call rfl rfl (VSum_pure r s.v (vbyT r l[i] (negT r (byOf r u w))) (n := r.n.toNat) (B := 16000) (L := 512192024001) (M := 512192024001) hn3 (by omega) hp (by omega) (by rw [hsv]; simp [vbyT, hdl.len]) (by omega) (hvd.vb.mono (by omega) (Nat.le_refl _)) (VB.by (by omega) hpr hdi.vb tn.zero) _)) rfl ?_
      have hvs : (stepB r l s u i).v = vsumT r s.v (vbyT r l[i] (negT r (byOf r u w))) := by
        unfold stepB
        rw [hby, List.getD_eq_getElem?_getD, List.getElem?_eq_getElem hil]; rfl
      rw [← hvs]
      (repeat (first | refine RO.Sv ?_ | refine RO.Yv ?_ | refine RO.no rfl (by decide) rfl ?_ | refine RO.nil ?_ | refine DW.region ?_ | refine DW.seq ?_ | refine DW.block ?_ | refine DW.skip ?_ | refine DW.exit ?_ | refine DW.condT rfl ?_ | refine DW.condF rfl ?_))
      refine ⟨(stepB r l s u i, H6, ds), ⟨(hi.at_.stepB hl hx hg).1, hrow6, fun c z hc => hp6 c z (gov5 _ _ (hkeep3 c z hc)) (fun e => by rw [e, hbq] at hc; cases hc), ?_⟩, n2, Heap.sub_refl _, (by repeat first | exact trivial | refine HasG.one rfl ?_ | refine HasN.one rfl ?_)⟩
      exact (hrows3.over gov5).frame fun c z hc hh => hp6 c z hc fun e => hh.elim (fun h => hneL (e.symm.trans h)) fun h => h (.inr e)

end Go.Proofs.Ytblileclefbklaa

namespace Go.Proofs.Ytblileclefbklaa
open Go.RowKit
set_option linter.unusedVariables false
set_option linter.unusedSimpArgs false
set_option maxHeartbeats 8000000

theorem one_pure : Pure Try.prog 49 [] (vcsD [[[⟨1, [1, 0]⟩]]]) := by
  intro H
  refine PureH.of_body Try.func49 rfl (by decide) (Nat.le_of_ble_eq_true rfl) fun w0 => ?_
  (repeat (first | refine RO.Sv ?_ | refine RO.Yv ?_ | refine RO.no rfl (by decide) rfl ?_ | refine RO.nil ?_ | refine DW.region ?_ | refine DW.seq ?_ | refine DW.block ?_ | refine DW.skip ?_ | refine DW.exit ?_ | refine DW.condT rfl ?_ | refine DW.condF rfl ?_))
  refine RO.sta (s_two rfl rfl) rfl ?_
  refine RO.sta (sta_call rfl rfl (term_pure 1 [1, 0] _)) rfl ?_
  (repeat (first | refine RO.Sv ?_ | refine RO.Yv ?_ | refine RO.no rfl (by decide) rfl ?_ | refine RO.nil ?_ | refine DW.region ?_ | refine DW.seq ?_ | refine DW.block ?_ | refine DW.skip ?_ | refine DW.exit ?_ | refine DW.condT rfl ?_ | refine DW.condF rfl ?_))
  exact DW.ret ⟨.inl rfl, _, rfl, Over.refl _, .same _⟩

theorem dv_begun : divideT xyR 1 [[⟨3, [1, 1]⟩, ⟨1, [0, 1]⟩]] [[[⟨1, [1, 0]⟩]]] = ([[⟨3, [0, 1]⟩]], [[⟨1, [0, 1]⟩]], 0) := by kernel_rfl
theorem nm_begun : normE xyR 1 [[⟨1, [0, 1]⟩]] [[[⟨1, [1, 0]⟩]]] = (true, 0) := by kernel_rfl

theorem small_vc {v : Vc} (h : (v.all fun f => decide (f.length ≤ 10)) = true) (h2 : v.length ≤ 10) : v.length ≤ 4611686018427387904 ∧ ∀ f ∈ v, f.length ≤ 4611686018427387904 :=
  ⟨by omega, fun f hf => by have := of_decide_eq_true (List.all_eq_true.1 h f hf); omega⟩

theorem divideBegun_pure : Pure Try.prog 13 [] (.bool true) := by
  intro H
  have hone : ([[[⟨1, [1, 0]⟩]]] : List Vc).length ≤ 4611686018427387904 ∧ ∀ v ∈ ([[[⟨1, [1, 0]⟩]]] : List Vc), v.length ≤ 4611686018427387904 ∧ ∀ f ∈ v, f.length ≤ 4611686018427387904 := ⟨by decide, fun v hv => by
    rw [List.mem_singleton.1 hv]; exact small_vc (by decide) (by decide)⟩
  have c1 := divide_pure xyR 1 [[⟨3, [1, 1]⟩, ⟨1, [0, 1]⟩]] [[[⟨1, [1, 0]⟩]]] (small_vc (by decide) (by decide)) hone
  rw [dv_begun] at c1
  have c2 := dNormal_pure xyR 1 [[⟨1, [0, 1]⟩]] [[[⟨1, [1, 0]⟩]]] (small_vc (by decide) (by decide)) hone
  rw [nm_begun] at c2
  refine PureH.of_body Try.func13 rfl (by decide) (Nat.le_of_ble_eq_true rfl) fun w0 => ?_
  (repeat (first | refine RO.Sv ?_ | refine RO.Yv ?_ | refine RO.no rfl (by decide) rfl ?_ | refine RO.nil ?_ | refine DW.region ?_ | refine DW.seq ?_ | refine DW.block ?_ | refine DW.skip ?_ | refine DW.exit ?_ | refine DW.condT rfl ?_ | refine DW.condF rfl ?_))
  refine RO.sta (sta_call rfl rfl (xy_pure _)) rfl ?_
  refine RO.sta (s_two rfl rfl) rfl ?_
  refine RO.sta (sta_call rfl rfl (term_pure 3 [1, 1] _)) rfl ?_
  refine RO.sta (s_two rfl rfl) rfl ?_
  refine RO.sta (sta_call rfl rfl (term_pure 1 [0, 1] _)) rfl ?_
  refine RO.sta (s_lit (n := 2) (k := 2) (pd := [(0, tmD ⟨3, [1, 1]⟩), (1, tmD ⟨1, [0, 1]⟩)]) (ds := [tmD ⟨3, [1, 1]⟩, tmD ⟨1, [0, 1]⟩]) (by decide) (by decide) rfl rfl (fun d hd => by simp at hd; rcases hd with rfl | rfl <;> rfl) rfl) rfl ?_
  (repeat (first | refine RO.Sv ?_ | refine RO.Yv ?_ | refine RO.no rfl (by decide) rfl ?_ | refine RO.nil ?_ | refine DW.region ?_ | refine DW.seq ?_ | refine DW.block ?_ | refine DW.skip ?_ | refine DW.exit ?_ | refine DW.condT rfl ?_ | refine DW.condF rfl ?_))
  refine RO.sta (sta_call rfl rfl (one_pure _)) rfl ?_
  refine RO.sta (sta_call rfl rfl (c1 _)) rfl ?_
  (repeat (first | refine RO.Sv ?_ | refine RO.Yv ?_ | refine RO.no rfl (by decide) rfl ?_ | refine RO.nil ?_ | refine DW.region ?_ | refine DW.seq ?_ | refine DW.block ?_ | refine DW.skip ?_ | refine DW.exit ?_ | refine DW.condT rfl ?_ | refine DW.condF rfl ?_))
  refine RO.sta (sta_call rfl rfl (xy_pure _)) rfl ?_
  (repeat (first | refine RO.Sv ?_ | refine RO.Yv ?_ | refine RO.no rfl (by decide) rfl ?_ | refine RO.nil ?_ | refine DW.region ?_ | refine DW.seq ?_ | refine DW.block ?_ | refine DW.skip ?_ | refine DW.exit ?_ | refine DW.condT rfl ?_ | refine DW.condF rfl ?_))
  refine RO.sta (sta_call rfl rfl (one_pure _)) rfl ?_
  refine RO.sta (sta_call rfl rfl (c2 _)) rfl ?_
  (repeat (first | refine RO.Sv ?_ | refine RO.Yv ?_ | refine RO.no rfl (by decide) rfl ?_ | refine RO.nil ?_ | refine DW.region ?_ | refine DW.seq ?_ | refine DW.block ?_ | refine DW.skip ?_ | refine DW.exit ?_ | refine DW.condT rfl ?_ | refine DW.condF rfl ?_))
  refine RO.yes rfl rfl (OpD.of_sta (s_indexM0 rfl rfl (by decide)) ?_)
  refine RO.yes rfl rfl (OpD.of_sta (s_loadM (fun _ => rfl) rfl (by decide)) ?_)
  (repeat (first | refine RO.Sv ?_ | refine RO.Yv ?_ | refine RO.no rfl (by decide) rfl ?_ | refine RO.nil ?_ | refine DW.region ?_ | refine DW.seq ?_ | refine DW.block ?_ | refine DW.skip ?_ | refine DW.exit ?_ | refine DW.condT rfl ?_ | refine DW.condF rfl ?_))
  refine RO.yes rfl rfl (OpD.of_sta (s_indexM0 rfl rfl (by decide)) ?_)
  refine RO.yes rfl rfl (OpD.of_sta (s_loadM (fun _ => rfl) rfl (by decide)) ?_)
  refine RO.yes rfl rfl (OpD.of_sta (s_indexM0 rfl rfl (by decide)) ?_)
  (repeat (first | refine RO.Sv ?_ | refine RO.Yv ?_ | refine RO.no rfl (by decide) rfl ?_ | refine RO.nil ?_ | refine DW.region ?_ | refine DW.seq ?_ | refine DW.block ?_ | refine DW.skip ?_ | refine DW.exit ?_ | refine DW.condT rfl ?_ | refine DW.condF rfl ?_))
  refine RO.yes rfl rfl (OpD.of_sta (s_indexM0 rfl rfl (by decide)) ?_)
  refine RO.yes rfl rfl (OpD.of_sta (s_loadM (fun _ => rfl) rfl (by decide)) ?_)
  (repeat (first | refine RO.Sv ?_ | refine RO.Yv ?_ | refine RO.no rfl (by decide) rfl ?_ | refine RO.nil ?_ | refine DW.region ?_ | refine DW.seq ?_ | refine DW.block ?_ | refine DW.skip ?_ | refine DW.exit ?_ | refine DW.condT rfl ?_ | refine DW.condF rfl ?_))
  exact DW.ret ⟨.inl rfl, _, rfl, Over.refl _, .same _⟩

/-- What comes of dividing may be compared. -/
theorem divide_cmp (r : Rg) (rank : Int) (v : Vc) (l : List Vc) : Cmp (divideT r rank v l).1 ∧ Cmp (divideT r rank v l).2.1 := by
  unfold divideT
  by_cases h1 : readyCk r rank v l = 0
  case neg => rw [if_pos h1]; exact ⟨.nil, .nil⟩
  rw [if_neg (by simpa using h1)]
  split
  · exact ⟨.nil, .nil⟩
  obtain ⟨h2, h3, h4⟩ := readyCk_ok h1
  obtain ⟨hp, hn3, hn1, hpr, hck⟩ := h2.rg
  obtain ⟨fin, fin0⟩ := divT_ok h2 h3
  have hll := h2.len
  have hql := fin.qlen
  have hle := fin.llen
  have hrk := h2.rank2
  show Cmp (divT r rank.toNat l v).q ∧ Cmp (divT r rank.toNat l v).left
  refine ⟨⟨by omega, fun f hf => ?_⟩, ⟨by omega, fun f hf => ?_⟩⟩
  · obtain ⟨q1, q2⟩ := fin.q f hf
    exact ⟨by have := len_le8 q1 q2 hn3 (by omega); omega, fun t ht => by have := (q1.all t ht).len; omega⟩
  · obtain ⟨j, hj, rfl⟩ := List.getElem_of_mem hf
    obtain ⟨l1, l2⟩ := fin.left j hj
    exact ⟨by have := len_le8 l1 l2 hn3 (degB_range r (by omega)).2; omega, fun t ht => by have := (l1.all t ht).len; omega⟩

theorem divideDivides_pure (r : Rg) (rank : Int) (v : Vc) (l : List Vc) (hv : v.length ≤ 4611686018427387904 ∧ ∀ f ∈ v, f.length ≤ 4611686018427387904) (hl : l.length ≤ 4611686018427387904 ∧ ∀ v ∈ l, v.length ≤ 4611686018427387904 ∧ ∀ f ∈ v, f.length ≤ 4611686018427387904) :
    Pure Try.prog 3 [rgD r, I rank, vcD v, vcsD l] (.bool true) := by
  intro H
  refine PureH.of_body Try.func3 rfl (by decide) (Nat.le_of_ble_eq_true rfl) fun w0 => ?_
  (repeat (first | refine RO.Sv ?_ | refine RO.Yv ?_ | refine RO.no rfl (by decide) rfl ?_ | refine RO.nil ?_ | refine DW.region ?_ | refine DW.seq ?_ | refine DW.block ?_ | refine DW.skip ?_ | refine DW.exit ?_ | refine DW.condT rfl ?_ | refine DW.condF rfl ?_))
  refine RO.sta (sta_call rfl rfl (divide_pure r rank v l hv hl _)) rfl ?_
  (repeat (first | refine RO.Sv ?_ | refine RO.Yv ?_ | refine RO.no rfl (by decide) rfl ?_ | refine RO.nil ?_ | refine DW.region ?_ | refine DW.seq ?_ | refine DW.block ?_ | refine DW.skip ?_ | refine DW.exit ?_ | refine DW.condT rfl ?_ | refine DW.condF rfl ?_))
  refine RO.sta (sta_call rfl rfl (dNormal_pure r rank v l hv hl _)) rfl ?_
  (repeat (first | refine RO.Sv ?_ | refine RO.Yv ?_ | refine RO.no rfl (by decide) rfl ?_ | refine RO.nil ?_ | refine DW.region ?_ | refine DW.seq ?_ | refine DW.block ?_ | refine DW.skip ?_ | refine DW.exit ?_ | refine DW.condT rfl ?_ | refine DW.condF rfl ?_))
  refine RO.sta (sta_call rfl rfl (checkDivide_pure r rank v l hv hl _)) rfl ?_
  (repeat (first | refine RO.Sv ?_ | refine RO.Yv ?_ | refine RO.no rfl (by decide) rfl ?_ | refine RO.nil ?_ | refine DW.region ?_ | refine DW.seq ?_ | refine DW.block ?_ | refine DW.skip ?_ | refine DW.exit ?_ | refine DW.condT rfl ?_ | refine DW.condF rfl ?_))
  refine DW.cutg [(9, vcD (divideT r rank v l).1), (10, vcD (divideT r rank v l).2.1), (11, I (divideT r rank v l).2.2), (12, .bool (normE r rank v l).1), (13, I (normE r rank v l).2), (14, I (divideT r rank v l).2.2), (15, I (normE r rank v l).2), (16, .bool (normE r rank v l).1), (17, vcD (divideT r rank v l).1), (18, vcD (divideT r rank v l).2.1)] H ?_ ?_
  rotate_left
  · by_cases h1 : readyCk r rank v l = 0
    case neg =>
      rw [show divideT r rank v l = ([], [], readyCk r rank v l) from if_pos h1, show normE r rank v l = (false, readyCk r rank v l) from if_pos h1, show (readyCk r rank v l == 0) = false by simpa using h1]
      (repeat (first | refine RO.Sv ?_ | refine RO.Yv ?_ | refine RO.no rfl (by decide) rfl ?_ | refine RO.nil ?_ | refine DW.region ?_ | refine DW.seq ?_ | refine DW.block ?_ | refine DW.skip ?_ | refine DW.exit ?_ | refine DW.condT rfl ?_ | refine DW.condF rfl ?_))
      exact ⟨Heap.sub_refl _, (by repeat first | exact trivial | refine HasG.one rfl ?_ | refine HasN.one rfl ?_ | refine HasG.nil1 rfl ?_)⟩
    obtain ⟨h2, h3, h4⟩ := readyCk_ok h1
    obtain ⟨hp, hn3, hn1, hpr, hck⟩ := h2.rg
    obtain ⟨fin, fin0⟩ := divT_ok h2 h3
    have hll := h2.len
    have hql := fin.qlen
    have hle := fin.llen
    have hrk := h2.rank2
    have hdl : ∀ d ∈ l, VD r r.n.toNat d := fun d hd => (h2.vecs d hd).vd hn3 hrk
    have hdv : divideT r rank v l = if (vgreatT (divT r rank.toNat l v).left || vgreatT (divT r rank.toNat l v).q) = true then ([], [], 2) else ((divT r rank.toNat l v).q, (divT r rank.toNat l v).left, 0) := if_neg (by simpa using h1)
    have hnm : normE r rank v l = (normalT r l v, 0) := if_neg (by simpa using h1)
    have cD := fun H' => DivideOf_pure r v l h2 h3 H'
    have cN := fun H' => NormalOf_pure r v l (by omega) hdl (h3.vd hn3 hrk) H'
    generalize hDT : divT r rank.toNat l v = dt at *
    have hq : ∀ f ∈ dt.q, f.length ≤ 4000000000000 ∧ (∀ t ∈ f, MOk t.e) ∧ ∀ t ∈ f, t.e.sum ≤ topT f := fun f hf => by
      obtain ⟨q1, q2⟩ := fin.q f hf
      exact ⟨by have := len_le8 q1 q2 hn3 (by omega); omega, fun t ht => (q1.all t ht).mok hn3 (by omega), topT_ge q1⟩
    have hleft : ∀ f ∈ dt.left, f.length ≤ 4000000000000 ∧ (∀ t ∈ f, MOk t.e) ∧ ∀ t ∈ f, t.e.sum ≤ topT f := fun f hf => by
      obtain ⟨j, hj, rfl⟩ := List.getElem_of_mem hf
      obtain ⟨l1, l2⟩ := fin.left j hj
      exact ⟨by have := len_le8 l1 l2 hn3 (degB_range r (by omega)).2; omega, fun t ht => (l1.all t ht).mok hn3 (by omega), topT_ge l1⟩
    rw [hdv, hnm, h1]
    (repeat (first | refine RO.Sv ?_ | refine RO.Yv ?_ | refine RO.no rfl (by decide) rfl ?_ | refine RO.nil ?_ | refine DW.region ?_ | refine DW.seq ?_ | refine DW.block ?_ | refine DW.skip ?_ | refine DW.exit ?_ | refine DW.condT rfl ?_ | refine DW.condF rfl ?_))
    refine RO.sta (sta_call rfl rfl (cD _)) rfl ?_
    (repeat (first | refine RO.Sv ?_ | refine RO.Yv ?_ | refine RO.no rfl (by decide) rfl ?_ | refine RO.nil ?_ | refine DW.region ?_ | refine DW.seq ?_ | refine DW.block ?_ | refine DW.skip ?_ | refine DW.exit ?_ | refine DW.condT rfl ?_ | refine DW.condF rfl ?_))
    refine RO.sta (sta_call rfl rfl (cN _)) rfl ?_
    (repeat (first | refine RO.Sv ?_ | refine RO.Yv ?_ | refine RO.no rfl (by decide) rfl ?_ | refine RO.nil ?_ | refine DW.region ?_ | refine DW.seq ?_ | refine DW.block ?_ | refine DW.skip ?_ | refine DW.exit ?_ | refine DW.condT rfl ?_ | refine DW.condF rfl ?_))
    refine RO.sta (sta_call rfl rfl (VGreat_pure dt.q (by omega) hq _)) rfl ?_
    (repeat (first | refine RO.Sv ?_ | refine RO.Yv ?_ | refine RO.no rfl (by decide) rfl ?_ | refine RO.nil ?_ | refine DW.region ?_ | refine DW.seq ?_ | refine DW.block ?_ | refine DW.skip ?_ | refine DW.exit ?_ | refine DW.condT rfl ?_ | refine DW.condF rfl ?_))
    cases hg1 : vgreatT dt.q
    case true =>
      rw [Bool.or_true, if_pos rfl]
      (repeat (first | refine RO.Sv ?_ | refine RO.Yv ?_ | refine RO.no rfl (by decide) rfl ?_ | refine RO.nil ?_ | refine DW.region ?_ | refine DW.seq ?_ | refine DW.block ?_ | refine DW.skip ?_ | refine DW.exit ?_ | refine DW.condT rfl ?_ | refine DW.condF rfl ?_))
      exact ⟨Heap.sub_refl _, (by repeat first | exact trivial | refine HasG.one rfl ?_ | refine HasN.one rfl ?_ | refine HasG.nil1 rfl ?_)⟩
    rw [Bool.or_false]
    (repeat (first | refine RO.Sv ?_ | refine RO.Yv ?_ | refine RO.no rfl (by decide) rfl ?_ | refine RO.nil ?_ | refine DW.region ?_ | refine DW.seq ?_ | refine DW.block ?_ | refine DW.skip ?_ | refine DW.exit ?_ | refine DW.condT rfl ?_ | refine DW.condF rfl ?_))
    refine RO.yes rfl rfl (OpD.of_sta (sta_call rfl rfl (VGreat_pure dt.left (by omega) hleft _)) ?_)
    cases hg2 : vgreatT dt.left
    case true =>
      rw [if_pos rfl]
      (repeat (first | refine RO.Sv ?_ | refine RO.Yv ?_ | refine RO.no rfl (by decide) rfl ?_ | refine RO.nil ?_ | refine DW.region ?_ | refine DW.seq ?_ | refine DW.block ?_ | refine DW.skip ?_ | refine DW.exit ?_ | refine DW.condT rfl ?_ | refine DW.condF rfl ?_))
      exact ⟨Heap.sub_refl _, (by repeat first | exact trivial | refine HasG.one rfl ?_ | refine HasN.one rfl ?_ | refine HasG.nil1 rfl ?_)⟩
    rw [if_neg (by simp)]
    (repeat (first | refine RO.Sv ?_ | refine RO.Yv ?_ | refine RO.no rfl (by decide) rfl ?_ | refine RO.nil ?_ | refine DW.region ?_ | refine DW.seq ?_ | refine DW.block ?_ | refine DW.skip ?_ | refine DW.exit ?_ | refine DW.condT rfl ?_ | refine DW.condF rfl ?_))
    exact ⟨Heap.sub_refl _, (by repeat first | exact trivial | refine HasG.one rfl ?_ | refine HasN.one rfl ?_ | refine HasG.nil1 rfl ?_)⟩
  obtain ⟨k1, k2⟩ := divide_cmp r rank v l
  (repeat (first | refine RO.Sv ?_ | refine RO.Yv ?_ | refine RO.no rfl (by decide) rfl ?_ | refine RO.nil ?_ | refine DW.region ?_ | refine DW.seq ?_ | refine DW.block ?_ | refine DW.skip ?_ | refine DW.exit ?_ | refine DW.condT rfl ?_ | refine DW.condF rfl ?_))
  refine RO.sta (sta_call rfl rfl (divideBegun_pure _)) rfl ?_
  (repeat (first | refine RO.Sv ?_ | refine RO.Yv ?_ | refine RO.no rfl (by decide) rfl ?_ | refine RO.nil ?_ | refine DW.region ?_ | refine DW.seq ?_ | refine DW.block ?_ | refine DW.skip ?_ | refine DW.exit ?_ | refine DW.condT rfl ?_ | refine DW.condF rfl ?_))
  rw [show ((divideT r rank v l).2.2 == (divideT r rank v l).2.2) = true by simp]
  (repeat (first | refine RO.Sv ?_ | refine RO.Yv ?_ | refine RO.no rfl (by decide) rfl ?_ | refine RO.nil ?_ | refine DW.region ?_ | refine DW.seq ?_ | refine DW.block ?_ | refine DW.skip ?_ | refine DW.exit ?_ | refine DW.condT rfl ?_ | refine DW.condF rfl ?_))
  refine RO.yes rfl rfl (OpD.of_sta (sta_call rfl rfl (SameVector_pure (divideT r rank v l).1 k1.1 k1.2 _)) ?_)
  (repeat (first | refine RO.Sv ?_ | refine RO.Yv ?_ | refine RO.no rfl (by decide) rfl ?_ | refine RO.nil ?_ | refine DW.region ?_ | refine DW.seq ?_ | refine DW.block ?_ | refine DW.skip ?_ | refine DW.exit ?_ | refine DW.condT rfl ?_ | refine DW.condF rfl ?_))
  refine RO.yes rfl rfl (OpD.of_sta (sta_call rfl rfl (SameVector_pure (divideT r rank v l).2.1 k2.1 k2.2 _)) ?_)
  (repeat (first | refine RO.Sv ?_ | refine RO.Yv ?_ | refine RO.no rfl (by decide) rfl ?_ | refine RO.nil ?_ | refine DW.region ?_ | refine DW.seq ?_ | refine DW.block ?_ | refine DW.skip ?_ | refine DW.exit ?_ | refine DW.condT rfl ?_ | refine DW.condF rfl ?_))
  rw [show ((normE r rank v l).2 == (normE r rank v l).2) = true by simp]
  (repeat (first | refine RO.Sv ?_ | refine RO.Yv ?_ | refine RO.no rfl (by decide) rfl ?_ | refine RO.nil ?_ | refine DW.region ?_ | refine DW.seq ?_ | refine DW.block ?_ | refine DW.skip ?_ | refine DW.exit ?_ | refine DW.condT rfl ?_ | refine DW.condF rfl ?_))
  refine RO.yes rfl rfl (OpD.of_sta (sta_eqB Try.underlying4 rfl rfl (.inl ⟨rfl, rfl⟩)) ?_)
  rw [show ((normE r rank v l).1 == (normE r rank v l).1) = true by simp]
  (repeat (first | refine RO.Sv ?_ | refine RO.Yv ?_ | refine RO.no rfl (by decide) rfl ?_ | refine RO.nil ?_ | refine DW.region ?_ | refine DW.seq ?_ | refine DW.block ?_ | refine DW.skip ?_ | refine DW.exit ?_ | refine DW.condT rfl ?_ | refine DW.condF rfl ?_))
  exact DW.ret ⟨.inl rfl, _, rfl, Over.refl _, .same _⟩

end Go.Proofs.Ytblileclefbklaa

namespace Go.Proofs.Ytblileclefbklaa
open Go.RowKit
set_option linter.unusedVariables false
set_option linter.unusedSimpArgs false
set_option maxHeartbeats 8000000

/-- A slice made of nothing but nil, as a vector of polynomials without terms. -/
theorem s_makeVc {P : Program} {H : Heap} {e : Env} {dst : Option Tmp} {ty : TypeId} {pos : String} {af : Array Edge} {gd : Option (Nat × Bool)} {t E : TypeId} {x y : Operand} {n bytes : Nat} [SliceT P t E] [ElT P E 1 [.nil] bytes] (hx : e.ev x = some (I n)) (hy : e.ev y = some (I n)) (hb : bytes * n ≤ 281474976710656) (hc : n ≤ 4611686018427387904) :
    Sta P H e ⟨dst, .makeSlice t x y, ty, pos, af, gd⟩ (vcD (List.replicate n [])) := by
  have h := s_make (P := P) (H := H) (dst := dst) (ty := ty) (pos := pos) (af := af) (gd := gd) (t := t) (E := E) (bytes := bytes) (zd := [.nil]) (el := .nil) rfl hx hy hb hc
  refine h.seen_list (l' := (List.replicate n []).map plD) (by simp) fun i d d' h1 h2 => ?_
  have hi : i < n := by have := (List.getElem?_eq_some_iff.1 h1).1; simpa using this
  rw [List.getElem?_replicate, if_pos hi] at h1
  rw [List.getElem?_map, List.getElem?_replicate, if_pos hi] at h2
  cases h1; cases h2
  refine ⟨rfl, fun j a b ha hb => ?_⟩
  match j, ha, hb with
  | 0, ha, hb => cases ha; cases hb; exact .inr ⟨rfl, 2, rfl⟩
  | j + 1, ha, hb => simp [cellsOf] at ha

theorem vMade1_pureH {H : Heap} (r : Rg) (c : Vc) (k b : Nat) (i : Int) (f g : Pl) (hk : k < c.length) (hH : H b = some (3, [I k])) (hs : PureH Try.prog H 56 [rgD r, plD c[k], plD f] (plD g)) :
    PureH Try.prog H 93 [I i, plD f, .ipt 4 [rgD r] 0 0, .ipt 1 [vcD c] 0 0, .ptr b 0] (plD g) := by
  refine PureH.of_body Try.func93 rfl (by decide) (Nat.le_of_ble_eq_true rfl) fun w0 => ?_
  (repeat (first | refine RO.Sv ?_ | refine RO.Yv ?_ | refine RO.no rfl (by decide) rfl ?_ | refine RO.nil ?_ | refine DW.region ?_ | refine DW.seq ?_ | refine DW.block ?_ | refine DW.skip ?_ | refine DW.exit ?_ | refine DW.condT rfl ?_ | refine DW.condF rfl ?_))
  refine DW.drawS 6 Try.mixed (by kernel_rfl) (by decide) ?_
  dsimp only [List.take, List.drop]
  (repeat (first | refine RS.Sv ?_ | refine RS.Yv ?_ | refine RS.no rfl (by decide) rfl ?_ | refine RS.nil ?_))
  refine RS.sta (r_loadMut rfl hH rfl) rfl ?_
  (repeat (first | refine RS.Sv ?_ | refine RS.Yv ?_ | refine RS.no rfl (by decide) rfl ?_ | refine RS.nil ?_))
  refine RO.sta (sta_call rfl rfl hs) rfl ?_
  (repeat (first | refine RO.Sv ?_ | refine RO.Yv ?_ | refine RO.no rfl (by decide) rfl ?_ | refine RO.nil ?_ | refine DW.region ?_ | refine DW.seq ?_ | refine DW.block ?_ | refine DW.skip ?_ | refine DW.exit ?_ | refine DW.condT rfl ?_ | refine DW.condF rfl ?_))
  exact DW.ret ⟨.inl rfl, _, rfl, Over.refl _, .same _⟩

theorem vMade_pure (r : Rg) (rank : Int) (c : Vc) (l : List Vc) (h : CombOk r rank c l) : Pure Try.prog 67 [rgD r, I rank, vcD c, vcsD l] (vcD (combT r rank c l)) := by
  intro H
  have hr2 := ringCk_ok h.ring
  have hp := ckP_ok hr2.1
  have hpr : Prm r.p := ckP_prm hr2.1
  have hrk1 := h.rank1
  have hrk2 := h.rank2
  have hlen := h.len
  have hcl := h.clen
  have hrk : I rank = I (rank.toNat : Int) := by rw [Int.toNat_of_nonneg (by omega)]
  rw [hrk]
  refine PureH.of_body Try.func67 rfl (by decide) (Nat.le_of_ble_eq_true rfl) fun w0 => ?_
  (repeat (first | refine RO.Sv ?_ | refine RO.Yv ?_ | refine RO.no rfl (by decide) rfl ?_ | refine RO.nil ?_ | refine DW.region ?_ | refine DW.seq ?_ | refine DW.block ?_ | refine DW.skip ?_ | refine DW.exit ?_ | refine DW.condT rfl ?_ | refine DW.condF rfl ?_))
  refine RO.sta (sta_call rfl rfl (nought_pure rank.toNat (by omega) _)) rfl ?_
  (repeat (first | refine RO.Sv ?_ | refine RO.Yv ?_ | refine RO.no rfl (by decide) rfl ?_ | refine RO.nil ?_ | refine DW.region ?_ | refine DW.seq ?_ | refine DW.block ?_ | refine DW.skip ?_ | refine DW.exit ?_ | refine DW.condT rfl ?_ | refine DW.condF rfl ?_))
  refine DW.loopG (fun k : Nat => k ≤ l.length) (fun k => [(4, .ipt 4 [rgD r] 0 0), (6, .ipt 1 [vcD c] 0 0), (9, vcD (madeT r rank.toNat c l k)), (14, vcsD l), (15, I l.length), (16, I k)]) (fun _ => H) (fun k => l.length - k) 0 (Nat.zero_le _) (Heap.sub_refl _) ?_ fun k hk => ?_
  · (repeat refine HasG.one rfl ?_)
    trivial
  (repeat (first | refine RO.Sv ?_ | refine RO.Yv ?_ | refine RO.no rfl (by decide) rfl ?_ | refine RO.nil ?_ | refine DW.region ?_ | refine DW.seq ?_ | refine DW.block ?_ | refine DW.skip ?_ | refine DW.exit ?_ | refine DW.condT rfl ?_ | refine DW.condF rfl ?_))
  refine DW.cond rfl (fun hb => ?_) (fun hb => ?_)
  · have hlt : k < l.length := by have := of_decide_eq_true hb; omega
    have hltc : k < c.length := by omega
    clear hb
    have hv := h.vecs _ (List.getElem_mem hlt)
    have hf := h.polys _ (List.getElem_mem hltc)
    have hvl := hv.len
    obtain ⟨m1, m2⟩ := madeT_vb h hpr (by omega) k hk
    (repeat (first | refine RO.Sv ?_ | refine RO.Yv ?_ | refine RO.no rfl (by decide) rfl ?_ | refine RO.nil ?_ | refine DW.region ?_ | refine DW.seq ?_ | refine DW.block ?_ | refine DW.skip ?_ | refine DW.exit ?_ | refine DW.condT rfl ?_ | refine DW.condF rfl ?_))
    refine RO.dyn rfl (d_alloc fun b10 hb10 => ?_)
    (repeat (first | refine RO.Sv ?_ | refine RO.Yv ?_ | refine RO.no rfl (by decide) rfl ?_ | refine RO.nil ?_ | refine DW.region ?_ | refine DW.seq ?_ | refine DW.block ?_ | refine DW.skip ?_ | refine DW.exit ?_ | refine DW.condT rfl ?_ | refine DW.condF rfl ?_))
    refine RO.dyn rfl (d_store (k := 1) rfl rfl rfl (Heap.set_self _ _ _) (Nat.le_refl _) (by simp [cellsOf, D.isCell]) ?_)
    rw [Heap.set_set]
    (repeat (first | refine RO.Sv ?_ | refine RO.Yv ?_ | refine RO.no rfl (by decide) rfl ?_ | refine RO.nil ?_ | refine DW.region ?_ | refine DW.seq ?_ | refine DW.block ?_ | refine DW.skip ?_ | refine DW.exit ?_ | refine DW.condT rfl ?_ | refine DW.condF rfl ?_))
    refine DW.drawS 6 Try.mixed (by kernel_rfl) (by decide) ?_
    dsimp only [List.take, List.drop]
    (repeat (first | refine RS.Sv ?_ | refine RS.Yv ?_ | refine RS.no rfl (by decide) rfl ?_ | refine RS.nil ?_))
    refine RS.sta (fun H' hov => sta_call rfl rfl (vEach_pureH l[k] (vtimesT r c[k] l[k]) (by omega) (vtimesT_len _ _ _) fun H'' hov' i h1 h2 => ?_)) rfl ?_
    · obtain ⟨a1, a2⟩ := hv.vb _ (List.getElem_mem h1)
      have he : (vtimesT r c[k] l[k])[i] = prodT r.p r.order c[k] l[k][i] := by simp [vtimesT]
      have hfl := hf.len
      have hmul : c[k].length * l[k][i].length ≤ 2000 * 2000 := Nat.mul_le_mul hfl a2
      rw [he]
      exact vMade1_pureH r c k b10 i _ _ hltc (hov' _ _ (hov _ _ (Heap.set_self _ _ _))) (product_pure r _ _ (by omega) (B := 200) (C := 200) (by omega) (by omega) (by omega) hr2.1 hpr (by omega) hf.ok a1 (by omega) _)
    (repeat (first | refine RS.Sv ?_ | refine RS.Yv ?_ | refine RS.no rfl (by decide) rfl ?_ | refine RS.nil ?_))
    refine RS.sta (fun H' hov => sta_call rfl rfl (vSum_pure r _ _ (n := r.n.toNat) (B := 400) (L := 4000000 * k) (M := 4000000) (by omega) (by omega) hp (by omega) (by rw [vtimesT_len]; omega) (by omega) m1 (VB.times h.ring hpr (by omega) hf hv) _)) rfl ?_
    rw [← madeT_succ hltc hlt]
    (repeat (first | refine RS.Sv ?_ | refine RS.Yv ?_ | refine RS.no rfl (by decide) rfl ?_ | refine RS.nil ?_))
    (repeat (first | refine RO.Sv ?_ | refine RO.Yv ?_ | refine RO.no rfl (by decide) rfl ?_ | refine RO.nil ?_ | refine DW.region ?_ | refine DW.seq ?_ | refine DW.block ?_ | refine DW.skip ?_ | refine DW.exit ?_ | refine DW.condT rfl ?_ | refine DW.condF rfl ?_))
    refine ⟨k + 1, hlt, by dsimp only; omega, Heap.sub_set _ hb10, ?_⟩
    (repeat refine HasG.one rfl ?_)
    trivial
  · have hge : k = l.length := by have := of_decide_eq_false hb; omega
    subst hge
    (repeat (first | refine RO.Sv ?_ | refine RO.Yv ?_ | refine RO.no rfl (by decide) rfl ?_ | refine RO.nil ?_ | refine DW.region ?_ | refine DW.seq ?_ | refine DW.block ?_ | refine DW.skip ?_ | refine DW.exit ?_ | refine DW.condT rfl ?_ | refine DW.condF rfl ?_))
    exact DW.ret ⟨.inl rfl, _, rfl, Over.refl _, .same _⟩

theorem CombineOf_pure (r : Rg) (rank : Int) (c : Vc) (l : List Vc) (h : CombOk r rank c l) : Pure Try.prog 30 [rgD r, I rank, vcD c, vcsD l] (vcD (combT r rank c l)) := by
  intro H
  have hr2 := ringCk_ok h.ring
  have hp := ckP_ok hr2.1
  have hpr : Prm r.p := ckP_prm hr2.1
  have hrk1 := h.rank1
  have hrk2 := h.rank2
  have hlen := h.len
  have hcl := h.clen
  have hrk : I rank = I (rank.toNat : Int) := by rw [Int.toNat_of_nonneg (by omega)]
  rw [hrk]
  refine PureH.of_body Try.func30 rfl (by decide) (Nat.le_of_ble_eq_true rfl) fun w0 => ?_
  (repeat (first | refine RO.Sv ?_ | refine RO.Yv ?_ | refine RO.no rfl (by decide) rfl ?_ | refine RO.nil ?_ | refine DW.region ?_ | refine DW.seq ?_ | refine DW.block ?_ | refine DW.skip ?_ | refine DW.exit ?_ | refine DW.condT rfl ?_ | refine DW.condF rfl ?_))
  refine RO.sta (s_makeVc rfl rfl (by omega) (by omega)) rfl ?_
  (repeat (first | refine RO.Sv ?_ | refine RO.Yv ?_ | refine RO.no rfl (by decide) rfl ?_ | refine RO.nil ?_ | refine DW.region ?_ | refine DW.seq ?_ | refine DW.block ?_ | refine DW.skip ?_ | refine DW.exit ?_ | refine DW.condT rfl ?_ | refine DW.condF rfl ?_))
  refine DW.loopG (fun k : Nat => k ≤ l.length) (fun k => [(2, vcD c), (3, vcsD l), (4, .ipt 4 [rgD r] 0 0), (9, vcD (madeT r rank.toNat c l k)), (10, I k)]) (fun _ => H) (fun k => l.length - k) 0 (Nat.zero_le _) (Heap.sub_refl _) ?_ fun k hk => ?_
  · (repeat refine HasG.one rfl ?_)
    trivial
  (repeat (first | refine RO.Sv ?_ | refine RO.Yv ?_ | refine RO.no rfl (by decide) rfl ?_ | refine RO.nil ?_ | refine DW.region ?_ | refine DW.seq ?_ | refine DW.block ?_ | refine DW.skip ?_ | refine DW.exit ?_ | refine DW.condT rfl ?_ | refine DW.condF rfl ?_))
  refine DW.cond rfl (fun hb => ?_) (fun hb => ?_)
  · have hlt : k < l.length := by have := of_decide_eq_true hb; omega
    have hltc : k < c.length := by omega
    clear hb
    have hv := h.vecs _ (List.getElem_mem hlt)
    have hf := h.polys _ (List.getElem_mem hltc)
    have hvl := hv.len
    have hfl := hf.len
    obtain ⟨m1, m2⟩ := madeT_vb h hpr (by omega) k hk
    (repeat (first | refine RO.Sv ?_ | refine RO.Yv ?_ | refine RO.no rfl (by decide) rfl ?_ | refine RO.nil ?_ | refine DW.region ?_ | refine DW.seq ?_ | refine DW.block ?_ | refine DW.skip ?_ | refine DW.exit ?_ | refine DW.condT rfl ?_ | refine DW.condF rfl ?_))
    refine DW.drawS 13 Try.mixed (by kernel_rfl) (by decide) ?_
    dsimp only [List.take, List.drop]
    (repeat (first | refine RS.Sv ?_ | refine RS.Yv ?_ | refine RS.no rfl (by decide) rfl ?_ | refine RS.nil ?_))
    refine RS.sta (fun H' hov => sta_call rfl rfl (VTimes_pure r c[k] l[k] (n := r.n.toNat) (B := 200) (C := 200) (L := 2000) (by omega) (by omega) (by omega) (by omega) hr2.1 hpr (by omega) (by omega) (by omega) (by omega) hf.ok hv.vb _)) rfl ?_
    refine RS.sta (fun H' hov => sta_call rfl rfl (VSum_pure r _ _ (n := r.n.toNat) (B := 400) (L := 4000000 * k) (M := 4000000) (by omega) (by omega) hp (by omega) (by rw [vtimesT_len]; omega) (by omega) m1 (VB.times h.ring hpr (by omega) hf hv) _)) rfl ?_
    rw [← madeT_succ hltc hlt]
    (repeat (first | refine RS.Sv ?_ | refine RS.Yv ?_ | refine RS.no rfl (by decide) rfl ?_ | refine RS.nil ?_))
    (repeat (first | refine RO.Sv ?_ | refine RO.Yv ?_ | refine RO.no rfl (by decide) rfl ?_ | refine RO.nil ?_ | refine DW.region ?_ | refine DW.seq ?_ | refine DW.block ?_ | refine DW.skip ?_ | refine DW.exit ?_ | refine DW.condT rfl ?_ | refine DW.condF rfl ?_))
    refine ⟨k + 1, hlt, by dsimp only; omega, Heap.sub_refl _, ?_⟩
    (repeat refine HasG.one rfl ?_)
    trivial
  · have hge : k = l.length := by have := of_decide_eq_false hb; omega
    subst hge
    (repeat (first | refine RO.Sv ?_ | refine RO.Yv ?_ | refine RO.no rfl (by decide) rfl ?_ | refine RO.nil ?_ | refine DW.region ?_ | refine DW.seq ?_ | refine DW.block ?_ | refine DW.skip ?_ | refine DW.exit ?_ | refine DW.condT rfl ?_ | refine DW.condF rfl ?_))
    exact DW.ret ⟨.inl rfl, _, rfl, Over.refl _, .same _⟩

end Go.Proofs.Ytblileclefbklaa
