/-
  Pairs of vectors whose leads are made the same, in plain Lean. No condition.
-/
import Derived.Test.YtcdihmhmoddppaaGreatKBt18
import Derived.Test.YtcdihmhmoddppaaGreatKBt17

namespace Go.Proofs.YtcdihmhmoddppaaGreat
open Go.RowKit
set_option linter.unusedVariables false
set_option linter.unusedSimpArgs false
set_option maxHeartbeats 8000000

theorem inv_all : ((List.range 102).all fun p => ckP (p : Int) != 0 || ((List.range p).all fun a => a == 0 || (invT p a == turnP p a))) = true := by decide +kernel

theorem invT_turn {p a : Int} (hp : ckP p = 0) (h0 : 0 < a) (h1 : a < p) : invT p a = turnP p a := by
  have h2 := ckP_ok hp
  obtain ⟨q, rfl⟩ := Int.eq_ofNat_of_zero_le (show 0 ≤ p by omega)
  obtain ⟨b, rfl⟩ := Int.eq_ofNat_of_zero_le (show 0 ≤ a by omega)
  have h3 := List.all_eq_true.1 inv_all q (List.mem_range.2 (by omega))
  rw [hp] at h3
  have h4 : ((List.range q).all fun a => a == 0 || (invT q a == turnP q a)) = true := h3
  have h5 := List.all_eq_true.1 h4 b (List.mem_range.2 (by omega))
  simp only [Bool.or_eq_true, beq_iff_eq] at h5
  exact h5.resolve_left (by omega)

/-- What is taken away with the lead. -/
def awayT (r : Rg) (m a : Nat) (u : Tm) : Vc := (List.replicate m []).set a [negT r u]

theorem vsum_away {r : Rg} {v : Vc} {a : Nat} {u : Tm} {f : Pl} (ha : a < v.length) (hf : v[a] = u :: f) (hp : 0 < r.p) : vsumT r v (awayT r v.length a u) = v.set a (v.getD a []).tail := by
  have hg : (v.getD a []).tail = f := by rw [List.getD_eq_getElem?_getD, List.getElem?_eq_getElem ha]; show (v[a]).tail = f; rw [hf]; rfl
  rw [hg]
  refine List.ext_getElem (by simp [vsumT, awayT]) fun i h1 h2 => ?_
  have hi : i < v.length := by simpa using h2
  have e1 : (vsumT r v (awayT r v.length a u))[i] = sumT r.p r.order v[i] (if a = i then [negT r u] else []) := by
    simp only [vsumT, awayT, List.getElem_zipWith]
    rw [List.getElem_set]
    simp
  rw [e1, List.getElem_set]
  by_cases hia : a = i
  · subst hia
    rw [if_pos rfl, if_pos rfl, hf, sumT_cancel (u := u) (v := negT r u) rfl (by show (u.c + (r.p - u.c)) % r.p = 0; rw [show u.c + (r.p - u.c) = r.p by omega]; exact Int.emod_self), sumT_nil']
  · rw [if_neg hia, if_neg hia, sumT_nil']

structure DOInv (r : Rg) (rank : Nat) (l : List Vc) (v : Vc) (H0 : Heap) (bq bL : Nat) (s : DS) (H : Heap) (ds : List D) : Prop where
  at_ : DAt r rank l v s
  row : H bq = some (31, s.q.map plD)
  keep : Over H0 H
  rows : RowsOk (fun c => H0 c ≠ none ∨ c = bq) H bL 31 50 2 (tmsD s.left) ds

def divPairD (s : DS) : D := .tup [vcD s.q, vcD s.left]

theorem DivideOf_pure (r : Rg) {rank : Nat} (v : Vc) (l : List Vc) (hl : DL r rank l) (hv : VIn r rank v) : Pure Tryz.prog 24 [rgD r, vcD v, vcsD l] (divPairD (divT r rank l v)) := by
  intro H0
  obtain ⟨hp, hn3, hn1, hpr, hck⟩ := hl.rg
  have hrk := hl.rank2
  have hll := hl.len
  have hd : ∀ d ∈ l, VD r r.n.toNat d := fun d hd => (hl.vecs d hd).vd hn3 hrk
  have hvl := hv.len
  refine PureH.of_body Tryz.func24 rfl (by decide) (Nat.le_of_ble_eq_true rfl) fun w0 => ?_
  (repeat (first | refine RO.Sv ?_ | refine RO.Yv ?_ | refine RO.no rfl (by decide) rfl ?_ | refine RO.nil ?_ | refine DW.region ?_ | refine DW.seq ?_ | refine DW.block ?_ | refine DW.skip ?_ | refine DW.exit ?_ | refine DW.condT rfl ?_ | refine DW.condF rfl ?_))
  refine RO.dyn rfl (d_make rfl rfl (Nat.le_refl _) (by omega) (by omega) fun bq hbq => ?_)
  rw [flatten_replicate1]
  (repeat (first | refine RO.Sv ?_ | refine RO.Yv ?_ | refine RO.no rfl (by decide) rfl ?_ | refine RO.nil ?_ | refine DW.region ?_ | refine DW.seq ?_ | refine DW.block ?_ | refine DW.skip ?_ | refine DW.exit ?_ | refine DW.condT rfl ?_ | refine DW.condF rfl ?_))
  refine RO.dyn rfl (d_make rfl rfl (Nat.le_refl _) (by omega) (by omega) fun bL hbL => ?_)
  rw [flatten_replicate1]
  have hneL : bq ≠ bL := fun e => by rw [← e, Heap.set_self] at hbL; cases hbL
  have hbL' : H0 bL = none := Heap.none_of_set hneL hbL
  (repeat (first | refine RO.Sv ?_ | refine RO.Yv ?_ | refine RO.no rfl (by decide) rfl ?_))
  refine RO.nil ?_
  refine DW.seeCells ((List.replicate l.length []).map plD) (by rw [Heap.set_other _ _ hneL, Heap.set_self]) (by simp) (fun j x x' hx hx' => by
    have hj : j < l.length := by have := (List.getElem?_eq_some_iff.1 hx).1; simpa using this
    rw [List.getElem?_replicate, if_pos hj] at hx
    rw [List.getElem?_map, List.getElem?_replicate, if_pos hj] at hx'
    cases hx; cases hx'
    exact ⟨rfl, .inr ⟨rfl, 2, rfl⟩⟩) ?_
  refine DW.asH (fun H2 => DOInv r rank l v H0 bq bL (divInit rank l v) H2 (List.replicate v.length .nil)) ⟨.init hl hv, Heap.set_self _ _ _, fun c z hc => by
    have c1 : c ≠ bq := fun e => by rw [e, hbq] at hc; cases hc
    have c2 : c ≠ bL := fun e => by rw [e, hbL'] at hc; cases hc
    rw [Heap.set_other _ _ c1, Heap.set_other _ _ c2, Heap.set_other _ _ c1]; exact hc, by
    rw [show tmsD (divInit rank l v).left = List.replicate v.length [] by simp [tmsD, divInit, hvl]]
    exact .init (by rw [Heap.set_other _ _ hneL.symm, Heap.set_self])⟩ fun H2 hinit => ?_
  (repeat (first | refine RO.Sv ?_ | refine RO.Yv ?_ | refine RO.no rfl (by decide) rfl ?_ | refine RO.nil ?_ | refine DW.region ?_ | refine DW.seq ?_ | refine DW.block ?_ | refine DW.skip ?_ | refine DW.exit ?_ | refine DW.condT rfl ?_ | refine DW.condF rfl ?_))
  refine DW.loopG (fun x : DS × Heap × List D => DOInv r rank l v H0 bq bL x.1 x.2.1 x.2.2) (fun x => [(1, vcD x.1.v), (2, vcsD l), (3, .ipt 4 [rgD r] 0 0), (8, .ref bq 0 l.length 1), (9, .ref bL 0 v.length 1)]) (fun x => x.2.1) (fun x => muT r x.1.v) (divInit rank l v, H2, List.replicate v.length .nil)
    hinit (Heap.sub_refl _) (by repeat first | exact trivial | refine HasG.one rfl ?_ | refine HasN.one rfl ?_) fun ⟨s, Hk, ds⟩ hi => ?_
  dsimp only at hi ⊢
  clear hinit
  have hinv := hi.at_.inv
  have hvd := hinv.vd
  have hsl := hvd.len
  have hsv := hinv.vlen
  have hql := hinv.qlen
  (repeat (first | refine RO.Sv ?_ | refine RO.Yv ?_ | refine RO.no rfl (by decide) rfl ?_ | refine RO.nil ?_ | refine DW.region ?_ | refine DW.seq ?_ | refine DW.block ?_ | refine DW.skip ?_ | refine DW.exit ?_ | refine DW.condT rfl ?_ | refine DW.condF rfl ?_))
  refine RO.sta (sta_call rfl rfl (LeadOf_pure r s.v (n := r.n.toNat) (B := 8000) (L := 512192024001) (by omega) (by omega) (by omega) (by omega) hvd.vb _)) rfl ?_
  (repeat (first | refine RO.Sv ?_ | refine RO.Yv ?_ | refine RO.no rfl (by decide) rfl ?_ | refine RO.nil ?_ | refine DW.region ?_ | refine DW.seq ?_ | refine DW.block ?_ | refine DW.skip ?_ | refine DW.exit ?_ | refine DW.condT rfl ?_ | refine DW.condF rfl ?_))
  refine RO.dyn rfl (d_alloc fun b11 hb11 => ?_)
  (repeat (first | refine RO.Sv ?_ | refine RO.Yv ?_ | refine RO.no rfl (by decide) rfl ?_ | refine RO.nil ?_ | refine DW.region ?_ | refine DW.seq ?_ | refine DW.block ?_ | refine DW.skip ?_ | refine DW.exit ?_ | refine DW.condT rfl ?_ | refine DW.condF rfl ?_))
  refine RO.dyn rfl (d_storeTm (tm := tmOf (topV r s.v)) rfl rfl (Heap.set_self _ _ _) rfl ?_)
  rw [Heap.set_set]
  refine RO.nil ?_
  refine DW.asH (fun H2 => H2 b11 = some (50, tmCl (tmOf (topV r s.v))) ∧ Over Hk H2) ⟨Heap.set_self _ _ _, Over.other hb11⟩ fun H2 ⟨g11, gov⟩ => ?_
  have hrows := hi.rows.over gov
  have hkeep2 : Over H0 H2 := fun c z hc => gov _ _ (hi.keep c z hc)
  have hrow2 := gov _ _ hi.row
  have hD2 : ∀ c, (H0 c ≠ none ∨ c = bq) → H2 c ≠ none := fun c hc => by
    rcases hc with hc | rfl
    · cases hx : H0 c with
      | none => exact absurd hx hc
      | some z => rw [hkeep2 c z hx]; simp
    · rw [hrow2]; simp
  have hlen := hrows.len
  have hlen2 : (tmsD s.left).length = rank := by simp [tmsD, hinv.llen]
  (repeat (first | refine RO.Sv ?_ | refine RO.Yv ?_ | refine RO.no rfl (by decide) rfl ?_ | refine RO.nil ?_ | refine DW.region ?_ | refine DW.seq ?_ | refine DW.block ?_ | refine DW.skip ?_ | refine DW.exit ?_ | refine DW.condT rfl ?_ | refine DW.condF rfl ?_))
  cases hx : topV r s.v with
  | none =>
    rw [hi.at_.done hx]
    (repeat (first | refine RO.Sv ?_ | refine RO.Yv ?_ | refine RO.no rfl (by decide) rfl ?_ | refine RO.nil ?_ | refine DW.region ?_ | refine DW.seq ?_ | refine DW.block ?_ | refine DW.skip ?_ | refine DW.exit ?_ | refine DW.condT rfl ?_ | refine DW.condF rfl ?_))
    refine DW.ret ⟨.inl rfl, _, rfl, hkeep2, .tup2 (Frz.list (T := 31) (by rw [hrow2, flat_cells1 (fun _ => rfl)]) hbq (uni_pl _) (by simp [hql])) ?_⟩
    rw [← tmsD_vc]
    exact hrows.frz (by rw [hlen2]; exact hvl) hbL' fun b hb => by
      cases hz : H0 b with
      | none => rfl
      | some z => exact absurd (.inl (by rw [hz]; simp)) hb
  | some x =>
    obtain ⟨a, u⟩ := x
    rw [hx] at g11
    have hat : atOf (some (a, u)) = (a : Int) := rfl
    have hneg : decide ((a : Int) < 0) = false := decide_eq_false (by omega)
    have iv := topV_is hvd hx
    have ha := iv.lt
    obtain ⟨fu, hfu⟩ := iv.at_
    have tu : TB 1 r.p r.n.toNat 8000 u := (hvd.all a ha).all u (by rw [hfu]; simp)
    have hu1 := tu.lo
    have hu2 := tu.hi
    rw [hat, hneg]
    (repeat (first | refine RO.Sv ?_ | refine RO.Yv ?_ | refine RO.no rfl (by decide) rfl ?_ | refine RO.nil ?_ | refine DW.region ?_ | refine DW.seq ?_ | refine DW.block ?_ | refine DW.skip ?_ | refine DW.exit ?_ | refine DW.condT rfl ?_ | refine DW.condF rfl ?_))
    refine RO.dyn rfl (d_make rfl rfl (Nat.le_refl _) (by omega) (by omega) fun b12 hb12 => ?_)
    rw [flatten_replicate1]
    (repeat (first | refine RO.Sv ?_ | refine RO.Yv ?_ | refine RO.no rfl (by decide) rfl ?_))
    refine RO.nil ?_
    refine DW.seeCells ((List.replicate s.v.length []).map plD) (Heap.set_self _ _ _) (by simp) (fun j x x' hx hx' => by
      have hj : j < s.v.length := by have := (List.getElem?_eq_some_iff.1 hx).1; simpa using this
      rw [List.getElem?_replicate, if_pos hj] at hx
      rw [List.getElem?_map, List.getElem?_replicate, if_pos hj] at hx'
      cases hx; cases hx'
      exact ⟨rfl, .inr ⟨rfl, 2, rfl⟩⟩) ?_
    rw [Heap.set_set]
    refine DW.asH (fun H3 => H3 b12 = some (31, (List.replicate s.v.length []).map plD) ∧ Over H2 H3) ⟨Heap.set_self _ _ _, Over.other hb12⟩ fun H3 ⟨g12, gov3⟩ => ?_
    have g11' := gov3 _ _ g11
    (repeat (first | refine RO.Sv ?_ | refine RO.Yv ?_ | refine RO.no rfl (by decide) rfl ?_ | refine RO.nil ?_ | refine DW.region ?_ | refine DW.seq ?_ | refine DW.block ?_ | refine DW.skip ?_ | refine DW.exit ?_ | refine DW.condT rfl ?_ | refine DW.condF rfl ?_))
    refine RO.sta (s_loadMutAgg (ds := tmCl u) rfl g11' rfl rfl) rfl ?_
    refine RO.sta (sta_call rfl rfl (Divisor_pure r l a u (by omega) hd iv.me _)) rfl ?_
    (repeat (first | refine RO.Sv ?_ | refine RO.Yv ?_ | refine RO.no rfl (by decide) rfl ?_ | refine RO.nil ?_ | refine DW.region ?_ | refine DW.seq ?_ | refine DW.block ?_ | refine DW.skip ?_ | refine DW.exit ?_ | refine DW.condT rfl ?_ | refine DW.condF rfl ?_))
    have ha2 : a < ds.length := by rw [hlen, hlen2, ← hsv]; exact ha
    have ha3 : a < s.left.length := by rw [hinv.llen, ← hsv]; exact ha
    have ha4 : a < (tmsD s.left).length := by rw [hlen2, ← hsv]; exact ha
    have hrows3 := hrows.over gov3
    have hkeep3 : Over H0 H3 := fun c z hc => gov3 _ _ (hkeep2 c z hc)
    have hrow3 := gov3 _ _ hrow2
    have hD3 : ∀ c, (H0 c ≠ none ∨ c = bq) → H3 c ≠ none := fun c hc => by
      cases hx : H2 c with
      | none => exact absurd hx (hD2 c hc)
      | some z => rw [gov3 c z hx]; simp
    have h12bq : b12 ≠ bq := fun e => by rw [e, hrow2] at hb12; cases hb12
    have h12L : b12 ≠ bL := fun e => by rw [e, hrows.row] at hb12; cases hb12
    have h11L : b11 ≠ bL := fun e => by rw [e, hi.rows.row] at hb11; cases hb11
    cases hg : goesT r l a u.e with
    | none =>
      obtain ⟨n1, n2⟩ := hi.at_.stepA hl hx hg
      obtain ⟨l1, l2⟩ := hinv.left a ha3
      have hlong := len_le8 l1 l2 hn3 (degB_range r (by omega)).2
      have hta : (tmsD s.left)[a] = s.left[a].map tmD := by simp [tmsD]
      have hrows3' := (hrows.more hb12).over gov3
      have hD3' : ∀ c, ((H0 c ≠ none ∨ c = bq) ∨ c = b12) → H3 c ≠ none := fun c hc => by
        rcases hc with hc | rfl
        · exact hD3 c hc
        · rw [g12]; simp
      have hHs : Over (Heap.set (fun _ => none) b11 (50, tmCl u)) H3 := fun c z hc => by
        by_cases h : c = b11
        · subst h; rw [Heap.set_self] at hc; rw [← hc]; exact g11'
        · rw [Heap.set_other _ _ h] at hc; cases hc
      (repeat (first | refine RO.Sv ?_ | refine RO.Yv ?_ | refine RO.no rfl (by decide) rfl ?_ | refine RO.nil ?_ | refine DW.region ?_ | refine DW.seq ?_ | refine DW.block ?_ | refine DW.skip ?_ | refine DW.exit ?_ | refine DW.condT rfl ?_ | refine DW.condF rfl ?_))
      refine DW.drawX [0, 1, 2, 3, 4, 5, 6, 8, 9] [0, 1, 8, 9] (Heap.set (fun _ => none) b11 (50, tmCl u)) Tryz.mixed (by kernel_rfl) hHs ?_
      (repeat (first | refine RX.A ?_ | refine RX.nil ?_))
      refine RX.any (fun H' => s_indexRef (i := a) rfl rfl (by omega)) rfl ?_
      refine RX.sta rfl (r_loadMut (d := ds[a]) rfl hrows3.row (by rw [show 0 + a * 1 = a by omega, List.getElem?_eq_getElem ha2])) rfl ?_
      refine RX.fre hHs (fun H' hs => s_loadMutAgg (ds := tmCl u) rfl (hs _ _ (Heap.set_self _ _ _)) rfl rfl) rfl ?_
      (repeat (first | refine RX.A ?_ | refine RX.nil ?_))
      refine RY.dyn rfl (d_appendSrc (H0 := H3) (l := []) (xs := (tmsD s.left)[a]) rfl (Acc.nil _ _ _ _) (Over.refl _) rfl (SrcOk.acc (hrows3.acc ha2 ha4)) (hrows3.acc ha2 ha4).uni (by rw [hta, List.length_map]; simp; omega) (by rw [hta, List.length_map]; simp; omega) fun d1 H4 q1 q2 _ => ⟨fun c z hc => q2 c z (hHs c z hc), ?_⟩)
      refine RY.dyn rfl (d_append (H0 := H3) (xs := [tmD u]) rfl q1 q2 rfl (.inl rfl) (uni_tm [u]) (by rw [hta]; simp; omega) (by rw [hta]; simp; omega) fun d2 H5 s1 s2 _ => ⟨fun c z hc => s2 c z (hHs c z hc), ?_⟩)
      refine RY.sta (fun c z hc => s2 c z (hHs c z hc)) (s_indexRef (i := a) rfl rfl (by omega)) rfl ?_
      refine RY.dyn rfl (d_store (k := 1) rfl rfl (by rw [s1.cell.1]; rfl) (s2 _ _ hrows3.row) (by rw [s1.cell.1]; show 0 + a * 1 + 1 ≤ ds.length; omega) (by rw [s1.cell.1]; intro z hz; rw [List.mem_singleton.1 hz]; exact s1.cell.2) ⟨(show Over _ _ from fun c z hc => s2 c z (hHs c z hc)).set (by rw [Heap.set_other _ _ h11L.symm]), ?_⟩)
      have hset : setMany ds (0 + a * 1) (cellsOf d2) = ds.set a d2 := by rw [show 0 + a * 1 = a by omega]; exact setManyD ds a d2 s1.cell.1 ha2
      rw [hset]
      refine RY.nil ?_
      have hrows6 := hrows3'.put hD3' ha2 s1 (fun b hb => .inl hb) fun c z hc _ => s2 c z hc
      have hp6 : ∀ c z, H3 c = some z → c ≠ bL → (H5.set bL (31, ds.set a d2)) c = some z := fun c z hc h => by rw [Heap.set_other _ _ h]; exact s2 c z hc
      refine DW.asH (fun H6 => RowsOk (fun c => (H0 c ≠ none ∨ c = bq) ∨ c = b12) H6 bL 31 50 2 ((tmsD s.left).set a ([] ++ (tmsD s.left)[a] ++ [tmD u])) (ds.set a d2) ∧ ∀ c z, H3 c = some z → c ≠ bL → H6 c = some z) ⟨hrows6, hp6⟩ fun H6 ⟨hrows6, hp6⟩ => ?_
      have g11'' := hp6 _ _ g11' h11L
      have g12' := hp6 _ _ g12 h12L
      (repeat (first | refine RO.Sv ?_ | refine RO.Yv ?_ | refine RO.no rfl (by decide) rfl ?_ | refine RO.nil ?_ | refine DW.region ?_ | refine DW.seq ?_ | refine DW.block ?_ | refine DW.skip ?_ | refine DW.exit ?_ | refine DW.condT rfl ?_ | refine DW.condF rfl ?_))
      refine RO.sta (s_loadMut (d := I u.c) rfl g11'' rfl) rfl ?_
      (repeat (first | refine RO.Sv ?_ | refine RO.Yv ?_ | refine RO.no rfl (by decide) rfl ?_ | refine RO.nil ?_ | refine DW.region ?_ | refine DW.seq ?_ | refine DW.block ?_ | refine DW.skip ?_ | refine DW.exit ?_ | refine DW.condT rfl ?_ | refine DW.condF rfl ?_))
      refine RO.sta (s_loadMut (d := intsD u.e) rfl g11'' rfl) rfl ?_
      refine RO.sta (s_buildT (out := [I (negT r u).c, intsD (negT r u).e]) rfl rfl) rfl ?_
      (repeat (first | refine RO.Sv ?_ | refine RO.Yv ?_ | refine RO.no rfl (by decide) rfl ?_ | refine RO.nil ?_ | refine DW.region ?_ | refine DW.seq ?_ | refine DW.block ?_ | refine DW.skip ?_ | refine DW.exit ?_ | refine DW.condT rfl ?_ | refine DW.condF rfl ?_))
      refine RO.sta (s_indexRef (i := a) rfl rfl ha) rfl ?_
      refine RO.dyn rfl (d_store (k := 1) (d := plD [negT r u]) rfl rfl rfl g12' (by simp [cellsOf, plD]; omega) (by simp [cellsOf, D.isCell, plD]) ?_)
      rw [set_map_pl _ _ _ (by simpa using ha)]
      refine RO.nil ?_
      (repeat (first | refine RO.Sv ?_ | refine RO.Yv ?_ | refine RO.no rfl (by decide) rfl ?_ | refine RO.nil ?_ | refine DW.region ?_ | refine DW.seq ?_ | refine DW.block ?_ | refine DW.skip ?_ | refine DW.exit ?_ | refine DW.condT rfl ?_ | refine DW.condF rfl ?_))
      have haw : (List.replicate s.v.length []).set a [negT r u] = awayT r s.v.length a u := rfl
      rw [haw]
      have hawl : (awayT r s.v.length a u).length = s.v.length := by simp [awayT]
      have hawb : VB r r.n.toNat 8000 1 (awayT r s.v.length a u) := fun f hf => by
        rcases List.mem_or_eq_of_mem_set hf with hf | rfl
        · rw [List.eq_of_mem_replicate hf]; exact ⟨PB.nil _ _ _ _ _, by simp⟩
        · exact ⟨PB.one (negT_ok tu), Nat.le_refl _⟩
      refine RO.dyn rfl (opD_callF (ds' := [rgD r, vcD s.v, vcD (awayT r s.v.length a u)]) (H' := Heap.del (Heap.set H6 b12 (31, (awayT r s.v.length a u).map plD)) b12) rfl rfl (Heap.sub_del _ _) (.cons (.same _) (.cons (.same _) (.cons (Frz.list (T := 31) (by rw [Heap.set_self, flat_cells1 (fun _ => rfl)]) (by simp [Heap.del]) (uni_pl _) (by simp [hawl])) .nil))) (VSum_pure r s.v (awayT r s.v.length a u) (n := r.n.toNat) (B := 8000) (L := 512192024001) (M := 1) hn3 (by omega) hp (by omega) hawl.symm (by omega) hvd.vb hawb _) ?_)
      have hfin : ∀ c z, H6 c = some z → c ≠ b12 → Heap.del (Heap.set H6 b12 (31, (awayT r s.v.length a u).map plD)) b12 c = some z := fun c z hc h => by
        simp only [Heap.del]
        rw [if_neg h, Heap.set_other _ _ h]; exact hc
      rw [vsum_away ha hfu (by omega)]
      have hsa : (stepA s a u).left = s.left.set a (s.left[a] ++ [u]) := by
        unfold stepA
        rw [List.getD_eq_getElem?_getD, List.getD_eq_getElem?_getD, List.getElem?_eq_getElem ha3]; rfl
      (repeat (first | refine RO.Sv ?_ | refine RO.Yv ?_ | refine RO.no rfl (by decide) rfl ?_ | refine RO.nil ?_ | refine DW.region ?_ | refine DW.seq ?_ | refine DW.block ?_ | refine DW.skip ?_ | refine DW.exit ?_ | refine DW.condT rfl ?_ | refine DW.condF rfl ?_))
      refine ⟨(stepA s a u, _, ds.set a d2), ⟨n1, hfin _ _ (hp6 _ _ hrow3 hneL) h12bq.symm, fun c z hc => hfin c z (hp6 c z (hkeep3 c z hc) (fun e => by rw [e, hbL'] at hc; cases hc)) (fun e => by rw [e] at hc; rw [hkeep2 _ _ hc] at hb12; cases hb12), ?_⟩, n2, Heap.sub_refl _, (by repeat first | exact trivial | refine HasG.one rfl ?_ | refine HasN.one rfl ?_)⟩
      dsimp only
      rw [hsa, show tmsD (s.left.set a (s.left[a] ++ [u])) = (tmsD s.left).set a ([] ++ (tmsD s.left)[a] ++ [tmD u]) by simp [tmsD, List.map_set]]
      exact (hrows6.frame fun c z hc hh => hfin c z hc fun e => hh.elim (fun h => h12L (e.symm.trans h)) fun h => h (.inr e)).less fun c hc => .inl hc
    | some i =>
      have hgi : goIdx (some i) = (i : Int) := rfl
      have hneg2 : decide ((i : Int) < 0) = false := decide_eq_false (by omega)
      rw [hgi, hneg2]
      obtain ⟨n1, n2, hil, w, htd, hgm, hby, tb, me⟩ := stepB_ok hl hi.at_.inv hx hg
      have hdi := hd _ (List.getElem_mem hil)
      have hdil := hdi.len
      have hdl := (hl.vecs _ (List.getElem_mem hil))
      have iw := topV_is hdi htd
      obtain ⟨fw, hfw⟩ := iw.at_
      have tw : TB 1 r.p r.n.toNat 8000 w := (hdi.all a iw.lt).all w (by rw [hfw]; simp)
      have hw1 := tw.lo
      have hw2 := tw.hi
      have htr := turnP_in hp.1 w.c
      have hmul : 0 ≤ u.c * turnP r.p w.c ∧ u.c * turnP r.p w.c ≤ 101 * 101 := ⟨Int.mul_nonneg (by omega) htr.1, Int.mul_le_mul (by omega) (by omega) htr.1 (by omega)⟩
      have hlen3 : u.e.length = w.e.length := by rw [iv.me.len, iw.me.len]
      have tb1 := tb.lo
      have tb2 := tb.hi
      have tn := negT_ok tb
      have hiq : i < s.q.length := by omega
      obtain ⟨q1, q2⟩ := hinv.q _ (List.getElem_mem hiq)
      have ql := len_le8 q1 q2 hn3 (by omega)
      have cL := fun H' => LeadOf_pure r l[i] (n := r.n.toNat) (B := 8000) (L := 512192024001) (by omega) (by omega) (by omega) (by omega) hdi.vb H'
      rw [htd] at cL
      have cI := fun H' => inverseOf_pure r.p w.c hp.1 hp.2 (by omega) hw2 H'
      rw [invT_turn hck (by omega) hw2] at cI
      have cP := fun H' => Put_pure 2 (tu.mok hn3 (by omega)) (tw.mok hn3 (by omega)) hlen3 H'
      rw [show zipE (putE 2) u.e w.e = (byOf r u w).e from rfl] at cP
      have cT := fun H' => VTimes_pure r [negT r (byOf r u w)] l[i] (n := r.n.toNat) (B := 8000) (C := 8000) (L := 512192024001) hn3 (by omega) (by omega) (by omega) hck hpr (by omega) (by simp) (by omega) (by simp) (PB.one tn) hdi.vb H'
      rw [show vtimesT r [negT r (byOf r u w)] l[i] = vbyT r l[i] (negT r (byOf r u w)) from rfl] at cT
      (repeat (first | refine RO.Sv ?_ | refine RO.Yv ?_ | refine RO.no rfl (by decide) rfl ?_ | refine RO.nil ?_ | refine DW.region ?_ | refine DW.seq ?_ | refine DW.block ?_ | refine DW.skip ?_ | refine DW.exit ?_ | refine DW.condT rfl ?_ | refine DW.condF rfl ?_))
      refine DW.drawX [0, 1, 2, 3, 4, 5, 6, 7, 8] [0, 1, 2, 3, 4, 5, 6, 7, 8] (fun _ => none) Tryz.mixed (by kernel_rfl) (Over.nul _) ?_
      (repeat (first | refine RX.A ?_ | refine RX.nil ?_))
      refine RX.any (fun H' => sta_call rfl rfl (cL _)) rfl ?_
      (repeat (first | refine RX.A ?_ | refine RX.nil ?_))
      refine RY.dyn rfl (d_alloc fun b15 hb15 => ⟨Over.nul _, ?_⟩)
      (repeat (first | refine RY.S ?_ | refine RY.nil ?_))
      refine RY.dyn rfl (d_storeTm (tm := w) rfl rfl (Heap.set_self _ _ _) rfl ⟨Over.nul _, ?_⟩)
      rw [Heap.set_set]
      refine RY.nil ?_
      refine DW.asH (fun H4 => H4 b15 = some (50, tmCl w) ∧ Over H3 H4) ⟨Heap.set_self _ _ _, Over.other hb15⟩ fun H4 ⟨g15, gov4⟩ => ?_
      have g11q := gov4 _ _ g11'
      (repeat (first | refine RO.Sv ?_ | refine RO.Yv ?_ | refine RO.no rfl (by decide) rfl ?_ | refine RO.nil ?_ | refine DW.region ?_ | refine DW.seq ?_ | refine DW.block ?_ | refine DW.skip ?_ | refine DW.exit ?_ | refine DW.condT rfl ?_ | refine DW.condF rfl ?_))
      refine DW.drawA 17 Tryz.mixed (by kernel_rfl) rfl rfl ?_
      dsimp only [List.take, List.drop]
      (repeat (first | refine RS.Sv ?_ | refine RS.Yv ?_ | refine RS.no rfl (by decide) rfl ?_ | refine RS.nil ?_))
      refine RS.sta (r_loadMut (d := I u.c) rfl g11q rfl) rfl ?_
      (repeat (first | refine RS.Sv ?_ | refine RS.Yv ?_ | refine RS.no rfl (by decide) rfl ?_ | refine RS.nil ?_))
      refine RS.sta (r_loadMut (d := I w.c) rfl g15 rfl) rfl ?_
      refine RS.sta (fun H' hov => sta_call rfl rfl (cI _)) rfl ?_
      (repeat (first | refine RS.Sv ?_ | refine RS.Yv ?_ | refine RS.no rfl (by decide) rfl ?_ | refine RS.nil ?_))
      refine RS.sta (r_loadMut (d := intsD u.e) rfl g11q rfl) rfl ?_
      (repeat (first | refine RS.Sv ?_ | refine RS.Yv ?_ | refine RS.no rfl (by decide) rfl ?_ | refine RS.nil ?_))
      refine RS.sta (r_loadMut (d := intsD w.e) rfl g15 rfl) rfl ?_
      refine RS.sta (fun H' hov => sta_call rfl rfl (cP _)) rfl ?_
      refine RS.sta (fun H' hov => s_buildT (out := [I (byOf r u w).c, intsD (byOf r u w).e]) rfl rfl) rfl ?_
      refine RS.nil ?_
      intro b16 hb16
      refine RO.dyn rfl (d_storeTm (tm := byOf r u w) rfl rfl (Heap.set_self _ _ _) rfl ?_)
      rw [Heap.set_set]
      refine RO.nil ?_
      refine DW.asH (fun H5 => H5 b16 = some (50, tmCl (byOf r u w)) ∧ Over H3 H5) ⟨Heap.set_self _ _ _, fun c z hc => Over.other hb16 c z (gov4 c z hc)⟩ fun H5 ⟨g16, gov5⟩ => ?_
      have hrow5 := gov5 _ _ hrow3
      (repeat (first | refine RO.Sv ?_ | refine RO.Yv ?_ | refine RO.no rfl (by decide) rfl ?_ | refine RO.nil ?_ | refine DW.region ?_ | refine DW.seq ?_ | refine DW.block ?_ | refine DW.skip ?_ | refine DW.exit ?_ | refine DW.condT rfl ?_ | refine DW.condF rfl ?_))
      refine DW.drawS 10 Tryz.mixed (by kernel_rfl) (by decide) ?_
      dsimp only [List.take, List.drop]
      (repeat (first | refine RS.Sv ?_ | refine RS.Yv ?_ | refine RS.no rfl (by decide) rfl ?_ | refine RS.nil ?_))
      refine RS.sta (fun H' hov => s_indexRef (i := i) rfl rfl hil) rfl ?_
      refine RS.sta (r_loadMut (d := plD s.q[i]) rfl hrow5 (by rw [show 0 + i * 1 = i by omega, List.getElem?_map, List.getElem?_eq_getElem hiq]; rfl)) rfl ?_
      refine RS.sta (r_loadMutAgg (ds := tmCl (byOf r u w)) rfl g16 rfl rfl) rfl ?_
      (repeat (first | refine RS.Sv ?_ | refine RS.Yv ?_ | refine RS.no rfl (by decide) rfl ?_ | refine RS.nil ?_))
      refine RS.sta (fun H' hov => sta_call rfl rfl (refSum_pure r s.q[i] [byOf r u w] (n := r.n.toNat) (B := 8000) hn3 (by omega) hp (by simp; omega) q1 (PB.one tb) _)) rfl ?_
      refine RS.nil ?_
      refine RO.sta (s_indexRef (i := i) rfl rfl hil) rfl ?_
      refine RO.dyn rfl (d_store (k := 1) rfl rfl rfl hrow5 (by simp [cellsOf, plD]; omega) (by simp [cellsOf, D.isCell, plD]) ?_)
      rw [set_map_pl _ _ _ hiq]
      refine RO.nil ?_
      have h16bq : b16 ≠ bq := fun e => by rw [e, gov4 _ _ hrow3] at hb16; cases hb16
      have hqs : (stepB r l s u i).q = s.q.set i (sumT r.p r.order s.q[i] [byOf r u w]) := by
        unfold stepB
        rw [hby, List.getD_eq_getElem?_getD, List.getD_eq_getElem?_getD, List.getElem?_eq_getElem hiq]; rfl
      rw [← hqs]
      refine DW.asH (fun H6 => H6 bq = some (31, (stepB r l s u i).q.map plD) ∧ ∀ c z, H5 c = some z → c ≠ bq → H6 c = some z) ⟨Heap.set_self _ _ _, fun c z hc h => by rw [Heap.set_other _ _ h]; exact hc⟩ fun H6 ⟨hrow6, hp6⟩ => ?_
      have g16' := hp6 _ _ g16 h16bq
      (repeat (first | refine RO.Sv ?_ | refine RO.Yv ?_ | refine RO.no rfl (by decide) rfl ?_ | refine RO.nil ?_ | refine DW.region ?_ | refine DW.seq ?_ | refine DW.block ?_ | refine DW.skip ?_ | refine DW.exit ?_ | refine DW.condT rfl ?_ | refine DW.condF rfl ?_))
      refine DW.drawS 15 Tryz.mixed (by kernel_rfl) (by decide) ?_
      dsimp only [List.take, List.drop]
      (repeat (first | refine RS.Sv ?_ | refine RS.Yv ?_ | refine RS.no rfl (by decide) rfl ?_ | refine RS.nil ?_))
      refine RS.sta (r_loadMut (d := I (byOf r u w).c) rfl g16' rfl) rfl ?_
      (repeat (first | refine RS.Sv ?_ | refine RS.Yv ?_ | refine RS.no rfl (by decide) rfl ?_ | refine RS.nil ?_))
      refine RS.sta (r_loadMut (d := intsD (byOf r u w).e) rfl g16' rfl) rfl ?_
      refine RS.sta (fun H' hov => s_buildT (out := [I (negT r (byOf r u w)).c, intsD (negT r (byOf r u w)).e]) rfl rfl) rfl ?_
      (repeat (first | refine RS.Sv ?_ | refine RS.Yv ?_ | refine RS.no rfl (by decide) rfl ?_ | refine RS.nil ?_))
      refine RS.sta (fun H' hov => sta_call rfl rfl (cT _)) rfl ?_
      (repeat (first | refine RS.Sv ?_ | refine RS.Yv ?_ | refine RS.no rfl (by decide) rfl ?_ | refine RS.nil ?_))
      (repeat (first | refine RO.Sv ?_ | refine RO.Yv ?_ | refine RO.no rfl (by decide) rfl ?_ | refine RO.nil ?_ | refine DW.region ?_ | refine DW.seq ?_ | refine DW.block ?_ | refine DW.skip ?_ | refine DW.exit ?_ | refine DW.condT rfl ?_ | refine DW.condF rfl ?_))
      refine RO.sta (sta_call rfl rfl (VSum_pure r s.v (vbyT r l[i] (negT r (byOf r u w))) (n := r.n.toNat) (B := 16000) (L := 512192024001) (M := 512192024001) hn3 (by omega) hp (by omega) (by rw [hsv]; simp [vbyT, hdl.len]) (by omega) (hvd.vb.mono (by omega) (Nat.le_refl _)) (VB.by (by omega) hpr hdi.vb tn.zero) _)) rfl ?_
      have hvs : (stepB r l s u i).v = vsumT r s.v (vbyT r l[i] (negT r (byOf r u w))) := by
        unfold stepB
        rw [hby, List.getD_eq_getElem?_getD, List.getElem?_eq_getElem hil]; rfl
      rw [← hvs]
      (repeat (first | refine RO.Sv ?_ | refine RO.Yv ?_ | refine RO.no rfl (by decide) rfl ?_ | refine RO.nil ?_ | refine DW.region ?_ | refine DW.seq ?_ | refine DW.block ?_ | refine DW.skip ?_ | refine DW.exit ?_ | refine DW.condT rfl ?_ | refine DW.condF rfl ?_))
      refine ⟨(stepB r l s u i, H6, ds), ⟨(hi.at_.stepB hl hx hg).1, hrow6, fun c z hc => hp6 c z (gov5 _ _ (hkeep3 c z hc)) (fun e => by rw [e, hbq] at hc; cases hc), ?_⟩, n2, Heap.sub_refl _, (by repeat first | exact trivial | refine HasG.one rfl ?_ | refine HasN.one rfl ?_)⟩
      exact (hrows3.over gov5).frame fun c z hc hh => hp6 c z hc fun e => hh.elim (fun h => hneL (e.symm.trans h)) fun h => h (.inr e)

end Go.Proofs.YtcdihmhmoddppaaGreat

namespace Go.Proofs.YtcdihmhmoddppaaGreat
open Go.RowKit
set_option linter.unusedVariables false
set_option linter.unusedSimpArgs false

def ngT (p : Int) (t : Tm) : Tm := ⟨p - t.c, t.e⟩
def ngP (p : Int) (f : Pl) : Pl := f.map (ngT p)
def ngV (p : Int) (v : Vc) : Vc := v.map (ngP p)

theorem TB.ng {p : Int} {n : Nat} {B : Int} {t : Tm} (h : TB 1 p n B t) : TB 1 p n B (ngT p t) := ⟨by have := h.hi; show 1 ≤ p - t.c; omega, by have := h.lo; show p - t.c < p; omega, h.len, h.mem⟩

theorem PB.ng {p o : Int} {n : Nat} {B : Int} {f : Pl} (h : PB 1 p o n B f) : PB 1 p o n B (ngP p f) := by
  refine ⟨fun t ht => ?_, ?_⟩
  · obtain ⟨u, hu, rfl⟩ := List.mem_map.1 ht
    exact (h.all u hu).ng
  · exact List.Pairwise.map _ (fun a b hab => hab) h.sorted

theorem Lf_ng (p : Int) (φ : List Int → Int) : ∀ f : Pl, p ∣ Lf φ (ngP p f) + Lf φ f
  | [] => ⟨0, by simp [Lf, ngP]⟩
  | t :: f => by
    obtain ⟨k, hk⟩ := Lf_ng p φ f
    refine ⟨k + φ t.e, ?_⟩
    show ((p - t.c) * φ t.e + Lf φ (ngP p f)) + (t.c * φ t.e + Lf φ f) = _
    grind

theorem sumT_ng {p o : Int} {n : Nat} {B : Int} (hp : 0 < p) {f g : Pl} (hf : PB 1 p o n B f) (hg : PB 1 p o n B g) : sumT p o (ngP p f) (ngP p g) = ngP p (sumT p o f g) := by
  refine PB.uniq hp (sumT_ok hp _ _ hf.ng hg.ng) (sumT_ok hp _ _ hf hg).ng fun φ => ?_
  have h1 := sumT_L hp φ _ _ hf.ng hg.ng
  have h2 := sumT_L hp φ _ _ hf hg
  have h3 := Lf_ng p φ f
  have h4 := Lf_ng p φ g
  have h5 := Lf_ng p φ (sumT p o f g)
  have := Int.dvd_sub (Int.dvd_add (Int.dvd_add (Int.dvd_add h1 h2) h3) h4) h5
  rwa [show ∀ a b c s f g x : Int, a - (b + c) + (s - (f + g)) + (b + f) + (c + g) - (x + s) = a - x by intros; omega] at this

theorem byT_ng {p o : Int} {n : Nat} {B C : Int} (hp : 1 < p) (hpr : Prm p) {f : Pl} (hf : PB 1 p o n B f) {t : Tm} (ht : TB 1 p n C t) : byT p f (ngT p t) = ngP p (byT p f t) := by
  have z1 : TB 0 p n C t := ht.mono (by omega) (Int.le_refl _)
  have z2 : TB 0 p n C (ngT p t) := ht.ng.mono (by omega) (Int.le_refl _)
  refine PB.uniq (by omega) (byT_ok hp hpr hf z2) (byT_ok hp hpr hf z1).ng fun φ => ?_
  obtain ⟨k1, h1⟩ := byT_L (p := p) φ (ngT p t) f
  obtain ⟨k2, h2⟩ := byT_L (p := p) φ t f
  obtain ⟨k3, h3⟩ := Lf_ng p φ (byT p f t)
  have e : (ngT p t).c * Lf (shift φ (ngT p t).e) f = (p - t.c) * Lf (shift φ t.e) f := rfl
  rw [e] at h1
  exact ⟨k1 + k2 - k3 + Lf (shift φ t.e) f, by grind⟩

theorem ngV_getD (p : Int) (v : Vc) (k : Nat) : (ngV p v).getD k [] = ngP p (v.getD k []) := by
  rw [List.getD_eq_getElem?_getD, List.getD_eq_getElem?_getD]
  unfold ngV
  rw [List.getElem?_map]
  cases v[k]? <;> rfl

def ngX (p : Int) (x : Option (Nat × Tm)) : Option (Nat × Tm) := x.map fun y => (y.1, ngT p y.2)

theorem topAt_ng (r : Rg) (v : Vc) : ∀ k, topAt r (ngV r.p v) k = ngX r.p (topAt r v k)
  | 0 => rfl
  | k + 1 => by
    show topStep r (topAt r (ngV r.p v) k) k ((ngV r.p v).getD k []) = ngX r.p (topStep r (topAt r v k) k (v.getD k []))
    rw [topAt_ng r v k, ngV_getD]
    cases v.getD k [] with
    | nil => rfl
    | cons t f =>
      show (match ngX r.p (topAt r v k) with | none => some (k, ngT r.p t) | some (a, u) => if firstT r k t.e a u.e = true then some (k, ngT r.p t) else some (a, u)) = ngX r.p (match topAt r v k with | none => some (k, t) | some (a, u) => if firstT r k t.e a u.e = true then some (k, t) else some (a, u))
      cases topAt r v k with
      | none => rfl
      | some x =>
        obtain ⟨a, u⟩ := x
        show (if firstT r k t.e a u.e = true then some (k, ngT r.p t) else some (a, ngT r.p u)) = ngX r.p (if firstT r k t.e a u.e = true then some (k, t) else some (a, u))
        split <;> rfl

theorem topV_ng (r : Rg) (v : Vc) : topV r (ngV r.p v) = ngX r.p (topV r v) := by
  unfold topV
  rw [show (ngV r.p v).length = v.length by simp [ngV]]
  exact topAt_ng r v _

theorem muT_ng (r : Rg) (v : Vc) : muT r (ngV r.p v) = muT r v := by
  unfold muT
  rw [topV_ng]
  cases topV r v <;> rfl

theorem vsumT_ng {r : Rg} {n : Nat} {B : Int} (hp : 0 < r.p) : ∀ {v w : Vc}, (∀ f ∈ v, PB 1 r.p r.order n B f) → (∀ f ∈ w, PB 1 r.p r.order n B f) → vsumT r (ngV r.p v) (ngV r.p w) = ngV r.p (vsumT r v w)
  | [], w, _, _ => by cases w <;> rfl
  | f :: v, [], _, _ => rfl
  | f :: v, g :: w, h1, h2 => by
    have ih := vsumT_ng hp (v := v) (w := w) (fun x hx => h1 x (by simp [hx])) (fun x hx => h2 x (by simp [hx]))
    show sumT r.p r.order (ngP r.p f) (ngP r.p g) :: vsumT r (ngV r.p v) (ngV r.p w) = ngP r.p (sumT r.p r.order f g) :: ngV r.p (vsumT r v w)
    rw [ih, sumT_ng hp (h1 f (by simp)) (h2 g (by simp))]

theorem vbyT_ng {r : Rg} {n : Nat} {B C : Int} (hp : 1 < r.p) (hpr : Prm r.p) {d : Vc} (hd : ∀ f ∈ d, PB 1 r.p r.order n B f) {t : Tm} (ht : TB 1 r.p n C t) : vbyT r d (ngT r.p t) = ngV r.p (vbyT r d t) := by
  unfold vbyT ngV
  rw [List.map_map]
  exact List.map_congr_left fun f hf => byT_ng hp hpr (hd f hf) ht

theorem byOf_ng {r : Rg} {u w : Tm} (hp : ckP r.p = 0) (hu : 1 ≤ u.c ∧ u.c < r.p) (hw : 1 ≤ w.c ∧ w.c < r.p) : byOf r (ngT r.p u) w = ngT r.p (byOf r u w) := by
  have hp2 := ckP_ok hp
  obtain ⟨i1, i2, _⟩ := inv_facts hp hu hw
  unfold byOf ngT
  congr 1
  show (r.p - u.c) * turnP r.p w.c % r.p = r.p - u.c * turnP r.p w.c % r.p
  have h1 := emod_dvd r.p ((r.p - u.c) * turnP r.p w.c)
  have h2 := emod_dvd r.p (u.c * turnP r.p w.c)
  refine small_eq (p := r.p) ?_ (Int.emod_nonneg _ (by omega)) (Int.emod_lt_of_pos _ (by omega)) (by omega) (by omega)
  obtain ⟨k1, h1⟩ := h1
  obtain ⟨k2, h2⟩ := h2
  exact ⟨k1 + k2 + turnP r.p w.c - 1, by grind⟩

theorem set_ng (p : Int) (v : Vc) (a : Nat) (f : Pl) : ngV p (v.set a f) = (ngV p v).set a (ngP p f) := by
  unfold ngV
  rw [List.map_set]

structure NgS (r : Rg) (s s' : DS) : Prop where
  v : s'.v = ngV r.p s.v
  left : s'.left = ngV r.p s.left

theorem stepA_ng {r : Rg} {s s' : DS} (h : NgS r s s') (a : Nat) (u : Tm) : NgS r (stepA s a u) (stepA s' a (ngT r.p u)) := by
  refine ⟨?_, ?_⟩
  · show s'.v.set a (s'.v.getD a []).tail = ngV r.p (s.v.set a (s.v.getD a []).tail)
    rw [h.v, ngV_getD, set_ng]
    congr 1
    cases s.v.getD a [] <;> rfl
  · show s'.left.set a (s'.left.getD a [] ++ [ngT r.p u]) = ngV r.p (s.left.set a (s.left.getD a [] ++ [u]))
    rw [h.left, ngV_getD, set_ng]
    congr 1
    simp [ngP]

theorem stepB_ng {r : Rg} {rank : Nat} {l : List Vc} {s s' : DS} (hl : DL r rank l) (hi : DInv r rank l s) (h : NgS r s s') {a i : Nat} {u : Tm} (ht : topV r s.v = some (a, u)) (hg : goesT r l a u.e = some i) : NgS r (stepB r l s u i) (stepB r l s' (ngT r.p u) i) := by
  obtain ⟨hp, hn3, hn1, hpr, hck⟩ := hl.rg
  have hrk := hl.rank2
  refine ⟨?_, h.left⟩
  obtain ⟨hil, w, htw, hgo⟩ := goesT_some hg
  have hvd := hi.vd
  have hdd := (hl.vecs _ (List.getElem_mem hil)).vd hn3 hrk
  have iv := topV_is hvd ht
  have iw := topV_is hdd htw
  obtain ⟨f, hf⟩ := iv.at_
  obtain ⟨g, hgd⟩ := iw.at_
  have hua := hvd.all a iv.lt
  have hwa := hdd.all a iw.lt
  rw [hf] at hua
  rw [hgd] at hwa
  obtain ⟨b1, b2, b3, b4, b5⟩ := byOf_ok hck hua.head iv.me hwa.head iw.me hgo
  have hgetl : l.getD i [] = l[i] := by rw [List.getD_eq_getElem?_getD, List.getElem?_eq_getElem hil]; rfl
  have hby : ∀ x, byAt r l x i = byOf r x w := fun x => by unfold byAt; rw [hgetl, htw]; rfl
  show vsumT r s'.v (vbyT r (l.getD i []) (negT r (byAt r l (ngT r.p u) i))) = ngV r.p (vsumT r s.v (vbyT r (l.getD i []) (negT r (byAt r l u i))))
  rw [hby, hby, byOf_ng hck ⟨hua.head.lo, hua.head.hi⟩ ⟨hwa.head.lo, hwa.head.hi⟩, h.v, hgetl]
  have hneg := negT_ok b1
  rw [show negT r (ngT r.p (byOf r u w)) = ngT r.p (negT r (byOf r u w)) from rfl, vbyT_ng (by omega) hpr (fun x hx => (hdd.vb x hx).1) hneg]
  refine vsumT_ng (n := r.n.toNat) (B := 16000) (by omega) (fun x hx => (hvd.vb x hx).1.mono (by omega) (by omega)) fun x hx => ?_
  unfold vbyT at hx
  obtain ⟨y, hy, rfl⟩ := List.mem_map.1 hx
  exact (byT_ok (by omega) hpr (hdd.vb y hy).1 hneg.zero).mono (by omega) (by omega)

theorem divRun_ng {r : Rg} {rank : Nat} {l : List Vc} (hl : DL r rank l) : ∀ (n : Nat) {s s' : DS}, DInv r rank l s → NgS r s s' → NgS r (divRun r l n s) (divRun r l n s')
  | 0, s, s', _, h => h
  | n + 1, s, s', hi, h => by
    show NgS r (match stepT r l s with | none => s | some x => divRun r l n x) (match stepT r l s' with | none => s' | some x => divRun r l n x)
    cases hx : topV r s.v with
    | none =>
      have e1 : stepT r l s = none := by unfold stepT; rw [hx]
      have e2 : stepT r l s' = none := by unfold stepT; rw [h.v, topV_ng, hx]; rfl
      rw [e1, e2]
      exact h
    | some y =>
      obtain ⟨a, u⟩ := y
      have hx' : topV r s'.v = some (a, ngT r.p u) := by rw [h.v, topV_ng, hx]; rfl
      cases hg : goesT r l a u.e with
      | none =>
        have e1 : stepT r l s = some (stepA s a u) := by unfold stepT; rw [hx]; dsimp only; rw [hg]
        have e2 : stepT r l s' = some (stepA s' a (ngT r.p u)) := by
          unfold stepT; rw [hx']; dsimp only
          rw [show (ngT r.p u).e = u.e from rfl, hg]
        rw [e1, e2]
        exact divRun_ng hl n (stepA_ok hl hi hx hg).1 (stepA_ng h a u)
      | some i =>
        have e1 : stepT r l s = some (stepB r l s u i) := by unfold stepT; rw [hx]; dsimp only; rw [hg]
        have e2 : stepT r l s' = some (stepB r l s' (ngT r.p u) i) := by
          unfold stepT; rw [hx']; dsimp only
          rw [show (ngT r.p u).e = u.e from rfl, hg]
        rw [e1, e2]
        exact divRun_ng hl n (stepB_ok hl hi hx hg).1 (stepB_ng hl hi h hx hg)

/-- What is left of the opposite is the opposite of what is left. -/
theorem divT_ng {r : Rg} {rank : Nat} {l : List Vc} {v : Vc} (hl : DL r rank l) (hv : VIn r rank v) : (divT r rank l (ngV r.p v)).left = ngV r.p (divT r rank l v).left := by
  unfold divT
  rw [muT_ng]
  refine (divRun_ng hl _ (divInit_ok hl hv) ⟨rfl, ?_⟩).left
  show List.replicate rank [] = ngV r.p (List.replicate rank [])
  unfold ngV
  rw [List.map_replicate]
  rfl

end Go.Proofs.YtcdihmhmoddppaaGreat

namespace Go.Proofs.YtcdihmhmoddppaaGreat
open Go.RowKit
set_option linter.unusedVariables false
set_option linter.unusedSimpArgs false

/-- Are all polynomials of a vector without terms? -/
def emptyT (v : Vc) : Bool := v.all List.isEmpty

/-- Is a polynomial's degree too great to be asked about? -/
def big40 (f : Pl) : Bool := decide ((40 : Int) < topT f)

/-- By which term a vector's lead becomes a monomial. -/
def upT (r : Rg) (w : Tm) (e : List Int) : Tm := ⟨turnP r.p w.c, zipE (· - ·) e w.e⟩

/-- The first times its term, less the second times its. -/
def lessT (r : Rg) (v w : Vc) (a b : Tm) : Vc := vsumT r (vbyT r v a) (vbyT r w (negT r b))

theorem empty_ng (p : Int) (v : Vc) : emptyT (ngV p v) = emptyT v := by
  unfold emptyT ngV
  rw [List.all_map]
  congr 1
  funext f
  cases f <;> rfl

/-- What two vectors, by their leads, come to. -/
def pairV (r : Rg) (x y : Vc) : Vc := lessT r x y (upT r (tmOf (topV r x)) (zipE max (tmOf (topV r x)).e (tmOf (topV r y)).e)) (upT r (tmOf (topV r y)) (zipE max (tmOf (topV r x)).e (tmOf (topV r y)).e))

/-- Does a pair leave something? -/
def badP (r : Rg) (rank : Nat) (l : List Vc) (j k : Nat) : Bool :=
  decide (0 ≤ atOf (topV r (l.getD j []))) && ((atOf (topV r (l.getD j [])) == atOf (topV r (l.getD k []))) && !emptyT (divT r rank l (pairV r (l.getD j []) (l.getD k []))).left)

def isBasisT (r : Rg) (rank : Nat) (l : List Vc) : Bool := (List.range l.length).all fun k => (List.range k).all fun j => !badP r rank l j k

theorem isBasis_yes {r : Rg} {rank : Nat} {l : List Vc} (h : ∀ k, k < l.length → ∀ j, j < k → badP r rank l j k = false) : isBasisT r rank l = true :=
  List.all_eq_true.2 fun k hk => List.all_eq_true.2 fun j hj => by rw [h k (List.mem_range.1 hk) j (List.mem_range.1 hj)]; rfl

theorem isBasis_no {r : Rg} {rank : Nat} {l : List Vc} {j k : Nat} (hk : k < l.length) (hj : j < k) (h : badP r rank l j k = true) : isBasisT r rank l = false := by
  cases hb : isBasisT r rank l
  · rfl
  · have h1 := List.all_eq_true.1 hb k (List.mem_range.2 hk)
    have h2 := List.all_eq_true.1 h1 j (List.mem_range.2 hj)
    rw [h] at h2
    cases h2

/-- The list, and no degree above 40. -/
structure D40 (r : Rg) (rank : Nat) (l : List Vc) : Prop where
  dl : DL r rank l
  deg : ∀ v ∈ l, ∀ f ∈ v, DB 40 f

theorem max_sum : ∀ {a b : List Int}, a.length = b.length → (∀ x ∈ a, 0 ≤ x) → (∀ x ∈ b, 0 ≤ x) → a.sum ≤ (zipE max a b).sum ∧ b.sum ≤ (zipE max a b).sum ∧ (zipE max a b).sum ≤ a.sum + b.sum ∧ ∀ x ∈ zipE max a b, 0 ≤ x
  | [], [], _, _, _ => ⟨Int.le_refl _, Int.le_refl _, Int.le_refl _, fun x h => by cases h⟩
  | x :: a, y :: b, h, h1, h2 => by
    obtain ⟨i1, i2, i3, i4⟩ := max_sum (a := a) (b := b) (by simpa using h) (fun z hz => h1 z (by simp [hz])) (fun z hz => h2 z (by simp [hz]))
    have hx := h1 x (by simp)
    have hy := h2 y (by simp)
    have e : zipE max (x :: a) (y :: b) = max x y :: zipE max a b := rfl
    rw [e, List.sum_cons, List.sum_cons, List.sum_cons]
    refine ⟨by omega, by omega, by omega, fun z hz => ?_⟩
    rcases List.mem_cons.1 hz with rfl | hz
    · omega
    · exact i4 z hz

theorem max_sub : ∀ {a b w : List Int}, a.length = b.length → (w = a ∨ w = b) → (∀ x ∈ zipE (· - ·) (zipE max a b) w, 0 ≤ x) ∧ (zipE (· - ·) (zipE max a b) w).length = a.length ∧ (zipE (· - ·) (zipE max a b) w).sum = (zipE max a b).sum - w.sum := by
  intro a
  induction a with
  | nil =>
    intro b w h hw
    have hb : b = [] := List.length_eq_zero_iff.1 (by simpa using h.symm)
    subst hb
    rcases hw with rfl | rfl <;> exact ⟨(fun x h => by cases h), rfl, rfl⟩
  | cons x a ih =>
    intro b w h hw
    match b, h with
    | y :: b, h =>
      have hl : a.length = b.length := by simpa using h
      rcases hw with rfl | rfl
      · obtain ⟨i1, i2, i3⟩ := ih hl (.inl rfl)
        have e : zipE (· - ·) (zipE max (x :: a) (y :: b)) (x :: a) = (max x y - x) :: zipE (· - ·) (zipE max a b) a := rfl
        have e2 : zipE max (x :: a) (y :: b) = max x y :: zipE max a b := rfl
        rw [e, e2]
        refine ⟨fun z hz => ?_, by simpa using i2, by rw [List.sum_cons, List.sum_cons, List.sum_cons, i3]; omega⟩
        rcases List.mem_cons.1 hz with rfl | hz
        · omega
        · exact i1 z hz
      · obtain ⟨i1, i2, i3⟩ := ih hl (.inr rfl)
        have e : zipE (· - ·) (zipE max (x :: a) (y :: b)) (y :: b) = (max x y - y) :: zipE (· - ·) (zipE max a b) b := rfl
        have e2 : zipE max (x :: a) (y :: b) = max x y :: zipE max a b := rfl
        rw [e, e2]
        refine ⟨fun z hz => ?_, by simpa using i2, by rw [List.sum_cons, List.sum_cons, List.sum_cons, i3]; omega⟩
        rcases List.mem_cons.1 hz with rfl | hz
        · omega
        · exact i1 z hz

theorem turn_lo {p c : Int} (hp : ckP p = 0) (h0 : 1 ≤ c) (h1 : c < p) : 1 ≤ turnP p c ∧ turnP p c < p := by
  have hp2 := ckP_ok hp
  obtain ⟨h2, h3⟩ := turnP_in (p := p) (by omega) c
  refine ⟨?_, h3⟩
  have := turnP_inv' hp c (by omega) h1
  by_cases hz : turnP p c = 0
  · rw [hz, Int.mul_zero] at this
    have : (0 : Int) % p = 0 := Int.zero_emod p
    omega
  · omega

/-- The lead of a vector of such a list. -/
structure LeadIs (r : Rg) (v : Vc) (a : Nat) (u : Tm) : Prop where
  at_ : topV r v = some (a, u)
  tb : TB 1 r.p r.n.toNat 200 u
  deg : u.e.sum ≤ 40

theorem D40.lead {r : Rg} {rank : Nat} {l : List Vc} (h : D40 r rank l) {v : Vc} (hv : v ∈ l) (ht : 0 ≤ atOf (topV r v)) : ∃ a u, LeadIs r v a u := by
  cases hx : topV r v with
  | none => rw [hx] at ht; exact absurd ht (by decide)
  | some x =>
    obtain ⟨a, u⟩ := x
    have hvd := (h.dl.vecs v hv).vd h.dl.rg.2.1 h.dl.rank2
    have iv := topV_is hvd hx
    obtain ⟨f, hf⟩ := iv.at_
    have hm : v[a]'iv.lt ∈ v := List.getElem_mem _
    have hp := ((h.dl.vecs v hv).all _ hm).ok
    have hd := h.deg v hv _ hm
    rw [hf] at hp hd
    exact ⟨a, u, hx, hp.head, hd u (by simp)⟩

structure UpOk (r : Rg) (a b : Tm) (w : Tm) : Prop where
  tb : TB 1 r.p r.n.toNat 200 (upT r w (zipE max a.e b.e))
  deg : (upT r w (zipE max a.e b.e)).e.sum ≤ 80
  len : (upT r w (zipE max a.e b.e)).e.length = r.n.toNat

theorem up_ok {r : Rg} {a b w : Tm} (hp : ckP r.p = 0) (ha : TB 1 r.p r.n.toNat 200 a) (hb : TB 1 r.p r.n.toNat 200 b) (hda : a.e.sum ≤ 40) (hdb : b.e.sum ≤ 40) (hw : w = a ∨ w = b) : UpOk r a b w := by
  have hl : a.e.length = b.e.length := by rw [ha.len, hb.len]
  obtain ⟨s1, s2, s3, s4⟩ := max_sum hl (fun x hx => (ha.mem x hx).1) (fun x hx => (hb.mem x hx).1)
  obtain ⟨m1, m2, m3⟩ := max_sub (w := w.e) hl (by rcases hw with rfl | rfl; exact .inl rfl; exact .inr rfl)
  have hwt : TB 1 r.p r.n.toNat 200 w := by rcases hw with rfl | rfl <;> assumption
  obtain ⟨t1, t2⟩ := turn_lo hp hwt.lo hwt.hi
  have hw0 : 0 ≤ w.e.sum := sum_nonneg fun x hx => (hwt.mem x hx).1
  have hsum : (upT r w (zipE max a.e b.e)).e.sum ≤ 80 := by show (zipE (· - ·) (zipE max a.e b.e) w.e).sum ≤ 80; rw [m3]; omega
  have hlen : (upT r w (zipE max a.e b.e)).e.length = r.n.toNat := by show (zipE (· - ·) (zipE max a.e b.e) w.e).length = _; rw [m2, ha.len]
  exact ⟨⟨t1, t2, hlen, fun x hx => ⟨m1 x hx, by have := mem_le_sum m1 x hx; have : (zipE (· - ·) (zipE max a.e b.e) w.e).sum ≤ 80 := hsum; omega⟩⟩, hsum, hlen⟩

end Go.Proofs.YtcdihmhmoddppaaGreat
