/-
  Package vector: great, First, Top, Lead; the document's Ahead, LeadOf. No condition.
-/
import Derived.Test.YtblileclefbklaaKVo12
import Derived.Test.YtblileclefbklaaKVo14
import Derived.Test.YtblileclefbklaaKVo15

namespace Go.Proofs.Ytblileclefbklaa
open Go.RowKit
set_option linter.unusedVariables false
set_option linter.unusedSimpArgs false

/-- What a function's result variables hold. -/
inductive ResR (P : Program) (e : Env) (H : Heap) : List ResultVar → List D → Prop
  | nil : ResR P e H [] []
  | tmp {t : Tmp} {d : D} {l : List ResultVar} {ds : List D} (h : e.get t = some d) (r : ResR P e H l ds) : ResR P e H (.tmp t :: l) (d :: ds)
  | cell {x : Tmp} {t T0 : TypeId} {b : Nat} {cells : List D} {l : List ResultVar} {ds : List D} (ht : AggT P t cells.length) (h : e.get x = some (.ptr b 0)) (hH : H b = some (T0, cells)) (r : ResR P e H l ds) : ResR P e H (.cell x t :: l) (.agg cells :: ds)

theorem run_cellRes {P : Program} {w : World} {H : Heap} {t T0 : TypeId} {b : Nat} {cells : List D} [AggT P t cells.length] (ho : HOK w H) (hH : H b = some (T0, cells)) : ∃ v, (loadVar t ⟨b, 0, none⟩).run P w = .ok v w ∧ Rep w H v (.agg cells) := by
  obtain ⟨td, inf, hu, hd, hi, hs⟩ := AggT.h (P := P) (t := t) (k := cells.length)
  obtain ⟨cs, hcb, hcl, hcr⟩ := ho b T0 cells hH
  have hvs : ∀ (m : Nat) (v : Value), ((List.range inf.size).map fun m => cs.getD m undef)[m]? = some v → w.cell? ((⟨b, 0, none⟩ : Addr).add m) = some v := fun m v hm => by
    simp only [List.getElem?_map, Option.map_eq_some_iff] at hm
    obtain ⟨m', hm', rfl⟩ := hm
    have hlt : m < inf.size := by
      have := (List.getElem?_eq_some_iff.1 hm').1
      simpa using this
    rw [List.getElem?_range hlt] at hm'
    cases hm'
    have hy : cells[m]? = some (cells[m]'(by omega)) := by simp
    obtain ⟨_, u, hu', _⟩ := hcr m _ hy
    rw [addr_add, cell_of_row w b (0 + m) cs T0 (0, 0) hcb, Nat.zero_add, hu']
    simp [Array.getD_eq_getD_getElem?, hu']
  have hload := run_load_agg hu hd hi w (by simp) hvs
  simp only [Instr.loadAt, Instr.sureAddr, Sem.run_bind, Sem.run_pure, Result.andThen_ok] at hload
  refine ⟨_, hload, RepsA.agg ⟨by simp [hs], fun m y hy => ?_⟩⟩
  have hlt : m < inf.size := by rw [hs]; exact (List.getElem?_eq_some_iff.1 hy).1
  obtain ⟨_, u, hu', hrep⟩ := hcr m y hy
  exact ⟨u, by simp [hlt, Array.getD_eq_getD_getElem?, hu'], hrep⟩

theorem run_resultsR {C : Ctx} {a : Act} {w : World} {e : Env} {H : Heap} (hs : St C a w e H) (fn : Func) {ds : List D} (h : ResR C.P e H fn.results.toList ds) : ∃ v, (results fn a.tmps).run C.P w = .ok v w ∧ Rep w H v (resOne ds) := by
  have key : ∀ (l : List ResultVar) (ds : List D), ResR C.P e H l ds → ∃ vs : List Value, (l.mapM (resSem a.tmps)).run C.P w = .ok vs w ∧ RepsA w H vs.toArray ds := by
    intro l ds h
    induction h with
    | nil => exact ⟨[], by simp, rfl, fun j x hx => by simp at hx⟩
    | @tmp t d l ds hx r ih =>
      obtain ⟨vs, h1, h2⟩ := ih
      obtain ⟨v, hv, hrep⟩ := hs.env t d hx
      have hvd : a.tmps.getD t undef = v := by simp [Array.getD_eq_getD_getElem?, hv]
      refine ⟨v :: vs, ?_, by simpa using h2.1, fun j y hy => ?_⟩
      · rw [List.mapM_cons]
        simp only [resSem, Sem.run_bind, hvd, Sem.run_pure, Result.andThen_ok, h1]
      · cases j with
        | zero => simp at hy; subst hy; exact ⟨v, by simp, hrep⟩
        | succ j =>
          obtain ⟨u, hu, hrep'⟩ := h2.2 j y (by simpa using hy)
          exact ⟨u, by simpa using hu, hrep'⟩
    | @cell x t T0 b cells l ds ht hx hH r ih =>
      obtain ⟨vs, h1, h2⟩ := ih
      obtain ⟨v, hv, hrep⟩ := hs.env x _ hx
      have hvp := rep_ptr hrep
      subst hvp
      have hvd : a.tmps.getD x undef = .pointer (some ⟨b, 0, none⟩) := by simp [Array.getD_eq_getD_getElem?, hv]
      obtain ⟨v, hrun, hrep2⟩ := run_cellRes (P := C.P) (t := t) hs.heap hH
      refine ⟨v :: vs, ?_, by simpa using h2.1, fun j y hy => ?_⟩
      · rw [List.mapM_cons]
        simp only [resSem, Sem.run_bind, hvd, asAddr, Sem.run_pure, Result.andThen_ok, hrun, h1]
      · cases j with
        | zero => simp at hy; subst hy; exact ⟨v, by simp, hrep2⟩
        | succ j =>
          obtain ⟨u, hu, hrep'⟩ := h2.2 j y (by simpa using hy)
          exact ⟨u, by simpa using hu, hrep'⟩
  obtain ⟨vs, h1, h2⟩ := key fn.results.toList ds h
  have hmap : (fn.results.mapM (resSem a.tmps)).run C.P w = .ok vs.toArray w := by
    rw [← Array.toArray_toList (xs := fn.results), List.mapM_toArray, Sem.run_map, h1]
    rfl
  refine ⟨if h : vs.toArray.size = 1 then vs.toArray[0] else .tuple vs.toArray, ?_, ?_⟩
  · rw [results_eq]
    simp only [Sem.run_bind, hmap, Result.andThen_ok, Sem.run_pure]
  · have hlen : vs.length = ds.length := by simpa using h2.1
    match ds, hlen, h2 with
    | [], hlen, h2 =>
      rw [dif_neg (by simp [hlen])]
      exact h2.tup
    | [d], hlen, h2 =>
      rw [dif_pos (by simp [hlen])]
      obtain ⟨u, hu, hr⟩ := h2.2 0 d rfl
      have : vs.toArray[0]'(by simp [hlen]) = u := by
        rw [Array.getElem?_eq_getElem (by simp [hlen])] at hu
        exact Option.some.inj hu
      rw [this]
      exact hr
    | d :: d' :: ds, hlen, h2 =>
      rw [dif_neg (by simp [hlen])]
      exact h2.tup

theorem CallD.of_bodyR {P : Program} {H : Heap} {f : FuncId} {fn : Func} {c : Code} {ds : List D} {K : D → Heap → Prop} (hf : P.funcs[f]? = some fn) (hb : fn.body = some c) (hn : (fn.name == "runtime.NumGoroutine") = false) (hds : ds.length ≤ fn.ntmps)
    (h : ∀ w0 : World, DW ⟨P, fn.ntmps, w0, H⟩ c (argEnv 0 ds) H fun x e H' => (x = .ret ∨ x = .normal) ∧ ∃ rs d H'', ResR P e H' fn.results.toList rs ∧ H''.sub H' ∧ Frz H' H'' (resOne rs) d ∧ K d H'') : CallD P H f ds K := by
  refine ⟨⟨fn, hf, hn, by rw [hb]; rfl⟩, fun w args ho ha => ?_⟩
  refine calls_of_wp hf hb ?_
  have hst : St ⟨P, fn.ntmps, w, H⟩ { tmps := args ++ Array.replicate (fn.ntmps - args.size) undef, defers := [] } w (argEnv 0 ds) H := by
    refine ⟨by simp [ha.1]; omega, rfl, fun t d hd => ?_, ho, .refl _ _⟩
    obtain ⟨_, hd'⟩ := argEnv_get ds 0 t d hd
    obtain ⟨v, hv, hr⟩ := ha.2 t d (by simpa using hd')
    exact ⟨v, by rw [Array.getElem?_append_left (Array.getElem?_eq_some_iff.1 hv).1]; exact hv, hr⟩
  refine wp_mono ((h w).go _ w hst) fun x a' w' hx => ?_
  obtain ⟨e', H', ⟨hxx, rs, d, H'', hres, hsub, hfrz, hK⟩, s⟩ := hx
  obtain ⟨v, hrun, hrep⟩ := run_resultsR s fn hres
  have fin : a'.defers = [] ∧ ∃ v, (results fn a'.tmps).run P w' = .ok v w' ∧ ∃ v' d H', Ending.returned v = .returned v' ∧ K d H' ∧ Rep w' H' v' d ∧ HOK w' H' ∧ Ext w H w' H' :=
    ⟨s.defers, v, hrun, v, d, H'', rfl, hK, Rep.frz s.heap hsub hfrz hrep, s.heap.sub hsub, s.ext.sub hsub⟩
  rcases hxx with rfl | rfl
  · exact fin
  · exact fin

/-- A pure function some of whose results are cells, by its body. -/
theorem PureH.of_bodyR {P : Program} {H : Heap} {f : FuncId} {fn : Func} {c : Code} {ds : List D} {d : D} (hf : P.funcs[f]? = some fn) (hb : fn.body = some c) (hn : (fn.name == "runtime.NumGoroutine") = false) (hds : ds.length ≤ fn.ntmps)
    (h : ∀ w0 : World, DW ⟨P, fn.ntmps, w0, H⟩ c (argEnv 0 ds) H fun x e H' => (x = .ret ∨ x = .normal) ∧ ∃ rs, ResR P e H' fn.results.toList rs ∧ Over H H' ∧ Frz H' H (resOne rs) d) : PureH P H f ds d := by
  have := CallD.of_bodyR (K := fun d' H' => d' = d ∧ H' = H) hf hb hn hds (H := H) fun w0 => (h w0).mono fun x e H' ⟨h1, rs, h2, h3, h4⟩ => ⟨h1, rs, d, H, h2, h3, h4, rfl, rfl⟩
  exact ⟨this.body, fun w args ho ha => (this.calls w args ho ha).mono fun en w' ⟨v, d', H', h1, ⟨h2, h3⟩, h4, h5, h6⟩ => by subst h2; subst h3; exact ⟨v, h1, h4, h5, h6⟩⟩

/-- A row of nils, as a row of empty lists. -/
theorem frz_nils {H H' : Heap} {b n k : Nat} {T : TypeId} (hH : H b = some (T, List.replicate n D.nil)) (hn : H' b = none) : Frz H H' (.ref b 0 n 1) (.list 1 (List.replicate n (.list k []))) := by
  have h := Frz.ref (H := H) (H' := H') (b := b) (k := 1) (l := List.replicate n (D.list k [])) hH hn (fun i d hd => by
    rw [List.eq_of_mem_replicate (List.mem_of_getElem? hd)]; rfl) (by simp [cellsOf]) (fun j x y hx hy => by
    have h1 := List.eq_of_mem_replicate (List.mem_of_getElem? hx)
    have h2 : y ∈ (List.replicate n (D.list k [])).flatMap cellsOf := List.mem_of_getElem? hy
    obtain ⟨z, hz, hyz⟩ := List.mem_flatMap.1 h2
    rw [List.eq_of_mem_replicate hz] at hyz
    simp [cellsOf] at hyz
    rw [h1, hyz]
    exact .nil k)
  rwa [List.length_replicate] at h

/-- A row, some places of which are nil still. -/
theorem Frz.row {H H' : Heap} {b k n : Nat} {l : List D} {T : TypeId} {cells : List D} (hH : H b = some (T, cells)) (hn : H' b = none) (hu : Uni k l) (hl : n = l.length) (hc : (l.flatMap cellsOf).length = cells.length)
    (h : ∀ (j : Nat) (x y : D), cells[j]? = some x → (l.flatMap cellsOf)[j]? = some y → Frz H H' x y) : Frz H H' (.ref b 0 n k) (.list k l) := by
  subst hl
  exact .ref hH hn (fun i d hd => (hu d (List.mem_of_getElem? hd)).1) hc h

end Go.Proofs.Ytblileclefbklaa

namespace Go.Proofs.Ytblileclefbklaa
open Go.RowKit
set_option linter.unusedVariables false
set_option linter.unusedSimpArgs false
set_option maxHeartbeats 8000000

/-- Each polynomial of a vector, by a function. -/
theorem vEach_pureH {H : Heap} {f : FuncId} {caps : List D} (v o : Vc) (hl : v.length ≤ 1000000) (ho : o.length = v.length) (hg : ∀ H', Over H H' → ∀ (i : Nat) (h1 : i < v.length) (h2 : i < o.length), PureH Try.prog H' f (I i :: plD v[i] :: caps) (plD o[i])) :
    PureH Try.prog H 72 [vcD v, .fn f caps] (vcD o) := by
  refine PureH.of_body Try.func72 rfl (by decide) (Nat.le_of_ble_eq_true rfl) fun w0 => ?_
  (repeat (first | refine RO.S ?_ | refine RO.Y ?_ | refine RO.no rfl (by decide) rfl ?_ | refine RO.nil ?_ | refine DW.region ?_ | refine DW.seq ?_ | refine DW.block ?_ | refine DW.skip ?_ | refine DW.exit ?_ | refine DW.condT rfl ?_ | refine DW.condF rfl ?_))
  refine RO.dyn rfl (d_make rfl rfl (Nat.le_refl _) (by omega) (by omega) fun x hx => ?_)
  have hov : ∀ y, Over H (H.set x y) := fun y => (Over.refl _).set hx
  (repeat (first | refine RO.S ?_ | refine RO.Y ?_ | refine RO.no rfl (by decide) rfl ?_ | refine RO.nil ?_ | refine DW.region ?_ | refine DW.seq ?_ | refine DW.block ?_ | refine DW.skip ?_ | refine DW.exit ?_ | refine DW.condT rfl ?_ | refine DW.condF rfl ?_))
  rw [flatten_replicate1]
  refine DW.loopI (fun k : Nat => k ≤ v.length) (fun k => [(1, .fn f caps), (5, .ref x 0 v.length 1), (11, vcD v), (12, I v.length), (13, I k)]) (fun k => H.set x (41, rowTo (o.map plD) .nil k)) (fun k => v.length - k) 0 (Nat.zero_le _)
    (by rw [rowTo_zero, List.length_map, ho]) ⟨rfl, rfl, rfl, rfl, rfl, trivial⟩ fun k hk => ?_
  (repeat (first | refine RO.S ?_ | refine RO.Y ?_ | refine RO.no rfl (by decide) rfl ?_ | refine RO.nil ?_ | refine DW.region ?_ | refine DW.seq ?_ | refine DW.block ?_ | refine DW.skip ?_ | refine DW.exit ?_ | refine DW.condT rfl ?_ | refine DW.condF rfl ?_))
  refine DW.cond rfl (fun hb => ?_) (fun hb => ?_)
  · have hlt : k < v.length := by have := of_decide_eq_true hb; omega
    have hlt2 : k < o.length := by omega
    clear hb
    (repeat (first | refine RO.S ?_ | refine RO.Y ?_ | refine RO.no rfl (by decide) rfl ?_ | refine RO.nil ?_ | refine DW.region ?_ | refine DW.seq ?_ | refine DW.block ?_ | refine DW.skip ?_ | refine DW.exit ?_ | refine DW.condT rfl ?_ | refine DW.condF rfl ?_))
    refine RO.sta (sta_call rfl rfl (hg _ (hov _) k hlt hlt2)) rfl ?_
    refine RO.sta (s_indexRef rfl rfl hlt) rfl ?_
    refine RO.dyn rfl (d_store (k := 1) rfl rfl rfl (Heap.set_self _ _ _) (by rw [rowTo_len _ _ (by simp; omega)]; simp [cellsOf, plD]; omega) (by simp [cellsOf, D.isCell, plD]) ?_)
    (repeat (first | refine RO.S ?_ | refine RO.Y ?_ | refine RO.no rfl (by decide) rfl ?_ | refine RO.nil ?_ | refine DW.region ?_ | refine DW.seq ?_ | refine DW.block ?_ | refine DW.skip ?_ | refine DW.exit ?_ | refine DW.condT rfl ?_ | refine DW.condF rfl ?_))
    refine ⟨k + 1, hlt, by dsimp only; omega, ?_, rfl, rfl, rfl, rfl, rfl, trivial⟩
    rw [Heap.set_set]
    dsimp only
    have h1 := rowTo_set (l := o.map plD) (z := .nil) (k := k) (by simp; omega)
    rw [← h1]
    simp only [List.getElem_map, cellsOf, plD, Nat.zero_add, Nat.mul_one]
  · have hge : k = v.length := by have := of_decide_eq_false hb; omega
    subst hge
    (repeat (first | refine RO.S ?_ | refine RO.Y ?_ | refine RO.no rfl (by decide) rfl ?_ | refine RO.nil ?_ | refine DW.region ?_ | refine DW.seq ?_ | refine DW.block ?_ | refine DW.skip ?_ | refine DW.exit ?_ | refine DW.condT rfl ?_ | refine DW.condF rfl ?_))
    refine DW.ret ⟨.inl rfl, _, rfl, hov _, ?_⟩
    have : rowTo (o.map plD) .nil v.length = (o.map plD).flatMap cellsOf := by
      rw [flat_cells1 (fun _ => rfl)]
      have := rowTo_all (o.map plD) .nil
      rwa [List.length_map, ho] at this
    refine Frz.list (T := 41) (by rw [Heap.set_self, this]) hx (uni_pl _) (by simp [ho])

theorem vSum1_pureH {H : Heap} (r : Rg) (w : Vc) (i : Nat) (f g : Pl) (hi : i < w.length) (hs : PureH Try.prog H 37 [rgD r, plD f, plD w[i]] (plD g)) :
    PureH Try.prog H 83 [I i, plD f, .ipt 4 [rgD r] 0 0, .ipt 1 [vcD w] 0 0] (plD g) := by
  refine PureH.of_body Try.func83 rfl (by decide) (Nat.le_of_ble_eq_true rfl) fun w0 => ?_
  (repeat (first | refine RO.Sv ?_ | refine RO.Yv ?_ | refine RO.no rfl (by decide) rfl ?_ | refine RO.nil ?_ | refine DW.region ?_ | refine DW.seq ?_ | refine DW.block ?_ | refine DW.skip ?_ | refine DW.exit ?_ | refine DW.condT rfl ?_ | refine DW.condF rfl ?_))
  refine DW.drawS 6 Try.mixed (by kernel_rfl) (by decide) ?_
  dsimp only [List.take, List.drop]
  (repeat (first | refine RS.Sv ?_ | refine RS.Yv ?_ | refine RS.no rfl (by decide) rfl ?_ | refine RS.nil ?_))
  refine RO.sta (sta_call rfl rfl hs) rfl ?_
  (repeat (first | refine RO.Sv ?_ | refine RO.Yv ?_ | refine RO.no rfl (by decide) rfl ?_ | refine RO.nil ?_ | refine DW.region ?_ | refine DW.seq ?_ | refine DW.block ?_ | refine DW.skip ?_ | refine DW.exit ?_ | refine DW.condT rfl ?_ | refine DW.condF rfl ?_))
  exact DW.ret ⟨.inl rfl, _, rfl, Over.refl _, .same _⟩

theorem vsumT_len {r : Rg} {v w : Vc} (h : v.length = w.length) : (vsumT r v w).length = v.length := by unfold vsumT; rw [List.length_zipWith]; omega

theorem vSum_pure (r : Rg) (v w : Vc) {n : Nat} {B : Int} {L M : Nat} (hn : n ≤ 3) (hB : B ≤ 1000000) (hp : 2 ≤ r.p ∧ r.p ≤ 101) (hl : v.length ≤ 1000000) (hvw : v.length = w.length) (hLM : L + M ≤ 4000000000000) (hv : VB r n B L v) (hw : VB r n B M w) :
    Pure Try.prog 52 [rgD r, vcD v, vcD w] (vcD (vsumT r v w)) := by
  intro H
  refine PureH.of_body Try.func52 rfl (by decide) (Nat.le_of_ble_eq_true rfl) fun w0 => ?_
  (repeat (first | refine RO.Sv ?_ | refine RO.Yv ?_ | refine RO.no rfl (by decide) rfl ?_ | refine RO.nil ?_ | refine DW.region ?_ | refine DW.seq ?_ | refine DW.block ?_ | refine DW.skip ?_ | refine DW.exit ?_ | refine DW.condT rfl ?_ | refine DW.condF rfl ?_))
  refine RO.sta (sta_call rfl rfl (vEach_pureH v (vsumT r v w) hl (vsumT_len hvw) fun H' _ i h1 h2 => ?_)) rfl ?_
  · obtain ⟨a1, a2⟩ := hv _ (List.getElem_mem h1)
    obtain ⟨b1, b2⟩ := hw _ (List.getElem_mem (show i < w.length by omega))
    have he : (vsumT r v w)[i] = sumT r.p r.order v[i] (w[i]'(by omega)) := by simp [vsumT]
    rw [he]
    exact vSum1_pureH r w i v[i] _ (by omega) (sum_pure r v[i] w[i] hn hB hp (by omega) a1 b1 H')
  (repeat (first | refine RO.Sv ?_ | refine RO.Yv ?_ | refine RO.no rfl (by decide) rfl ?_ | refine RO.nil ?_ | refine DW.region ?_ | refine DW.seq ?_ | refine DW.block ?_ | refine DW.skip ?_ | refine DW.exit ?_ | refine DW.condT rfl ?_ | refine DW.condF rfl ?_))
  exact DW.ret ⟨.inl rfl, _, rfl, Over.refl _, .same _⟩

theorem vBy1_pureH {H : Heap} (r : Rg) (t : Tm) (i : Int) (f g : Pl) (hs : PureH Try.prog H 85 [rgD r, plD f, tmD t] (plD g)) :
    PureH Try.prog H 98 [I i, plD f, .ipt 4 [rgD r] 0 0, .ipt 2 [tmD t] 0 0] (plD g) := by
  refine PureH.of_body Try.func98 rfl (by decide) (Nat.le_of_ble_eq_true rfl) fun w0 => ?_
  (repeat (first | refine RO.Sv ?_ | refine RO.Yv ?_ | refine RO.no rfl (by decide) rfl ?_ | refine RO.nil ?_ | refine DW.region ?_ | refine DW.seq ?_ | refine DW.block ?_ | refine DW.skip ?_ | refine DW.exit ?_ | refine DW.condT rfl ?_ | refine DW.condF rfl ?_))
  refine RO.sta (sta_call rfl rfl hs) rfl ?_
  (repeat (first | refine RO.Sv ?_ | refine RO.Yv ?_ | refine RO.no rfl (by decide) rfl ?_ | refine RO.nil ?_ | refine DW.region ?_ | refine DW.seq ?_ | refine DW.block ?_ | refine DW.skip ?_ | refine DW.exit ?_ | refine DW.condT rfl ?_ | refine DW.condF rfl ?_))
  exact DW.ret ⟨.inl rfl, _, rfl, Over.refl _, .same _⟩

theorem vBy_pure (r : Rg) (v : Vc) (t : Tm) {n : Nat} {B C : Int} {L : Nat} (hn : n ≤ 3) (hB : B ≤ 1000000) (hC : C ≤ 1000000) (hp : 2 ≤ r.p ∧ r.p ≤ 101) (hl : v.length ≤ 1000000) (hL : L ≤ 4000000000000) (hv : VB r n B L v) (ht : TB 0 r.p n C t) :
    Pure Try.prog 76 [rgD r, vcD v, tmD t] (vcD (vbyT r v t)) := by
  intro H
  refine PureH.of_body Try.func76 rfl (by decide) (Nat.le_of_ble_eq_true rfl) fun w0 => ?_
  (repeat (first | refine RO.Sv ?_ | refine RO.Yv ?_ | refine RO.no rfl (by decide) rfl ?_ | refine RO.nil ?_ | refine DW.region ?_ | refine DW.seq ?_ | refine DW.block ?_ | refine DW.skip ?_ | refine DW.exit ?_ | refine DW.condT rfl ?_ | refine DW.condF rfl ?_))
  refine RO.sta (sta_call rfl rfl (vEach_pureH v (vbyT r v t) hl (by simp [vbyT]) fun H' _ i h1 h2 => ?_)) rfl ?_
  · obtain ⟨a1, a2⟩ := hv _ (List.getElem_mem h1)
    have he : (vbyT r v t)[i] = byT r.p v[i] t := by simp [vbyT]
    rw [he]
    exact vBy1_pureH r t i v[i] _ (by_pure r v[i] t hn hB hC hp (by omega) (fun x hx => (a1.all x hx).mono (by omega) (by omega)) ht H')
  (repeat (first | refine RO.Sv ?_ | refine RO.Yv ?_ | refine RO.no rfl (by decide) rfl ?_ | refine RO.nil ?_ | refine DW.region ?_ | refine DW.seq ?_ | refine DW.block ?_ | refine DW.skip ?_ | refine DW.exit ?_ | refine DW.condT rfl ?_ | refine DW.condF rfl ?_))
  exact DW.ret ⟨.inl rfl, _, rfl, Over.refl _, .same _⟩

theorem vCopied1_pureH {H : Heap} (i : Int) (f : Pl) (hl : f.length ≤ 4000000000000) (hm : ∀ t ∈ f, t.e.length ≤ 3) : PureH Try.prog H 100 [I i, plD f] (plD f) := by
  refine PureH.of_body Try.func100 rfl (by decide) (Nat.le_of_ble_eq_true rfl) fun w0 => ?_
  (repeat (first | refine RO.Sv ?_ | refine RO.Yv ?_ | refine RO.no rfl (by decide) rfl ?_ | refine RO.nil ?_ | refine DW.region ?_ | refine DW.seq ?_ | refine DW.block ?_ | refine DW.skip ?_ | refine DW.exit ?_ | refine DW.condT rfl ?_ | refine DW.condF rfl ?_))
  refine RO.sta (sta_call rfl rfl (copied_pure f hl hm _)) rfl ?_
  (repeat (first | refine RO.Sv ?_ | refine RO.Yv ?_ | refine RO.no rfl (by decide) rfl ?_ | refine RO.nil ?_ | refine DW.region ?_ | refine DW.seq ?_ | refine DW.block ?_ | refine DW.skip ?_ | refine DW.exit ?_ | refine DW.condT rfl ?_ | refine DW.condF rfl ?_))
  exact DW.ret ⟨.inl rfl, _, rfl, Over.refl _, .same _⟩

theorem vCopied_pure (v : Vc) (hl : v.length ≤ 1000000) (hm : ∀ f ∈ v, f.length ≤ 4000000000000 ∧ ∀ t ∈ f, t.e.length ≤ 3) : Pure Try.prog 79 [vcD v] (vcD v) := by
  intro H
  refine PureH.of_body Try.func79 rfl (by decide) (Nat.le_of_ble_eq_true rfl) fun w0 => ?_
  (repeat (first | refine RO.Sv ?_ | refine RO.Yv ?_ | refine RO.no rfl (by decide) rfl ?_ | refine RO.nil ?_ | refine DW.region ?_ | refine DW.seq ?_ | refine DW.block ?_ | refine DW.skip ?_ | refine DW.exit ?_ | refine DW.condT rfl ?_ | refine DW.condF rfl ?_))
  refine RO.sta (sta_call rfl rfl (vEach_pureH (caps := []) v v hl rfl fun H' _ i h1 h2 => ?_)) rfl ?_
  · exact vCopied1_pureH i v[i] (hm _ (List.getElem_mem h1)).1 (hm _ (List.getElem_mem h1)).2
  (repeat (first | refine RO.Sv ?_ | refine RO.Yv ?_ | refine RO.no rfl (by decide) rfl ?_ | refine RO.nil ?_ | refine DW.region ?_ | refine DW.seq ?_ | refine DW.block ?_ | refine DW.skip ?_ | refine DW.exit ?_ | refine DW.condT rfl ?_ | refine DW.condF rfl ?_))
  exact DW.ret ⟨.inl rfl, _, rfl, Over.refl _, .same _⟩

/-- Nought: a row that may be written. -/
theorem nought_call {H : Heap} (n : Nat) (hn : n ≤ 1000000) : CallD Try.prog H 54 [I n] (fun d H' => ∃ b, H b = none ∧ d = .ref b 0 n 1 ∧ H' = H.set b (41, List.replicate n .nil)) := by
  refine CallD.of_body Try.func54 rfl (by decide) (Nat.le_of_ble_eq_true rfl) fun w0 => ?_
  (repeat (first | refine RO.Sv ?_ | refine RO.Yv ?_ | refine RO.no rfl (by decide) rfl ?_ | refine RO.nil ?_ | refine DW.region ?_ | refine DW.seq ?_ | refine DW.block ?_ | refine DW.skip ?_ | refine DW.exit ?_ | refine DW.condT rfl ?_ | refine DW.condF rfl ?_))
  refine RO.dyn rfl (d_make rfl rfl (Nat.le_refl _) (by omega) (by omega) fun x hx => ?_)
  (repeat (first | refine RO.Sv ?_ | refine RO.Yv ?_ | refine RO.no rfl (by decide) rfl ?_ | refine RO.nil ?_ | refine DW.region ?_ | refine DW.seq ?_ | refine DW.block ?_ | refine DW.skip ?_ | refine DW.exit ?_ | refine DW.condT rfl ?_ | refine DW.condF rfl ?_))
  rw [flatten_replicate1]
  exact DW.ret ⟨.inl rfl, _, _, _, rfl, Heap.sub_refl _, .same _, x, hx, rfl, rfl⟩

theorem nought_pure (n : Nat) (hn : n ≤ 1000000) : Pure Try.prog 54 [I n] (vcD (List.replicate n [])) := by
  intro H
  refine PureH.of_body Try.func54 rfl (by decide) (Nat.le_of_ble_eq_true rfl) fun w0 => ?_
  (repeat (first | refine RO.Sv ?_ | refine RO.Yv ?_ | refine RO.no rfl (by decide) rfl ?_ | refine RO.nil ?_ | refine DW.region ?_ | refine DW.seq ?_ | refine DW.block ?_ | refine DW.skip ?_ | refine DW.exit ?_ | refine DW.condT rfl ?_ | refine DW.condF rfl ?_))
  refine RO.dyn rfl (d_make rfl rfl (Nat.le_refl _) (by omega) (by omega) fun x hx => ?_)
  (repeat (first | refine RO.Sv ?_ | refine RO.Yv ?_ | refine RO.no rfl (by decide) rfl ?_ | refine RO.nil ?_ | refine DW.region ?_ | refine DW.seq ?_ | refine DW.block ?_ | refine DW.skip ?_ | refine DW.exit ?_ | refine DW.condT rfl ?_ | refine DW.condF rfl ?_))
  rw [flatten_replicate1]
  refine DW.ret ⟨.inl rfl, _, rfl, (Over.refl _).set hx, ?_⟩
  unfold vcD
  rw [List.map_replicate]
  exact frz_nils (T := 41) (Heap.set_self _ _ _) hx

def vecE (x : Vc × Int) : D := .tup [vcD x.1, I x.2]

theorem vDone_pure (v : Vc) (hl : v.length ≤ 1000000) (hm : ∀ f ∈ v, f.length ≤ 4000000000000 ∧ ∀ t ∈ f, MOk t.e) : Pure Try.prog 38 [vcD v] (vecE (vdoneT v)) := by
  intro H
  refine PureH.of_body Try.func38 rfl (by decide) (Nat.le_of_ble_eq_true rfl) fun w0 => ?_
  (repeat (first | refine RO.Sv ?_ | refine RO.Yv ?_ | refine RO.no rfl (by decide) rfl ?_ | refine RO.nil ?_ | refine DW.region ?_ | refine DW.seq ?_ | refine DW.block ?_ | refine DW.skip ?_ | refine DW.exit ?_ | refine DW.condT rfl ?_ | refine DW.condF rfl ?_))
  refine DW.loopI (fun k : Nat => k ≤ v.length ∧ (v.drop k).any greatT = v.any greatT) (fun k => [(0, vcD v), (8, vcD v), (9, I v.length), (10, I k)]) (fun _ => H) (fun k => v.length - k) 0 ⟨Nat.zero_le _, rfl⟩ rfl ⟨rfl, rfl, rfl, rfl, trivial⟩ fun k ⟨hk, hg⟩ => ?_
  (repeat (first | refine RO.Sv ?_ | refine RO.Yv ?_ | refine RO.no rfl (by decide) rfl ?_ | refine RO.nil ?_ | refine DW.region ?_ | refine DW.seq ?_ | refine DW.block ?_ | refine DW.skip ?_ | refine DW.exit ?_ | refine DW.condT rfl ?_ | refine DW.condF rfl ?_))
  refine DW.cond rfl (fun hb => ?_) (fun hb => ?_)
  · have hlt : k < v.length := by have := of_decide_eq_true hb; omega
    obtain ⟨hv1, hv2⟩ := hm _ (List.getElem_mem hlt)
    rw [any_drop hlt] at hg
    clear hb
    (repeat (first | refine RO.Sv ?_ | refine RO.Yv ?_ | refine RO.no rfl (by decide) rfl ?_ | refine RO.nil ?_ | refine DW.region ?_ | refine DW.seq ?_ | refine DW.block ?_ | refine DW.skip ?_ | refine DW.exit ?_ | refine DW.condT rfl ?_ | refine DW.condF rfl ?_))
    refine RO.sta (sta_call rfl rfl (done_pure v[k] hv1 hv2 _)) rfl ?_
    (repeat (first | refine RO.Sv ?_ | refine RO.Yv ?_ | refine RO.no rfl (by decide) rfl ?_ | refine RO.nil ?_ | refine DW.region ?_ | refine DW.seq ?_ | refine DW.block ?_ | refine DW.skip ?_ | refine DW.exit ?_ | refine DW.condT rfl ?_ | refine DW.condF rfl ?_))
    cases h1 : greatT v[k]
    · have h2 : doneT v[k] = (v[k], 0) := by unfold doneT; rw [if_neg (by rw [h1]; simp)]
      rw [h1, Bool.false_or] at hg
      rw [h2]
      (repeat (first | refine RO.Sv ?_ | refine RO.Yv ?_ | refine RO.no rfl (by decide) rfl ?_ | refine RO.nil ?_ | refine DW.region ?_ | refine DW.seq ?_ | refine DW.block ?_ | refine DW.skip ?_ | refine DW.exit ?_ | refine DW.condT rfl ?_ | refine DW.condF rfl ?_))
      exact ⟨k + 1, ⟨hlt, hg⟩, by dsimp only; omega, rfl, rfl, rfl, rfl, rfl, trivial⟩
    · have h2 : doneT v[k] = ([], 2) := by unfold doneT; rw [if_pos h1]
      rw [h1, Bool.true_or] at hg
      have h3 : vdoneT v = ([], 2) := by unfold vdoneT vgreatT; rw [if_pos hg.symm]
      rw [h2, h3]
      (repeat (first | refine RO.Sv ?_ | refine RO.Yv ?_ | refine RO.no rfl (by decide) rfl ?_ | refine RO.nil ?_ | refine DW.region ?_ | refine DW.seq ?_ | refine DW.block ?_ | refine DW.skip ?_ | refine DW.exit ?_ | refine DW.condT rfl ?_ | refine DW.condF rfl ?_))
      exact DW.ret ⟨.inl rfl, _, rfl, Over.refl _, .tup2 (.nil _) (.same _)⟩
  · have hge : k = v.length := by have := of_decide_eq_false hb; omega
    have h0 : v.any greatT = false := by rw [← hg, hge, List.drop_length]; rfl
    have h3 : vdoneT v = (v, 0) := by unfold vdoneT vgreatT; rw [if_neg (by rw [h0]; simp)]
    rw [h3]
    (repeat (first | refine RO.Sv ?_ | refine RO.Yv ?_ | refine RO.no rfl (by decide) rfl ?_ | refine RO.nil ?_ | refine DW.region ?_ | refine DW.seq ?_ | refine DW.block ?_ | refine DW.skip ?_ | refine DW.exit ?_ | refine DW.condT rfl ?_ | refine DW.condF rfl ?_))
    refine RO.sta (sta_call rfl rfl (vCopied_pure v hl (fun f hf => ⟨(hm f hf).1, fun t ht => ((hm f hf).2 t ht).len⟩) _)) rfl ?_
    (repeat (first | refine RO.Sv ?_ | refine RO.Yv ?_ | refine RO.no rfl (by decide) rfl ?_ | refine RO.nil ?_ | refine DW.region ?_ | refine DW.seq ?_ | refine DW.block ?_ | refine DW.skip ?_ | refine DW.exit ?_ | refine DW.condT rfl ?_ | refine DW.condF rfl ?_))
    exact DW.ret ⟨.inl rfl, _, rfl, Over.refl _, .same _⟩

theorem VSum_pure (r : Rg) (v w : Vc) {n : Nat} {B : Int} {L M : Nat} (hn : n ≤ 3) (hB : B ≤ 1000000) (hp : 2 ≤ r.p ∧ r.p ≤ 101) (hl : v.length ≤ 1000000) (hvw : v.length = w.length) (hLM : L + M ≤ 4000000000000) (hv : VB r n B L v) (hw : VB r n B M w) :
    Pure Try.prog 20 [rgD r, vcD v, vcD w] (vcD (vsumT r v w)) := by
  intro H
  refine PureH.of_body Try.func20 rfl (by decide) (Nat.le_of_ble_eq_true rfl) fun w0 => ?_
  have hlen := vsumT_len (r := r) hvw
  (repeat (first | refine RO.Sv ?_ | refine RO.Yv ?_ | refine RO.no rfl (by decide) rfl ?_ | refine RO.nil ?_ | refine DW.region ?_ | refine DW.seq ?_ | refine DW.block ?_ | refine DW.skip ?_ | refine DW.exit ?_ | refine DW.condT rfl ?_ | refine DW.condF rfl ?_))
  refine DW.loopI (fun x : Nat × Heap × D => x.1 ≤ v.length ∧ Acc H x.2.1 x.2.2 1 41 (((vsumT r v w).take x.1).map plD) ∧ Over H x.2.1) (fun x => [(1, vcD v), (2, vcD w), (3, .ipt 4 [rgD r] 0 0), (7, x.2.2), (8, I x.1)]) (fun x => x.2.1) (fun x => v.length - x.1) (0, H, .nil)
    ⟨Nat.zero_le _, Acc.nil _ _ _ _, Over.refl _⟩ rfl ⟨rfl, rfl, rfl, rfl, rfl, trivial⟩ fun ⟨k, Hk, d⟩ ⟨hk, hacc, hov⟩ => ?_
  dsimp only at hk hacc hov
  dsimp only
  (repeat (first | refine RO.Sv ?_ | refine RO.Yv ?_ | refine RO.no rfl (by decide) rfl ?_ | refine RO.nil ?_ | refine DW.region ?_ | refine DW.seq ?_ | refine DW.block ?_ | refine DW.skip ?_ | refine DW.exit ?_ | refine DW.condT rfl ?_ | refine DW.condF rfl ?_))
  refine DW.cond rfl (fun hb => ?_) (fun hb => ?_)
  · have hlt : k < v.length := by have := of_decide_eq_true hb; omega
    have hlt2 : k < w.length := by omega
    clear hb
    obtain ⟨a1, a2⟩ := hv _ (List.getElem_mem hlt)
    obtain ⟨b1, b2⟩ := hw _ (List.getElem_mem hlt2)
    have he : (vsumT r v w)[k]'(by omega) = sumT r.p r.order v[k] w[k] := by simp [vsumT]
    (repeat (first | refine RO.Sv ?_ | refine RO.Yv ?_ | refine RO.no rfl (by decide) rfl ?_ | refine RO.nil ?_ | refine DW.region ?_ | refine DW.seq ?_ | refine DW.block ?_ | refine DW.skip ?_ | refine DW.exit ?_ | refine DW.condT rfl ?_ | refine DW.condF rfl ?_))
    refine DW.drawS 12 Try.mixed (by kernel_rfl) (by decide) ?_
    dsimp only [List.take, List.drop]
    (repeat (first | refine RS.Sv ?_ | refine RS.Yv ?_ | refine RS.no rfl (by decide) rfl ?_ | refine RS.nil ?_))
    refine RS.sta (fun H' hov => sta_call rfl rfl (refSum_pure r v[k] w[k] hn hB hp (by omega) a1 b1 _)) rfl ?_
    (repeat (first | refine RS.Sv ?_ | refine RS.Yv ?_ | refine RS.no rfl (by decide) rfl ?_ | refine RS.nil ?_))
    refine RO.dyn rfl (d_append (H0 := H) (xs := [plD (sumT r.p r.order v[k] w[k])]) rfl hacc hov rfl (.inl rfl) (uni_pl [sumT r.p r.order v[k] w[k]]) (by simp; omega) (by simp; omega) fun d' H' q1 q2 q3 => ?_)
    (repeat (first | refine RO.Sv ?_ | refine RO.Yv ?_ | refine RO.no rfl (by decide) rfl ?_ | refine RO.nil ?_ | refine DW.region ?_ | refine DW.seq ?_ | refine DW.block ?_ | refine DW.skip ?_ | refine DW.exit ?_ | refine DW.condT rfl ?_ | refine DW.condF rfl ?_))
    refine ⟨(k + 1, H', d'), ⟨hlt, ?_, q2⟩, by dsimp only; omega, rfl, rfl, rfl, rfl, rfl, rfl, trivial⟩
    dsimp only
    rw [List.take_succ_eq_append_getElem (by omega), List.map_append, he]
    exact q1
  · have hke : k = v.length := by have := of_decide_eq_false hb; omega
    rw [hke, List.take_of_length_le (by omega)] at hacc
    (repeat (first | refine RO.Sv ?_ | refine RO.Yv ?_ | refine RO.no rfl (by decide) rfl ?_ | refine RO.nil ?_ | refine DW.region ?_ | refine DW.seq ?_ | refine DW.block ?_ | refine DW.skip ?_ | refine DW.exit ?_ | refine DW.condT rfl ?_ | refine DW.condF rfl ?_))
    exact DW.ret ⟨.inl rfl, _, rfl, hov, hacc.done⟩

theorem VTimes_pure (r : Rg) (f : Pl) (v : Vc) {n : Nat} {B C : Int} {L : Nat} (hn : n ≤ 3) (hB : B + C ≤ 1000000) (hB0 : 0 ≤ B) (hC0 : 0 ≤ C) (hr : ckP r.p = 0) (hpr : Prm r.p) (hl : v.length ≤ 1000000) (hfl : f.length * L ≤ 4000000000000) (hL : L ≤ 4000000000000) (hf1 : f.length ≤ 4000000000000) (hf : PB 1 r.p r.order n C f) (hv : VB r n B L v) :
    Pure Try.prog 21 [rgD r, plD f, vcD v] (vcD (vtimesT r f v)) := by
  intro H
  refine PureH.of_body Try.func21 rfl (by decide) (Nat.le_of_ble_eq_true rfl) fun w0 => ?_
  have hlen : (vtimesT r f v).length = v.length := by simp [vtimesT]
  (repeat (first | refine RO.Sv ?_ | refine RO.Yv ?_ | refine RO.no rfl (by decide) rfl ?_ | refine RO.nil ?_ | refine DW.region ?_ | refine DW.seq ?_ | refine DW.block ?_ | refine DW.skip ?_ | refine DW.exit ?_ | refine DW.condT rfl ?_ | refine DW.condF rfl ?_))
  refine DW.loopI (fun x : Nat × Heap × D => x.1 ≤ v.length ∧ Acc H x.2.1 x.2.2 1 41 (((vtimesT r f v).take x.1).map plD) ∧ Over H x.2.1) (fun x => [(1, plD f), (2, vcD v), (3, .ipt 4 [rgD r] 0 0), (7, x.2.2), (8, I x.1)]) (fun x => x.2.1) (fun x => v.length - x.1) (0, H, .nil)
    ⟨Nat.zero_le _, Acc.nil _ _ _ _, Over.refl _⟩ rfl ⟨rfl, rfl, rfl, rfl, rfl, trivial⟩ fun ⟨k, Hk, d⟩ ⟨hk, hacc, hov⟩ => ?_
  dsimp only at hk hacc hov
  dsimp only
  (repeat (first | refine RO.Sv ?_ | refine RO.Yv ?_ | refine RO.no rfl (by decide) rfl ?_ | refine RO.nil ?_ | refine DW.region ?_ | refine DW.seq ?_ | refine DW.block ?_ | refine DW.skip ?_ | refine DW.exit ?_ | refine DW.condT rfl ?_ | refine DW.condF rfl ?_))
  refine DW.cond rfl (fun hb => ?_) (fun hb => ?_)
  · have hlt : k < v.length := by have := of_decide_eq_true hb; omega
    clear hb
    obtain ⟨a1, a2⟩ := hv _ (List.getElem_mem hlt)
    have he : (vtimesT r f v)[k]'(by omega) = prodT r.p r.order f v[k] := by simp [vtimesT]
    have hfv : f.length * v[k].length ≤ 4000000000000 := Nat.le_trans (Nat.mul_le_mul_left _ a2) hfl
    (repeat (first | refine RO.Sv ?_ | refine RO.Yv ?_ | refine RO.no rfl (by decide) rfl ?_ | refine RO.nil ?_ | refine DW.region ?_ | refine DW.seq ?_ | refine DW.block ?_ | refine DW.skip ?_ | refine DW.exit ?_ | refine DW.condT rfl ?_ | refine DW.condF rfl ?_))
    refine DW.drawS 9 Try.mixed (by kernel_rfl) (by decide) ?_
    dsimp only [List.take, List.drop]
    (repeat (first | refine RS.Sv ?_ | refine RS.Yv ?_ | refine RS.no rfl (by decide) rfl ?_ | refine RS.nil ?_))
    refine RS.sta (fun H' hov => sta_call rfl rfl (refProduct_pure r f v[k] hn hB hB0 hC0 hr hpr hfv hf a1 hf1 (by omega) _)) rfl ?_
    (repeat (first | refine RS.Sv ?_ | refine RS.Yv ?_ | refine RS.no rfl (by decide) rfl ?_ | refine RS.nil ?_))
    refine RO.dyn rfl (d_append (H0 := H) (xs := [plD (prodT r.p r.order f v[k])]) rfl hacc hov rfl (.inl rfl) (uni_pl [prodT r.p r.order f v[k]]) (by simp; omega) (by simp; omega) fun d' H' q1 q2 q3 => ?_)
    (repeat (first | refine RO.Sv ?_ | refine RO.Yv ?_ | refine RO.no rfl (by decide) rfl ?_ | refine RO.nil ?_ | refine DW.region ?_ | refine DW.seq ?_ | refine DW.block ?_ | refine DW.skip ?_ | refine DW.exit ?_ | refine DW.condT rfl ?_ | refine DW.condF rfl ?_))
    refine ⟨(k + 1, H', d'), ⟨hlt, ?_, q2⟩, by dsimp only; omega, rfl, rfl, rfl, rfl, rfl, rfl, trivial⟩
    dsimp only
    rw [List.take_succ_eq_append_getElem (by omega), List.map_append, he]
    exact q1
  · have hke : k = v.length := by have := of_decide_eq_false hb; omega
    rw [hke, List.take_of_length_le (by omega)] at hacc
    (repeat (first | refine RO.Sv ?_ | refine RO.Yv ?_ | refine RO.no rfl (by decide) rfl ?_ | refine RO.nil ?_ | refine DW.region ?_ | refine DW.seq ?_ | refine DW.block ?_ | refine DW.skip ?_ | refine DW.exit ?_ | refine DW.condT rfl ?_ | refine DW.condF rfl ?_))
    exact DW.ret ⟨.inl rfl, _, rfl, hov, hacc.done⟩

theorem VGreat_pure (v : Vc) (hl : v.length ≤ 4000000000000) (hm : ∀ f ∈ v, f.length ≤ 4000000000000 ∧ (∀ t ∈ f, MOk t.e) ∧ ∀ t ∈ f, t.e.sum ≤ topT f) : Pure Try.prog 12 [vcD v] (.bool (vgreatT v)) := by
  intro H
  refine PureH.of_body Try.func12 rfl (by decide) (Nat.le_of_ble_eq_true rfl) fun w0 => ?_
  unfold vgreatT
  (repeat (first | refine RO.Sv ?_ | refine RO.Yv ?_ | refine RO.no rfl (by decide) rfl ?_ | refine RO.nil ?_ | refine DW.region ?_ | refine DW.seq ?_ | refine DW.block ?_ | refine DW.skip ?_ | refine DW.exit ?_ | refine DW.condT rfl ?_ | refine DW.condF rfl ?_))
  refine DW.loopI (fun k : Nat => k ≤ v.length ∧ (v.drop k).any greatT = v.any greatT) (fun k => [(0, vcD v), (3, I k)]) (fun _ => H) (fun k => v.length - k) 0 ⟨Nat.zero_le _, rfl⟩ rfl ⟨rfl, rfl, trivial⟩ fun k ⟨hk, hg⟩ => ?_
  (repeat (first | refine RO.Sv ?_ | refine RO.Yv ?_ | refine RO.no rfl (by decide) rfl ?_ | refine RO.nil ?_ | refine DW.region ?_ | refine DW.seq ?_ | refine DW.block ?_ | refine DW.skip ?_ | refine DW.exit ?_ | refine DW.condT rfl ?_ | refine DW.condF rfl ?_))
  refine DW.cond rfl (fun hb => ?_) (fun hb => ?_)
  · have hlt : k < v.length := by have := of_decide_eq_true hb; omega
    obtain ⟨hv1, hv2, hv3⟩ := hm _ (List.getElem_mem hlt)
    rw [any_drop hlt] at hg
    clear hb
    (repeat (first | refine RO.Sv ?_ | refine RO.Yv ?_ | refine RO.no rfl (by decide) rfl ?_ | refine RO.nil ?_ | refine DW.region ?_ | refine DW.seq ?_ | refine DW.block ?_ | refine DW.skip ?_ | refine DW.exit ?_ | refine DW.condT rfl ?_ | refine DW.condF rfl ?_))
    refine RO.sta (sta_call rfl rfl (Great_pure v[k] hv1 hv2 hv3 _)) rfl ?_
    (repeat (first | refine RO.Sv ?_ | refine RO.Yv ?_ | refine RO.no rfl (by decide) rfl ?_ | refine RO.nil ?_ | refine DW.region ?_ | refine DW.seq ?_ | refine DW.block ?_ | refine DW.skip ?_ | refine DW.exit ?_ | refine DW.condT rfl ?_ | refine DW.condF rfl ?_))
    cases h1 : greatT v[k]
    · rw [h1, Bool.false_or] at hg
      (repeat (first | refine RO.Sv ?_ | refine RO.Yv ?_ | refine RO.no rfl (by decide) rfl ?_ | refine RO.nil ?_ | refine DW.region ?_ | refine DW.seq ?_ | refine DW.block ?_ | refine DW.skip ?_ | refine DW.exit ?_ | refine DW.condT rfl ?_ | refine DW.condF rfl ?_))
      exact ⟨k + 1, ⟨hlt, hg⟩, by dsimp only; omega, rfl, rfl, rfl, trivial⟩
    · rw [h1, Bool.true_or] at hg
      rw [← hg]
      (repeat (first | refine RO.Sv ?_ | refine RO.Yv ?_ | refine RO.no rfl (by decide) rfl ?_ | refine RO.nil ?_ | refine DW.region ?_ | refine DW.seq ?_ | refine DW.block ?_ | refine DW.skip ?_ | refine DW.exit ?_ | refine DW.condT rfl ?_ | refine DW.condF rfl ?_))
      exact DW.ret ⟨.inl rfl, _, rfl, Over.refl _, .same _⟩
  · have hge : k = v.length := by have := of_decide_eq_false hb; omega
    have h0 : v.any greatT = false := by rw [← hg, hge, List.drop_length]; rfl
    rw [h0]
    (repeat (first | refine RO.Sv ?_ | refine RO.Yv ?_ | refine RO.no rfl (by decide) rfl ?_ | refine RO.nil ?_ | refine DW.region ?_ | refine DW.seq ?_ | refine DW.block ?_ | refine DW.skip ?_ | refine DW.exit ?_ | refine DW.condT rfl ?_ | refine DW.condF rfl ?_))
    exact DW.ret ⟨.inl rfl, _, rfl, Over.refl _, .same _⟩

end Go.Proofs.Ytblileclefbklaa

namespace Go.Proofs.Ytblileclefbklaa
open Go.RowKit
set_option linter.unusedVariables false
set_option linter.unusedSimpArgs false
set_option maxHeartbeats 8000000

theorem great_pure (f g : Pl) (hfl : f.length ≤ 4000000000000) (hgl : g.length ≤ 4000000000000) (hf : ∀ t ∈ f, MOk t.e) (hg : ∀ t ∈ g, MOk t.e) : Pure Try.prog 55 [plD f, plD g] (.bool (bigT f g)) := by
  intro H
  refine PureH.of_body Try.func55 rfl (by decide) (Nat.le_of_ble_eq_true rfl) fun w0 => ?_
  have hemp : ∀ l : Pl, (!l.isEmpty) = decide ((0 : Int) < (l.length : Int)) := fun l => by cases l <;> simp <;> omega
  unfold bigT
  rw [hemp, hemp]
  (repeat (first | refine RO.Sv ?_ | refine RO.Yv ?_ | refine RO.no rfl (by decide) rfl ?_ | refine RO.nil ?_ | refine DW.region ?_ | refine DW.seq ?_ | refine DW.block ?_ | refine DW.skip ?_ | refine DW.exit ?_ | refine DW.condT rfl ?_ | refine DW.condF rfl ?_))
  cases h1 : decide ((0 : Int) < (f.length : Int))
  case false =>
    (repeat (first | refine RO.Sv ?_ | refine RO.Yv ?_ | refine RO.no rfl (by decide) rfl ?_ | refine RO.nil ?_ | refine DW.region ?_ | refine DW.seq ?_ | refine DW.block ?_ | refine DW.skip ?_ | refine DW.exit ?_ | refine DW.condT rfl ?_ | refine DW.condF rfl ?_))
    exact DW.ret ⟨.inl rfl, _, rfl, Over.refl _, .same _⟩
  (repeat (first | refine RO.Sv ?_ | refine RO.Yv ?_ | refine RO.no rfl (by decide) rfl ?_ | refine RO.nil ?_ | refine DW.region ?_ | refine DW.seq ?_ | refine DW.block ?_ | refine DW.skip ?_ | refine DW.exit ?_ | refine DW.condT rfl ?_ | refine DW.condF rfl ?_))
  cases h2 : decide ((0 : Int) < (g.length : Int))
  case false =>
    (repeat (first | refine RO.Sv ?_ | refine RO.Yv ?_ | refine RO.no rfl (by decide) rfl ?_ | refine RO.nil ?_ | refine DW.region ?_ | refine DW.seq ?_ | refine DW.block ?_ | refine DW.skip ?_ | refine DW.exit ?_ | refine DW.condT rfl ?_ | refine DW.condF rfl ?_))
    exact DW.ret ⟨.inl rfl, _, rfl, Over.refl _, .same _⟩
  have b1 : -1 ≤ topT f ∧ topT f ≤ 3000000 := topT_bounds hf
  have b2 : -1 ≤ topT g ∧ topT g ≤ 3000000 := topT_bounds hg
  (repeat (first | refine RO.Sv ?_ | refine RO.Yv ?_ | refine RO.no rfl (by decide) rfl ?_ | refine RO.nil ?_ | refine DW.region ?_ | refine DW.seq ?_ | refine DW.block ?_ | refine DW.skip ?_ | refine DW.exit ?_ | refine DW.condT rfl ?_ | refine DW.condF rfl ?_))
  refine RO.yes rfl rfl (OpD.of_sta (sta_call rfl rfl (top_pure f hfl hf _)) ?_)
  (repeat (first | refine RO.Sv ?_ | refine RO.Yv ?_ | refine RO.no rfl (by decide) rfl ?_ | refine RO.nil ?_ | refine DW.region ?_ | refine DW.seq ?_ | refine DW.block ?_ | refine DW.skip ?_ | refine DW.exit ?_ | refine DW.condT rfl ?_ | refine DW.condF rfl ?_))
  refine RO.yes rfl rfl (OpD.of_sta (sta_call rfl rfl (top_pure g hgl hg _)) ?_)
  (repeat (first | refine RO.Sv ?_ | refine RO.Yv ?_ | refine RO.no rfl (by decide) rfl ?_ | refine RO.nil ?_ | refine DW.region ?_ | refine DW.seq ?_ | refine DW.block ?_ | refine DW.skip ?_ | refine DW.exit ?_ | refine DW.condT rfl ?_ | refine DW.condF rfl ?_))
  exact DW.ret ⟨.inl rfl, _, rfl, Over.refl _, .same _⟩

theorem First_pure (r : Rg) (i k : Int) {a b : List Int} (ha : MOk a) (hb : MOk b) (hab : a.length = b.length) : Pure Try.prog 86 [rgD r, I i, intsD a, I k, intsD b] (.bool (firstT r i a k b)) := by
  intro H
  refine PureH.of_body Try.func86 rfl (by decide) (Nat.le_of_ble_eq_true rfl) fun w0 => ?_
  (repeat (first | refine RO.Sv ?_ | refine RO.Yv ?_ | refine RO.no rfl (by decide) rfl ?_ | refine RO.nil ?_ | refine DW.region ?_ | refine DW.seq ?_ | refine DW.block ?_ | refine DW.skip ?_ | refine DW.exit ?_ | refine DW.condT rfl ?_ | refine DW.condF rfl ?_))
  refine RO.sta (sta_call rfl rfl (Compare_pure r ha hb hab _)) rfl ?_
  (repeat (first | refine RO.Sv ?_ | refine RO.Yv ?_ | refine RO.no rfl (by decide) rfl ?_ | refine RO.nil ?_ | refine DW.region ?_ | refine DW.seq ?_ | refine DW.block ?_ | refine DW.skip ?_ | refine DW.exit ?_ | refine DW.condT rfl ?_ | refine DW.condF rfl ?_))
  unfold firstT
  cases h1 : (r.over == 2)
  case true =>
    (repeat (first | refine RO.Sv ?_ | refine RO.Yv ?_ | refine RO.no rfl (by decide) rfl ?_ | refine RO.nil ?_ | refine DW.region ?_ | refine DW.seq ?_ | refine DW.block ?_ | refine DW.skip ?_ | refine DW.exit ?_ | refine DW.condT rfl ?_ | refine DW.condF rfl ?_))
    cases h2 : (i != k)
    case true =>
      rw [if_pos (.inl ⟨by simpa using h1, by simpa using h2⟩)]
      (repeat (first | refine RO.Sv ?_ | refine RO.Yv ?_ | refine RO.no rfl (by decide) rfl ?_ | refine RO.nil ?_ | refine DW.region ?_ | refine DW.seq ?_ | refine DW.block ?_ | refine DW.skip ?_ | refine DW.exit ?_ | refine DW.condT rfl ?_ | refine DW.condF rfl ?_))
      exact DW.ret ⟨.inl rfl, _, rfl, Over.refl _, .same _⟩
    (repeat (first | refine RO.Sv ?_ | refine RO.Yv ?_ | refine RO.no rfl (by decide) rfl ?_ | refine RO.nil ?_ | refine DW.region ?_ | refine DW.seq ?_ | refine DW.block ?_ | refine DW.skip ?_ | refine DW.exit ?_ | refine DW.condT rfl ?_ | refine DW.condF rfl ?_))
    cases h3 : (cmpM r.order a b == 0)
    case true =>
      rw [if_pos (.inr (by simpa using h3))]
      (repeat (first | refine RO.Sv ?_ | refine RO.Yv ?_ | refine RO.no rfl (by decide) rfl ?_ | refine RO.nil ?_ | refine DW.region ?_ | refine DW.seq ?_ | refine DW.block ?_ | refine DW.skip ?_ | refine DW.exit ?_ | refine DW.condT rfl ?_ | refine DW.condF rfl ?_))
      exact DW.ret ⟨.inl rfl, _, rfl, Over.refl _, .same _⟩
    rw [if_neg (by simp at h2 h3; simp [h2, h3])]
    (repeat (first | refine RO.Sv ?_ | refine RO.Yv ?_ | refine RO.no rfl (by decide) rfl ?_ | refine RO.nil ?_ | refine DW.region ?_ | refine DW.seq ?_ | refine DW.block ?_ | refine DW.skip ?_ | refine DW.exit ?_ | refine DW.condT rfl ?_ | refine DW.condF rfl ?_))
    exact DW.ret ⟨.inl rfl, _, rfl, Over.refl _, .same _⟩
  (repeat (first | refine RO.Sv ?_ | refine RO.Yv ?_ | refine RO.no rfl (by decide) rfl ?_ | refine RO.nil ?_ | refine DW.region ?_ | refine DW.seq ?_ | refine DW.block ?_ | refine DW.skip ?_ | refine DW.exit ?_ | refine DW.condT rfl ?_ | refine DW.condF rfl ?_))
  cases h3 : (cmpM r.order a b == 0)
  case true =>
    rw [if_pos (.inr (by simpa using h3))]
    (repeat (first | refine RO.Sv ?_ | refine RO.Yv ?_ | refine RO.no rfl (by decide) rfl ?_ | refine RO.nil ?_ | refine DW.region ?_ | refine DW.seq ?_ | refine DW.block ?_ | refine DW.skip ?_ | refine DW.exit ?_ | refine DW.condT rfl ?_ | refine DW.condF rfl ?_))
    exact DW.ret ⟨.inl rfl, _, rfl, Over.refl _, .same _⟩
  rw [if_neg (by simp at h1 h3; simp [h1, h3])]
  (repeat (first | refine RO.Sv ?_ | refine RO.Yv ?_ | refine RO.no rfl (by decide) rfl ?_ | refine RO.nil ?_ | refine DW.region ?_ | refine DW.seq ?_ | refine DW.block ?_ | refine DW.skip ?_ | refine DW.exit ?_ | refine DW.condT rfl ?_ | refine DW.condF rfl ?_))
  exact DW.ret ⟨.inl rfl, _, rfl, Over.refl _, .same _⟩

theorem Ahead_pure (r : Rg) (i k : Int) {a b : List Int} (ha : MOk a) (hb : MOk b) (hab : a.length = b.length) : Pure Try.prog 63 [rgD r, I i, intsD a, I k, intsD b] (.bool (firstT r i a k b)) := by
  intro H
  refine PureH.of_body Try.func63 rfl (by decide) (Nat.le_of_ble_eq_true rfl) fun w0 => ?_
  have hsame : (a == b) = (cmpM r.order a b == 0) := by
    rw [Bool.eq_iff_iff]
    simp only [beq_iff_eq]
    exact ⟨fun h => by rw [h]; exact cmpM_self _ _, fun h => cmpM_zero hab h⟩
  have al := ha.len
  unfold firstT
  (repeat (first | refine RO.Sv ?_ | refine RO.Yv ?_ | refine RO.no rfl (by decide) rfl ?_ | refine RO.nil ?_ | refine DW.region ?_ | refine DW.seq ?_ | refine DW.block ?_ | refine DW.skip ?_ | refine DW.exit ?_ | refine DW.condT rfl ?_ | refine DW.condF rfl ?_))
  cases h1 : (r.over == 2)
  case true =>
    (repeat (first | refine RO.Sv ?_ | refine RO.Yv ?_ | refine RO.no rfl (by decide) rfl ?_ | refine RO.nil ?_ | refine DW.region ?_ | refine DW.seq ?_ | refine DW.block ?_ | refine DW.skip ?_ | refine DW.exit ?_ | refine DW.condT rfl ?_ | refine DW.condF rfl ?_))
    cases h2 : (i != k)
    case true =>
      rw [if_pos (.inl ⟨by simpa using h1, by simpa using h2⟩)]
      (repeat (first | refine RO.Sv ?_ | refine RO.Yv ?_ | refine RO.no rfl (by decide) rfl ?_ | refine RO.nil ?_ | refine DW.region ?_ | refine DW.seq ?_ | refine DW.block ?_ | refine DW.skip ?_ | refine DW.exit ?_ | refine DW.condT rfl ?_ | refine DW.condF rfl ?_))
      exact DW.ret ⟨.inl rfl, _, rfl, Over.refl _, .same _⟩
    (repeat (first | refine RO.Sv ?_ | refine RO.Yv ?_ | refine RO.no rfl (by decide) rfl ?_ | refine RO.nil ?_ | refine DW.region ?_ | refine DW.seq ?_ | refine DW.block ?_ | refine DW.skip ?_ | refine DW.exit ?_ | refine DW.condT rfl ?_ | refine DW.condF rfl ?_))
    refine RO.sta (sta_call rfl rfl (SameInts_pure a b (by omega) _)) rfl ?_
    rw [hsame]
    (repeat (first | refine RO.Sv ?_ | refine RO.Yv ?_ | refine RO.no rfl (by decide) rfl ?_ | refine RO.nil ?_ | refine DW.region ?_ | refine DW.seq ?_ | refine DW.block ?_ | refine DW.skip ?_ | refine DW.exit ?_ | refine DW.condT rfl ?_ | refine DW.condF rfl ?_))
    cases h3 : (cmpM r.order a b == 0)
    case true =>
      rw [if_pos (.inr (by simpa using h3))]
      (repeat (first | refine RO.Sv ?_ | refine RO.Yv ?_ | refine RO.no rfl (by decide) rfl ?_ | refine RO.nil ?_ | refine DW.region ?_ | refine DW.seq ?_ | refine DW.block ?_ | refine DW.skip ?_ | refine DW.exit ?_ | refine DW.condT rfl ?_ | refine DW.condF rfl ?_))
      exact DW.ret ⟨.inl rfl, _, rfl, Over.refl _, .same _⟩
    rw [if_neg (by simp at h2 h3; simp [h2, h3])]
    (repeat (first | refine RO.Sv ?_ | refine RO.Yv ?_ | refine RO.no rfl (by decide) rfl ?_ | refine RO.nil ?_ | refine DW.region ?_ | refine DW.seq ?_ | refine DW.block ?_ | refine DW.skip ?_ | refine DW.exit ?_ | refine DW.condT rfl ?_ | refine DW.condF rfl ?_))
    refine RO.sta (sta_call rfl rfl (More_pure r ha hb hab _)) rfl ?_
    (repeat (first | refine RO.Sv ?_ | refine RO.Yv ?_ | refine RO.no rfl (by decide) rfl ?_ | refine RO.nil ?_ | refine DW.region ?_ | refine DW.seq ?_ | refine DW.block ?_ | refine DW.skip ?_ | refine DW.exit ?_ | refine DW.condT rfl ?_ | refine DW.condF rfl ?_))
    exact DW.ret ⟨.inl rfl, _, rfl, Over.refl _, .same _⟩
  (repeat (first | refine RO.Sv ?_ | refine RO.Yv ?_ | refine RO.no rfl (by decide) rfl ?_ | refine RO.nil ?_ | refine DW.region ?_ | refine DW.seq ?_ | refine DW.block ?_ | refine DW.skip ?_ | refine DW.exit ?_ | refine DW.condT rfl ?_ | refine DW.condF rfl ?_))
  refine RO.sta (sta_call rfl rfl (SameInts_pure a b (by omega) _)) rfl ?_
  rw [hsame]
  (repeat (first | refine RO.Sv ?_ | refine RO.Yv ?_ | refine RO.no rfl (by decide) rfl ?_ | refine RO.nil ?_ | refine DW.region ?_ | refine DW.seq ?_ | refine DW.block ?_ | refine DW.skip ?_ | refine DW.exit ?_ | refine DW.condT rfl ?_ | refine DW.condF rfl ?_))
  cases h3 : (cmpM r.order a b == 0)
  case true =>
    rw [if_pos (.inr (by simpa using h3))]
    (repeat (first | refine RO.Sv ?_ | refine RO.Yv ?_ | refine RO.no rfl (by decide) rfl ?_ | refine RO.nil ?_ | refine DW.region ?_ | refine DW.seq ?_ | refine DW.block ?_ | refine DW.skip ?_ | refine DW.exit ?_ | refine DW.condT rfl ?_ | refine DW.condF rfl ?_))
    exact DW.ret ⟨.inl rfl, _, rfl, Over.refl _, .same _⟩
  rw [if_neg (by simp at h1 h3; simp [h1, h3])]
  (repeat (first | refine RO.Sv ?_ | refine RO.Yv ?_ | refine RO.no rfl (by decide) rfl ?_ | refine RO.nil ?_ | refine DW.region ?_ | refine DW.seq ?_ | refine DW.block ?_ | refine DW.skip ?_ | refine DW.exit ?_ | refine DW.condT rfl ?_ | refine DW.condF rfl ?_))
  refine RO.sta (sta_call rfl rfl (More_pure r ha hb hab _)) rfl ?_
  (repeat (first | refine RO.Sv ?_ | refine RO.Yv ?_ | refine RO.no rfl (by decide) rfl ?_ | refine RO.nil ?_ | refine DW.region ?_ | refine DW.seq ?_ | refine DW.block ?_ | refine DW.skip ?_ | refine DW.exit ?_ | refine DW.condT rfl ?_ | refine DW.condF rfl ?_))
  exact DW.ret ⟨.inl rfl, _, rfl, Over.refl _, .same _⟩

def leadD (x : Option (Nat × Tm)) : D := .tup [I (atOf x), tmD (tmOf x)]

def tmCells : Option (Nat × Tm) → List D
  | none => [I 0, .nil]
  | some x => [I x.2.c, intsD x.2.e]

theorem frz_tm0 {H H' : Heap} : Frz H H' (.agg [I 0, .nil]) (tmD ⟨0, []⟩) := .agg rfl fun j x y hx hy => by
  match j, hx, hy with
  | 0, hx, hy => cases hx; cases hy; exact .same _
  | 1, hx, hy => cases hx; cases hy; exact .nil 1
  | j + 2, hx, hy => simp at hx

theorem frz_tmCells {H H' : Heap} (x : Option (Nat × Tm)) : Frz H H' (.agg (tmCells x)) (tmD (tmOf x)) := by
  cases x with
  | none => exact frz_tm0
  | some x => exact .same _

theorem tmCells_len (x : Option (Nat × Tm)) : (tmCells x).length = 2 := by cases x <;> rfl

theorem vTop_pure (r : Rg) (v : Vc) {n : Nat} {B : Int} {L : Nat} (hn : n ≤ 3) (hB : B ≤ 1000000) (hl : v.length ≤ 1000000) (hv : VB r n B L v) : Pure Try.prog 57 [rgD r, vcD v] (leadD (topV r v)) := by
  intro H
  refine PureH.of_bodyR Try.func57 rfl (by decide) (Nat.le_of_ble_eq_true rfl) fun w0 => ?_
  (repeat (first | refine RO.Sv ?_ | refine RO.Yv ?_ | refine RO.no rfl (by decide) rfl ?_ | refine RO.nil ?_ | refine DW.region ?_ | refine DW.seq ?_ | refine DW.block ?_ | refine DW.skip ?_ | refine DW.exit ?_ | refine DW.condT rfl ?_ | refine DW.condF rfl ?_))
  refine RO.dyn rfl (d_alloc fun b5 hb5 => ?_)
  (repeat (first | refine RO.Sv ?_ | refine RO.Yv ?_ | refine RO.no rfl (by decide) rfl ?_ | refine RO.nil ?_ | refine DW.region ?_ | refine DW.seq ?_ | refine DW.block ?_ | refine DW.skip ?_ | refine DW.exit ?_ | refine DW.condT rfl ?_ | refine DW.condF rfl ?_))
  refine DW.loopI (fun k : Nat => k ≤ v.length) (fun k => [(1, vcD v), (2, .ipt 4 [rgD r] 0 0), (5, .ptr b5 0), (6, I (atOf (topAt r v k))), (9, vcD v), (10, I v.length), (11, I k)]) (fun _ => H.set b5 (47, [I 0, .nil])) (fun k => v.length - k) 0 (Nat.zero_le _) rfl ⟨rfl, rfl, rfl, rfl, rfl, rfl, rfl, trivial⟩ fun k hk => ?_
  have hok := fun (i : Nat) (hi : i < v.length) (h0 : 0 < v[i].length) => (hv _ (List.getElem_mem hi)).1.all _ (List.getElem_mem h0)
  (repeat (first | refine RO.Sv ?_ | refine RO.Yv ?_ | refine RO.no rfl (by decide) rfl ?_ | refine RO.nil ?_ | refine DW.region ?_ | refine DW.seq ?_ | refine DW.block ?_ | refine DW.skip ?_ | refine DW.exit ?_ | refine DW.condT rfl ?_ | refine DW.condF rfl ?_))
  refine DW.cond rfl (fun hb => ?_) (fun hb => ?_)
  · have hlt : k < v.length := by have := of_decide_eq_true hb; omega
    clear hb
    have hsucc := topAt_succ (r := r) hlt
    (repeat (first | refine RO.Sv ?_ | refine RO.Yv ?_ | refine RO.no rfl (by decide) rfl ?_ | refine RO.nil ?_ | refine DW.region ?_ | refine DW.seq ?_ | refine DW.block ?_ | refine DW.skip ?_ | refine DW.exit ?_ | refine DW.condT rfl ?_ | refine DW.condF rfl ?_))
    refine DW.drawS 24 Try.mixed (by kernel_rfl) (by decide) ?_
    dsimp only [List.take, List.drop]
    (repeat (first | refine RS.Sv ?_ | refine RS.Yv ?_ | refine RS.no rfl (by decide) rfl ?_ | refine RS.nil ?_))
    cases h1 : decide ((0 : Int) < (v[k].length : Int))
    case false =>
      have hnil : v[k] = [] := List.length_eq_zero_iff.1 (by have := of_decide_eq_false h1; omega)
      rw [hnil] at hsucc
      (repeat (first | refine RS.Sv ?_ | refine RS.Yv ?_ | refine RS.no rfl (by decide) rfl ?_ | refine RS.nil ?_))
      (repeat (first | refine RO.Sv ?_ | refine RO.Yv ?_ | refine RO.no rfl (by decide) rfl ?_ | refine RO.nil ?_ | refine DW.region ?_ | refine DW.seq ?_ | refine DW.block ?_ | refine DW.skip ?_ | refine DW.exit ?_ | refine DW.condT rfl ?_ | refine DW.condF rfl ?_))
      exact ⟨k + 1, hlt, by dsimp only; omega, rfl, rfl, rfl, rfl, by rw [hsucc]; rfl, rfl, rfl, rfl, trivial⟩
    have hlk : 0 < v[k].length := by have := of_decide_eq_true h1; omega
    have ht := hok k hlt hlk
    obtain ⟨t, g, hvk⟩ : ∃ t g, v[k] = t :: g := by
      cases hc : v[k] with
      | nil => rw [hc] at hlk; simp at hlk
      | cons t g => exact ⟨t, g, rfl⟩
    have hvk0 : v[k][0] = t := by simp [hvk]
    cases hx : topAt r v k with
    | none =>
      rw [hx, hvk] at hsucc
      (repeat (first | refine RS.Sv ?_ | refine RS.Yv ?_ | refine RS.no rfl (by decide) rfl ?_ | refine RS.nil ?_))
      (repeat (first | refine RO.Sv ?_ | refine RO.Yv ?_ | refine RO.no rfl (by decide) rfl ?_ | refine RO.nil ?_ | refine DW.region ?_ | refine DW.seq ?_ | refine DW.block ?_ | refine DW.skip ?_ | refine DW.exit ?_ | refine DW.condT rfl ?_ | refine DW.condF rfl ?_))
      exact ⟨k + 1, hlt, by dsimp only; omega, rfl, rfl, rfl, rfl, by rw [hsucc]; rfl, rfl, rfl, rfl, trivial⟩
    | some x =>
      obtain ⟨a, u⟩ := x
      obtain ⟨hak, ha, ha2, hau⟩ := topAt_ok hk hx
      have hu := hok a ha ha2
      have hat : atOf (some (a, u)) = (a : Int) := rfl
      have hneg : decide ((a : Int) < 0) = false := decide_eq_false (by omega)
      rw [hx, hvk] at hsucc
      rw [hat]
      (repeat (first | refine RS.Sv ?_ | refine RS.Yv ?_ | refine RS.no rfl (by decide) rfl ?_ | refine RS.nil ?_))
      rw [hneg]
      (repeat (first | refine RS.Sv ?_ | refine RS.Yv ?_ | refine RS.no rfl (by decide) rfl ?_ | refine RS.nil ?_))
      refine RS.yes rfl (fun H' hov => sta_call rfl rfl (First_pure r k a (ht.mok hn hB) (hu.mok hn hB) (by rw [ht.len, hu.len]) _)) rfl ?_
      (repeat (first | refine RS.Sv ?_ | refine RS.Yv ?_ | refine RS.no rfl (by decide) rfl ?_ | refine RS.nil ?_))
      have hst : topStep r (some (a, u)) k (t :: g) = if firstT r k v[k][0].e a v[a][0].e = true then some (k, t) else some (a, u) := by rw [hvk0, hau]; rfl
      rw [hst] at hsucc
      cases h2 : firstT r k v[k][0].e a v[a][0].e
      · rw [h2, if_neg (by simp)] at hsucc
        (repeat (first | refine RO.Sv ?_ | refine RO.Yv ?_ | refine RO.no rfl (by decide) rfl ?_ | refine RO.nil ?_ | refine DW.region ?_ | refine DW.seq ?_ | refine DW.block ?_ | refine DW.skip ?_ | refine DW.exit ?_ | refine DW.condT rfl ?_ | refine DW.condF rfl ?_))
        exact ⟨k + 1, hlt, by dsimp only; omega, rfl, rfl, rfl, rfl, by rw [hsucc]; rfl, rfl, rfl, rfl, trivial⟩
      · rw [h2, if_pos rfl] at hsucc
        (repeat (first | refine RO.Sv ?_ | refine RO.Yv ?_ | refine RO.no rfl (by decide) rfl ?_ | refine RO.nil ?_ | refine DW.region ?_ | refine DW.seq ?_ | refine DW.block ?_ | refine DW.skip ?_ | refine DW.exit ?_ | refine DW.condT rfl ?_ | refine DW.condF rfl ?_))
        exact ⟨k + 1, hlt, by dsimp only; omega, rfl, rfl, rfl, rfl, by rw [hsucc]; rfl, rfl, rfl, rfl, trivial⟩
  · have hke : k = v.length := by have := of_decide_eq_false hb; omega
    subst hke
    clear hb
    show DW _ _ _ _ _
    have hov := (Over.refl H).set (x := (47, [I 0, .nil])) hb5
    unfold topV
    cases hx : topAt r v v.length with
    | none =>
      (repeat (first | refine RO.Sv ?_ | refine RO.Yv ?_ | refine RO.no rfl (by decide) rfl ?_ | refine RO.nil ?_ | refine DW.region ?_ | refine DW.seq ?_ | refine DW.block ?_ | refine DW.skip ?_ | refine DW.exit ?_ | refine DW.condT rfl ?_ | refine DW.condF rfl ?_))
      refine RO.sta (s_buildT (out := [I 0, .nil]) rfl rfl) rfl ?_
      (repeat (first | refine RO.Sv ?_ | refine RO.Yv ?_ | refine RO.no rfl (by decide) rfl ?_ | refine RO.nil ?_ | refine DW.region ?_ | refine DW.seq ?_ | refine DW.block ?_ | refine DW.skip ?_ | refine DW.exit ?_ | refine DW.condT rfl ?_ | refine DW.condF rfl ?_))
      refine RO.dyn rfl (d_store (k := 2) rfl rfl rfl (Heap.set_self _ _ _) (by decide) (by simp [cellsOf, D.isCell]) ?_)
      (repeat (first | refine RO.Sv ?_ | refine RO.Yv ?_ | refine RO.no rfl (by decide) rfl ?_ | refine RO.nil ?_ | refine DW.region ?_ | refine DW.seq ?_ | refine DW.block ?_ | refine DW.skip ?_ | refine DW.exit ?_ | refine DW.condT rfl ?_ | refine DW.condF rfl ?_))
      rw [Heap.set_set]
      exact DW.ret ⟨.inl rfl, _, .tmp rfl (.cell (cells := [I 0, .nil]) inferInstance rfl (Heap.set_self _ _ _) .nil), (Over.refl _).set hb5, .tup2 (.same _) frz_tm0⟩
    | some x =>
      obtain ⟨a, u⟩ := x
      obtain ⟨hak, ha, ha2, hau⟩ := topAt_ok hk hx
      have hat : atOf (some (a, u)) = (a : Int) := rfl
      have hneg : decide ((a : Int) < 0) = false := decide_eq_false (by omega)
      rw [hat]
      (repeat (first | refine RO.Sv ?_ | refine RO.Yv ?_ | refine RO.no rfl (by decide) rfl ?_ | refine RO.nil ?_ | refine DW.region ?_ | refine DW.seq ?_ | refine DW.block ?_ | refine DW.skip ?_ | refine DW.exit ?_ | refine DW.condT rfl ?_ | refine DW.condF rfl ?_))
      rw [hneg]
      (repeat (first | refine RO.Sv ?_ | refine RO.Yv ?_ | refine RO.no rfl (by decide) rfl ?_ | refine RO.nil ?_ | refine DW.region ?_ | refine DW.seq ?_ | refine DW.block ?_ | refine DW.skip ?_ | refine DW.exit ?_ | refine DW.condT rfl ?_ | refine DW.condF rfl ?_))
      refine DW.drawS 8 Try.mixed (by kernel_rfl) (by decide) ?_
      dsimp only [List.take, List.drop]
      (repeat (first | refine RS.Sv ?_ | refine RS.Yv ?_ | refine RS.no rfl (by decide) rfl ?_ | refine RS.nil ?_))
      refine RO.dyn rfl (d_storeTm rfl rfl (Heap.set_self _ _ _) rfl ?_)
      (repeat (first | refine RO.Sv ?_ | refine RO.Yv ?_ | refine RO.no rfl (by decide) rfl ?_ | refine RO.nil ?_ | refine DW.region ?_ | refine DW.seq ?_ | refine DW.block ?_ | refine DW.skip ?_ | refine DW.exit ?_ | refine DW.condT rfl ?_ | refine DW.condF rfl ?_))
      rw [Heap.set_set]
      refine DW.ret ⟨.inl rfl, _, .tmp rfl (.cell (cells := [I v[a][0].c, intsD v[a][0].e]) inferInstance rfl (Heap.set_self _ _ _) .nil), (Over.refl _).set hb5, .tup2 (.same _) ?_⟩
      rw [hau]
      exact .same _

end Go.Proofs.Ytblileclefbklaa
