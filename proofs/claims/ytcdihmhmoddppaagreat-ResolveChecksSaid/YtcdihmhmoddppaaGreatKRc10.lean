/-
  A pointer that is looked at; the head of a mutable slice; a slice that nothing reads; nothing appended; one element cleared; a number without a sign. No condition.
-/
import Derived.Test.YtcdihmhmoddppaaGreatKRc9
import Derived.Test.YtcdihmhmoddppaaGreatKRc8
import Derived.Laws.Strings
import Derived.Laws.BytesArg

namespace Go.Proofs.YtcdihmhmoddppaaGreat
open Go.RowKit
set_option linter.unusedVariables false
set_option linter.unusedSimpArgs false

/-- What a function's result variables hold. -/
inductive ResR (P : Program) (e : Env) (H : Heap) : List ResultVar → List D → Prop
  | nil : ResR P e H [] []
  | tmp {t : Tmp} {d : D} {l : List ResultVar} {ds : List D} (h : e.get t = some d) (r : ResR P e H l ds) : ResR P e H (.tmp t :: l) (d :: ds)
  | cell {x : Tmp} {t T0 : TypeId} {b : Nat} {cells : List D} {l : List ResultVar} {ds : List D} (ht : AggT P t cells.length) (h : e.get x = some (.ptr b 0)) (hH : H b = some (T0, cells)) (r : ResR P e H l ds) : ResR P e H (.cell x t :: l) (.agg cells :: ds)

theorem run_cellRes {P : Program} {w : World} {H : Heap} {t T0 : TypeId} {b : Nat} {cells : List D} [AggT P t cells.length] (ho : HOK w H) (hH : H b = some (T0, cells)) : ∃ v, (loadVar t ⟨b, 0, none⟩).run P w = .ok v w ∧ Rep w H v (.agg cells) := by
  obtain ⟨td, inf, hu, hd, hi, hs⟩ := AggT.h (P := P) (t := t) (k := cells.length)
  obtain ⟨cs, hcb, hcl, hcr⟩ := ho b T0 cells hH
  have hvs : ∀ (m : Nat) (v : Value), ((List.range inf.size).map fun m => cs.getD m undef)[m]? = some v → w.cell? ((⟨b, 0, none⟩ : Addr).add m) = some v := fun m v hm => by
    simp only [List.getElem?_map, Option.map_eq_some_iff] at hm
    obtain ⟨m', hm', rfl⟩ := hm
    have hlt : m < inf.size := by
      have := (List.getElem?_eq_some_iff.1 hm').1
      simpa using this
    rw [List.getElem?_range hlt] at hm'
    cases hm'
    have hy : cells[m]? = some (cells[m]'(by omega)) := by simp
    obtain ⟨_, u, hu', _⟩ := hcr m _ hy
    rw [addr_add, cell_of_row w b (0 + m) cs T0 (0, 0) hcb, Nat.zero_add, hu']
    simp [Array.getD_eq_getD_getElem?, hu']
  have hload := run_load_agg hu hd hi w (by simp) hvs
  simp only [Instr.loadAt, Instr.sureAddr, Sem.run_bind, Sem.run_pure, Result.andThen_ok] at hload
  refine ⟨_, hload, RepsA.agg ⟨by simp [hs], fun m y hy => ?_⟩⟩
  have hlt : m < inf.size := by rw [hs]; exact (List.getElem?_eq_some_iff.1 hy).1
  obtain ⟨_, u, hu', hrep⟩ := hcr m y hy
  exact ⟨u, by simp [hlt, Array.getD_eq_getD_getElem?, hu'], hrep⟩

theorem run_resultsR {C : Ctx} {a : Act} {w : World} {e : Env} {H : Heap} (hs : St C a w e H) (fn : Func) {ds : List D} (h : ResR C.P e H fn.results.toList ds) : ∃ v, (results fn a.tmps).run C.P w = .ok v w ∧ Rep w H v (resOne ds) := by
  have key : ∀ (l : List ResultVar) (ds : List D), ResR C.P e H l ds → ∃ vs : List Value, (l.mapM (resSem a.tmps)).run C.P w = .ok vs w ∧ RepsA w H vs.toArray ds := by
    intro l ds h
    induction h with
    | nil => exact ⟨[], by simp, rfl, fun j x hx => by simp at hx⟩
    | @tmp t d l ds hx r ih =>
      obtain ⟨vs, h1, h2⟩ := ih
      obtain ⟨v, hv, hrep⟩ := hs.env t d hx
      have hvd : a.tmps.getD t undef = v := by simp [Array.getD_eq_getD_getElem?, hv]
      refine ⟨v :: vs, ?_, by simpa using h2.1, fun j y hy => ?_⟩
      · rw [List.mapM_cons]
        simp only [resSem, Sem.run_bind, hvd, Sem.run_pure, Result.andThen_ok, h1]
      · cases j with
        | zero => simp at hy; subst hy; exact ⟨v, by simp, hrep⟩
        | succ j =>
          obtain ⟨u, hu, hrep'⟩ := h2.2 j y (by simpa using hy)
          exact ⟨u, by simpa using hu, hrep'⟩
    | @cell x t T0 b cells l ds ht hx hH r ih =>
      obtain ⟨vs, h1, h2⟩ := ih
      obtain ⟨v, hv, hrep⟩ := hs.env x _ hx
      have hvp := rep_ptr hrep
      subst hvp
      have hvd : a.tmps.getD x undef = .pointer (some ⟨b, 0, none⟩) := by simp [Array.getD_eq_getD_getElem?, hv]
      obtain ⟨v, hrun, hrep2⟩ := run_cellRes (P := C.P) (t := t) hs.heap hH
      refine ⟨v :: vs, ?_, by simpa using h2.1, fun j y hy => ?_⟩
      · rw [List.mapM_cons]
        simp only [resSem, Sem.run_bind, hvd, asAddr, Sem.run_pure, Result.andThen_ok, hrun, h1]
      · cases j with
        | zero => simp at hy; subst hy; exact ⟨v, by simp, hrep2⟩
        | succ j =>
          obtain ⟨u, hu, hrep'⟩ := h2.2 j y (by simpa using hy)
          exact ⟨u, by simpa using hu, hrep'⟩
  obtain ⟨vs, h1, h2⟩ := key fn.results.toList ds h
  have hmap : (fn.results.mapM (resSem a.tmps)).run C.P w = .ok vs.toArray w := by
    rw [← Array.toArray_toList (xs := fn.results), List.mapM_toArray, Sem.run_map, h1]
    rfl
  refine ⟨if h : vs.toArray.size = 1 then vs.toArray[0] else .tuple vs.toArray, ?_, ?_⟩
  · rw [results_eq]
    simp only [Sem.run_bind, hmap, Result.andThen_ok, Sem.run_pure]
  · have hlen : vs.length = ds.length := by simpa using h2.1
    match ds, hlen, h2 with
    | [], hlen, h2 =>
      rw [dif_neg (by simp [hlen])]
      exact h2.tup
    | [d], hlen, h2 =>
      rw [dif_pos (by simp [hlen])]
      obtain ⟨u, hu, hr⟩ := h2.2 0 d rfl
      have : vs.toArray[0]'(by simp [hlen]) = u := by
        rw [Array.getElem?_eq_getElem (by simp [hlen])] at hu
        exact Option.some.inj hu
      rw [this]
      exact hr
    | d :: d' :: ds, hlen, h2 =>
      rw [dif_neg (by simp [hlen])]
      exact h2.tup

theorem CallD.of_bodyR {P : Program} {H : Heap} {f : FuncId} {fn : Func} {c : Code} {ds : List D} {K : D → Heap → Prop} (hf : P.funcs[f]? = some fn) (hb : fn.body = some c) (hn : (fn.name == "runtime.NumGoroutine") = false) (hds : ds.length ≤ fn.ntmps)
    (h : ∀ w0 : World, DW ⟨P, fn.ntmps, w0, H⟩ c (argEnv 0 ds) H fun x e H' => (x = .ret ∨ x = .normal) ∧ ∃ rs d H'', ResR P e H' fn.results.toList rs ∧ H''.sub H' ∧ Frz H' H'' (resOne rs) d ∧ K d H'') : CallD P H f ds K := by
  refine ⟨⟨fn, hf, hn, by rw [hb]; rfl⟩, fun w args ho ha => ?_⟩
  refine calls_of_wp hf hb ?_
  have hst : St ⟨P, fn.ntmps, w, H⟩ { tmps := args ++ Array.replicate (fn.ntmps - args.size) undef, defers := [] } w (argEnv 0 ds) H := by
    refine ⟨by simp [ha.1]; omega, rfl, fun t d hd => ?_, ho, .refl _ _⟩
    obtain ⟨_, hd'⟩ := argEnv_get ds 0 t d hd
    obtain ⟨v, hv, hr⟩ := ha.2 t d (by simpa using hd')
    exact ⟨v, by rw [Array.getElem?_append_left (Array.getElem?_eq_some_iff.1 hv).1]; exact hv, hr⟩
  refine wp_mono ((h w).go _ w hst) fun x a' w' hx => ?_
  obtain ⟨e', H', ⟨hxx, rs, d, H'', hres, hsub, hfrz, hK⟩, s⟩ := hx
  obtain ⟨v, hrun, hrep⟩ := run_resultsR s fn hres
  have fin : a'.defers = [] ∧ ∃ v, (results fn a'.tmps).run P w' = .ok v w' ∧ ∃ v' d H', Ending.returned v = .returned v' ∧ K d H' ∧ Rep w' H' v' d ∧ HOK w' H' ∧ Ext w H w' H' :=
    ⟨s.defers, v, hrun, v, d, H'', rfl, hK, Rep.frz s.heap hsub hfrz hrep, s.heap.sub hsub, s.ext.sub hsub⟩
  rcases hxx with rfl | rfl
  · exact fin
  · exact fin

/-- A pure function some of whose results are cells, by its body. -/
theorem PureH.of_bodyR {P : Program} {H : Heap} {f : FuncId} {fn : Func} {c : Code} {ds : List D} {d : D} (hf : P.funcs[f]? = some fn) (hb : fn.body = some c) (hn : (fn.name == "runtime.NumGoroutine") = false) (hds : ds.length ≤ fn.ntmps)
    (h : ∀ w0 : World, DW ⟨P, fn.ntmps, w0, H⟩ c (argEnv 0 ds) H fun x e H' => (x = .ret ∨ x = .normal) ∧ ∃ rs, ResR P e H' fn.results.toList rs ∧ Over H H' ∧ Frz H' H (resOne rs) d) : PureH P H f ds d := by
  have := CallD.of_bodyR (K := fun d' H' => d' = d ∧ H' = H) hf hb hn hds (H := H) fun w0 => (h w0).mono fun x e H' ⟨h1, rs, h2, h3, h4⟩ => ⟨h1, rs, d, H, h2, h3, h4, rfl, rfl⟩
  exact ⟨this.body, fun w args ho ha => (this.calls w args ho ha).mono fun en w' ⟨v, d', H', h1, ⟨h2, h3⟩, h4, h5, h6⟩ => by subst h2; subst h3; exact ⟨v, h1, h4, h5, h6⟩⟩

/-- A row of nils, as a row of empty lists. -/
theorem frz_nils {H H' : Heap} {b n k : Nat} {T : TypeId} (hH : H b = some (T, List.replicate n D.nil)) (hn : H' b = none) : Frz H H' (.ref b 0 n 1) (.list 1 (List.replicate n (.list k []))) := by
  have h := Frz.ref (H := H) (H' := H') (b := b) (k := 1) (l := List.replicate n (D.list k [])) hH hn (fun i d hd => by
    rw [List.eq_of_mem_replicate (List.mem_of_getElem? hd)]; rfl) (by simp [cellsOf]) (fun j x y hx hy => by
    have h1 := List.eq_of_mem_replicate (List.mem_of_getElem? hx)
    have h2 : y ∈ (List.replicate n (D.list k [])).flatMap cellsOf := List.mem_of_getElem? hy
    obtain ⟨z, hz, hyz⟩ := List.mem_flatMap.1 h2
    rw [List.eq_of_mem_replicate hz] at hyz
    simp [cellsOf] at hyz
    rw [h1, hyz]
    exact .nil k)
  rwa [List.length_replicate] at h

/-- A row, some places of which are nil still. -/
theorem Frz.row {H H' : Heap} {b k n : Nat} {l : List D} {T : TypeId} {cells : List D} (hH : H b = some (T, cells)) (hn : H' b = none) (hu : Uni k l) (hl : n = l.length) (hc : (l.flatMap cellsOf).length = cells.length)
    (h : ∀ (j : Nat) (x y : D), cells[j]? = some x → (l.flatMap cellsOf)[j]? = some y → Frz H H' x y) : Frz H H' (.ref b 0 n k) (.list k l) := by
  subst hl
  exact .ref hH hn (fun i d hd => (hu d (List.mem_of_getElem? hd)).1) hc h

end Go.Proofs.YtcdihmhmoddppaaGreat

namespace Go.Proofs.YtcdihmhmoddppaaGreat
open Go.RowKit
set_option linter.unusedVariables false
set_option linter.unusedSimpArgs false

theorem Rep.seen_list {w : World} {H : Heap} {v : Value} {k : Nat} {l l' : List D} (h : Rep w H v (.list k l)) (hl : l'.length = l.length)
    (hs : ∀ (i : Nat) (d d' : D), l[i]? = some d → l'[i]? = some d' → (cellsOf d').length = (cellsOf d).length ∧ ∀ (j : Nat) (x x' : D), (cellsOf d)[j]? = some x → (cellsOf d')[j]? = some x' → Seen x x') : Rep w H v (.list k l') := by
  cases h with
  | @list _ _ a c vals hc hm h1 h2 h3 =>
    have at1 : ∀ (i j : Nat) (x' : D), cellAt l' i j = some x' → ∃ x, cellAt l i j = some x ∧ Seen x x' := fun i j x' hx => by
      unfold cellAt at hx ⊢
      cases hi' : l'[i]? with
      | none => simp [hi'] at hx
      | some d' =>
        simp only [hi', Option.bind_some] at hx
        have hlt : i < l.length := by rw [← hl]; exact (List.getElem?_eq_some_iff.1 hi').1
        obtain ⟨e1, e2⟩ := hs i l[i] d' (by simp [hlt]) hi'
        have hj : j < (cellsOf l[i]).length := by rw [← e1]; exact (List.getElem?_eq_some_iff.1 hx).1
        exact ⟨(cellsOf l[i])[j], by simp [hlt, hj], e2 j _ x' (by simp [hj]) hx⟩
    rw [← hl]
    refine Rep.list vals (by omega) hm (fun i d' hi' => ?_) (fun i j x' hx => ?_) (fun i j x' hx => ?_)
    · have hlt : i < l.length := by rw [← hl]; exact (List.getElem?_eq_some_iff.1 hi').1
      rw [(hs i l[i] d' (by simp [hlt]) hi').1]
      exact h1 i l[i] (by simp [hlt])
    · obtain ⟨x, hx1, _⟩ := at1 i j x' hx
      exact h2 i j x hx1
    · obtain ⟨x, hx1, hx2⟩ := at1 i j x' hx
      exact hx2.rep (h3 i j x hx1)

theorem Sta.seen_list {P : Program} {H : Heap} {e : Env} {o : Oper} {k : Nat} {l l' : List D} (h : Sta P H e o (.list k l)) (hl : l'.length = l.length)
    (hs : ∀ (i : Nat) (d d' : D), l[i]? = some d → l'[i]? = some d' → (cellsOf d').length = (cellsOf d).length ∧ ∀ (j : Nat) (x x' : D), (cellsOf d)[j]? = some x → (cellsOf d')[j]? = some x' → Seen x x') : Sta P H e o (.list k l') :=
  .mk fun ρ w ha ho => (h.go ρ w ha ho).mono fun v w' ⟨h1, h2, h3⟩ => ⟨h1.seen_list hl hs, h2, h3⟩

end Go.Proofs.YtcdihmhmoddppaaGreat

namespace Go.Proofs.YtcdihmhmoddppaaGreat
open Go.RowKit
set_option linter.unusedVariables false
set_option linter.unusedSimpArgs false

theorem DW.seeCells {C : Ctx} {c : Code} {e : Env} {H : Heap} {Q : Post} {b : Nat} {T : TypeId} {cells : List D} (cells' : List D) (hH : H b = some (T, cells)) (hl : cells'.length = cells.length)
    (hc : ∀ (j : Nat) (x x' : D), cells[j]? = some x → cells'[j]? = some x' → x'.isCell = true ∧ Seen x x') (hd : DW C c e (H.set b (T, cells')) Q) : DW C c e H Q := by
  have hn : ∀ b', H b' = none → H.set b (T, cells') b' = none := fun b' h => by
    by_cases hb : b' = b
    · rw [hb, hH] at h; cases h
    · rw [Heap.set_other _ _ hb]; exact h
  refine .mk fun a w hst => hd.go a w ⟨hst.size, hst.defers, fun t d ht => ?_, ?_, ?_⟩
  · obtain ⟨v, hv, hr⟩ := hst.env t d ht
    exact ⟨v, hv, hr.kept ⟨fun b' off v' h hw => ⟨hn b' h, hw⟩, fun b' cs T' h => ⟨cs, h, rfl⟩⟩⟩
  · have hk : Kept w H w (H.set b (T, cells')) := ⟨fun b' off v' h hw => ⟨hn b' h, hw⟩, fun b' cs T' h => ⟨cs, h, rfl⟩⟩
    refine ⟨?_, fun g cs hg => ⟨hn g (hst.heap.inv g cs hg).1, (hst.heap.inv g cs hg).2⟩⟩
    intro b' T' cl hx
    by_cases hb : b' = b
    · subst hb
      rw [Heap.set_self] at hx
      cases hx
      obtain ⟨cs, h1, h2, h3⟩ := hst.heap _ _ _ hH
      refine ⟨cs, h1, by omega, fun j x' hj => ?_⟩
      have hjl : j < cells.length := by rw [← hl]; exact (List.getElem?_eq_some_iff.1 hj).1
      have hx : cells[j]? = some cells[j] := by simp [hjl]
      obtain ⟨hcell, hs⟩ := hc j _ x' hx hj
      obtain ⟨_, v, hv, hr⟩ := h3 j _ hx
      exact ⟨hcell, v, hv, hs.rep (hr.kept hk)⟩
    · rw [Heap.set_other _ _ hb] at hx
      obtain ⟨cs, h1, h2, h3⟩ := hst.heap _ _ _ hx
      exact ⟨cs, h1, h2, fun j x hj => let ⟨hcell, v, hv, hr⟩ := h3 j x hj; ⟨hcell, v, hv, hr.kept hk⟩⟩
  · exact ⟨hst.ext.os, hst.ext.tape, hst.ext.output, hst.ext.size, fun b' hb h => let ⟨h1, h2⟩ := hst.ext.old b' hb h; ⟨hn b' h1, h2⟩, hst.ext.shape⟩

end Go.Proofs.YtcdihmhmoddppaaGreat

namespace Go.Proofs.YtcdihmhmoddppaaGreat
open Go.RowKit
set_option linter.unusedVariables false
set_option linter.unusedSimpArgs false

/-- The row stands in block bL; each slice has a block of its own, that is none of those of D0. -/
structure RowsOk (D0 : Nat → Prop) (H : Heap) (bL : Nat) (T E : TypeId) (k : Nat) (ls : List (List D)) (ds : List D) : Prop where
  row : H bL = some (T, ds)
  len : ds.length = ls.length
  is : ∀ (j : Nat) (h : j < ds.length) (h2 : j < ls.length), Uni k ls[j] ∧ ((ds[j] = .nil ∧ ls[j] = []) ∨ ∃ b, ¬ D0 b ∧ b ≠ bL ∧ ds[j] = .ref b 0 ls[j].length k ∧ H b = some (E, ls[j].flatMap cellsOf))
  dist : ∀ (i j : Nat) (h1 : i < ds.length) (h2 : j < ds.length), i ≠ j → ∀ b, ds[i].blk = some b → ds[j].blk ≠ some b

theorem RowsOk.init {D0 : Nat → Prop} {H : Heap} {bL : Nat} {T E : TypeId} {k n : Nat} (h : H bL = some (T, List.replicate n .nil)) : RowsOk D0 H bL T E k (List.replicate n []) (List.replicate n .nil) :=
  ⟨h, by simp, fun j h1 h2 => by
    rw [List.getElem_replicate, List.getElem_replicate]
    exact ⟨Uni.nil k, .inl ⟨rfl, rfl⟩⟩, fun i j h1 h2 _ b hb => by rw [List.getElem_replicate] at hb; cases hb⟩

theorem RowsOk.over {D0 : Nat → Prop} {H H' : Heap} {bL : Nat} {T E : TypeId} {k : Nat} {ls : List (List D)} {ds : List D} (h : RowsOk D0 H bL T E k ls ds) (ho : Over H H') : RowsOk D0 H' bL T E k ls ds :=
  ⟨ho _ _ h.row, h.len, fun j h1 h2 => ⟨(h.is j h1 h2).1, (h.is j h1 h2).2.imp id fun ⟨b, c1, c2, c3, c4⟩ => ⟨b, c1, c2, c3, ho _ _ c4⟩⟩, h.dist⟩

theorem RowsOk.frame {D0 : Nat → Prop} {H H' : Heap} {bL : Nat} {T E : TypeId} {k : Nat} {ls : List (List D)} {ds : List D} (h : RowsOk D0 H bL T E k ls ds) (ho : ∀ c z, H c = some z → (c = bL ∨ ¬ D0 c) → H' c = some z) : RowsOk D0 H' bL T E k ls ds :=
  ⟨ho _ _ h.row (.inl rfl), h.len, fun j h1 h2 => ⟨(h.is j h1 h2).1, (h.is j h1 h2).2.imp id fun ⟨b, c1, c2, c3, c4⟩ => ⟨b, c1, c2, c3, ho _ _ c4 (.inr c1)⟩⟩, h.dist⟩

/-- A slice's own block. -/
theorem RowsOk.blk {D0 : Nat → Prop} {H : Heap} {bL : Nat} {T E : TypeId} {k : Nat} {ls : List (List D)} {ds : List D} (h : RowsOk D0 H bL T E k ls ds) {j b : Nat} (h1 : j < ds.length) (hb : ds[j].blk = some b) : ¬ D0 b ∧ b ≠ bL ∧ H b ≠ none := by
  have hlen := h.len
  rcases (h.is j h1 (by omega)).2 with ⟨c1, _⟩ | ⟨b', c1, c2, c3, c4⟩
  · rw [c1] at hb; cases hb
  · rw [c3] at hb; cases hb; exact ⟨c1, c2, by rw [c4]; simp⟩

theorem RowsOk.more {D0 : Nat → Prop} {H : Heap} {bL : Nat} {T E : TypeId} {k : Nat} {ls : List (List D)} {ds : List D} {b0 : Nat} (h : RowsOk D0 H bL T E k ls ds) (hn : H b0 = none) : RowsOk (fun c => D0 c ∨ c = b0) H bL T E k ls ds :=
  ⟨h.row, h.len, fun j h1 h2 => ⟨(h.is j h1 h2).1, (h.is j h1 h2).2.imp id fun ⟨b, c1, c2, c3, c4⟩ => ⟨b, (fun hh => hh.elim c1 fun e => by rw [e, hn] at c4; cases c4), c2, c3, c4⟩⟩, h.dist⟩

theorem RowsOk.less {D0 D1 : Nat → Prop} {H : Heap} {bL : Nat} {T E : TypeId} {k : Nat} {ls : List (List D)} {ds : List D} (h : RowsOk D1 H bL T E k ls ds) (hd : ∀ c, D0 c → D1 c) : RowsOk D0 H bL T E k ls ds :=
  ⟨h.row, h.len, fun j h1 h2 => ⟨(h.is j h1 h2).1, (h.is j h1 h2).2.imp id fun ⟨b, c1, c2, c3, c4⟩ => ⟨b, fun hh => c1 (hd b hh), c2, c3, c4⟩⟩, h.dist⟩

theorem Acc.cell {H0 H : Heap} {d : D} {k : Nat} {T : TypeId} {l : List D} (h : Acc H0 H d k T l) : cellsOf d = [d] ∧ d.isCell = true := by
  rcases h.is with ⟨rfl, _⟩ | ⟨b, _, rfl, _⟩ <;> exact ⟨rfl, rfl⟩

/-- What was there, but for a slice's own block. -/
def butBlk (H : Heap) (d : D) : Heap := fun c => if d.blk = some c then none else H c

theorem butBlk_over (H : Heap) (d : D) : Over (butBlk H d) H := fun c x h => by
  unfold butBlk at h
  split at h
  · cases h
  · exact h

theorem RowsOk.acc {D0 : Nat → Prop} {H : Heap} {bL : Nat} {T E : TypeId} {k : Nat} {ls : List (List D)} {ds : List D} (h : RowsOk D0 H bL T E k ls ds) {j : Nat} (h1 : j < ds.length) (h2 : j < ls.length) : Acc (butBlk H ds[j]) H ds[j] k E ls[j] := by
  obtain ⟨u, hi⟩ := h.is j h1 h2
  refine ⟨u, hi.imp id fun ⟨b, c1, c2, c3, c4⟩ => ⟨b, ?_, c3, c4⟩⟩
  unfold butBlk
  rw [c3]
  exact if_pos rfl

/-- A slice is put into the row. -/
theorem RowsOk.put {D0 : Nat → Prop} {H H' B : Heap} {bL : Nat} {T E : TypeId} {k : Nat} {ls : List (List D)} {ds : List D} (h : RowsOk D0 H bL T E k ls ds) (hD : ∀ c, D0 c → H c ≠ none) {a : Nat} (ha : a < ds.length) {d' : D} {l' : List D}
    (hacc : Acc B H' d' k E l') (hB : ∀ b, B b = none → H b = none ∨ ds[a].blk = some b) (hkeep : ∀ c z, H c = some z → ds[a].blk ≠ some c → H' c = some z) : RowsOk D0 (H'.set bL (T, ds.set a d')) bL T E k (ls.set a l') (ds.set a d') := by
  have hlen := h.len
  have hown : ∀ b, ds[a].blk = some b → ¬ D0 b ∧ b ≠ bL := fun b hb => by
    rcases (h.is a ha (by omega)).2 with ⟨c1, _⟩ | ⟨b', c1, c2, c3, _⟩
    · rw [c1] at hb; cases hb
    · rw [c3] at hb; cases hb; exact ⟨c1, c2⟩
  have hnew : ∀ b, d'.blk = some b → ¬ D0 b ∧ b ≠ bL ∧ ∀ (j : Nat) (hj : j < ds.length), j ≠ a → ds[j].blk ≠ some b := fun b hb => by
    have hBb : B b = none := by
      rcases hacc.is with ⟨c1, _⟩ | ⟨b', c1, c2, _⟩
      · rw [c1] at hb; cases hb
      · rw [c2] at hb; cases hb; exact c1
    rcases hB b hBb with hn | ho
    · refine ⟨fun hd => hD b hd hn, (fun he => by rw [he, h.row] at hn; cases hn), fun j hj _ hbl => ?_⟩
      rcases (h.is j hj (by omega)).2 with ⟨c1, _⟩ | ⟨b', c1, c2, c3, c4⟩
      · rw [c1] at hbl; cases hbl
      · rw [c3] at hbl; cases hbl; rw [c4] at hn; cases hn
    · exact ⟨(hown b ho).1, (hown b ho).2, fun j hj hja hbl => h.dist a j ha hj (fun e => hja e.symm) b ho hbl⟩
  refine ⟨Heap.set_self _ _ _, by simp [hlen], fun j h1 h2 => ?_, fun i j h1 h2 hij b hb => ?_⟩
  · have h1' : j < ds.length := by simpa using h1
    have h2' : j < ls.length := by simpa using h2
    rw [List.getElem_set, List.getElem_set]
    by_cases hja : a = j
    · subst hja
      rw [if_pos rfl, if_pos rfl]
      refine ⟨hacc.uni, hacc.is.imp id fun ⟨b, c1, c2, c3⟩ => ?_⟩
      have := hnew b (by rw [c2]; rfl)
      exact ⟨b, this.1, this.2.1, c2, by rw [Heap.set_other _ _ this.2.1]; exact c3⟩
    · rw [if_neg hja, if_neg hja]
      refine ⟨(h.is j h1' h2').1, (h.is j h1' h2').2.imp id fun ⟨b, c1, c2, c3, c4⟩ => ⟨b, c1, c2, c3, ?_⟩⟩
      rw [Heap.set_other _ _ c2]
      exact hkeep b _ c4 fun ho => h.dist a j ha h1' hja b ho (by rw [c3]; rfl)
  · have h1' : i < ds.length := by simpa using h1
    have h2' : j < ds.length := by simpa using h2
    rw [List.getElem_set] at hb
    rw [List.getElem_set]
    by_cases hia : a = i
    · subst hia
      rw [if_pos rfl] at hb
      rw [if_neg hij]
      exact (hnew b hb).2.2 j h2' (fun e => hij e.symm)
    · rw [if_neg hia] at hb
      by_cases hja : a = j
      · subst hja
        rw [if_pos rfl]
        exact fun hb' => (hnew b hb').2.2 i h1' (fun e => hia e.symm) hb
      · rw [if_neg hja]
        exact h.dist i j h1' h2' hij b hb

/-- The row and its slices are let go. -/
theorem RowsOk.frz {D0 : Nat → Prop} {H H1 : Heap} {bL : Nat} {T E : TypeId} {k n : Nat} {ls : List (List D)} {ds : List D} (h : RowsOk D0 H bL T E k ls ds) (hn : n = ls.length) (hL : H1 bL = none) (hb : ∀ b, ¬ D0 b → H1 b = none) : Frz H H1 (.ref bL 0 n 1) (.list 1 (ls.map (.list k))) := by
  have hu : ∀ l : List (List D), (l.map (D.list k)).flatMap cellsOf = l.map (D.list k) := fun l => flat_cells1 (fun _ => rfl) l
  refine Frz.row h.row hL (uni_map1 (fun _ => rfl) (fun _ => rfl) ls) (by simp [hn]) (by rw [hu, List.length_map]; exact h.len.symm) fun j x y hx hy => ?_
  rw [hu] at hy
  have hj : j < ds.length := (List.getElem?_eq_some_iff.1 hx).1
  have hj2 : j < ls.length := by rw [← h.len]; exact hj
  rw [List.getElem?_eq_getElem hj] at hx
  rw [List.getElem?_map, List.getElem?_eq_getElem hj2] at hy
  cases hx; cases hy
  obtain ⟨u, hi⟩ := h.is j hj hj2
  rcases hi with ⟨c1, c2⟩ | ⟨b, c1, c2, c3, c4⟩
  · rw [c1, c2]; exact .nil k
  · rw [c3]; exact Frz.list c4 (hb b c1) u rfl

/-- A heap of which no more is said than this. -/
theorem DW.asH {C : Ctx} {c : Code} {e : Env} {H : Heap} {Q : Post} (R : Heap → Prop) (hR : R H) (h : ∀ H2, R H2 → DW C c e H2 Q) : DW C c e H Q := h H hR
theorem RO.asH {C : Ctx} {ops rest : List Oper} {e : Env} {H : Heap} {K : Env → Heap → Prop} (R : Heap → Prop) (hR : R H) (h : ∀ H2, R H2 → RO C ops rest e H2 K) : RO C ops rest e H K := h H hR

end Go.Proofs.YtcdihmhmoddppaaGreat

namespace Go.Proofs.YtcdihmhmoddppaaGreat
open Go.RowKit
set_option linter.unusedVariables false
set_option linter.unusedSimpArgs false

abbrev strD (l : List UInt8) : D := .str ⟨l.toArray⟩

section
variable {P : Program} {H : Heap} {e : Env} {dst : Option Tmp} {ty : TypeId} {pos : String} {af : Array Edge} {gd : Option (Nat × Bool)}

theorem rep_str {w : World} {v : Value} {s : ByteArray} (h : Rep w H v (.str s)) : v = .string s := by cases h; rfl

theorem bytes_app (a b : List UInt8) : (⟨a.toArray⟩ : ByteArray) ++ ⟨b.toArray⟩ = ⟨(a ++ b).toArray⟩ := by
  apply ByteArray.ext
  simp

/-- A sum of strings. -/
theorem s_strAdd {x y : Operand} {tx t2 : TypeId} {a b : List UInt8} (hx : e.ev x = some (strD a)) (hy : e.ev y = some (strD b)) (hl : a.length + b.length ≤ 4611686018427387904) :
    Sta P H e ⟨dst, .binOp .add tx x y t2, ty, pos, af, gd⟩ (strD (a ++ b)) := .mk fun ρ w ha ho => by
  have h1 := rep_str (ha x _ hx)
  have h2 := rep_str (ha y _ hy)
  have hn : ¬ (((⟨a.toArray⟩ : ByteArray).size + (⟨b.toArray⟩ : ByteArray).size : Nat) : Int) > IntKind.i64.max := by
    have e1 : (⟨a.toArray⟩ : ByteArray).size = a.length := by simp [ByteArray.size]
    have e2 : (⟨b.toArray⟩ : ByteArray).size = b.length := by simp [ByteArray.size]
    have e3 : IntKind.i64.max = 9223372036854775807 := by decide
    rw [e1, e2, e3]
    omega
  simp only [OpTo, execOp, h1, h2, eqGuard, binOp, Op.stringOp, bind, pure, Sem.run, Sem.bind, ne_eq, not_true, if_false, Bool.not_eq_true, hn]
  exact ⟨by rw [bytes_app]; exact .str _, ho, .refl _ _⟩

/-- A comparison of strings. -/
theorem s_strEq {x y : Operand} {tx t2 : TypeId} {a b : List UInt8} (hx : e.ev x = some (strD a)) (hy : e.ev y = some (strD b)) :
    Sta P H e ⟨dst, .binOp .eql tx x y t2, ty, pos, af, gd⟩ (.bool (a == b)) := .mk fun ρ w ha ho => by
  have h1 := rep_str (ha x _ hx)
  have h2 := rep_str (ha y _ hy)
  simp only [OpTo, execOp, h1, h2, eqGuard, binOp, Op.stringOp, bind, pure, Sem.run, Sem.bind, ne_eq, not_true, if_false, Bool.not_eq_true, ByteArray.toList_mk]
  exact ⟨.bool _, ho, .refl _ _⟩

theorem s_strNe {x y : Operand} {tx t2 : TypeId} {a b : List UInt8} (hx : e.ev x = some (strD a)) (hy : e.ev y = some (strD b)) :
    Sta P H e ⟨dst, .binOp .neq tx x y t2, ty, pos, af, gd⟩ (.bool (!(a == b))) := .mk fun ρ w ha ho => by
  have h1 := rep_str (ha x _ hx)
  have h2 := rep_str (ha y _ hy)
  simp only [OpTo, execOp, h1, h2, eqGuard, binOp, Op.stringOp, bind, pure, Sem.run, Sem.bind, ne_eq, not_true, if_false, Bool.not_eq_true, ByteArray.toList_mk]
  exact ⟨.bool _, ho, .refl _ _⟩

/-- A part of a string. -/
theorem s_strCut {t : TypeId} {x lo hi : Operand} {l : List UInt8} {a b : Nat} (hu : P.underlying t = some .string) (hx : e.ev x = some (strD l)) (hlo : e.ev lo = some (I a)) (hhi : e.ev hi = some (I b)) (hab : a ≤ b) (hb : b ≤ l.length) :
    Sta P H e ⟨dst, .slice t x (some lo) (some hi) none, ty, pos, af, gd⟩ (strD ((l.take b).drop a)) := .mk fun ρ w ha ho => by
  have h1 := rep_str (ha x _ hx)
  have h2 := rep_int (ha lo _ hlo)
  have h3 := rep_int (ha hi _ hhi)
  have hs : (⟨l.toArray⟩ : ByteArray).size = l.length := by simp [ByteArray.size]
  have hr := run_slice_string (P := P) w t ⟨l.toArray⟩ .i64 .i64 (a : Int) (b : Int) hu (by omega) (by omega) (by rw [hs]; omega)
  have hr' : (Instr.sliceAt t (.string ⟨l.toArray⟩) (some (.int .i64 a)) (some (.int .i64 b)) none).run P w = .ok (.string ((⟨l.toArray⟩ : ByteArray).extract a b)) w := by
    simpa [Instr.sliceAt, run_underlying hu] using hr
  have hx2 : (⟨l.toArray⟩ : ByteArray).extract a b = ⟨((l.take b).drop a).toArray⟩ := by
    apply ByteArray.ext
    simp [ByteArray.data_extract]
    rw [List.drop_take]
  simp [OpTo, execOp, h1, h2, h3, hr']
  exact ⟨by rw [hx2]; exact .str _, ho, .refl _ _⟩

/-- A number as a byte. -/
theorem s_byte {t u : TypeId} {x : Operand} {n : Nat} (hu : P.underlying u = some (.int .u8)) (ht : P.underlying t = some (.int .i64)) (hx : e.ev x = some (I n)) (hn : n < 256) :
    Sta P H e ⟨dst, .convert t u x, ty, pos, af, gd⟩ (.int .u8 n) := .mk fun ρ w ha ho => by
  have h1 := rep_int (ha x _ hx)
  have hw : IntKind.u8.wrap (n : Int) = n := by
    simp [IntKind.wrap, IntKind.signed, IntKind.bits]
    omega
  simp [OpTo, execOp, h1, convert, run_underlying hu, run_underlying ht, Conv.intToInt, hw, Sem.run]
  exact ⟨.int _ _, ho, .refl _ _⟩

/-- A quotient. -/
theorem s_quo {x y : Operand} {tx t2 : TypeId} {a b : Int} (hx : e.ev x = some (I a)) (hy : e.ev y = some (I b)) (h0 : 0 ≤ a) (h1 : a ≤ 9223372036854775807) (hb : 0 < b) :
    Sta P H e ⟨dst, .binOp .quo tx x y t2, ty, pos, af, gd⟩ (I (a / b)) := .mk fun ρ w ha ho => by
  have h2 := rep_int (ha x _ hx)
  have h3 := rep_int (ha y _ hy)
  have hne : ¬ b = 0 := by omega
  have hr : 0 ≤ a / b ∧ a / b ≤ a := ⟨Int.ediv_nonneg h0 (by omega), Int.ediv_le_self b h0⟩
  simp only [OpTo, execOp, h2, h3, eqGuard, binOp, Op.intDiv, bind, pure, Sem.run, Sem.bind, ne_eq, not_true, if_false, hne, Bool.not_eq_true]
  rw [Int.tdiv_eq_ediv_of_nonneg h0, wrap_of_fits (by omega)]
  exact ⟨.int _ _, ho, .refl _ _⟩

/-- A text of one byte. -/
theorem s_textOne {t u E : TypeId} {x : Operand} {n : Nat} (ht : P.underlying t = some (.slice E)) (hE : P.underlying E = some (.int .u8)) (hu : P.underlying u = some .string) (hx : e.ev x = some (.list 1 [.int .u8 n])) :
    Sta P H e ⟨dst, .convert t u x, ty, pos, af, gd⟩ (strD [UInt8.ofNat n]) := .mk fun ρ w ha ho => by
  have h := ha x _ hx
  generalize hv : ρ x = v at h
  cases h with
  | list vals hc hm h1 h2 h3 =>
    rename_i ao c
    obtain ⟨b, off, rfl, hH, hw⟩ := h2 0 0 (.int .u8 n) rfl
    have hr := h3 0 0 (.int .u8 n) rfl
    rw [rep_int hr] at hw
    have hc1 := run_convert_bytes_arg (P := P) w t E ht hE b off 1 c [(n : Int)] rfl (fun i hi => by
      have : i = 0 := by omega
      subst this
      simpa using hw) u hu
    have hs : strOfNums [(n : Int)] = ⟨[UInt8.ofNat n].toArray⟩ := by simp [strOfNums]
    rw [hs] at hc1
    simp [OpTo, execOp, hv, hc1]
    exact ⟨.str _, ho, .refl _ _⟩

end

/-- Behind a call that leaves all that was there as it was. -/
theorem Ext.of_below {w w' : World} (H : Heap) (h : Below w.heap.size w w') : Ext w H w' H :=
  ⟨h.os, h.tape, h.output, h.size, fun b hb hH => ⟨hH, h.block b hb⟩, fun b cs T hc => ⟨cs, by rw [h.block b (lt_of_block hc)]; exact hc, rfl⟩⟩

/-- A call whose contract is on the world: it hands back this value and leaves all that was there as it was. -/
theorem pure_of_calls {P : Program} {f : FuncId} {ds : List D} {d : D} (hb : goBody P f) (h : ∀ (H : Heap) (w : World) (args : Array Value), HOK w H → RepsA w H args ds → Calls P f args w fun en w' => ∃ v, en = .returned v ∧ Rep w' H v d ∧ Below w.heap.size w w') : Pure P f ds d :=
  fun H => ⟨hb, fun w args ho hr => (h H w args ho hr).mono fun en w' ⟨v, h1, h2, h3⟩ => ⟨v, h1, h2, ho.ext (Ext.of_below H h3) (fun b x hx => h3.block b (ho.lt hx)), Ext.of_below H h3⟩⟩

end Go.Proofs.YtcdihmhmoddppaaGreat

namespace Go.Proofs.YtcdihmhmoddppaaGreat
open Go.RowKit
set_option linter.unusedVariables false
set_option linter.unusedSimpArgs false

section
variable {P : Program} {H : Heap} {e : Env} {dst : Option Tmp} {ty : TypeId} {pos : String} {af : Array Edge} {gd : Option (Nat × Bool)}

theorem s_nilCheck {x : Operand} {b off : Nat} (hx : e.ev x = some (.ptr b off)) : Sta P H e ⟨dst, .nilCheck x, ty, pos, af, gd⟩ (.ptr b off) := .mk fun ρ w ha ho => by
  have h := rep_ptr (ha x _ hx)
  simp [OpTo, execOp, h, Sem.run]
  exact ⟨.ptr _ _, ho, .refl _ _⟩

theorem s_uint {t u : TypeId} {x : Operand} {n : Nat} (hu : P.underlying u = some (.int .u64)) (ht : P.underlying t = some (.int .i64)) (hx : e.ev x = some (I n)) (hn : n < 1000000) :
    Sta P H e ⟨dst, .convert t u x, ty, pos, af, gd⟩ (.int .u64 n) := .mk fun ρ w ha ho => by
  have h1 := rep_int (ha x _ hx)
  have hw : IntKind.u64.wrap (n : Int) = n := by
    simp [IntKind.wrap, IntKind.signed, IntKind.bits]
    omega
  simp [OpTo, execOp, h1, convert, run_underlying hu, run_underlying ht, Conv.intToInt, hw, Sem.run]
  exact ⟨.int _ _, ho, .refl _ _⟩

/-- The head of a mutable slice. -/
theorem s_headRef {t E T : TypeId} {x hi : Operand} {lo : Option Operand} {b off n k bytes c : Nat} {cells zd : List D} [SliceT P t E] [ElT P E k zd bytes] (hH : H b = some (T, cells)) (hc : off + c * k ≤ cells.length)
    (hx : e.ev x = some (.ref b off n k)) (hlo : boundD e lo 0 = some 0) (hhi : boundD e (some hi) n = some c) :
    Sta P H e ⟨dst, .slice t x lo (some hi) none, ty, pos, af, gd⟩ (.ref b off c k) := .mk fun ρ w ha ho => by
  obtain ⟨inf, z, hi', hz1, hz2, hz3⟩ := (ElT.z (P := P) (E := E) (k := k) (zd := zd) (bytes := bytes)).is
  have hkp := ElT.pos (P := P) (E := E) (k := k) (zd := zd) (bytes := bytes)
  have h := ha x _ hx
  generalize hv : ρ x = v at h
  cases h with
  | ref hb hs hl hcm =>
    rename_i cap cs T'
    obtain ⟨cs', hb', hlen, _⟩ := ho b T cells hH
    rw [hb] at hb'
    cases hb'
    have hcap : c ≤ cap := by
      have : c * k ≤ cap * k := by omega
      exact Nat.le_of_mul_le_mul_right this hkp
    have hbd := run_sliceBounds (P := P) (w := w) (n := n) (cap := cap) (a := 0) (b := c) ha (lo := lo) (hi := some hi) hlo hhi (Nat.zero_le _) hcap
    have hr : (Instr.sliceAt t (.slice (some ⟨b, off, none⟩) n cap) (lo.map ρ) ((some hi).map ρ) none).run P w = .ok (.slice (some ⟨b, off, none⟩) c cap) w := by
      simp only [Instr.sliceAt, Instr.slice, Sem.run_bind, run_underlying (SliceT.h (P := P) (t := t) (E := E)), Result.andThen_ok]
      have e0 : (⟨b, off, none⟩ : Addr).add (0 * inf.size) = ⟨b, off, none⟩ := by rw [addr_add]; simp
      simp only [hbd, run_sizeOf hi', Result.andThen_ok, Sem.run_pure, Sem.run_bind]
      simp [addr_add]
    simp only [OpTo, execOp, hv, Sem.run_bind]
    simp only [Option.map_some, Option.map_none] at hr ⊢
    rw [hr]
    simp only [Result.andThen_ok, Sem.run_pure]
    exact ⟨.ref hb hs hcap hcm, ho, .refl _ _⟩

/-- Nothing appended. -/
theorem s_appendNone {t E : TypeId} {x y : Operand} {b off n k bytes : Nat} {zd : List D} [SliceT P t E] [ElT P E k zd bytes] (hx : e.ev x = some (.ref b off n k)) (hy : e.ev y = some (.list k [])) :
    Sta P H e ⟨dst, .call ⟨.builtin .append, #[x, y], #[t, t]⟩, ty, pos, af, gd⟩ (.ref b off n k) := .mk fun ρ w ha ho => by
  obtain ⟨inf, z, hi, hz1, hz2, hz3⟩ := (ElT.z (P := P) (E := E) (k := k) (zd := zd) (bytes := bytes)).is
  have hu := SliceT.h (P := P) (t := t) (E := E)
  have h := ha x _ hx
  have h' := ha y _ hy
  generalize hv : ρ x = v at h
  generalize hv' : ρ y = v' at h'
  generalize hl : ([] : List D) = l' at h'
  cases h with
  | ref hb hs hlc hcm =>
    rename_i cap cs T
    cases h' with
    | list vals hc hm h1 h2 h3 =>
      subst hl
      rename_i a c
      have hr : (Builtin.append_ #[t, t] ty #[.slice (some ⟨b, off, none⟩) n cap, .slice a 0 c]).run P w = .ok (.slice (some ⟨b, off, none⟩) n cap) w := by
        cases a <;> simp [Builtin.append_, run_underlying hu, run_sizeOf hi, Builtin.lenOf, hlc, Builtin.firstCells, loadCells, loadCellsFrom, storeCells]
      have hv0 : ρ y = Value.slice a 0 c := hv'
      rw [← hv, ← hv0] at hr
      simp only [OpTo, run_exec_append hr]
      rw [hv]
      exact ⟨.ref hb hs hlc hcm, ho, .refl _ _⟩

end

/-- An operation whose result nothing reads: it runs, and the world is as it was. -/
def DeadOp (P : Program) (H : Heap) (e : Env) (o : Oper) : Prop := ∀ (ρ : Operand → Value) (w : World), Agree ρ w H e → HOK w H → OpTo P ρ o w fun _ w' => w' = w

theorem St.dead {C : Ctx} {a : Act} {w : World} {e l : Env} {H : Heap} {s : Nat} (h : St C a w e H) (hl : Has e l) (hs : ∀ t d, l.get t = some d → t ≠ s) (v : Value) : St C (a.put (some s) v) w l H := by
  refine ⟨by simp [Act.put, h.size], h.defers, fun t x hx => ?_, h.heap, h.ext⟩
  obtain ⟨u, hu, hr⟩ := h.env t x (hl.get hx)
  refine ⟨u, ?_, hr⟩
  simp only [Act.put]
  rw [Array.getElem?_setIfInBounds, if_neg (fun hh => hs t x hx hh.symm)]
  exact hu

theorem RO.soundD {C : Ctx} {ops : List Oper} {o0 : Oper} {s : Nat} {l : Env} {K : Env → Heap → Prop} {Q : Exit → Act → World → Prop} (hg0 : o0.guard = none) (hd0 : o0.dst = some s) (hs : ∀ t d, l.get t = some d → t ≠ s)
    (hQ : ∀ H a w, K l H → St C a w l H → Q .normal a w) :
    ∀ (r : List Oper) (e : Env) (H : Heap) (a : Act) (w : World), RO C ops r e H (fun e' H' => DeadOp C.P H' e' o0 ∧ Has e' l ∧ K l H') → St C a w e H → wpList C.P ops.toArray Q (r ++ [o0]) a w
  | [], e, H, a, w, ⟨h1, h2, h3⟩, hst => by
    refine wpList_step fun L hL => ?_
    simp only [Region.wanted, hg0, if_true]
    refine wp_of_opTo (h1 a.eval w hst.agree hst.heap) fun v w' hw => hL _ _ (wpList_nil (hQ H _ _ h3 ?_))
    subst hw
    rw [hd0]
    exact hst.dead h2 hs v
  | o :: rest, e, H, a, w, h, hst => by
    obtain ⟨hd, hg⟩ := h
    have yes : (OpD C.P H e o fun d H' => RO C ops rest (e.putO o.dst d) H' _) → ∀ L : Act → World → Prop, (∀ a w, wpList C.P ops.toArray Q (rest ++ [o0]) a w → L a w) → o.wp C.P a w L Q := fun hop L hL =>
      wp_of_opTo (hop.go a.eval w hst.agree hst.heap) fun v w' ⟨d, H', hk, hr, ho, he⟩ => hL _ _ (RO.soundD hg0 hd0 hs hQ rest _ H' _ w' hk (hst.put hd hr ho he))
    have no : RO C ops rest (e.putO o.dst (.tup [])) H _ → wpList C.P ops.toArray Q (rest ++ [o0]) (a.put o.dst undef) w := fun hk =>
      RO.soundD hg0 hd0 hs hQ rest _ H _ w hk (hst.put hd (RepsA.tup (vs := #[]) (ds := []) ⟨rfl, fun j x hx => by simp at hx⟩) hst.heap (.refl _ _))
    refine wpList_step fun L hL => ?_
    unfold GuardIs at hg
    cases hgu : o.guard with
    | none =>
      rw [hgu] at hg
      simp only [Region.wanted, hgu, if_true]
      exact yes hg L hL
    | some jw =>
      obtain ⟨j, want⟩ := jw
      rw [hgu] at hg
      obtain ⟨b, hb, h1, h2⟩ := hg
      have hy := guard_yielded hst hb
      by_cases hbw : b = some want
      · rw [if_pos (by simp only [Region.wanted, hgu, hy, hbw]; exact beq_self_eq_true _)]
        exact yes (h1 hbw) L hL
      · rw [if_neg (by simp only [Region.wanted, hgu, hy]; intro hx; exact hbw (by simpa using hx))]
        exact hL _ _ (no (h2 hbw))

/-- A region whose last operation's result nothing reads. -/
theorem DW.regionDead {C : Ctx} {e : Env} {H : Heap} {Q : Post} {id : Nat} {ops : List Oper} (n : Nat) {o0 : Oper} {s : Nat} (l : Env) (hops : ops = ops.take n ++ [o0]) (hg0 : o0.guard = none) (hd0 : o0.dst = some s) (hs : ∀ t d, l.get t = some d → t ≠ s)
    (h : RO C ops (ops.take n) e H fun e' H' => DeadOp C.P H' e' o0 ∧ Has e' l ∧ Q .normal l H') : DW C (.region id ops.toArray false) e H Q := .mk fun a w hst =>
  wp_region_lit (by
    have := RO.soundD (Q := lift C Q) (K := fun l H => Q .normal l H) hg0 hd0 hs (fun H' a' w' hk hs' => ⟨l, H', hk, hs'⟩) (ops.take n) e H a w h hst
    rw [← hops] at this
    exact this)

section
variable {P : Program} {H : Heap} {e : Env} {dst : Option Tmp} {ty : TypeId} {pos : String} {af : Array Edge} {gd : Option (Nat × Bool)}

/-- s[0:1:1] of a mutable slice of one element: it runs. -/
theorem dead_slice3 {t E : TypeId} {x lo hi mx : Operand} {b off k bytes : Nat} {zd : List D} [SliceT P t E] [ElT P E k zd bytes] (hx : e.ev x = some (.ref b off 1 k)) (h0 : e.ev lo = some (I 0)) (h1 : e.ev hi = some (I 1)) (h2 : e.ev mx = some (I 1)) :
    DeadOp P H e ⟨dst, .slice t x (some lo) (some hi) (some mx), ty, pos, af, gd⟩ := fun ρ w ha ho => by
  obtain ⟨inf, z, hi', hz1, hz2, hz3⟩ := (ElT.z (P := P) (E := E) (k := k) (zd := zd) (bytes := bytes)).is
  have h := ha x _ hx
  have e0 := rep_int (ha lo _ h0)
  have e1 := rep_int (ha hi _ h1)
  have e2 := rep_int (ha mx _ h2)
  generalize hv : ρ x = v at h
  cases h with
  | ref hb hs hl hcm =>
    rename_i cap cs T'
    have hl' : (1 : Int) ≤ (cap : Int) := by omega
    simp [OpTo, execOp, hv, e0, e1, e2, Instr.sliceAt, Instr.slice, Instr.sliceBounds, Instr.sliceBound, asIntOf, run_underlying (SliceT.h (P := P) (t := t) (E := E)), run_sizeOf hi', hl, hl']

theorem run_exec_clear {ρ : Operand → Value} {w w' : World} {t : TypeId} {x : Operand} {v : Value} (h : (Builtin.clear_ #[t] ty #[ρ x]).run P w = .ok v w') :
    (execOp ρ ⟨dst, .call ⟨.builtin .clear, #[x], #[t]⟩, ty, pos, af, gd⟩).run P w = .ok (.value v) w' := by
  simp [execOp, resolve, invoke, builtin, h, Sem.run_bind]

/-- One element of a mutable slice cleared. -/
theorem opD_clear1 {t E T : TypeId} {x : Operand} {b k bytes : Nat} {cells zd : List D} {K : D → Heap → Prop} [SliceT P t E] [ElT P E k zd bytes] (hx : e.ev x = some (.ref b 0 1 k)) (hH : H b = some (T, cells)) (hl : cells.length = k) (hK : K (.tup []) (H.set b (T, zd))) :
    OpD P H e ⟨dst, .call ⟨.builtin .clear, #[x], #[t]⟩, ty, pos, af, gd⟩ K := .mk fun ρ w ha ho => by
  have hz := ElT.z (P := P) (E := E) (k := k) (zd := zd) (bytes := bytes)
  obtain ⟨inf, z, hi, hz1, hz2, hz3⟩ := hz.is
  have hu := SliceT.h (P := P) (t := t) (E := E)
  have h := ha x _ hx
  generalize hv : ρ x = v at h
  cases h with
  | ref hb hs hlc hcm =>
    rename_i cap cs T'
    obtain ⟨cs', hb', hlen, hcs⟩ := ho b T cells hH
    rw [hb] at hb'
    cases hb'
    have hcsz : z.cells.size = k := by rw [hz3]; simp [hz.len]
    have hzc : (Builtin.zeroCells z.cells 1).toList = zd.map litV := by
      have : Builtin.zeroCells z.cells 1 = z.cells := by
        apply Array.ext
        · simp [Builtin.zeroCells]
        · intro i h1 h2
          simp [Builtin.zeroCells, Nat.mod_eq_of_lt h2, h2]
      rw [this, hz3]
    have hone : ∀ v ∈ zd.map litV, v.oneCell' = true := fun v hv => by
      obtain ⟨d, hd, rfl⟩ := List.mem_map.1 hv
      have := List.all_eq_true.1 hz.lit d hd
      exact (rep_lit w H this).oneCell (litOk_cell this)
    have hst := run_storeCells_at P b 0 T (zd.map litV) 0 cs w hb (by simp [hz.len]; omega) hone
    simp only [Nat.add_zero, List.take_zero, List.nil_append, List.length_map, hz.len, Nat.zero_add] at hst
    have hrun : (Builtin.clear_ #[t] ty #[.slice (some ⟨b, 0, none⟩) 1 cap]).run P w = .ok (.tuple #[]) (w.setRow b (zd.map litV ++ cs.toList.drop k).toArray) := by
      simp [Builtin.clear_, run_underlying hu, run_zeroValue hi hz1, hzc, hst]
    rw [← hv] at hrun
    simp only [OpTo, run_exec_clear hrun]
    refine ⟨_, _, hK, RepsA.tup (vs := #[]) (ds := []) ⟨rfl, fun j x h => by simp at h⟩, ?_⟩
    refine ext_setCells ho hH hb (by simp [hz.len]; omega) (by simp [hz.len]) fun j y hy => ?_
    have hj : j < zd.length := (List.getElem?_eq_some_iff.1 hy).1
    have hy2 := List.mem_of_getElem? hy
    have hlo := List.all_eq_true.1 hz.lit y hy2
    refine ⟨litOk_cell hlo, litV y, ?_, rep_lit w H hlo⟩
    rw [List.getElem?_toArray, List.getElem?_append_left (by simpa using hj), List.getElem?_map, hy]
    rfl

/-- A mutable slice is not nil. -/
theorem s_eqNilRef {t t2 E : TypeId} {x : Operand} {k b off n bytes : Nat} {zd : List D} [SliceT P t E] [ElT P E k zd bytes] (hx : e.ev x = some (.ref b off n k)) :
    Sta P H e ⟨dst, .binOp .eql t x (.const (.slice none 0 0)) t2, ty, pos, af, gd⟩ (.bool false) := .mk fun ρ w ha ho => by
  have h := ha x _ hx
  have hc := ha.const (.slice none 0 0)
  generalize hv : ρ x = v at h
  cases h with
  | ref hb hs hl hcm =>
    rename_i cap cs T
    have hr := Lib.run_eql_slice_nil (P := P) w t E (some ⟨b, off, none⟩) n cap 0 0 SliceT.h
    simp only [OpTo, execOp, hv, hc, eqGuard, Sem.run_bind, Sem.run_pure]
    simp [hr]
    exact ⟨.bool _, ho, .refl _ _⟩

end

end Go.Proofs.YtcdihmhmoddppaaGreat
