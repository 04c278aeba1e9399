/-
  slices.SortFunc at members: the kit's contract laid at this program (written by the kit's laying tools for seat r9; the numbers are that seat's). No condition.
-/
import Derived.Test.YtfjmdhemlfafbaaGreatKHs8
import Derived.Laws.Strings
import Derived.Laws.BytesArg
import Derived.Test.YtfjmdhemlfafbaaGreatKHs6
import Derived.Shelf.SlSortCmp.WholeK
import Derived.Test.YtfjmdhemlfafbaaGreatProg
set_option linter.unusedVariables false
set_option linter.unusedSimpArgs false

namespace Go.Proofs.YtfjmdhemlfafbaaGreat
open Go.RowKit

inductive ResR (P : Program) (e : Env) (H : Heap) : List ResultVar → List D → Prop
  | nil : ResR P e H [] []
  | tmp {t : Tmp} {d : D} {l : List ResultVar} {ds : List D} (h : e.get t = some d) (r : ResR P e H l ds) : ResR P e H (.tmp t :: l) (d :: ds)
  | cell {x : Tmp} {t T0 : TypeId} {b : Nat} {cells : List D} {l : List ResultVar} {ds : List D} (ht : AggT P t cells.length) (h : e.get x = some (.ptr b 0)) (hH : H b = some (T0, cells)) (r : ResR P e H l ds) : ResR P e H (.cell x t :: l) (.agg cells :: ds)

theorem run_cellRes {P : Program} {w : World} {H : Heap} {t T0 : TypeId} {b : Nat} {cells : List D} [AggT P t cells.length] (ho : HOK w H) (hH : H b = some (T0, cells)) : ∃ v, (loadVar t ⟨b, 0, none⟩).run P w = .ok v w ∧ Rep w H v (.agg cells) := by
  obtain ⟨td, inf, hu, hd, hi, hs⟩ := AggT.h (P := P) (t := t) (k := cells.length)
  obtain ⟨cs, hcb, hcl, hcr⟩ := ho b T0 cells hH
  have hvs : ∀ (m : Nat) (v : Value), ((List.range inf.size).map fun m => cs.getD m undef)[m]? = some v → w.cell? ((⟨b, 0, none⟩ : Addr).add m) = some v := fun m v hm => by
    simp only [List.getElem?_map, Option.map_eq_some_iff] at hm
    obtain ⟨m', hm', rfl⟩ := hm
    have hlt : m < inf.size := by
      have := (List.getElem?_eq_some_iff.1 hm').1
      simpa using this
    rw [List.getElem?_range hlt] at hm'
    cases hm'
    have hy : cells[m]? = some (cells[m]'(by omega)) := by simp
    obtain ⟨_, u, hu', _⟩ := hcr m _ hy
    rw [addr_add, cell_of_row w b (0 + m) cs T0 (0, 0) hcb, Nat.zero_add, hu']
    simp [Array.getD_eq_getD_getElem?, hu']
  have hload := run_load_agg hu hd hi w (by simp) hvs
  simp only [Instr.loadAt, Instr.sureAddr, Sem.run_bind, Sem.run_pure, Result.andThen_ok] at hload
  refine ⟨_, hload, RepsA.agg ⟨by simp [hs], fun m y hy => ?_⟩⟩
  have hlt : m < inf.size := by rw [hs]; exact (List.getElem?_eq_some_iff.1 hy).1
  obtain ⟨_, u, hu', hrep⟩ := hcr m y hy
  exact ⟨u, by simp [hlt, Array.getD_eq_getD_getElem?, hu'], hrep⟩

theorem run_resultsR {C : Ctx} {a : Act} {w : World} {e : Env} {H : Heap} (hs : St C a w e H) (fn : Func) {ds : List D} (h : ResR C.P e H fn.results.toList ds) : ∃ v, (results fn a.tmps).run C.P w = .ok v w ∧ Rep w H v (resOne ds) := by
  have key : ∀ (l : List ResultVar) (ds : List D), ResR C.P e H l ds → ∃ vs : List Value, (l.mapM (resSem a.tmps)).run C.P w = .ok vs w ∧ RepsA w H vs.toArray ds := by
    intro l ds h
    induction h with
    | nil => exact ⟨[], by simp, rfl, fun j x hx => by simp at hx⟩
    | @tmp t d l ds hx r ih =>
      obtain ⟨vs, h1, h2⟩ := ih
      obtain ⟨v, hv, hrep⟩ := hs.env t d hx
      have hvd : a.tmps.getD t undef = v := by simp [Array.getD_eq_getD_getElem?, hv]
      refine ⟨v :: vs, ?_, by simpa using h2.1, fun j y hy => ?_⟩
      · rw [List.mapM_cons]
        simp only [resSem, Sem.run_bind, hvd, Sem.run_pure, Result.andThen_ok, h1]
      · cases j with
        | zero => simp at hy; subst hy; exact ⟨v, by simp, hrep⟩
        | succ j =>
          obtain ⟨u, hu, hrep'⟩ := h2.2 j y (by simpa using hy)
          exact ⟨u, by simpa using hu, hrep'⟩
    | @cell x t T0 b cells l ds ht hx hH r ih =>
      obtain ⟨vs, h1, h2⟩ := ih
      obtain ⟨v, hv, hrep⟩ := hs.env x _ hx
      have hvp := rep_ptr hrep
      subst hvp
      have hvd : a.tmps.getD x undef = .pointer (some ⟨b, 0, none⟩) := by simp [Array.getD_eq_getD_getElem?, hv]
      obtain ⟨v, hrun, hrep2⟩ := run_cellRes (P := C.P) (t := t) hs.heap hH
      refine ⟨v :: vs, ?_, by simpa using h2.1, fun j y hy => ?_⟩
      · rw [List.mapM_cons]
        simp only [resSem, Sem.run_bind, hvd, asAddr, Sem.run_pure, Result.andThen_ok, hrun, h1]
      · cases j with
        | zero => simp at hy; subst hy; exact ⟨v, by simp, hrep2⟩
        | succ j =>
          obtain ⟨u, hu, hrep'⟩ := h2.2 j y (by simpa using hy)
          exact ⟨u, by simpa using hu, hrep'⟩
  obtain ⟨vs, h1, h2⟩ := key fn.results.toList ds h
  have hmap : (fn.results.mapM (resSem a.tmps)).run C.P w = .ok vs.toArray w := by
    rw [← Array.toArray_toList (xs := fn.results), List.mapM_toArray, Sem.run_map, h1]
    rfl
  refine ⟨if h : vs.toArray.size = 1 then vs.toArray[0] else .tuple vs.toArray, ?_, ?_⟩
  · rw [results_eq]
    simp only [Sem.run_bind, hmap, Result.andThen_ok, Sem.run_pure]
  · have hlen : vs.length = ds.length := by simpa using h2.1
    match ds, hlen, h2 with
    | [], hlen, h2 =>
      rw [dif_neg (by simp [hlen])]
      exact h2.tup
    | [d], hlen, h2 =>
      rw [dif_pos (by simp [hlen])]
      obtain ⟨u, hu, hr⟩ := h2.2 0 d rfl
      have : vs.toArray[0]'(by simp [hlen]) = u := by
        rw [Array.getElem?_eq_getElem (by simp [hlen])] at hu
        exact Option.some.inj hu
      rw [this]
      exact hr
    | d :: d' :: ds, hlen, h2 =>
      rw [dif_neg (by simp [hlen])]
      exact h2.tup

theorem CallD.of_bodyR {P : Program} {H : Heap} {f : FuncId} {fn : Func} {c : Code} {ds : List D} {K : D → Heap → Prop} (hf : P.funcs[f]? = some fn) (hb : fn.body = some c) (hn : (fn.name == "runtime.NumGoroutine") = false) (hds : ds.length ≤ fn.ntmps)
    (h : ∀ w0 : World, DW ⟨P, fn.ntmps, w0, H⟩ c (argEnv 0 ds) H fun x e H' => (x = .ret ∨ x = .normal) ∧ ∃ rs d H'', ResR P e H' fn.results.toList rs ∧ H''.sub H' ∧ Frz H' H'' (resOne rs) d ∧ K d H'') : CallD P H f ds K := by
  refine ⟨⟨fn, hf, hn, by rw [hb]; rfl⟩, fun w args ho ha => ?_⟩
  refine calls_of_marks hf hb ?_
  have hst : St ⟨P, fn.ntmps, w, H⟩ { tmps := args ++ Array.replicate (fn.ntmps - args.size) undef, defers := [] } w (argEnv 0 ds) H := by
    refine ⟨by simp [ha.1]; omega, trivial, fun t d hd => ?_, ho, .refl _ _⟩
    obtain ⟨_, hd'⟩ := argEnv_get ds 0 t d hd
    obtain ⟨v, hv, hr⟩ := ha.2 t d (by simpa using hd')
    exact ⟨v, by rw [Array.getElem?_append_left (Array.getElem?_eq_some_iff.1 hv).1]; exact hv, hr⟩
  refine wp_mono ((h w).go _ w hst) fun x a' w' hx => ?_
  obtain ⟨e', H', ⟨hxx, rs, d, H'', hres, hsub, hfrz, hK⟩, s⟩ := hx
  refine ⟨hxx, s.defers, fun w2 hsh => ?_⟩
  have s := s.shut hsh
  obtain ⟨v, hrun, hrep⟩ := run_resultsR s fn hres
  exact ⟨v, hrun, v, d, H'', rfl, hK, Rep.frz s.heap hsub hfrz hrep, s.heap.sub hsub, s.ext.sub hsub⟩

theorem PureH.of_bodyR {P : Program} {H : Heap} {f : FuncId} {fn : Func} {c : Code} {ds : List D} {d : D} (hf : P.funcs[f]? = some fn) (hb : fn.body = some c) (hn : (fn.name == "runtime.NumGoroutine") = false) (hds : ds.length ≤ fn.ntmps)
    (h : ∀ w0 : World, DW ⟨P, fn.ntmps, w0, H⟩ c (argEnv 0 ds) H fun x e H' => (x = .ret ∨ x = .normal) ∧ ∃ rs, ResR P e H' fn.results.toList rs ∧ Over H H' ∧ Frz H' H (resOne rs) d) : PureH P H f ds d := by
  have := CallD.of_bodyR (K := fun d' H' => d' = d ∧ H' = H) hf hb hn hds (H := H) fun w0 => (h w0).mono fun x e H' ⟨h1, rs, h2, h3, h4⟩ => ⟨h1, rs, d, H, h2, h3, h4, rfl, rfl⟩
  exact ⟨this.body, fun w args ho ha => (this.calls w args ho ha).mono fun en w' ⟨v, d', H', h1, ⟨h2, h3⟩, h4, h5, h6⟩ => by subst h2; subst h3; exact ⟨v, h1, h4, h5, h6⟩⟩

theorem Frz.row {H H' : Heap} {b k n : Nat} {l : List D} {T : TypeId} {cells : List D} (hH : H b = some (T, cells)) (hn : H' b = none) (hu : Uni k l) (hl : n = l.length) (hc : (l.flatMap cellsOf).length = cells.length)
    (h : ∀ (j : Nat) (x y : D), cells[j]? = some x → (l.flatMap cellsOf)[j]? = some y → Frz H H' x y) : Frz H H' (.ref b 0 n k) (.list k l) := by
  subst hl
  exact .ref hH hn (fun i d hd => (hu d (List.mem_of_getElem? hd)).1) hc h

end Go.Proofs.YtfjmdhemlfafbaaGreat

namespace Go.Proofs.YtfjmdhemlfafbaaGreat
open Go.RowKit

end Go.Proofs.YtfjmdhemlfafbaaGreat

namespace Go.Proofs.YtfjmdhemlfafbaaGreat
open Go.RowKit

end Go.Proofs.YtfjmdhemlfafbaaGreat

namespace Go.Proofs.YtfjmdhemlfafbaaGreat
open Go.RowKit

structure RowsOk (D0 : Nat → Prop) (H : Heap) (bL : Nat) (T E : TypeId) (k : Nat) (ls : List (List D)) (ds : List D) : Prop where
  row : H bL = some (T, ds)
  len : ds.length = ls.length
  is : ∀ (j : Nat) (h : j < ds.length) (h2 : j < ls.length), Uni k ls[j] ∧ ((ds[j] = .nil ∧ ls[j] = []) ∨ ∃ b, ¬ D0 b ∧ b ≠ bL ∧ ds[j] = .ref b 0 ls[j].length k ∧ H b = some (E, ls[j].flatMap cellsOf))
  dist : ∀ (i j : Nat) (h1 : i < ds.length) (h2 : j < ds.length), i ≠ j → ∀ b, ds[i].blk = some b → ds[j].blk ≠ some b

theorem RowsOk.init {D0 : Nat → Prop} {H : Heap} {bL : Nat} {T E : TypeId} {k n : Nat} (h : H bL = some (T, List.replicate n .nil)) : RowsOk D0 H bL T E k (List.replicate n []) (List.replicate n .nil) :=
  ⟨h, by simp, fun j h1 h2 => by
    rw [List.getElem_replicate, List.getElem_replicate]
    exact ⟨Uni.nil k, .inl ⟨rfl, rfl⟩⟩, fun i j h1 h2 _ b hb => by rw [List.getElem_replicate] at hb; cases hb⟩

theorem RowsOk.over {D0 : Nat → Prop} {H H' : Heap} {bL : Nat} {T E : TypeId} {k : Nat} {ls : List (List D)} {ds : List D} (h : RowsOk D0 H bL T E k ls ds) (ho : Over H H') : RowsOk D0 H' bL T E k ls ds :=
  ⟨ho _ _ h.row, h.len, fun j h1 h2 => ⟨(h.is j h1 h2).1, (h.is j h1 h2).2.imp id fun ⟨b, c1, c2, c3, c4⟩ => ⟨b, c1, c2, c3, ho _ _ c4⟩⟩, h.dist⟩

theorem RowsOk.frame {D0 : Nat → Prop} {H H' : Heap} {bL : Nat} {T E : TypeId} {k : Nat} {ls : List (List D)} {ds : List D} (h : RowsOk D0 H bL T E k ls ds) (ho : ∀ c z, H c = some z → (c = bL ∨ ¬ D0 c) → H' c = some z) : RowsOk D0 H' bL T E k ls ds :=
  ⟨ho _ _ h.row (.inl rfl), h.len, fun j h1 h2 => ⟨(h.is j h1 h2).1, (h.is j h1 h2).2.imp id fun ⟨b, c1, c2, c3, c4⟩ => ⟨b, c1, c2, c3, ho _ _ c4 (.inr c1)⟩⟩, h.dist⟩

theorem RowsOk.blk {D0 : Nat → Prop} {H : Heap} {bL : Nat} {T E : TypeId} {k : Nat} {ls : List (List D)} {ds : List D} (h : RowsOk D0 H bL T E k ls ds) {j b : Nat} (h1 : j < ds.length) (hb : ds[j].blk = some b) : ¬ D0 b ∧ b ≠ bL ∧ H b ≠ none := by
  have hlen := h.len
  rcases (h.is j h1 (by omega)).2 with ⟨c1, _⟩ | ⟨b', c1, c2, c3, c4⟩
  · rw [c1] at hb; cases hb
  · rw [c3] at hb; cases hb; exact ⟨c1, c2, by rw [c4]; simp⟩

theorem RowsOk.less {D0 D1 : Nat → Prop} {H : Heap} {bL : Nat} {T E : TypeId} {k : Nat} {ls : List (List D)} {ds : List D} (h : RowsOk D1 H bL T E k ls ds) (hd : ∀ c, D0 c → D1 c) : RowsOk D0 H bL T E k ls ds :=
  ⟨h.row, h.len, fun j h1 h2 => ⟨(h.is j h1 h2).1, (h.is j h1 h2).2.imp id fun ⟨b, c1, c2, c3, c4⟩ => ⟨b, fun hh => c1 (hd b hh), c2, c3, c4⟩⟩, h.dist⟩

theorem Acc.cell {H0 H : Heap} {d : D} {k : Nat} {T : TypeId} {l : List D} (h : Acc H0 H d k T l) : cellsOf d = [d] ∧ d.isCell = true := by
  rcases h.is with ⟨rfl, _⟩ | ⟨b, _, rfl, _⟩ <;> exact ⟨rfl, rfl⟩

def butBlk (H : Heap) (d : D) : Heap := fun c => if d.blk = some c then none else H c

theorem butBlk_over (H : Heap) (d : D) : Over (butBlk H d) H := fun c x h => by
  unfold butBlk at h
  split at h
  · cases h
  · exact h

theorem RowsOk.acc {D0 : Nat → Prop} {H : Heap} {bL : Nat} {T E : TypeId} {k : Nat} {ls : List (List D)} {ds : List D} (h : RowsOk D0 H bL T E k ls ds) {j : Nat} (h1 : j < ds.length) (h2 : j < ls.length) : Acc (butBlk H ds[j]) H ds[j] k E ls[j] := by
  obtain ⟨u, hi⟩ := h.is j h1 h2
  refine ⟨u, hi.imp id fun ⟨b, c1, c2, c3, c4⟩ => ⟨b, ?_, c3, c4⟩⟩
  unfold butBlk
  rw [c3]
  exact if_pos rfl

theorem RowsOk.put {D0 : Nat → Prop} {H H' B : Heap} {bL : Nat} {T E : TypeId} {k : Nat} {ls : List (List D)} {ds : List D} (h : RowsOk D0 H bL T E k ls ds) (hD : ∀ c, D0 c → H c ≠ none) {a : Nat} (ha : a < ds.length) {d' : D} {l' : List D}
    (hacc : Acc B H' d' k E l') (hB : ∀ b, B b = none → H b = none ∨ ds[a].blk = some b) (hkeep : ∀ c z, H c = some z → ds[a].blk ≠ some c → H' c = some z) : RowsOk D0 (H'.set bL (T, ds.set a d')) bL T E k (ls.set a l') (ds.set a d') := by
  have hlen := h.len
  have hown : ∀ b, ds[a].blk = some b → ¬ D0 b ∧ b ≠ bL := fun b hb => by
    rcases (h.is a ha (by omega)).2 with ⟨c1, _⟩ | ⟨b', c1, c2, c3, _⟩
    · rw [c1] at hb; cases hb
    · rw [c3] at hb; cases hb; exact ⟨c1, c2⟩
  have hnew : ∀ b, d'.blk = some b → ¬ D0 b ∧ b ≠ bL ∧ ∀ (j : Nat) (hj : j < ds.length), j ≠ a → ds[j].blk ≠ some b := fun b hb => by
    have hBb : B b = none := by
      rcases hacc.is with ⟨c1, _⟩ | ⟨b', c1, c2, _⟩
      · rw [c1] at hb; cases hb
      · rw [c2] at hb; cases hb; exact c1
    rcases hB b hBb with hn | ho
    · refine ⟨fun hd => hD b hd hn, (fun he => by rw [he, h.row] at hn; cases hn), fun j hj _ hbl => ?_⟩
      rcases (h.is j hj (by omega)).2 with ⟨c1, _⟩ | ⟨b', c1, c2, c3, c4⟩
      · rw [c1] at hbl; cases hbl
      · rw [c3] at hbl; cases hbl; rw [c4] at hn; cases hn
    · exact ⟨(hown b ho).1, (hown b ho).2, fun j hj hja hbl => h.dist a j ha hj (fun e => hja e.symm) b ho hbl⟩
  refine ⟨Heap.set_self _ _ _, by simp [hlen], fun j h1 h2 => ?_, fun i j h1 h2 hij b hb => ?_⟩
  · have h1' : j < ds.length := by simpa using h1
    have h2' : j < ls.length := by simpa using h2
    rw [List.getElem_set, List.getElem_set]
    by_cases hja : a = j
    · subst hja
      rw [if_pos rfl, if_pos rfl]
      refine ⟨hacc.uni, hacc.is.imp id fun ⟨b, c1, c2, c3⟩ => ?_⟩
      have := hnew b (by rw [c2]; rfl)
      exact ⟨b, this.1, this.2.1, c2, by rw [Heap.set_other _ _ this.2.1]; exact c3⟩
    · rw [if_neg hja, if_neg hja]
      refine ⟨(h.is j h1' h2').1, (h.is j h1' h2').2.imp id fun ⟨b, c1, c2, c3, c4⟩ => ⟨b, c1, c2, c3, ?_⟩⟩
      rw [Heap.set_other _ _ c2]
      exact hkeep b _ c4 fun ho => h.dist a j ha h1' hja b ho (by rw [c3]; rfl)
  · have h1' : i < ds.length := by simpa using h1
    have h2' : j < ds.length := by simpa using h2
    rw [List.getElem_set] at hb
    rw [List.getElem_set]
    by_cases hia : a = i
    · subst hia
      rw [if_pos rfl] at hb
      rw [if_neg hij]
      exact (hnew b hb).2.2 j h2' (fun e => hij e.symm)
    · rw [if_neg hia] at hb
      by_cases hja : a = j
      · subst hja
        rw [if_pos rfl]
        exact fun hb' => (hnew b hb').2.2 i h1' (fun e => hia e.symm) hb
      · rw [if_neg hja]
        exact h.dist i j h1' h2' hij b hb

theorem RowsOk.frz {D0 : Nat → Prop} {H H1 : Heap} {bL : Nat} {T E : TypeId} {k n : Nat} {ls : List (List D)} {ds : List D} (h : RowsOk D0 H bL T E k ls ds) (hn : n = ls.length) (hL : H1 bL = none) (hb : ∀ b, ¬ D0 b → H1 b = none) : Frz H H1 (.ref bL 0 n 1) (.list 1 (ls.map (.list k))) := by
  have hu : ∀ l : List (List D), (l.map (D.list k)).flatMap cellsOf = l.map (D.list k) := fun l => flat_cells1 (fun _ => rfl) l
  refine Frz.row h.row hL (uni_map1 (fun _ => rfl) (fun _ => rfl) ls) (by simp [hn]) (by rw [hu, List.length_map]; exact h.len.symm) fun j x y hx hy => ?_
  rw [hu] at hy
  have hj : j < ds.length := (List.getElem?_eq_some_iff.1 hx).1
  have hj2 : j < ls.length := by rw [← h.len]; exact hj
  rw [List.getElem?_eq_getElem hj] at hx
  rw [List.getElem?_map, List.getElem?_eq_getElem hj2] at hy
  cases hx; cases hy
  obtain ⟨u, hi⟩ := h.is j hj hj2
  rcases hi with ⟨c1, c2⟩ | ⟨b, c1, c2, c3, c4⟩
  · rw [c1, c2]; exact .nil k
  · rw [c3]; exact Frz.list c4 (hb b c1) u rfl

theorem DW.asH {C : Ctx} {c : Code} {e : Env} {H : Heap} {Q : Post} (R : Heap → Prop) (hR : R H) (h : ∀ H2, R H2 → DW C c e H2 Q) : DW C c e H Q := h H hR
theorem RO.asH {C : Ctx} {ops rest : List Oper} {e : Env} {H : Heap} {K : Env → Heap → Prop} (R : Heap → Prop) (hR : R H) (h : ∀ H2, R H2 → RO C ops rest e H2 K) : RO C ops rest e H K := h H hR

end Go.Proofs.YtfjmdhemlfafbaaGreat

namespace Go.Proofs.YtfjmdhemlfafbaaGreat
open Go.RowKit

section
variable {P : Program} {H : Heap} {e : Env} {dst : Option Tmp} {ty : TypeId} {pos : String} {af : Array Edge} {gd : Option (Nat × Bool)}

end

end Go.Proofs.YtfjmdhemlfafbaaGreat

namespace Go.Proofs.YtfjmdhemlfafbaaGreat
open Go.RowKit

section
variable {P : Program} {H : Heap} {e : Env} {dst : Option Tmp} {ty : TypeId} {pos : String} {af : Array Edge} {gd : Option (Nat × Bool)}

theorem s_nilCheck {x : Operand} {b off : Nat} (hx : e.ev x = some (.ptr b off)) : Sta P H e ⟨dst, .nilCheck x, ty, pos, af, gd⟩ (.ptr b off) := .mk fun ρ w ha ho => by
  have h := rep_ptr (ha x _ hx)
  simp [OpTo, execOp, h, Sem.run]
  exact ⟨.ptr _ _, ho, .refl _ _⟩

theorem s_uint {t u : TypeId} {x : Operand} {n : Nat} (hu : P.underlying u = some (.int .u64)) (ht : P.underlying t = some (.int .i64)) (hx : e.ev x = some (I n)) (hn : n < 1000000) :
    Sta P H e ⟨dst, .convert t u x, ty, pos, af, gd⟩ (.int .u64 n) := .mk fun ρ w ha ho => by
  have h1 := rep_int (ha x _ hx)
  have hw : IntKind.u64.wrap (n : Int) = n := by
    simp [IntKind.wrap, IntKind.signed, IntKind.bits]
    omega
  simp [OpTo, execOp, h1, convert, run_underlying hu, run_underlying ht, Conv.intToInt, hw, Sem.run]
  exact ⟨.int _ _, ho, .refl _ _⟩

theorem s_appendNone {t E : TypeId} {x y : Operand} {b off n k bytes : Nat} {zd : List D} [SliceT P t E] [ElT P E k zd bytes] (hx : e.ev x = some (.ref b off n k)) (hy : e.ev y = some (.list k [])) :
    Sta P H e ⟨dst, .call ⟨.builtin .append, #[x, y], #[t, t]⟩, ty, pos, af, gd⟩ (.ref b off n k) := .mk fun ρ w ha ho => by
  obtain ⟨inf, z, hi, hz1, hz2, hz3⟩ := (ElT.z (P := P) (E := E) (k := k) (zd := zd) (bytes := bytes)).is
  have hu := SliceT.h (P := P) (t := t) (E := E)
  have h := ha x _ hx
  have h' := ha y _ hy
  generalize hv : ρ x = v at h
  generalize hv' : ρ y = v' at h'
  generalize hl : ([] : List D) = l' at h'
  cases h with
  | ref hb hs hlc hcm =>
    rename_i cap cs T
    cases h' with
    | list vals hc hm h1 h2 h3 =>
      subst hl
      rename_i a c
      have hr : (Builtin.append_ #[t, t] ty #[.slice (some ⟨b, off, none⟩) n cap, .slice a 0 c]).run P w = .ok (.slice (some ⟨b, off, none⟩) n cap) w := by
        cases a <;> simp [Builtin.append_, run_underlying hu, run_sizeOf hi, Builtin.lenOf, hlc, Builtin.firstCells, loadCells, loadCellsFrom, storeCells]
      have hv0 : ρ y = Value.slice a 0 c := hv'
      rw [← hv, ← hv0] at hr
      simp only [OpTo, run_exec_append hr]
      rw [hv]
      exact ⟨.ref hb hs hlc hcm, ho, .refl _ _⟩

end

def DeadOp (P : Program) (H : Heap) (e : Env) (o : Oper) : Prop := ∀ (ρ : Operand → Value) (w : World), Agree ρ w H e → HOK w H → OpTo P ρ o w fun _ w' => w' = w

theorem St.dead {C : Ctx} {a : Act} {w : World} {e l : Env} {H : Heap} {s : Nat} (h : St C a w e H) (hl : Has e l) (hs : ∀ t d, l.get t = some d → t ≠ s) (v : Value) : St C (a.put (some s) v) w l H := by
  refine ⟨by simp [Act.put, h.size], h.defers, fun t x hx => ?_, h.heap, h.ext⟩
  obtain ⟨u, hu, hr⟩ := h.env t x (hl.get hx)
  refine ⟨u, ?_, hr⟩
  simp only [Act.put]
  rw [Array.getElem?_setIfInBounds, if_neg (fun hh => hs t x hx hh.symm)]
  exact hu

theorem RO.soundD {C : Ctx} {ops : List Oper} {o0 : Oper} {s : Nat} {l : Env} {K : Env → Heap → Prop} {Q : Exit → Act → World → Prop} (hg0 : o0.guard = none) (hd0 : o0.dst = some s) (hs : ∀ t d, l.get t = some d → t ≠ s)
    (hQ : ∀ H a w, K l H → St C a w l H → Q .normal a w) :
    ∀ (r : List Oper) (e : Env) (H : Heap) (a : Act) (w : World), RO C ops r e H (fun e' H' => DeadOp C.P H' e' o0 ∧ Has e' l ∧ K l H') → St C a w e H → wpList C.P ops.toArray Q (r ++ [o0]) a w
  | [], e, H, a, w, ⟨h1, h2, h3⟩, hst => by
    refine wpList_step fun L hL => ?_
    simp only [Region.wanted, hg0, if_true]
    refine wp_of_opTo (h1 a.eval w hst.agree hst.heap) fun v w' hw => hL _ _ (wpList_nil (hQ H _ _ h3 ?_))
    subst hw
    rw [hd0]
    exact hst.dead h2 hs v
  | o :: rest, e, H, a, w, h, hst => by
    obtain ⟨hd, hg⟩ := h
    have yes : (OpD C.P H e o fun d H' => RO C ops rest (e.putO o.dst d) H' _) → ∀ L : Act → World → Prop, (∀ a w, wpList C.P ops.toArray Q (rest ++ [o0]) a w → L a w) → o.wp C.P a w L Q := fun hop L hL =>
      wp_of_opTo (hop.go a.eval w hst.agree hst.heap) fun v w' ⟨d, H', hk, hr, ho, he⟩ => hL _ _ (RO.soundD hg0 hd0 hs hQ rest _ H' _ w' hk (hst.put hd hr ho he))
    have no : RO C ops rest (e.putO o.dst (.tup [])) H _ → wpList C.P ops.toArray Q (rest ++ [o0]) (a.put o.dst undef) w := fun hk =>
      RO.soundD hg0 hd0 hs hQ rest _ H _ w hk (hst.put hd (RepsA.tup (vs := #[]) (ds := []) ⟨rfl, fun j x hx => by simp at hx⟩) hst.heap (.refl _ _))
    refine wpList_step fun L hL => ?_
    unfold GuardIs at hg
    cases hgu : o.guard with
    | none =>
      rw [hgu] at hg
      simp only [Region.wanted, hgu, if_true]
      exact yes hg L hL
    | some jw =>
      obtain ⟨j, want⟩ := jw
      rw [hgu] at hg
      obtain ⟨b, hb, h1, h2⟩ := hg
      have hy := guard_yielded hst hb
      by_cases hbw : b = some want
      · rw [if_pos (by simp only [Region.wanted, hgu, hy, hbw]; exact beq_self_eq_true _)]
        exact yes (h1 hbw) L hL
      · rw [if_neg (by simp only [Region.wanted, hgu, hy]; intro hx; exact hbw (by simpa using hx))]
        exact hL _ _ (no (h2 hbw))

theorem DW.regionDead {C : Ctx} {e : Env} {H : Heap} {Q : Post} {id : Nat} {ops : List Oper} (n : Nat) {o0 : Oper} {s : Nat} (l : Env) (hops : ops = ops.take n ++ [o0]) (hg0 : o0.guard = none) (hd0 : o0.dst = some s) (hs : ∀ t d, l.get t = some d → t ≠ s)
    (h : RO C ops (ops.take n) e H fun e' H' => DeadOp C.P H' e' o0 ∧ Has e' l ∧ Q .normal l H') : DW C (.region id ops.toArray false) e H Q := .mk fun a w hst =>
  wp_region_lit (by
    have := RO.soundD (Q := lift C Q) (K := fun l H => Q .normal l H) hg0 hd0 hs (fun H' a' w' hk hs' => ⟨l, H', hk, hs'⟩) (ops.take n) e H a w h hst
    rw [← hops] at this
    exact this)

section
variable {P : Program} {H : Heap} {e : Env} {dst : Option Tmp} {ty : TypeId} {pos : String} {af : Array Edge} {gd : Option (Nat × Bool)}

theorem run_exec_clear {ρ : Operand → Value} {w w' : World} {t : TypeId} {x : Operand} {v : Value} (h : (Builtin.clear_ #[t] ty #[ρ x]).run P w = .ok v w') :
    (execOp ρ ⟨dst, .call ⟨.builtin .clear, #[x], #[t]⟩, ty, pos, af, gd⟩).run P w = .ok (.value v) w' := by
  simp [execOp, resolve, invoke, builtin, h, Sem.run_bind]

theorem s_eqNilRef {t t2 E : TypeId} {x : Operand} {k b off n bytes : Nat} {zd : List D} [SliceT P t E] [ElT P E k zd bytes] (hx : e.ev x = some (.ref b off n k)) :
    Sta P H e ⟨dst, .binOp .eql t x (.const (.slice none 0 0)) t2, ty, pos, af, gd⟩ (.bool false) := .mk fun ρ w ha ho => by
  have h := ha x _ hx
  have hc := ha.const (.slice none 0 0)
  generalize hv : ρ x = v at h
  cases h with
  | ref hb hs hl hcm =>
    rename_i cap cs T
    have hr := Lib.run_eql_slice_nil (P := P) w t E (some ⟨b, off, none⟩) n cap 0 0 SliceT.h
    simp only [OpTo, execOp, hv, hc, eqGuard, Sem.run_bind, Sem.run_pure]
    simp [hr]
    exact ⟨.bool _, ho, .refl _ _⟩

end

end Go.Proofs.YtfjmdhemlfafbaaGreat

namespace Go.Proofs.YtfjmdhemlfafbaaGreat
open Go.RowKit

inductive Rn (R : Nat → Nat → Prop) : D → D → Prop
  | int (k : IntKind) (n : Int) : Rn R (.int k n) (.int k n)
  | bool (b : Bool) : Rn R (.bool b) (.bool b)
  | str (s : ByteArray) : Rn R (.str s) (.str s)
  | nil : Rn R .nil .nil
  | list {k : Nat} {l l' : List D} (hl : l.length = l'.length) (h : ∀ (i : Nat) (d d' : D), l[i]? = some d → l'[i]? = some d' → Rn R d d') : Rn R (.list k l) (.list k l')
  | agg {l l' : List D} (hl : l.length = l'.length) (h : ∀ (i : Nat) (d d' : D), l[i]? = some d → l'[i]? = some d' → Rn R d d') : Rn R (.agg l) (.agg l')
  | ref {b b' : Nat} (off len k : Nat) (h : R b b') : Rn R (.ref b off len k) (.ref b' off len k)
  | ptr {b b' : Nat} (off : Nat) (h : R b b') : Rn R (.ptr b off) (.ptr b' off)
  | ipt {k : Nat} {l l' : List D} (i j : Nat) (hl : l.length = l'.length) (h : ∀ (i : Nat) (d d' : D), l[i]? = some d → l'[i]? = some d' → Rn R d d') : Rn R (.ipt k l i j) (.ipt k l' i j)
  | fn (f : FuncId) {l l' : List D} (hl : l.length = l'.length) (h : ∀ (i : Nat) (d d' : D), l[i]? = some d → l'[i]? = some d' → Rn R d d') : Rn R (.fn f l) (.fn f l')
  | tup {l l' : List D} (hl : l.length = l'.length) (h : ∀ (i : Nat) (d d' : D), l[i]? = some d → l'[i]? = some d' → Rn R d d') : Rn R (.tup l) (.tup l')

def RnL (R : Nat → Nat → Prop) (l l' : List D) : Prop := l.length = l'.length ∧ ∀ (i : Nat) (d d' : D), l[i]? = some d → l'[i]? = some d' → Rn R d d'

theorem Rn.mono {R R' : Nat → Nat → Prop} (hR : ∀ a b, R a b → R' a b) {d d' : D} (h : Rn R d d') : Rn R' d d' := by
  induction h with
  | int k n => exact .int k n
  | bool b => exact .bool b
  | str s => exact .str s
  | nil => exact .nil
  | list hl h ih => exact .list hl ih
  | agg hl h ih => exact .agg hl ih
  | ref off len k h => exact .ref off len k (hR _ _ h)
  | ptr off h => exact .ptr off (hR _ _ h)
  | ipt i j hl h ih => exact .ipt i j hl ih
  | fn f hl h ih => exact .fn f hl ih
  | tup hl h ih => exact .tup hl ih

section
variable {R : Nat → Nat → Prop}

theorem RnL.mono {R' : Nat → Nat → Prop} (hR : ∀ a b, R a b → R' a b) {l l' : List D} (h : RnL R l l') : RnL R' l l' := ⟨h.1, fun i d d' h1 h2 => (h.2 i d d' h1 h2).mono hR⟩

theorem RnL.nil : RnL R [] [] := ⟨rfl, fun i d d' h => by simp at h⟩

theorem RnL.cons {d d' : D} {l l' : List D} (h : Rn R d d') (g : RnL R l l') : RnL R (d :: l) (d' :: l') := ⟨by simp [g.1], fun i x x' h1 h2 => by
  cases i with
  | zero => cases h1; cases h2; exact h
  | succ i => exact g.2 i x x' (by simpa using h1) (by simpa using h2)⟩

theorem RnL.one {d d' : D} (h : Rn R d d') : RnL R [d] [d'] := .cons h .nil

theorem RnL.get {l l' : List D} (h : RnL R l l') {i : Nat} {d : D} (hd : l[i]? = some d) : ∃ d', l'[i]? = some d' ∧ Rn R d d' := by
  have hi := (List.getElem?_eq_some_iff.1 hd).1
  have hi' : i < l'.length := by rw [← h.1]; exact hi
  exact ⟨l'[i], by simp [hi'], h.2 i d _ hd (by simp [hi'])⟩

theorem RnL.append {l l' m m' : List D} (h : RnL R l l') (g : RnL R m m') : RnL R (l ++ m) (l' ++ m') := by
  refine ⟨by simp [h.1, g.1], fun i d d' h1 h2 => ?_⟩
  by_cases hi : i < l.length
  · rw [List.getElem?_append_left hi] at h1
    rw [List.getElem?_append_left (by rw [← h.1]; exact hi)] at h2
    exact h.2 i d d' h1 h2
  · rw [List.getElem?_append_right (by omega)] at h1
    rw [List.getElem?_append_right (by rw [← h.1]; omega), ← h.1] at h2
    exact g.2 _ d d' h1 h2

theorem RnL.take {l l' : List D} (h : RnL R l l') (n : Nat) : RnL R (l.take n) (l'.take n) := by
  refine ⟨by simp [h.1], fun i d d' h1 h2 => ?_⟩
  rw [List.getElem?_take] at h1 h2
  split at h1
  · rename_i hi
    rw [if_pos hi] at h2
    exact h.2 i d d' h1 h2
  · cases h1

theorem RnL.drop {l l' : List D} (h : RnL R l l') (n : Nat) : RnL R (l.drop n) (l'.drop n) := by
  refine ⟨by simp [h.1], fun i d d' h1 h2 => ?_⟩
  rw [List.getElem?_drop] at h1 h2
  exact h.2 _ d d' h1 h2

theorem Rn.cells {d d' : D} (h : Rn R d d') : RnL R (cellsOf d) (cellsOf d') := by
  cases h with
  | agg hl h => exact ⟨hl, h⟩
  | int k n => exact .one (.int k n)
  | bool b => exact .one (.bool b)
  | str s => exact .one (.str s)
  | nil => exact .one .nil
  | list hl h => exact .one (.list hl h)
  | ref off len k h => exact .one (.ref off len k h)
  | ptr off h => exact .one (.ptr off h)
  | ipt i j hl h => exact .one (.ipt i j hl h)
  | fn f hl h => exact .one (.fn f hl h)
  | tup hl h => exact .one (.tup hl h)

theorem Rn.isCell {d d' : D} (h : Rn R d d') : d'.isCell = d.isCell := by cases h <;> rfl

theorem Rn.lit {d : D} (h : litOk d = true) : Rn R d d := by cases d <;> simp [litOk] at h <;> constructor

def D.closed : D → Bool
  | .int _ _ | .bool _ | .str _ | .nil => true
  | .ref .. | .ptr .. => false
  | .list _ l => closedL l
  | .agg l => closedL l
  | .ipt _ l _ _ => closedL l
  | .fn _ l => closedL l
  | .tup l => closedL l
where closedL : List D → Bool
  | [] => true
  | d :: l => d.closed && closedL l

mutual
theorem Rn.closed : ∀ (d : D), d.closed = true → Rn R d d
  | .int k n, _ => .int k n
  | .bool b, _ => .bool b
  | .str s, _ => .str s
  | .nil, _ => .nil
  | .ref .., h => by simp [D.closed] at h
  | .ptr .., h => by simp [D.closed] at h
  | .list k l, h => by simp only [D.closed] at h; have g := RnL.closed l h; exact .list g.1 g.2
  | .agg l, h => by simp only [D.closed] at h; have g := RnL.closed l h; exact .agg g.1 g.2
  | .ipt k l i j, h => by simp only [D.closed] at h; have g := RnL.closed l h; exact .ipt i j g.1 g.2
  | .fn f l, h => by simp only [D.closed] at h; have g := RnL.closed l h; exact .fn f g.1 g.2
  | .tup l, h => by simp only [D.closed] at h; have g := RnL.closed l h; exact .tup g.1 g.2
theorem RnL.closed : ∀ (l : List D), D.closed.closedL l = true → RnL R l l
  | [], _ => .nil
  | d :: l, h => by
    simp only [D.closed.closedL, Bool.and_eq_true] at h
    exact .cons (Rn.closed d h.1) (RnL.closed l h.2)
end

def RelE (R : Nat → Nat → Prop) (es er : Env) : Prop := ∀ (t : Nat) (d : D), es.get t = some d → ∃ d', er.get t = some d' ∧ Rn R d d'

theorem RelE.mono {R' : Nat → Nat → Prop} (hR : ∀ a b, R a b → R' a b) {es er : Env} (h : RelE R es er) : RelE R' es er := fun t d hd => by
  obtain ⟨d', h1, h2⟩ := h t d hd
  exact ⟨d', h1, h2.mono hR⟩

theorem constD_lit {v : Value} {d : D} (h : constD v = some d) : litOk d = true := by
  unfold constD at h
  split at h <;> cases h <;> rfl

theorem RelE.ev {es er : Env} (h : RelE R es er) {x : Operand} {d : D} (hd : es.ev x = some d) : ∃ d', er.ev x = some d' ∧ Rn R d d' := by
  cases x with
  | tmp t => exact h t d hd
  | const v => exact ⟨d, hd, .lit (constD_lit hd)⟩
  | global g => cases hd
  | func f => cases hd; exact ⟨_, rfl, .fn f rfl fun i d d' h => by simp at h⟩

abbrev SH := List (Nat × (TypeId × List D))
def SH.get : SH → Nat → Option (TypeId × List D)
  | [], _ => none
  | (a, x) :: r, b => bif Nat.beq a b then some x else SH.get r b
def SH.upd : SH → Nat → (TypeId × List D) → SH
  | [], _, _ => []
  | (a, y) :: r, b, x => bif Nat.beq a b then (a, x) :: r else (a, y) :: SH.upd r b x
def SH.rm : SH → Nat → SH
  | [], _ => []
  | (a, y) :: r, b => bif Nat.beq a b then SH.rm r b else (a, y) :: SH.rm r b

structure RelS (R : Nat → Nat → Prop) (n : Nat) (S : SH) (H : Heap) : Prop where
  fn : ∀ a b b', R a b → R a b' → b = b'
  lt : ∀ a b, R a b → a < n
  at' : ∀ a x, S.get a = some x → ∃ b cells', R a b ∧ H b = some (x.1, cells') ∧ RnL R x.2 cells'
  inj : ∀ a a' b x y, S.get a = some x → S.get a' = some y → R a b → R a' b → a = a'

theorem RelS.over {n : Nat} {S : SH} {H H' : Heap} (h : RelS R n S H) (ho : Over H H') : RelS R n S H' := ⟨h.fn, h.lt, fun a x hx => by
  obtain ⟨b, cells', h1, h2, h3⟩ := h.at' a x hx
  exact ⟨b, cells', h1, ho _ _ h2, h3⟩, h.inj⟩

theorem RelS.none {n : Nat} {S : SH} {H H' : Heap} (h : RelS R n S H) : RelS R n [] H' := ⟨h.fn, h.lt, fun a x hx => (by cases hx), fun a a' b x y hx => (by cases hx)⟩

theorem RelS.get {n : Nat} {S : SH} {H : Heap} (h : RelS R n S H) {a b : Nat} {T : TypeId} {cells : List D} (hx : S.get a = some (T, cells)) (hR : R a b) : ∃ cells', H b = some (T, cells') ∧ RnL R cells cells' := by
  obtain ⟨b', cells', h1, h2, h3⟩ := h.at' a _ hx
  cases h.fn _ _ _ hR h1
  exact ⟨cells', h2, h3⟩

structure Adv (lo : Nat) (R : Nat → Nat → Prop) (n : Nat) (S : SH) (H : Heap) (R' : Nat → Nat → Prop) (n' : Nat) (S' : SH) (H' : Heap) : Prop where
  le : ∀ a b, R a b → R' a b
  new : ∀ a b, R' a b → R a b ∨ n ≤ a
  nn : n ≤ n'
  frame : ∀ b z, H b = some z → (∀ a x, S.get a = some x → ¬ R a b) → H' b = some z
  fresh : ∀ a b, R' a b → R a b ∨ H b = none ∨ ∃ a0 x, S.get a0 = some x ∧ R a0 b
  live : ∀ a x, S'.get a = some x → (∃ y, S.get a = some y) ∨ n ≤ a
  keep : ∀ a, a < lo → S'.get a = S.get a

theorem Adv.refl (lo : Nat) (R : Nat → Nat → Prop) (n : Nat) (S : SH) (H : Heap) : Adv lo R n S H R n S H :=
  ⟨fun _ _ h => h, fun _ _ h => .inl h, Nat.le_refl _, fun _ _ h _ => h, fun _ _ h => .inl h, fun a x h => .inl ⟨x, h⟩, fun _ _ => rfl⟩

theorem Adv.trans {lo n n' n'' : Nat} {R R' R'' : Nat → Nat → Prop} {S S' S'' : SH} {H H' H'' : Heap} (hn : ∀ a b, R a b → a < n) (hn' : ∀ a b, R' a b → a < n') (h : Adv lo R n S H R' n' S' H') (g : Adv lo R' n' S' H' R'' n'' S'' H'') : Adv lo R n S H R'' n'' S'' H'' := by
  have hlive : ∀ a b x, S'.get a = some x → R a b → ∃ y, S.get a = some y := fun a b x hx hR => by
    rcases h.live a x hx with h1 | h1
    · exact h1
    · have := hn a b hR; omega
  have hfr : ∀ b z, H b = some z → (∀ a x, S.get a = some x → ¬ R a b) → H' b = some z ∧ ∀ a x, S'.get a = some x → ¬ R' a b := fun b z hz hno => by
    refine ⟨h.frame b z hz hno, fun a x hx hR' => ?_⟩
    rcases h.fresh a b hR' with h1 | h1 | ⟨a0, x0, h1, h2⟩
    · obtain ⟨y, hy⟩ := hlive a b x hx h1
      exact hno a y hy h1
    · rw [hz] at h1; cases h1
    · exact hno a0 x0 h1 h2
  refine ⟨fun a b hR => g.le a b (h.le a b hR), fun a b hR => ?_, Nat.le_trans h.nn g.nn, fun b z hz hno => ?_, fun a b hR => ?_, fun a x hx => ?_, fun a ha => (g.keep a ha).trans (h.keep a ha)⟩
  · rcases g.new a b hR with h1 | h1
    · exact h.new a b h1
    · exact .inr (Nat.le_trans h.nn h1)
  · obtain ⟨h1, h2⟩ := hfr b z hz hno
    exact g.frame b z h1 h2
  · have keyN : H' b = none → H b = none ∨ ∃ a0 x, S.get a0 = some x ∧ R a0 b := fun hN => by
      cases hz : H b with
      | none => exact .inl rfl
      | some z =>
        by_cases hno : ∀ a x, S.get a = some x → ¬ R a b
        · rw [(hfr b z hz hno).1] at hN; cases hN
        · obtain ⟨a0, h1⟩ := Classical.not_forall.1 hno
          obtain ⟨x0, h2⟩ := Classical.not_forall.1 h1
          obtain ⟨h3, h4⟩ := Classical.not_imp.1 h2
          exact .inr ⟨a0, x0, h3, Classical.not_not.1 h4⟩
    rcases g.fresh a b hR with h1 | h1 | ⟨a0, x0, h1, h2⟩
    · exact h.fresh a b h1
    · exact .inr (keyN h1)
    · rcases h.fresh a0 b h2 with h3 | h3 | h3
      · obtain ⟨y, hy⟩ := hlive a0 b x0 h1 h3
        exact .inr (.inr ⟨a0, y, hy, h3⟩)
      · exact .inr (.inl h3)
      · exact .inr (.inr h3)
  · rcases g.live a x hx with ⟨y, hy⟩ | h1
    · exact h.live a y hy
    · exact .inr (Nat.le_trans h.nn h1)

end
end Go.Proofs.YtfjmdhemlfafbaaGreat

namespace Go.Proofs.YtfjmdhemlfafbaaGreat
open Go.RowKit

section
variable {P : Program} {H : Heap} {e : Env} {dst : Option Tmp} {ty : TypeId} {pos : String} {af : Array Edge} {gd : Option (Nat × Bool)}

theorem sta_slice_ref {t E T : TypeId} {inf : TypeInfo} {x : Operand} {lo hi : Option Operand} {b off n k a c : Nat} {cells : List D} (hu : P.underlying t = some (.slice E)) (hi' : P.info? E = some inf) (hs : inf.size = k) (hk : 0 < k)
    (hx : e.ev x = some (.ref b off n k)) (hlo : boundD e lo 0 = some a) (hhi : boundD e hi n = some c) (hac : a ≤ c) (hc : c ≤ n ∨ (H b = some (T, cells) ∧ off + c * k ≤ cells.length)) (hlt : a < c ∨ a < n) :
    Sta P H e ⟨dst, .slice t x lo hi none, ty, pos, af, gd⟩ (.ref b (off + a * k) (c - a) k) := .mk fun ρ w ha ho => by
  have h := ha x _ hx
  generalize hv : ρ x = v at h
  cases h with
  | ref hb hsz hl hcm =>
    rename_i cap cs T'
    have hcap : c ≤ cap := by
      rcases hc with hc | ⟨hH, hlen⟩
      · omega
      · obtain ⟨cs', hb', hlen', _⟩ := ho b T cells hH
        rw [hb] at hb'
        cases hb'
        have : c * k ≤ cap * k := by omega
        exact Nat.le_of_mul_le_mul_right this hk
    have hbd := run_sliceBounds (P := P) (w := w) ha hlo hhi hac hcap
    have hne : ¬ cap = a := by omega
    have hr : (Instr.sliceAt t (.slice (some ⟨b, off, none⟩) n cap) (lo.map ρ) (hi.map ρ) none).run P w = .ok (.slice (some ⟨b, off + a * k, none⟩) (c - a) (cap - a)) w := by
      simp only [Instr.sliceAt, Instr.slice, Sem.run_bind, run_underlying hu, Result.andThen_ok]
      simp [hbd, run_sizeOf hi', hne, addr_add, hs]
    simp only [OpTo, execOp, hv, Sem.run_bind]
    simp only [Option.map_none] at hr ⊢
    rw [hr]
    simp only [Result.andThen_ok, Sem.run_pure]
    refine ⟨.ref hb ?_ (by omega) (by omega), ho, .refl _ _⟩
    rw [← hsz, Nat.add_assoc, ← Nat.add_mul]
    congr 2
    omega

theorem sta_slice_end {t E : TypeId} {inf : TypeInfo} {x : Operand} {lo hi : Option Operand} {b off n k : Nat} (hu : P.underlying t = some (.slice E)) (hi' : P.info? E = some inf)
    (hx : e.ev x = some (.ref b off n k)) (hlo : boundD e lo 0 = some n) (hhi : boundD e hi n = some n) :
    Sta P H e ⟨dst, .slice t x lo hi none, ty, pos, af, gd⟩ (.list k []) := .mk fun ρ w ha ho => by
  have h := ha x _ hx
  generalize hv : ρ x = v at h
  cases h with
  | ref hb hsz hl hcm =>
    rename_i cap cs T'
    have hbd := run_sliceBounds (P := P) (w := w) ha hlo hhi (Nat.le_refl _) hl
    have hr : ∃ a, (Instr.sliceAt t (.slice (some ⟨b, off, none⟩) n cap) (lo.map ρ) (hi.map ρ) none).run P w = .ok (.slice a 0 (cap - n)) w := by
      simp only [Instr.sliceAt, Instr.slice, Sem.run_bind, run_underlying hu, Result.andThen_ok]
      simp [hbd, run_sizeOf hi']
    obtain ⟨a, hr⟩ := hr
    simp only [OpTo, execOp, hv, Sem.run_bind]
    simp only [Option.map_none] at hr ⊢
    rw [hr]
    simp only [Result.andThen_ok, Sem.run_pure]
    exact ⟨Rep.list_nil _ _ _ (by omega), ho, .refl _ _⟩

theorem dead_slice {t E : TypeId} {inf : TypeInfo} {x lo hi mx : Operand} {b off n k a c m : Nat} (hu : P.underlying t = some (.slice E)) (hi' : P.info? E = some inf) (hx : e.ev x = some (.ref b off n k))
    (h0 : e.ev lo = some (I a)) (h1 : e.ev hi = some (I c)) (h2 : e.ev mx = some (I m)) (hac : a ≤ c) (hcm : c ≤ m) (hmn : m ≤ n) :
    DeadOp P H e ⟨dst, .slice t x (some lo) (some hi) (some mx), ty, pos, af, gd⟩ := fun ρ w ha ho => by
  have h := ha x _ hx
  have e0 := rep_int (ha lo _ h0)
  have e1 := rep_int (ha hi _ h1)
  have e2 := rep_int (ha mx _ h2)
  generalize hv : ρ x = v at h
  cases h with
  | ref hb hs hl hcm' =>
    rename_i cap cs T'
    have hl' : (m : Int) ≤ (cap : Int) := by omega
    have hl2 : (c : Int) ≤ (m : Int) := by omega
    have hl3 : (a : Int) ≤ (c : Int) := by omega
    have hl4 : m ≤ cap := by omega
    simp [OpTo, execOp, hv, e0, e1, e2, Instr.sliceAt, Instr.slice, Instr.sliceBounds, Instr.sliceBound, asIntOf, run_underlying hu, run_sizeOf hi', hl, hl', hl2, hl3, hl4, hac, hcm]

theorem opD_clearAt {t E T : TypeId} {x : Operand} {b off k : Nat} {cells zd : List D} {K : D → Heap → Prop} (hu : P.underlying t = some (.slice E)) (hz : ZeroOf P E k zd) (hx : e.ev x = some (.ref b off 1 k)) (hH : H b = some (T, cells)) (hl : off + k ≤ cells.length)
    (hK : K (.tup []) (H.set b (T, setMany cells off zd))) :
    OpD P H e ⟨dst, .call ⟨.builtin .clear, #[x], #[t]⟩, ty, pos, af, gd⟩ K := .mk fun ρ w ha ho => by
  obtain ⟨inf, z, hi, hz1, hz2, hz3⟩ := hz.is
  have h := ha x _ hx
  generalize hv : ρ x = v at h
  cases h with
  | ref hb hs hlc hcm =>
    rename_i cap cs T'
    obtain ⟨cs', hb', hlen, hcs⟩ := ho b T cells hH
    rw [hb] at hb'
    cases hb'
    have hzc : (Builtin.zeroCells z.cells 1).toList = zd.map litV := by
      have : Builtin.zeroCells z.cells 1 = z.cells := by
        apply Array.ext
        · simp [Builtin.zeroCells]
        · intro i h1 h2
          simp [Builtin.zeroCells, Nat.mod_eq_of_lt h2, h2]
      rw [this, hz3]
    have hone : ∀ v ∈ zd.map litV, v.oneCell' = true := fun v hv => by
      obtain ⟨d, hd, rfl⟩ := List.mem_map.1 hv
      have := List.all_eq_true.1 hz.lit d hd
      exact (rep_lit w H this).oneCell (litOk_cell this)
    have hzl := hz.len
    have hst := run_storeCells_at P b off T (zd.map litV) 0 cs w hb (by simp [hzl]; omega) hone
    simp only [Nat.add_zero, List.length_map, hzl] at hst
    have hrun : (Builtin.clear_ #[t] ty #[.slice (some ⟨b, off, none⟩) 1 cap]).run P w = .ok (.tuple #[]) (w.setRow b (cs.toList.take off ++ zd.map litV ++ cs.toList.drop (off + k)).toArray) := by
      simp [Builtin.clear_, run_underlying hu, run_zeroValue hi hz1, hzc, hst]
    rw [← hv] at hrun
    simp only [OpTo, run_exec_clear hrun]
    refine ⟨_, _, hK, RepsA.tup (vs := #[]) (ds := []) ⟨rfl, fun j x h => by simp at h⟩, ?_⟩
    refine ext_setCells ho hH hb (by simp [hzl]; omega) (by rw [setMany_length (by omega)]; simp [hzl]; omega) fun j y hy => ?_
    have hjl : j < cells.length := by
      have := (List.getElem?_eq_some_iff.1 hy).1
      rwa [setMany_length (by omega)] at this
    rw [List.getElem?_toArray]
    unfold setMany at hy
    have htl : (cs.toList.take off).length = off := by rw [List.length_take]; simp; omega
    have htl2 : (cells.take off).length = off := by rw [List.length_take]; omega
    by_cases h1 : j < off
    · rw [List.append_assoc, List.getElem?_append_left (by rw [htl2]; exact h1), List.getElem?_take, if_pos h1] at hy
      rw [List.append_assoc, List.getElem?_append_left (by rw [htl]; exact h1), List.getElem?_take, if_pos h1]
      obtain ⟨h2, v, hv', hr⟩ := hcs j y hy
      exact ⟨h2, v, by simpa using hv', hr⟩
    · by_cases h2 : j < off + k
      · rw [List.append_assoc, List.getElem?_append_right (by rw [htl2]; omega), List.getElem?_append_left (by rw [htl2]; omega), htl2] at hy
        rw [List.append_assoc, List.getElem?_append_right (by rw [htl]; omega), List.getElem?_append_left (by rw [htl]; simp; omega), htl, List.getElem?_map, hy]
        have hlo := List.all_eq_true.1 hz.lit y (List.mem_of_getElem? hy)
        exact ⟨litOk_cell hlo, litV y, rfl, rep_lit w H hlo⟩
      · rw [List.getElem?_append_right (by rw [List.length_append, htl2]; omega), List.length_append, htl2, List.getElem?_drop, hzl] at hy
        rw [List.getElem?_append_right (by rw [List.length_append, htl]; simp; omega), List.length_append, htl, List.length_map, List.getElem?_drop, hzl]
        have he : off + k + (j - (off + k)) = j := by omega
        rw [he] at hy ⊢
        obtain ⟨h2, v, hv', hr⟩ := hcs j y hy
        exact ⟨h2, v, by simpa using hv', hr⟩

theorem opD_appendIn {t E T : TypeId} {inf : TypeInfo} {x y : Operand} {b n k : Nat} {cells xs : List D} {K : D → Heap → Prop} (hu : P.underlying t = some (.slice E)) (hi : P.info? E = some inf) (hs : inf.size = k) (hk : 0 < k) (hT : T = E)
    (hx : e.ev x = some (.ref b 0 n k)) (hH : H b = some (T, cells)) (hsrc : ∀ (ρ : Operand → Value) (w : World), Agree ρ w H e → HOK w H → NewsOf w H (ρ y) k xs) (hxs : Uni k xs) (hne : xs ≠ []) (hfit : n * k + xs.length * k ≤ cells.length)
    (hK : K (.ref b 0 (n + xs.length) k) (H.set b (T, setMany cells (n * k) (xs.flatMap cellsOf)))) :
    OpD P H e ⟨dst, .call ⟨.builtin .append, #[x, y], #[t, t]⟩, ty, pos, af, gd⟩ K := .mk fun ρ w ha ho => by
  subst hT
  have h := ha x _ hx
  obtain ⟨a, c, news, hv1, hnl, hnw, hn1, hnr⟩ := (hsrc ρ w ha ho).2 hne
  generalize hv : ρ x = v at h
  cases h with
  | ref hb hsz hlc hcm =>
    rename_i cap cs T'
    obtain ⟨cs', hb', hlen, hcs⟩ := ho b T cells hH
    rw [hb] at hb'
    cases hb'
    have hcapk : cap * k = cs.size := by omega
    have hroom : n + xs.length ≤ cap := by
      have : (n + xs.length) * k ≤ cap * k := by rw [Nat.add_mul]; omega
      exact Nat.le_of_mul_le_mul_right this hk
    have hrun := run_append_room (P := P) w t ty T inf hu hi b n cap cs hb a xs.length c news (by rw [hs]; exact hnl) hnw hn1 hroom (by rw [hs, hnl]; omega)
    rw [← hv, ← hv1] at hrun
    rw [hs, hnl] at hrun
    simp only [OpTo, run_exec_append hrun]
    have htl : (cs.toList.take (n * k)).length = n * k := by rw [List.length_take]; simp; omega
    have htl2 : (cells.take (n * k)).length = n * k := by rw [List.length_take]; omega
    have hfl := hxs.length
    refine ⟨_, _, hK, .ref (setRow_heap w b cs _ T (0, 0) hb) (by simp [hnl]; omega) hroom hcm, ?_⟩
    refine ext_setCells ho hH hb (by simp [hnl]; omega) (by rw [setMany_length (by rw [hfl]; omega)]; simp [hnl]; omega) fun j y hy => ?_
    have hjl : j < cells.length := by
      have := (List.getElem?_eq_some_iff.1 hy).1
      rwa [setMany_length (by rw [hfl]; omega)] at this
    rw [List.getElem?_toArray]
    unfold setMany at hy
    by_cases h1 : j < n * k
    · rw [List.append_assoc, List.getElem?_append_left (by rw [htl2]; exact h1), List.getElem?_take, if_pos h1] at hy
      rw [List.append_assoc, List.getElem?_append_left (by rw [htl]; exact h1), List.getElem?_take, if_pos h1]
      obtain ⟨h2, v, hv', hr⟩ := hcs j y hy
      exact ⟨h2, v, by simpa using hv', hr⟩
    · by_cases h2 : j < n * k + xs.length * k
      · rw [List.append_assoc, List.getElem?_append_right (by rw [htl2]; omega), List.getElem?_append_left (by rw [htl2, hfl]; omega), htl2] at hy
        rw [List.append_assoc, List.getElem?_append_right (by rw [htl]; omega), List.getElem?_append_left (by rw [htl, hnl]; omega), htl]
        obtain ⟨u, hu', hr⟩ := hnr _ _ hy
        obtain ⟨z, hz, hyz⟩ := List.mem_flatMap.1 (List.mem_of_getElem? hy)
        exact ⟨(hxs z hz).2 y hyz, u, hu', hr⟩
      · rw [List.getElem?_append_right (by rw [List.length_append, htl2, hfl]; omega), List.length_append, htl2, List.getElem?_drop, hfl] at hy
        rw [List.getElem?_append_right (by rw [List.length_append, htl, hnl]; omega), List.length_append, htl, List.getElem?_drop, hnl]
        have he : n * k + xs.length * k + (j - (n * k + xs.length * k)) = j := by omega
        rw [he] at hy ⊢
        obtain ⟨h2, v, hv', hr⟩ := hcs j y hy
        exact ⟨h2, v, by simpa using hv', hr⟩

end
end Go.Proofs.YtfjmdhemlfafbaaGreat

namespace Go.Proofs.YtfjmdhemlfafbaaGreat
open Go.RowKit

def Trunc (H'' H' : Heap) : Prop := ∀ c, H'' c = H' c ∨ ∃ T cells j, H' c = some (T, cells) ∧ H'' c = some (T, cells.take j)

theorem Trunc.none {H'' H' : Heap} (h : Trunc H'' H') {b : Nat} (hb : H' b = none) : H'' b = none := by
  rcases h b with h | ⟨T, cells, j, h1, h2⟩
  · rw [h, hb]
  · rw [hb] at h1; cases h1

theorem Trunc.kept {w : World} {H'' H' : Heap} (h : Trunc H'' H') : Kept w H' w H'' :=
  ⟨fun b off v hH hw => ⟨h.none hH, hw⟩, fun b cs T hb => ⟨cs, hb, rfl⟩⟩

theorem HOK.trunc {w : World} {H'' H' : Heap} (ho : HOK w H') (h : Trunc H'' H') : HOK w H'' := by
  refine ⟨fun b T cells hx => ?_, fun g cs hg => ⟨h.none (ho.inv g cs hg).1, (ho.inv g cs hg).2⟩⟩
  rcases h b with h1 | ⟨T', cells', j, h1, h2⟩
  · rw [h1] at hx
    obtain ⟨cs, c1, c2, c3⟩ := ho b T cells hx
    exact ⟨cs, c1, c2, fun i x hi => let ⟨q1, v, q2, q3⟩ := c3 i x hi; ⟨q1, v, q2, q3.kept h.kept⟩⟩
  · rw [h2] at hx
    cases hx
    obtain ⟨cs, c1, c2, c3⟩ := ho b T cells' h1
    refine ⟨cs, c1, by rw [List.length_take]; omega, fun i x hi => ?_⟩
    have hi2 : cells'[i]? = some x := by
      rw [List.getElem?_take] at hi
      split at hi
      · exact hi
      · cases hi
    obtain ⟨q1, v, q2, q3⟩ := c3 i x hi2
    exact ⟨q1, v, q2, q3.kept h.kept⟩

theorem Ext.trunc {w w' : World} {H H' H'' : Heap} (he : Ext w H w' H') (h : Trunc H'' H') : Ext w H w' H'' :=
  ⟨he.os, he.tape, he.output, he.size, he.tick, fun b hb hH => ⟨h.none (he.old b hb hH).1, (he.old b hb hH).2⟩, he.shape⟩

theorem CallD.trunc {P : Program} {H : Heap} {f : FuncId} {ds : List D} {K K' : D → Heap → Prop} (h : CallD P H f ds K) (hk : ∀ d H', K d H' → ∃ H'', Trunc H'' H' ∧ K' d H'') : CallD P H f ds K' :=
  ⟨h.body, fun w args ho hr => (h.calls w args ho hr).mono fun en w' ⟨v, d, H', h1, h2, h3, h4, h5⟩ => by
    obtain ⟨H'', t1, t2⟩ := hk d H' h2
    exact ⟨v, d, H'', h1, t2, h3.kept t1.kept, h4.trunc t1, h5.trunc t1⟩⟩

theorem Trunc.one {H : Heap} {b : Nat} {T : TypeId} {cells : List D} (j : Nat) : Trunc (H.set b (T, cells.take j)) (H.set b (T, cells)) := fun c => by
  by_cases hc : c = b
  · subst hc
    exact .inr ⟨T, cells, j, Heap.set_self _ _ _, Heap.set_self _ _ _⟩
  · exact .inl (by rw [Heap.set_other _ _ hc, Heap.set_other _ _ hc])

section
variable {P : Program} {H : Heap} {e : Env} {dst : Option Tmp} {ty : TypeId} {pos : String} {af : Array Edge} {gd : Option (Nat × Bool)}

theorem s_sliceRef {t E T : TypeId} {x : Operand} {lo hi : Option Operand} {b off n k bytes a c : Nat} {zd cells : List D} [SliceT P t E] [ElT P E k zd bytes] (hk : 0 < k)
    (hx : e.ev x = some (.ref b off n k)) (hlo : boundD e lo 0 = some a) (hhi : boundD e hi n = some c) (hac : a ≤ c) (hc : c ≤ n ∨ (H b = some (T, cells) ∧ off + c * k ≤ cells.length)) (hlt : a < c ∨ a < n) :
    Sta P H e ⟨dst, .slice t x lo hi none, ty, pos, af, gd⟩ (.ref b (off + a * k) (c - a) k) := by
  obtain ⟨inf, z, hi', hz1, hz2, hz3⟩ := (ElT.z (P := P) (E := E) (k := k) (zd := zd) (bytes := bytes)).is
  exact sta_slice_ref SliceT.h hi' hz2 hk hx hlo hhi hac hc hlt

theorem s_sliceEnd {t E : TypeId} {x : Operand} {lo hi : Option Operand} {b off n k bytes : Nat} {zd : List D} [SliceT P t E] [ElT P E k zd bytes]
    (hx : e.ev x = some (.ref b off n k)) (hlo : boundD e lo 0 = some n) (hhi : boundD e hi n = some n) :
    Sta P H e ⟨dst, .slice t x lo hi none, ty, pos, af, gd⟩ (.list k []) := by
  obtain ⟨inf, z, hi', hz1, hz2, hz3⟩ := (ElT.z (P := P) (E := E) (k := k) (zd := zd) (bytes := bytes)).is
  exact sta_slice_end SliceT.h hi' hx hlo hhi

theorem dead_sliceI {t E : TypeId} {x lo hi mx : Operand} {b off n k bytes a c m : Nat} {zd : List D} [SliceT P t E] [ElT P E k zd bytes] (hx : e.ev x = some (.ref b off n k))
    (h0 : e.ev lo = some (I a)) (h1 : e.ev hi = some (I c)) (h2 : e.ev mx = some (I m)) (hac : a ≤ c) (hcm : c ≤ m) (hmn : m ≤ n) :
    DeadOp P H e ⟨dst, .slice t x (some lo) (some hi) (some mx), ty, pos, af, gd⟩ := by
  obtain ⟨inf, z, hi', hz1, hz2, hz3⟩ := (ElT.z (P := P) (E := E) (k := k) (zd := zd) (bytes := bytes)).is
  exact dead_slice SliceT.h hi' hx h0 h1 h2 hac hcm hmn

theorem d_clearAt {t E T : TypeId} {x : Operand} {b off k bytes : Nat} {cells zd : List D} {K : D → Heap → Prop} [SliceT P t E] [ElT P E k zd bytes] (hx : e.ev x = some (.ref b off 1 k)) (hH : H b = some (T, cells)) (hl : off + k ≤ cells.length)
    (hK : K (.tup []) (H.set b (T, setMany cells off zd))) :
    OpD P H e ⟨dst, .call ⟨.builtin .clear, #[x], #[t]⟩, ty, pos, af, gd⟩ K :=
  opD_clearAt SliceT.h (ElT.z (P := P) (E := E) (k := k) (zd := zd) (bytes := bytes)) hx hH hl hK

theorem d_appendIn {t E : TypeId} {x y : Operand} {b n k bytes : Nat} {cells xs zd : List D} {K : D → Heap → Prop} [SliceT P t E] [ElT P E k zd bytes] (hk : 0 < k)
    (hx : e.ev x = some (.ref b 0 n k)) (hH : H b = some (E, cells)) (hsrc : ∀ (ρ : Operand → Value) (w : World), Agree ρ w H e → HOK w H → NewsOf w H (ρ y) k xs) (hxs : Uni k xs) (hne : xs ≠ []) (hfit : n * k + xs.length * k ≤ cells.length)
    (hK : K (.ref b 0 (n + xs.length) k) (H.set b (E, setMany cells (n * k) (xs.flatMap cellsOf)))) :
    OpD P H e ⟨dst, .call ⟨.builtin .append, #[x, y], #[t, t]⟩, ty, pos, af, gd⟩ K := by
  obtain ⟨inf, z, hi', hz1, hz2, hz3⟩ := (ElT.z (P := P) (E := E) (k := k) (zd := zd) (bytes := bytes)).is
  exact opD_appendIn SliceT.h hi' hz2 hk rfl hx hH hsrc hxs hne hfit hK

end

theorem setMany_take (l xs : List D) (i : Nat) (h : i ≤ l.length) : (setMany l i xs).take (i + xs.length) = l.take i ++ xs := by
  unfold setMany
  rw [List.take_append_of_le_length (by rw [List.length_append, List.length_take]; omega)]
  rw [List.take_of_length_le (by rw [List.length_append, List.length_take]; omega)]

end Go.Proofs.YtfjmdhemlfafbaaGreat

namespace Go.Proofs
open Go.Shelf
def Tryz.laysSort_ren : Go.Shelf.Ren := ⟨fun | 6 => 75 | 15 => 94 | 14 => 93 | 28 => 112 | 29 => 113 | 20 => 104 | 21 => 105 | 22 => 106 | 23 => 107 | 24 => 108 | 25 => 109 | 26 => 110 | 27 => 111 | 46 => 117 | 47 => 118 | 48 => 119 | 49 => 120 | 50 => 121 | 57 => 123 | n => n, fun | 22 => 63 | 24 => 68 | 25 => 106 | 3 => 3 | 39 => 119 | 0 => 0 | 53 => 137 | 55 => 139 | 4 => 4 | 46 => 130 | 45 => 129 | 50 => 134 | 5 => 5 | 9 => 9 | 66 => 141 | 70 => 145 | 76 => 147 | 77 => 148 | n => n, fun | n => n⟩
theorem Tryz.laysSort : Go.Proofs.SlLaysF0.n6 Tryz.prog Tryz.laysSort_ren := {
  mixed := by kernel_rfl
  f6 := ⟨Tryz.f75.name, by decide, Tryz.func75.trans (congrArg some (by kernel_rfl))⟩
  f14 := ⟨Tryz.f93.name, by decide, Tryz.func93.trans (congrArg some (by kernel_rfl))⟩
  f15 := Tryz.func94.trans (congrArg some (by kernel_rfl))
  f20 := ⟨Tryz.f104.name, by decide, Tryz.func104.trans (congrArg some (by kernel_rfl))⟩
  f21 := ⟨Tryz.f105.name, by decide, Tryz.func105.trans (congrArg some (by kernel_rfl))⟩
  f22 := ⟨Tryz.f106.name, by decide, Tryz.func106.trans (congrArg some (by kernel_rfl))⟩
  f23 := ⟨Tryz.f107.name, by decide, Tryz.func107.trans (congrArg some (by kernel_rfl))⟩
  f24 := ⟨Tryz.f108.name, by decide, Tryz.func108.trans (congrArg some (by kernel_rfl))⟩
  f25 := ⟨Tryz.f109.name, by decide, Tryz.func109.trans (congrArg some (by kernel_rfl))⟩
  f26 := ⟨Tryz.f110.name, by decide, Tryz.func110.trans (congrArg some (by kernel_rfl))⟩
  f27 := ⟨Tryz.f111.name, by decide, Tryz.func111.trans (congrArg some (by kernel_rfl))⟩
  f28 := Tryz.func112.trans (congrArg some (by kernel_rfl))
  f29 := Tryz.func113.trans (congrArg some (by kernel_rfl))
  f46 := ⟨Tryz.f117.name, by decide, Tryz.func117.trans (congrArg some (by kernel_rfl))⟩
  f47 := Tryz.func118.trans (congrArg some (by kernel_rfl))
  f48 := Tryz.func119.trans (congrArg some (by kernel_rfl))
  f49 := ⟨Tryz.f120.name, by decide, Tryz.func120.trans (congrArg some (by kernel_rfl))⟩
  f50 := ⟨Tryz.f121.name, by decide, Tryz.func121.trans (congrArg some (by kernel_rfl))⟩
  f57 := ⟨Tryz.f123.name, by decide, Tryz.func123.trans (congrArg some (by kernel_rfl))⟩
  t0 := Tryz.underlying0
  a0 := Tryz.isAgg0
  z0 := Tryz.sizeOf0
  v0 := Tryz.zeroValue0
  t3 := Tryz.underlying3
  a3 := Tryz.isAgg3
  z3 := Tryz.sizeOf3
  v3 := Tryz.zeroValue3
  t4 := Tryz.underlying4
  a4 := Tryz.isAgg4
  z4 := Tryz.sizeOf4
  v4 := Tryz.zeroValue4
  t5 := Tryz.underlying5
  a5 := Tryz.isAgg5
  z5 := Tryz.sizeOf5
  v5 := Tryz.zeroValue5
  t9 := Tryz.underlying9
  a9 := Tryz.isAgg9
  z9 := Tryz.sizeOf9
  v9 := Tryz.zeroValue9
  t22 := Tryz.underlying63
  a22 := Tryz.isAgg63
  z22 := Tryz.sizeOf63
  v22 := Tryz.zeroValue63
  t25 := Tryz.underlying106
  a25 := Tryz.isAgg106
  z25 := Tryz.sizeOf106
  v25 := Tryz.zeroValue106
  t39 := Tryz.underlying119
  a39 := Tryz.isAgg119
  z39 := Tryz.sizeOf119
  v39 := Tryz.zeroValue119
  t45 := Tryz.underlying129
  a45 := Tryz.isAgg129
  z45 := Tryz.sizeOf129
  v45 := Tryz.zeroValue129
  t46 := Tryz.underlying130
  a46 := Tryz.isAgg130
  z46 := Tryz.sizeOf130
  v46 := Tryz.zeroValue130
  t50 := Tryz.underlying134
  a50 := Tryz.isAgg134
  z50 := Tryz.sizeOf134
  v50 := Tryz.zeroValue134
  t53 := Tryz.underlying137
  a53 := Tryz.isAgg137
  z53 := Tryz.sizeOf137
  v53 := Tryz.zeroValue137
  t55 := Tryz.underlying139
  a55 := Tryz.isAgg139
  z55 := Tryz.sizeOf139
  v55 := Tryz.zeroValue139
  t66 := Tryz.underlying141
  a66 := Tryz.isAgg141
  z66 := Tryz.sizeOf141
  v66 := Tryz.zeroValue141
  t70 := Tryz.underlying145
  a70 := Tryz.isAgg145
  z70 := Tryz.sizeOf145
  v70 := Tryz.zeroValue145
  t76 := Tryz.underlying147
  a76 := Tryz.isAgg147
  z76 := Tryz.sizeOf147
  v76 := Tryz.zeroValue147
  t77 := Tryz.underlying148
  a77 := Tryz.isAgg148
  z77 := Tryz.sizeOf148
  v77 := Tryz.zeroValue148 }
end Go.Proofs
