/-
  append and calls as rules; what was written becomes immutable. No condition.
-/
import Derived.Test.YtejpadofecboiaaE7
namespace Go.Proofs.Ytejpadofecboiaa
open Go.RowKit
set_option linter.unusedVariables false
set_option linter.unusedSimpArgs false

theorem Ext.grownBy {w w' : World} (H : Heap) (h : w.grownBy w' none) : Ext w H w' H :=
  ⟨h.os, h.tape, h.output, h.size, fun b hb hH => ⟨hH, h.block b hb (by simp)⟩, fun b cs T hc => ⟨cs, by rw [h.block b (lt_of_block hc) (by simp)]; exact hc, rfl⟩⟩

theorem HOK.grownBy {w w' : World} {H : Heap} (ho : HOK w H) (h : w.grownBy w' none) : HOK w' H :=
  ho.ext (Ext.grownBy H h) fun b x hb => h.block b (ho.lt hb) (by simp)

/-- A new block of w' becomes mutable. -/
theorem HOK.adopt {w w' : World} {H : Heap} (ho : HOK w H) (h : w.grownBy w' none) {g : Nat} (hg : w.heap.size ≤ g) {E : TypeId} {cur : Array Value} {cells : List D} (hb : w'.heap[g]? = some (.cells cur E (0, 0))) (hl : cells.length ≤ cur.size)
    (hr : ∀ (j : Nat) (x : D), cells[j]? = some x → x.isCell = true ∧ ∃ u, cur[j]? = some u ∧ Rep w H u x) : HOK w' (H.set g (E, cells)) ∧ Ext w H w' (H.set g (E, cells)) := by
  have he : Ext w H w' (H.set g (E, cells)) := by
    refine ⟨h.os, h.tape, h.output, h.size, fun b hb' hH => ⟨?_, h.block b hb' (by simp)⟩, (Ext.grownBy H h).shape⟩
    simp only [Heap.set]
    rw [if_neg (by omega)]
    exact hH
  refine ⟨fun b T cells2 hc => ?_, he⟩
  simp only [Heap.set] at hc
  split at hc
  · rename_i hbg
    subst hbg
    cases hc
    exact ⟨cur, hb, hl, fun j x hx => let ⟨h1, u, hu, hrep⟩ := hr j x hx; ⟨h1, u, hu, hrep.ext he⟩⟩
  · obtain ⟨cs, h1, h2, h3⟩ := ho b T cells2 hc
    exact ⟨cs, by rw [h.block b (ho.lt hc) (by simp)]; exact h1, h2, fun j x hx => let ⟨h4, u, hu, hrep⟩ := h3 j x hx; ⟨h4, u, hu, hrep.ext he⟩⟩

theorem Acc.base {H0 H : Heap} {d : D} {k : Nat} {T : TypeId} {l : List D} (h : Acc H0 H d k T l) : BaseIs H d k T l := by
  rcases h.is with h | ⟨b, _, h1, h2⟩
  · exact .inl h
  · exact .inr ⟨b, h1, h2⟩

/-- What was written becomes immutable: data before and behind. -/
inductive Frz (H H' : Heap) : D → D → Prop
  | same (d : D) : Frz H H' d d
  | nil (k : Nat) : Frz H H' .nil (.list k [])
  | ref {b k : Nat} {l : List D} {T : TypeId} {cells : List D} (hH : H b = some (T, cells)) (hn : H' b = none) (h1 : ∀ (i : Nat) (d : D), l[i]? = some d → (cellsOf d).length = k)
      (hl : (l.flatMap cellsOf).length = cells.length) (h : ∀ (j : Nat) (x y : D), cells[j]? = some x → (l.flatMap cellsOf)[j]? = some y → Frz H H' x y) : Frz H H' (.ref b 0 l.length k) (.list k l)
  | agg {l l' : List D} (hl : l'.length = l.length) (h : ∀ (j : Nat) (x y : D), l[j]? = some x → l'[j]? = some y → Frz H H' x y) : Frz H H' (.agg l) (.agg l')
  | tup {l l' : List D} (hl : l'.length = l.length) (h : ∀ (j : Nat) (x y : D), l[j]? = some x → l'[j]? = some y → Frz H H' x y) : Frz H H' (.tup l) (.tup l')

theorem Rep.frz {w : World} {H H' : Heap} (ho : HOK w H) (hs : H'.sub H) {d d' : D} (hf : Frz H H' d d') : ∀ {v : Value}, Rep w H v d → Rep w H' v d' := by
  induction hf with
  | same d => exact fun hv => hv.kept (.sub hs)
  | nil k => exact fun hv => (hv.kept (.sub hs)).nil_list k
  | @ref b k l T cells hH hn h1 hl h ih =>
    intro v hv
    cases hv with
    | ref hb hsz hle hm =>
      obtain ⟨cs, hcb, hcl, hcr⟩ := ho _ _ _ hH
      refine rep_row hcb hn h1 (fun j y hy => ?_) hle hm
      have hj : j < cells.length := by rw [← hl]; exact (List.getElem?_eq_some_iff.1 hy).1
      have hx : cells[j]? = some cells[j] := by simp [hj]
      obtain ⟨_, u, hu, hrep⟩ := hcr j _ hx
      exact ⟨u, hu, ih j _ y hx hy hrep⟩
  | agg hl h ih =>
    intro v hv
    obtain ⟨vs, rfl, hr⟩ := rep_agg hv
    refine RepsA.agg ⟨by rw [hr.1, hl], fun j y hy => ?_⟩
    rename_i l l'
    have hj : j < l.length := by rw [← hl]; exact (List.getElem?_eq_some_iff.1 hy).1
    have hx : l[j]? = some l[j] := by simp [hj]
    obtain ⟨u, hu, hrep⟩ := hr.2 j _ hx
    exact ⟨u, hu, ih j _ y hx hy hrep⟩
  | tup hl h ih =>
    intro v hv
    obtain ⟨vs, rfl, hr⟩ := rep_tup hv
    refine RepsA.tup ⟨by rw [hr.1, hl], fun j y hy => ?_⟩
    rename_i l l'
    have hj : j < l.length := by rw [← hl]; exact (List.getElem?_eq_some_iff.1 hy).1
    have hx : l[j]? = some l[j] := by simp [hj]
    obtain ⟨u, hu, hrep⟩ := hr.2 j _ hx
    exact ⟨u, hu, ih j _ y hx hy hrep⟩

theorem Frz.list {H H' : Heap} {b k n : Nat} {l : List D} {T : TypeId} (hH : H b = some (T, l.flatMap cellsOf)) (hn : H' b = none) (hu : Uni k l) (hl : n = l.length) : Frz H H' (.ref b 0 n k) (.list k l) := by
  subst hl
  refine .ref hH hn (fun i d hd => (hu d (List.mem_of_getElem? hd)).1) rfl fun j x y hx hy => ?_
  rw [hx] at hy
  cases hy
  exact .same x

/-- A slice of one's own, frozen. -/
theorem Acc.frz {H0 H H' : Heap} {d : D} {k : Nat} {T : TypeId} {l : List D} (h : Acc H0 H d k T l) (hn : ∀ b, d.blk = some b → H' b = none) : Frz H H' d (.list k l) := by
  rcases h.is with ⟨rfl, rfl⟩ | ⟨b, _, rfl, h2⟩
  · exact .nil k
  · exact Frz.list h2 (hn b rfl) h.uni rfl

section
variable {P : Program} {H : Heap} {e : Env} {dst : Option Tmp} {ty : TypeId} {pos : String} {af : Array Edge} {gd : Option (Nat × Bool)}

theorem run_exec_append {ρ : Operand → Value} {w : World} {x y : Operand} {t : TypeId} {v' : Value} {w' : World} (h : (Builtin.append_ #[t, t] ty #[ρ x, ρ y]).run P w = .ok v' w') :
    (execOp ρ ⟨dst, .call ⟨.builtin .append, #[x, y], #[t, t]⟩, ty, pos, af, gd⟩).run P w = .ok (.value v') w' := by
  have : execOp ρ ⟨dst, .call ⟨.builtin .append, #[x, y], #[t, t]⟩, ty, pos, af, gd⟩ = (do pure (.value (← Builtin.append_ #[t, t] ty #[ρ x, ρ y]))) := by
    simp only [BigFrame.execOp_builtin, BigFrame.builtin_append, List.map_toArray, List.map_cons, List.map_nil]
  rw [this, Sem.run_bind, h]
  rfl

/-- append onto a slice of one's own. -/
theorem opD_append {H0 : Heap} {t E : TypeId} {x y : Operand} {k : Nat} {zd : List D} {d dy : D} {l xs : List D} {K : D → Heap → Prop} (hu : P.underlying t = some (.slice E)) (hz : ZeroOf P E k zd) (hk : 0 < k) (hx : e.ev x = some d) (hacc : Acc H0 H d k E l) (hover : Over H0 H)
    (hy : e.ev y = some dy) (hsrc : dy = .list k xs ∨ (dy = .nil ∧ xs = [])) (hxs : Uni k xs) (hbytes : ∀ inf, P.info? E = some inf → (l.length + xs.length) * inf.bytes ≤ 140737488355328) (hlen : l.length + xs.length ≤ 4611686018427387904)
    (hK : ∀ d' H', Acc H0 H' d' k E (l ++ xs) → Over H0 H' → (∀ c z, H c = some z → d.blk ≠ some c → H' c = some z) → K d' H') :
    OpD P H e ⟨dst, .call ⟨.builtin .append, #[x, y], #[t, t]⟩, ty, pos, af, gd⟩ K := .mk fun ρ w ha ho => by
  obtain ⟨v', w', hrun, happ⟩ := run_append (P := P) (ty := ty) hu hz hk ho hacc.base hacc.uni (ha x d hx) (ha y dy hy) hsrc hxs hbytes hlen
  simp only [OpTo, run_exec_append hrun]
  have huni := hacc.uni.append hxs
  cases happ with
  | same h =>
    subst h
    refine ⟨d, H, hK d H (by rw [List.append_nil]; exact hacc) hover fun c z hc _ => hc, ha x d hx, ho, .refl _ _⟩
  | room hd hv hb hs hm hl hs' hr =>
    rename_i b cap cs cs'
    subst hd
    obtain ⟨hb0, hHb⟩ : H0 b = none ∧ H b = some (E, l.flatMap cellsOf) := by
      rcases hacc.is with ⟨h, _⟩ | ⟨b', h1, h2, h3⟩
      · cases h
      · cases h2; exact ⟨h1, h3⟩
    have hfl : ((l ++ xs).flatMap cellsOf).length ≤ cs'.size := by
      rw [huni.length, List.length_append, hs', hs]
      exact Nat.mul_le_mul_right k hl
    obtain ⟨ho', he'⟩ := ext_setCells ho hHb hb hs' hfl hr
    refine ⟨.ref b 0 (l.length + xs.length) k, _, hK _ _ ⟨huni, .inr ⟨b, hb0, by rw [List.length_append], by simp [Heap.set]⟩⟩ (hover.set hb0) fun c z hc hne => ?_, ?_, ho', he'⟩
    · have : c ≠ b := fun h => hne (by simp [D.blk, h])
      simp [Heap.set, this, hc]
    · exact .ref (setRow_heap w b cs cs' E (0, 0) hb) (by rw [hs', hs]; omega) hl hm
  | grown hg hw hb hs hm hl hr =>
    rename_i g cap cur
    have hfl : ((l ++ xs).flatMap cellsOf).length ≤ cur.size := by
      rw [huni.length, List.length_append, hs]
      exact Nat.mul_le_mul_right k hl
    obtain ⟨ho', he'⟩ := ho.adopt hw hg hb hfl hr
    have hHg : H g = none := by
      cases hx : H g with
      | none => rfl
      | some x => have := ho.lt hx; omega
    refine ⟨.ref g 0 (l.length + xs.length) k, _, hK _ _ ⟨huni, .inr ⟨g, hover.none hHg, by rw [List.length_append], by simp [Heap.set]⟩⟩ (hover.set (hover.none hHg)) fun c z hc hne => ?_, ?_, ho', he'⟩
    · have : c ≠ g := fun h => by subst h; rw [hHg] at hc; cases hc
      simp [Heap.set, this, hc]
    · exact .ref hb (by rw [hs]; omega) hl hm

/-- append onto nil (or onto a literal without elements): a new list. -/
theorem sta_append_nil {t E : TypeId} {x y : Operand} {k : Nat} {zd : List D} {dy : D} {xs : List D} (hu : P.underlying t = some (.slice E)) (hz : ZeroOf P E k zd) (hk : 0 < k) (hx : e.ev x = some .nil) (hy : e.ev y = some dy)
    (hsrc : dy = .list k xs ∨ (dy = .nil ∧ xs = [])) (hxs : Uni k xs) (hbytes : ∀ inf, P.info? E = some inf → xs.length * inf.bytes ≤ 140737488355328) (hlen : xs.length ≤ 4611686018427387904) :
    Sta P H e ⟨dst, .call ⟨.builtin .append, #[x, y], #[t, t]⟩, ty, pos, af, gd⟩ (.list k xs) := .mk fun ρ w ha ho => by
  obtain ⟨v', w', hrun, happ⟩ := run_append (P := P) (ty := ty) (l := []) hu hz hk ho (.inl ⟨rfl, rfl⟩) (Uni.nil k) (ha x _ hx) (ha y dy hy) hsrc hxs (by simpa using hbytes) (by simpa using hlen)
  simp only [OpTo, run_exec_append hrun]
  cases happ with
  | same h => subst h; exact ⟨(ha x _ hx).nil_list k, ho, .refl _ _⟩
  | room hd => cases hd
  | grown hg hw hb hs hm hl hr =>
    rename_i g cap cur
    have hHg : H g = none := by
      cases hx : H g with
      | none => rfl
      | some x => have := ho.lt hx; omega
    refine ⟨?_, ho.grownBy hw, Ext.grownBy H hw⟩
    have := rep_row (w := w') (H := H) (l := xs) (k := k) (cap := cap) hb hHg (fun i d hd => (hxs d (List.mem_of_getElem? hd)).1) (fun j y hy => by
      obtain ⟨_, u, hu', hrep⟩ := hr j y (by simpa using hy)
      exact ⟨u, hu', hrep.ext (Ext.grownBy H hw)⟩) (by simpa using hl) hm
    simpa using this

/-! ### Calls -/

def goBody (P : Program) (f : FuncId) : Prop := ∃ fn, P.funcs[f]? = some fn ∧ (fn.name == "runtime.NumGoroutine") = false ∧ fn.body.isNone = false

theorem run_callFunc {f : FuncId} (h : goBody P f) (args : Array Value) (w : World) : (callFunc f args).run P w = .ok (.enter f args) w := by
  obtain ⟨fn, hf, hn, hb⟩ := h
  have hn' : ¬ fn.name = "runtime.NumGoroutine" := by simpa using hn
  have hb' : ¬ fn.body = none := by intro h; rw [h] at hb; cases hb
  simp [callFunc, hf, hn', hb']

/-- A call that hands back this datum and leaves all that was there as it was (these blocks being mutable). -/
structure PureH (P : Program) (H : Heap) (f : FuncId) (ds : List D) (d : D) : Prop where
  body : goBody P f
  calls : ∀ (w : World) (args : Array Value), HOK w H → RepsA w H args ds → Calls P f args w fun en w' => ∃ v, en = .returned v ∧ Rep w' H v d ∧ HOK w' H ∧ Ext w H w' H

/-- Whatever is mutable. -/
def Pure (P : Program) (f : FuncId) (ds : List D) (d : D) : Prop := ∀ H, PureH P H f ds d

/-- A call that may turn mutable blocks. -/
structure CallD (P : Program) (H : Heap) (f : FuncId) (ds : List D) (K : D → Heap → Prop) : Prop where
  body : goBody P f
  calls : ∀ (w : World) (args : Array Value), HOK w H → RepsA w H args ds → Calls P f args w fun en w' => ∃ v d H', en = .returned v ∧ K d H' ∧ Rep w' H' v d ∧ HOK w' H' ∧ Ext w H w' H'

def evList (e : Env) : List Operand → Option (List D)
  | [] => some []
  | x :: r => (e.ev x).bind fun d => (evList e r).map fun ds => d :: ds

theorem reps_list {w : World} {ρ : Operand → Value} (ha : Agree ρ w H e) : ∀ (l : List Operand) (ds : List D), evList e l = some ds → RepsA w H (l.map ρ).toArray ds
  | [], ds, h => by simp [evList] at h; subst h; exact ⟨rfl, fun j x hx => by simp at hx⟩
  | x :: r, ds, h => by
    simp only [evList] at h
    cases hx : e.ev x with
    | none => simp [hx] at h
    | some d =>
      cases hr : evList e r with
      | none => simp [hx, hr] at h
      | some ds' =>
        simp [hx, hr] at h
        subst h
        have ih := reps_list ha r ds' hr
        refine ⟨by simpa using ih.1, fun j y hy => ?_⟩
        cases j with
        | zero => simp at hy; subst hy; exact ⟨ρ x, by simp, ha x d hx⟩
        | succ j =>
          obtain ⟨u, hu, hrep⟩ := ih.2 j y (by simpa using hy)
          exact ⟨u, by simpa using hu, hrep⟩

theorem RepsA.append {w : World} {vs us : Array Value} {ds es : List D} (h : RepsA w H vs ds) (g : RepsA w H us es) : RepsA w H (vs ++ us) (ds ++ es) := by
  refine ⟨by simp [h.1, g.1], fun j x hx => ?_⟩
  by_cases hj : j < ds.length
  · rw [List.getElem?_append_left hj] at hx
    obtain ⟨u, hu, hr⟩ := h.2 j x hx
    exact ⟨u, by rw [Array.getElem?_append_left (by rw [h.1]; exact hj)]; exact hu, hr⟩
  · rw [List.getElem?_append_right (by omega)] at hx
    obtain ⟨u, hu, hr⟩ := g.2 _ x hx
    exact ⟨u, by rw [Array.getElem?_append_right (by rw [h.1]; omega), h.1]; exact hu, hr⟩

theorem run_exec_call {ρ : Operand → Value} {w : World} {g : Operand} {xs : Array Operand} {ats : Array TypeId} {f : FuncId} {vs : Array Value} (hb : goBody P f) (hg : ρ g = .func (.func f) #[] vs) :
    (execOp ρ ⟨dst, .call ⟨.value g, xs, ats⟩, ty, pos, af, gd⟩).run P w = .ok (.enter f (xs.map ρ ++ vs)) w := by
  simp only [execOp, Sem.run_bind, resolve, Deferred.ofValue, hg]
  simp [invoke, run_callFunc hb]

theorem sta_call {g : Operand} {xs : Array Operand} {ats : Array TypeId} {f : FuncId} {caps ds : List D} {d : D} (hg : e.ev g = some (.fn f caps)) (hx : evList e xs.toList = some ds) (hp : PureH P H f (ds ++ caps) d) :
    Sta P H e ⟨dst, .call ⟨.value g, xs, ats⟩, ty, pos, af, gd⟩ d := .mk fun ρ w ha ho => by
  obtain ⟨vs, hv, hr⟩ := rep_fn (ha g _ hg)
  simp only [OpTo, run_exec_call hp.body hv]
  have hargs : RepsA w H (xs.map ρ ++ vs) (ds ++ caps) := by
    have := (reps_list (H := H) ha xs.toList ds hx).append hr
    have he : (xs.toList.map ρ).toArray = xs.map ρ := by apply Array.ext'; simp
    rwa [he] at this
  exact (hp.calls w _ ho hargs).mono fun en w' ⟨v, h1, h2, h3, h4⟩ => ⟨v, h1, h2, h3, h4⟩

theorem opD_call {g : Operand} {xs : Array Operand} {ats : Array TypeId} {f : FuncId} {caps ds : List D} {K : D → Heap → Prop} (hg : e.ev g = some (.fn f caps)) (hx : evList e xs.toList = some ds) (hp : CallD P H f (ds ++ caps) K) :
    OpD P H e ⟨dst, .call ⟨.value g, xs, ats⟩, ty, pos, af, gd⟩ K := .mk fun ρ w ha ho => by
  obtain ⟨vs, hv, hr⟩ := rep_fn (ha g _ hg)
  simp only [OpTo, run_exec_call hp.body hv]
  have hargs : RepsA w H (xs.map ρ ++ vs) (ds ++ caps) := by
    have := (reps_list (H := H) ha xs.toList ds hx).append hr
    have he : (xs.toList.map ρ).toArray = xs.map ρ := by apply Array.ext'; simp
    rwa [he] at this
  exact (hp.calls w _ ho hargs).mono fun en w' ⟨v, d, H', h1, h2, h3, h4, h5⟩ => ⟨v, h1, d, H', h2, h3, h4, h5⟩

end
end Go.Proofs.Ytejpadofecboiaa
