/-
  Regions whose operations go in the text's order, and whole functions, at the data level. No condition.
-/
import Derived.Test.YtejpadofecboiaaE9
namespace Go.Proofs.Ytejpadofecboiaa
open Go.RowKit
set_option linter.unusedVariables false
set_option linter.unusedSimpArgs false

theorem wp_of_opTo {P : Program} {o : Oper} {a : Act} {w : World} {K : Value → World → Prop} {next : Act → World → Prop} {Q : Exit → Act → World → Prop} (h : OpTo P a.eval o w K) (hn : ∀ v w', K v w' → next (a.put o.dst v) w') : o.wp P a w next Q := by
  unfold OpTo at h
  unfold Oper.wp
  split at h
  · rename_i v w' hr
    rw [hr]
    exact hn _ _ h
  · rename_i w' hr
    rw [hr]
    exact hn _ _ h
  · rename_i f args w' hr
    rw [hr]
    exact h.mono fun e w'' ⟨v, he, hv⟩ => by subst he; exact hn _ _ hv
  · exact h.elim

/-- What a guard's operation has left: a bool; nothing, where it was passed over itself. -/
def guardD (ops : List Oper) (e : Env) (j : Nat) : Option (Option Bool) :=
  match (ops[j]?).bind (·.dst) with
  | some t => match e.get t with
    | some (.bool b) => some (some b)
    | some (.tup []) => some none
    | _ => none
  | none => none

theorem guard_yielded {C : Ctx} {a : Act} {w : World} {e : Env} {H : Heap} (hs : St C a w e H) {ops : List Oper} {j : Nat} {b : Option Bool} (h : guardD ops e j = some b) : yielded ops.toArray a.tmps j = b := by
  unfold guardD at h
  unfold yielded
  simp only [List.getElem?_toArray]
  split at h
  · rename_i t ht
    rw [ht]
    simp only [Option.bind_some]
    split at h
    · rename_i c hc
      obtain ⟨v, hv, hr⟩ := hs.env t _ hc
      rw [hv, rep_bool hr]
      exact Option.some.inj h
    · rename_i hc
      obtain ⟨v, hv, hr⟩ := hs.env t _ hc
      obtain ⟨vs, rfl, _⟩ := rep_tup hr
      rw [hv]
      exact Option.some.inj h
    · cases h
  · cases h

/-- Is an operation's guard met? -/
def GuardIs (ops : List Oper) (e : Env) (o : Oper) (yes no : Prop) : Prop :=
  match o.guard with
  | none => yes
  | some (j, want) => ∃ b, guardD ops e j = some b ∧ (b = some want → yes) ∧ (b ≠ some want → no)

/-- Operations in the text's order. -/
def RO (C : Ctx) (ops : List Oper) : List Oper → Env → Heap → (Env → Heap → Prop) → Prop
  | [], e, H, K => K e H
  | o :: rest, e, H, K => dstOk C.N o.dst = true ∧ GuardIs ops e o (OpD C.P H e o fun d H' => RO C ops rest (e.putO o.dst d) H' K) (RO C ops rest (e.putO o.dst (.tup [])) H K)

theorem RO.sound {C : Ctx} {ops : List Oper} {K : Env → Heap → Prop} {Q : Exit → Act → World → Prop} (hQ : ∀ e H a w, K e H → St C a w e H → Q .normal a w) :
    ∀ (l : List Oper) (e : Env) (H : Heap) (a : Act) (w : World), RO C ops l e H K → St C a w e H → wpList C.P ops.toArray Q l a w
  | [], e, H, a, w, h, hs => wpList_nil (hQ e H a w h hs)
  | o :: rest, e, H, a, w, h, hs => by
    obtain ⟨hd, hg⟩ := h
    have yes : (OpD C.P H e o fun d H' => RO C ops rest (e.putO o.dst d) H' K) → ∀ L : Act → World → Prop, (∀ a w, wpList C.P ops.toArray Q rest a w → L a w) → o.wp C.P a w L Q := fun hop L hL =>
      wp_of_opTo (hop.go a.eval w hs.agree hs.heap) fun v w' ⟨d, H', hk, hr, ho, he⟩ => hL _ _ (RO.sound hQ rest _ H' _ w' hk (hs.put hd hr ho he))
    have no : RO C ops rest (e.putO o.dst (.tup [])) H K → wpList C.P ops.toArray Q rest (a.put o.dst undef) w := fun hk =>
      RO.sound hQ rest _ H _ w hk (hs.put hd (RepsA.tup (vs := #[]) (ds := []) ⟨rfl, fun j x hx => by simp at hx⟩) hs.heap (.refl _ _))
    refine wpList_step fun L hL => ?_
    unfold GuardIs at hg
    cases hgu : o.guard with
    | none =>
      rw [hgu] at hg
      simp only [Region.wanted, hgu, if_true]
      exact yes hg L hL
    | some jw =>
      obtain ⟨j, want⟩ := jw
      rw [hgu] at hg
      obtain ⟨b, hb, h1, h2⟩ := hg
      have hy := guard_yielded hs hb
      by_cases hbw : b = some want
      · rw [if_pos (by simp only [Region.wanted, hgu, hy, hbw]; exact beq_self_eq_true _)]
        exact yes (h1 hbw) L hL
      · rw [if_neg (by simp only [Region.wanted, hgu, hy]; intro hx; exact hbw (by simpa using hx))]
        exact hL _ _ (no (h2 hbw))

section
variable {C : Ctx} {e : Env} {H : Heap} {Q : Post} {ops : List Oper} {rest : List Oper} {K : Env → Heap → Prop}

/-- A region in the text's order. -/
theorem DW.region {id : Nat} (h : RO C ops ops e H fun e' H' => Q .normal e' H') : DW C (.region id ops.toArray false) e H Q := .mk fun a w hs =>
  wp_region_lit (RO.sound (fun e' H' a' w' hk hs' => ⟨e', H', hk, hs'⟩) ops e H a w h hs)

theorem RO.nil (h : K e H) : RO C ops [] e H K := h

/-- The next operation is static. -/
theorem RO.sta {dst : Option Tmp} {op : Op} {ty : TypeId} {pos : String} {af : Array Edge} {d : D} (h : Sta C.P H e ⟨dst, op, ty, pos, af, none⟩ d) (hd : dstOk C.N dst = true) (hk : RO C ops rest (e.putO dst d) H K) : RO C ops (⟨dst, op, ty, pos, af, none⟩ :: rest) e H K :=
  ⟨hd, OpD.of_sta h hk⟩

/-- The next operation may turn mutable blocks. -/
theorem RO.dyn {dst : Option Tmp} {op : Op} {ty : TypeId} {pos : String} {af : Array Edge} (hd : dstOk C.N dst = true) (h : OpD C.P H e ⟨dst, op, ty, pos, af, none⟩ fun d H' => RO C ops rest (e.putO dst d) H' K) : RO C ops (⟨dst, op, ty, pos, af, none⟩ :: rest) e H K :=
  ⟨hd, h⟩

/-- A guarded operation whose guard says yes. -/
theorem RO.yes {dst : Option Tmp} {op : Op} {ty : TypeId} {pos : String} {af : Array Edge} {j : Nat} {want : Bool} (hg : guardD ops e j = some (some want)) (hd : dstOk C.N dst = true) (h : OpD C.P H e ⟨dst, op, ty, pos, af, some (j, want)⟩ fun d H' => RO C ops rest (e.putO dst d) H' K) :
    RO C ops (⟨dst, op, ty, pos, af, some (j, want)⟩ :: rest) e H K := ⟨hd, ⟨_, hg, fun _ => h, fun h => absurd rfl h⟩⟩

/-- A guarded operation whose guard says no. -/
theorem RO.no {dst : Option Tmp} {op : Op} {ty : TypeId} {pos : String} {af : Array Edge} {j : Nat} {want : Bool} {b : Option Bool} (hg : guardD ops e j = some b) (hb : b ≠ some want) (hd : dstOk C.N dst = true) (h : RO C ops rest (e.putO dst (.tup [])) H K) :
    RO C ops (⟨dst, op, ty, pos, af, some (j, want)⟩ :: rest) e H K := ⟨hd, ⟨_, hg, fun h => absurd h hb, fun _ => h⟩⟩

end

/-! ### Loops -/

/-- These slots hold these data. -/
def Has (e : Env) : Env → Prop
  | [] => True
  | (t, d) :: r => e.get t = some d ∧ Has e r

theorem Has.get {e : Env} : ∀ {l : Env} {t : Nat} {d : D}, Has e l → l.get t = some d → e.get t = some d
  | [], t, d, _, h => by simp [Env.get] at h
  | (s, x) :: r, t, d, ⟨h1, h2⟩, h => by
    rw [Env.get_cons] at h
    split at h
    · rename_i hst; subst hst; cases h; exact h1
    · exact Has.get h2 h

theorem DW.has {C : Ctx} {c : Code} {e : Env} {H : Heap} {Q : Post} (l : Env) (h : Has e l) (hd : DW C c l H Q) : DW C c e H Q := .weaken (fun t d ht => h.get ht) hd

/-- At a round's end: the loop's next state; or out of the loop. -/
def roundQ {α : Type} (inv : α → Prop) (env : α → Env) (hp : α → Heap) (ms : α → Nat) (a : α) (Q : Post) : Post
  | .normal, e, H => ∃ b, inv b ∧ ms b < ms a ∧ H = hp b ∧ Has e (env b)
  | x, e, H => Q x e H

/-- A loop, by its states. -/
theorem DW.loopI {C : Ctx} {c : Code} {e : Env} {H : Heap} {Q : Post} {α : Type} (inv : α → Prop) (env : α → Env) (hp : α → Heap) (ms : α → Nat) (a0 : α) (h0 : inv a0) (hH : H = hp a0) (he : Has e (env a0))
    (hr : ∀ a, inv a → DW C c (env a) (hp a) (roundQ inv env hp ms a Q)) : DW C (.loop c) e H Q := by
  refine DW.loop (fun n e H => ∃ a, inv a ∧ ms a = n ∧ H = hp a ∧ Has e (env a)) (ms a0) ⟨a0, h0, rfl, hH, he⟩ fun n e H ⟨a, ha, hn, hH, he⟩ => ?_
  subst hH
  refine DW.has (env a) he ((hr a ha).mono fun x e' H' hx => ?_)
  cases x with
  | normal =>
    obtain ⟨b, h1, h2, h3, h4⟩ := hx
    exact ⟨ms b, by omega, b, h1, rfl, h3, h4⟩
  | exit id => exact hx
  | goto l => exact hx
  | ret => exact hx
  | panic c => exact hx
  | outgrown => exact hx

/-! ### Whole functions -/

/-- The arguments' slots. -/
def argEnv : Nat → List D → Env
  | _, [] => []
  | i, d :: ds => (i, d) :: argEnv (i + 1) ds

theorem argEnv_get : ∀ (ds : List D) (i t : Nat) (d : D), (argEnv i ds).get t = some d → i ≤ t ∧ ds[t - i]? = some d
  | [], i, t, d, h => by simp [argEnv, Env.get] at h
  | x :: ds, i, t, d, h => by
    simp only [argEnv, Env.get_cons] at h
    split at h
    · rename_i hit
      subst hit
      simpa using h
    · rename_i hit
      obtain ⟨h1, h2⟩ := argEnv_get ds (i + 1) t d h
      refine ⟨by omega, ?_⟩
      have : t - i = (t - (i + 1)) + 1 := by omega
      rw [this]
      simpa using h2

/-- A function's results, at its end. -/
def resD (e : Env) : List ResultVar → Option (List D)
  | [] => some []
  | .tmp t :: r => (e.get t).bind fun d => (resD e r).map fun ds => d :: ds
  | .cell .. :: _ => none

def resOne : List D → D
  | [d] => d
  | ds => .tup ds

def resSem (tmps : Array Value) : ResultVar → Sem Value
  | .tmp t => pure (tmps.getD t undef)
  | .cell a t => do loadVar t (← asAddr (tmps.getD a undef))

theorem results_eq (fn : Func) (tmps : Array Value) : results fn tmps = (do let vs ← fn.results.mapM (resSem tmps); pure (if h : vs.size = 1 then vs[0] else .tuple vs)) := by
  unfold results
  congr

theorem run_results {C : Ctx} {a : Act} {w : World} {e : Env} {H : Heap} (hs : St C a w e H) (fn : Func) {ds : List D} (h : resD e fn.results.toList = some ds) : ∃ v, (results fn a.tmps).run C.P w = .ok v w ∧ Rep w H v (resOne ds) := by
  have key : ∀ (l : List ResultVar) (ds : List D), resD e l = some ds → ∃ vs : List Value, (l.mapM (resSem a.tmps)).run C.P w = .ok vs w ∧ RepsA w H vs.toArray ds := by
    intro l
    induction l with
    | nil =>
      intro ds h
      simp [resD] at h
      subst h
      exact ⟨[], by simp, rfl, fun j x hx => by simp at hx⟩
    | cons r l ih =>
      intro ds h
      cases r with
      | cell x t => simp [resD] at h
      | tmp t =>
        simp only [resD] at h
        cases hx : e.get t with
        | none => simp [hx] at h
        | some d =>
          cases hr : resD e l with
          | none => simp [hx, hr] at h
          | some ds' =>
            simp [hx, hr] at h
            subst h
            obtain ⟨vs, h1, h2⟩ := ih ds' hr
            obtain ⟨v, hv, hrep⟩ := hs.env t d hx
            have hvd : a.tmps.getD t undef = v := by simp [Array.getD_eq_getD_getElem?, hv]
            refine ⟨v :: vs, ?_, by simpa using h2.1, fun j y hy => ?_⟩
            · rw [List.mapM_cons]
              simp only [resSem, Sem.run_bind, hvd, Sem.run_pure, Result.andThen_ok, h1]
            · cases j with
              | zero => simp at hy; subst hy; exact ⟨v, by simp, hrep⟩
              | succ j =>
                obtain ⟨u, hu, hrep'⟩ := h2.2 j y (by simpa using hy)
                exact ⟨u, by simpa using hu, hrep'⟩
  obtain ⟨vs, h1, h2⟩ := key fn.results.toList ds h
  have hmap : (fn.results.mapM (resSem a.tmps)).run C.P w = .ok vs.toArray w := by
    rw [← Array.toArray_toList (xs := fn.results), List.mapM_toArray, Sem.run_map, h1]
    rfl
  refine ⟨if h : vs.toArray.size = 1 then vs.toArray[0] else .tuple vs.toArray, ?_, ?_⟩
  · rw [results_eq]
    simp only [Sem.run_bind, hmap, Result.andThen_ok, Sem.run_pure]
  · have hlen : vs.length = ds.length := by simpa using h2.1
    match ds, hlen, h2 with
    | [], hlen, h2 =>
      rw [dif_neg (by simp [hlen])]
      exact h2.tup
    | [d], hlen, h2 =>
      rw [dif_pos (by simp [hlen])]
      obtain ⟨u, hu, hr⟩ := h2.2 0 d rfl
      have : vs.toArray[0]'(by simp [hlen]) = u := by
        rw [Array.getElem?_eq_getElem (by simp [hlen])] at hu
        exact Option.some.inj hu
      rw [this]
      exact hr
    | d :: d' :: ds, hlen, h2 =>
      rw [dif_neg (by simp [hlen])]
      exact h2.tup

/-- A function's body shows what its call does. -/
theorem CallD.of_body {P : Program} {H : Heap} {f : FuncId} {fn : Func} {c : Code} {ds : List D} {K : D → Heap → Prop} (hf : P.funcs[f]? = some fn) (hb : fn.body = some c) (hn : (fn.name == "runtime.NumGoroutine") = false) (hds : ds.length ≤ fn.ntmps)
    (h : ∀ w0 : World, DW ⟨P, fn.ntmps, w0, H⟩ c (argEnv 0 ds) H fun x e H' => (x = .ret ∨ x = .normal) ∧ ∃ rs d H'', resD e fn.results.toList = some rs ∧ H''.sub H' ∧ Frz H' H'' (resOne rs) d ∧ K d H'') : CallD P H f ds K := by
  refine ⟨⟨fn, hf, hn, by rw [hb]; rfl⟩, fun w args ho ha => ?_⟩
  refine calls_of_wp hf hb ?_
  have hst : St ⟨P, fn.ntmps, w, H⟩ { tmps := args ++ Array.replicate (fn.ntmps - args.size) undef, defers := [] } w (argEnv 0 ds) H := by
    refine ⟨by simp [ha.1]; omega, rfl, fun t d hd => ?_, ho, .refl _ _⟩
    obtain ⟨_, hd'⟩ := argEnv_get ds 0 t d hd
    obtain ⟨v, hv, hr⟩ := ha.2 t d (by simpa using hd')
    exact ⟨v, by rw [Array.getElem?_append_left (Array.getElem?_eq_some_iff.1 hv).1]; exact hv, hr⟩
  refine wp_mono ((h w).go _ w hst) fun x a' w' hx => ?_
  obtain ⟨e', H', ⟨hxx, rs, d, H'', hres, hsub, hfrz, hK⟩, s⟩ := hx
  obtain ⟨v, hrun, hrep⟩ := run_results s fn hres
  have fin : a'.defers = [] ∧ ∃ v, (results fn a'.tmps).run P w' = .ok v w' ∧ ∃ v' d H', Ending.returned v = .returned v' ∧ K d H' ∧ Rep w' H' v' d ∧ HOK w' H' ∧ Ext w H w' H' :=
    ⟨s.defers, v, hrun, v, d, H'', rfl, hK, Rep.frz s.heap hsub hfrz hrep, s.heap.sub hsub, s.ext.sub hsub⟩
  rcases hxx with rfl | rfl
  · exact fin
  · exact fin

/-- A pure function, by its body. -/
theorem PureH.of_body {P : Program} {H : Heap} {f : FuncId} {fn : Func} {c : Code} {ds : List D} {d : D} (hf : P.funcs[f]? = some fn) (hb : fn.body = some c) (hn : (fn.name == "runtime.NumGoroutine") = false) (hds : ds.length ≤ fn.ntmps)
    (h : ∀ w0 : World, DW ⟨P, fn.ntmps, w0, H⟩ c (argEnv 0 ds) H fun x e H' => (x = .ret ∨ x = .normal) ∧ ∃ rs, resD e fn.results.toList = some rs ∧ Over H H' ∧ Frz H' H (resOne rs) d) : PureH P H f ds d := by
  have := CallD.of_body (K := fun d' H' => d' = d ∧ H' = H) hf hb hn hds (H := H) fun w0 => (h w0).mono fun x e H' ⟨h1, rs, h2, h3, h4⟩ => ⟨h1, rs, d, H, h2, h3, h4, rfl, rfl⟩
  exact ⟨this.body, fun w args ho ha => (this.calls w args ho ha).mono fun en w' ⟨v, d', H', h1, ⟨h2, h3⟩, h4, h5, h6⟩ => by subst h2; subst h3; exact ⟨v, h1, h4, h5, h6⟩⟩

end Go.Proofs.Ytejpadofecboiaa
