/-
  The rules once more, with the facts on types found by instances; the data of the program as trees. No condition.
-/
import Derived.Test.YtfjmdhemlfafbaaGreatKHc2
set_option linter.unusedVariables false
set_option linter.unusedSimpArgs false

namespace Go.Proofs.YtfjmdhemlfafbaaGreat
section
open Go.RowKit

theorem wp_of_opTo {P : Program} {o : Oper} {a : Act} {w : World} {K : Value → World → Prop} {next : Act → World → Prop} {Q : Exit → Act → World → Prop} (h : OpTo P a.eval o w K) (hn : ∀ v w', K v w' → next (a.put o.dst v) w') : o.wp P a w next Q := by
 unfold OpTo at h
 unfold Oper.wp
 split at h
 ·rename_i v w' hr
  rw [hr]
  exact hn _ _ h
 ·rename_i w' hr
  rw [hr]
  exact hn _ _ h
 ·rename_i f args w' hr
  rw [hr]
  exact h.mono fun e w'' ⟨v, he, hv⟩ => by subst he; exact hn _ _ hv
 ·exact h.elim

def guardD (ops : List Oper) (e : Env) (j : Nat) : Option (Option Bool) :=
 match (ops[j]?).bind (·.dst) with
 | some t => match e.get t with
  | some (.bool b) => some (some b)
  | some (.tup []) => some none
  | _ => none
 | none => none

theorem guard_yielded {C : Ctx} {a : Act} {w : World} {e : Env} {H : Heap} (hs : St C a w e H) {ops : List Oper} {j : Nat} {b : Option Bool} (h : guardD ops e j = some b) : yielded ops.toArray a.tmps j = b := by
 unfold guardD at h
 unfold yielded
 simp only [List.getElem?_toArray]
 split at h
 ·rename_i t ht
  rw [ht]
  simp only [Option.bind_some]
  split at h
  ·rename_i c hc
   obtain ⟨v, hv, hr⟩ := hs.env t _ hc
   rw [hv, rep_bool hr]
   exact Option.some.inj h
  ·rename_i hc
   obtain ⟨v, hv, hr⟩ := hs.env t _ hc
   obtain ⟨vs, rfl, _⟩ := rep_tup hr
   rw [hv]
   exact Option.some.inj h
  ·cases h
 ·cases h

def GuardIs (ops : List Oper) (e : Env) (o : Oper) (yes no : Prop) : Prop :=
 match o.guard with
 | none => yes
 | some (j, want) => ∃ b, guardD ops e j = some b ∧ (b = some want → yes) ∧ (b ≠ some want → no)

def RO (C : Ctx) (ops : List Oper) : List Oper → Env → Heap → (Env → Heap → Prop) → Prop
 | [], e, H, K => K e H
 | o :: rest, e, H, K => dstOk C.N o.dst = true ∧ GuardIs ops e o (OpD C.P H e o fun d H' => RO C ops rest (e.putO o.dst d) H' K) (RO C ops rest (e.putO o.dst (.tup [])) H K)

theorem RO.sound {C : Ctx} {ops : List Oper} {K : Env → Heap → Prop} {Q : Exit → Act → World → Prop} (hQ : ∀ e H a w, K e H → St C a w e H → Q .normal a w) :
  ∀ (l : List Oper) (e : Env) (H : Heap) (a : Act) (w : World), RO C ops l e H K → St C a w e H → wpList C.P ops.toArray Q l a w
 | [], e, H, a, w, h, hs => wpList_nil (hQ e H a w h hs)
 | o :: rest, e, H, a, w, h, hs => by
  obtain ⟨hd, hg⟩ := h
  have yes : (OpD C.P H e o fun d H' => RO C ops rest (e.putO o.dst d) H' K) → ∀ L : Act → World → Prop, (∀ a w, wpList C.P ops.toArray Q rest a w → L a w) → o.wp C.P a w L Q := fun hop L hL =>
   wp_of_opTo (hop.go a.eval w hs.agree hs.heap) fun v w' ⟨d, H', hk, hr, ho, he⟩ => hL _ _ (RO.sound hQ rest _ H' _ w' hk (hs.put hd hr ho he))
  have no : RO C ops rest (e.putO o.dst (.tup [])) H K → wpList C.P ops.toArray Q rest (a.put o.dst undef) w := fun hk =>
   RO.sound hQ rest _ H _ w hk (hs.put hd (RepsA.tup (vs := #[]) (ds := []) ⟨rfl, fun j x hx => by simp at hx⟩) hs.heap (.refl _ _))
  refine wpList_step fun L hL => ?_
  unfold GuardIs at hg
  cases hgu : o.guard with
  | none =>
   rw [hgu] at hg
   simp only [Region.wanted, hgu, if_true]
   exact yes hg L hL
  | some jw =>
   obtain ⟨j, want⟩ := jw
   rw [hgu] at hg
   obtain ⟨b, hb, h1, h2⟩ := hg
   have hy := guard_yielded hs hb
   by_cases hbw : b = some want
   ·rw [if_pos (by simp only [Region.wanted, hgu, hy, hbw]; exact beq_self_eq_true _)]
    exact yes (h1 hbw) L hL
   ·rw [if_neg (by simp only [Region.wanted, hgu, hy]; intro hx; exact hbw (by simpa using hx))]
    exact hL _ _ (no (h2 hbw))

section
variable {C : Ctx} {e : Env} {H : Heap} {Q : Post} {ops : List Oper} {rest : List Oper} {K : Env → Heap → Prop}

theorem DW.region {id : Nat} (h : RO C ops ops e H fun e' H' => Q .normal e' H') : DW C (.region id ops.toArray false) e H Q := .mk fun a w hs =>
 wp_region_lit (RO.sound (fun e' H' a' w' hk hs' => ⟨e', H', hk, hs'⟩) ops e H a w h hs)

theorem RO.nil (h : K e H) : RO C ops [] e H K := h

theorem RO.sta {dst : Option Tmp} {op : Op} {ty : TypeId} {pos : String} {af : Array Edge} {d : D} (h : Sta C.P H e ⟨dst, op, ty, pos, af, none⟩ d) (hd : dstOk C.N dst = true) (hk : RO C ops rest (e.putO dst d) H K) : RO C ops (⟨dst, op, ty, pos, af, none⟩ :: rest) e H K :=
 ⟨hd, OpD.of_sta h hk⟩

theorem RO.dyn {dst : Option Tmp} {op : Op} {ty : TypeId} {pos : String} {af : Array Edge} (hd : dstOk C.N dst = true) (h : OpD C.P H e ⟨dst, op, ty, pos, af, none⟩ fun d H' => RO C ops rest (e.putO dst d) H' K) : RO C ops (⟨dst, op, ty, pos, af, none⟩ :: rest) e H K :=
 ⟨hd, h⟩

theorem RO.yes {dst : Option Tmp} {op : Op} {ty : TypeId} {pos : String} {af : Array Edge} {j : Nat} {want : Bool} (hg : guardD ops e j = some (some want)) (hd : dstOk C.N dst = true) (h : OpD C.P H e ⟨dst, op, ty, pos, af, some (j, want)⟩ fun d H' => RO C ops rest (e.putO dst d) H' K) :
  RO C ops (⟨dst, op, ty, pos, af, some (j, want)⟩ :: rest) e H K := ⟨hd, ⟨_, hg, fun _ => h, fun h => absurd rfl h⟩⟩

theorem RO.no {dst : Option Tmp} {op : Op} {ty : TypeId} {pos : String} {af : Array Edge} {j : Nat} {want : Bool} {b : Option Bool} (hg : guardD ops e j = some b) (hb : b ≠ some want) (hd : dstOk C.N dst = true) (h : RO C ops rest (e.putO dst (.tup [])) H K) :
  RO C ops (⟨dst, op, ty, pos, af, some (j, want)⟩ :: rest) e H K := ⟨hd, ⟨_, hg, fun h => absurd h hb, fun _ => h⟩⟩

end

def Has (e : Env) : Env → Prop
 | [] => True
 | (t, d) :: r => e.get t = some d ∧ Has e r

theorem Has.get {e : Env} : ∀ {l : Env} {t : Nat} {d : D}, Has e l → l.get t = some d → e.get t = some d
 | [], t, d, _, h => by simp [Env.get] at h
 | (s, x) :: r, t, d, ⟨h1, h2⟩, h => by
  rw [Env.get_cons] at h
  split at h
  ·rename_i hst; subst hst; cases h; exact h1
  ·exact Has.get h2 h

theorem DW.has {C : Ctx} {c : Code} {e : Env} {H : Heap} {Q : Post} (l : Env) (h : Has e l) (hd : DW C c l H Q) : DW C c e H Q := .weaken (fun t d ht => h.get ht) hd

def roundQ {α : Type} (inv : α → Prop) (env : α → Env) (hp : α → Heap) (ms : α → Nat) (a : α) (Q : Post) : Post
 | .normal, e, H => ∃ b, inv b ∧ ms b < ms a ∧ H = hp b ∧ Has e (env b)
 | x, e, H => Q x e H

theorem DW.loopI {C : Ctx} {c : Code} {e : Env} {H : Heap} {Q : Post} {α : Type} (inv : α → Prop) (env : α → Env) (hp : α → Heap) (ms : α → Nat) (a0 : α) (h0 : inv a0) (hH : H = hp a0) (he : Has e (env a0))
  (hr : ∀ a, inv a → DW C c (env a) (hp a) (roundQ inv env hp ms a Q)) : DW C (.loop c) e H Q := by
 refine DW.loop (fun n e H => ∃ a, inv a ∧ ms a = n ∧ H = hp a ∧ Has e (env a)) (ms a0) ⟨a0, h0, rfl, hH, he⟩ fun n e H ⟨a, ha, hn, hH, he⟩ => ?_
 subst hH
 refine DW.has (env a) he ((hr a ha).mono fun x e' H' hx => ?_)
 cases x with
 | normal =>
  obtain ⟨b, h1, h2, h3, h4⟩ := hx
  exact ⟨ms b, by omega, b, h1, rfl, h3, h4⟩
 | exit id => exact hx
 | goto l => exact hx
 | ret => exact hx
 | panic c => exact hx
 | outgrown => exact hx

def argEnv : Nat → List D → Env
 | _, [] => []
 | i, d :: ds => (i, d) :: argEnv (i + 1) ds

theorem argEnv_get : ∀ (ds : List D) (i t : Nat) (d : D), (argEnv i ds).get t = some d → i ≤ t ∧ ds[t - i]? = some d
 | [], i, t, d, h => by simp [argEnv, Env.get] at h
 | x :: ds, i, t, d, h => by
  simp only [argEnv, Env.get_cons] at h
  split at h
  ·rename_i hit
   subst hit
   simpa using h
  ·rename_i hit
   obtain ⟨h1, h2⟩ := argEnv_get ds (i + 1) t d h
   refine ⟨by omega, ?_⟩
   have : t - i = (t - (i + 1)) + 1 := by omega
   rw [this]
   simpa using h2

def resD (e : Env) : List ResultVar → Option (List D)
 | [] => some []
 | .tmp t :: r => (e.get t).bind fun d => (resD e r).map fun ds => d :: ds
 | .cell .. :: _ => none

def resOne : List D → D
 | [d] => d
 | ds => .tup ds

def resSem (tmps : Array Value) : ResultVar → Sem Value
 | .tmp t => pure (tmps.getD t undef)
 | .cell a t => do loadVar t (← asAddr (tmps.getD a undef))

theorem results_eq (fn : Func) (tmps : Array Value) : results fn tmps = (do let vs ← fn.results.mapM (resSem tmps); pure (if h : vs.size = 1 then vs[0] else .tuple vs)) := by
 unfold results
 congr

theorem run_results {C : Ctx} {a : Act} {w : World} {e : Env} {H : Heap} (hs : St C a w e H) (fn : Func) {ds : List D} (h : resD e fn.results.toList = some ds) : ∃ v, (results fn a.tmps).run C.P w = .ok v w ∧ Rep w H v (resOne ds) := by
 have key : ∀ (l : List ResultVar) (ds : List D), resD e l = some ds → ∃ vs : List Value, (l.mapM (resSem a.tmps)).run C.P w = .ok vs w ∧ RepsA w H vs.toArray ds := by
  intro l
  induction l with
  | nil =>
   intro ds h
   simp [resD] at h
   subst h
   exact ⟨[], by simp, rfl, fun j x hx => by simp at hx⟩
  | cons r l ih =>
   intro ds h
   cases r with
   | cell x t => simp [resD] at h
   | tmp t =>
    simp only [resD] at h
    cases hx : e.get t with
    | none => simp [hx] at h
    | some d =>
     cases hr : resD e l with
     | none => simp [hx, hr] at h
     | some ds' =>
      simp [hx, hr] at h
      subst h
      obtain ⟨vs, h1, h2⟩ := ih ds' hr
      obtain ⟨v, hv, hrep⟩ := hs.env t d hx
      have hvd : a.tmps.getD t undef = v := by simp [Array.getD_eq_getD_getElem?, hv]
      refine ⟨v :: vs, ?_, by simpa using h2.1, fun j y hy => ?_⟩
      ·rw [List.mapM_cons]
       simp only [resSem, Sem.run_bind, hvd, Sem.run_pure, Result.andThen_ok, h1]
      ·cases j with
       | zero => simp at hy; subst hy; exact ⟨v, by simp, hrep⟩
       | succ j =>
        obtain ⟨u, hu, hrep'⟩ := h2.2 j y (by simpa using hy)
        exact ⟨u, by simpa using hu, hrep'⟩
 obtain ⟨vs, h1, h2⟩ := key fn.results.toList ds h
 have hmap : (fn.results.mapM (resSem a.tmps)).run C.P w = .ok vs.toArray w := by
  rw [← Array.toArray_toList (xs := fn.results), List.mapM_toArray, Sem.run_map, h1]
  rfl
 refine ⟨if h : vs.toArray.size = 1 then vs.toArray[0] else .tuple vs.toArray, ?_, ?_⟩
 ·rw [results_eq]
  simp only [Sem.run_bind, hmap, Result.andThen_ok, Sem.run_pure]
 ·have hlen : vs.length = ds.length := by simpa using h2.1
  match ds, hlen, h2 with
  | [], hlen, h2 =>
   rw [dif_neg (by simp [hlen])]
   exact h2.tup
  | [d], hlen, h2 =>
   rw [dif_pos (by simp [hlen])]
   obtain ⟨u, hu, hr⟩ := h2.2 0 d rfl
   have : vs.toArray[0]'(by simp [hlen]) = u := by
    rw [Array.getElem?_eq_getElem (by simp [hlen])] at hu
    exact Option.some.inj hu
   rw [this]
   exact hr
  | d :: d' :: ds, hlen, h2 =>
   rw [dif_neg (by simp [hlen])]
   exact h2.tup

theorem CallD.of_body {P : Program} {H : Heap} {f : FuncId} {fn : Func} {c : Code} {ds : List D} {K : D → Heap → Prop} (hf : P.funcs[f]? = some fn) (hb : fn.body = some c) (hn : (fn.name == "runtime.NumGoroutine") = false) (hds : ds.length ≤ fn.ntmps)
  (h : ∀ w0 : World, DW ⟨P, fn.ntmps, w0, H⟩ c (argEnv 0 ds) H fun x e H' => (x = .ret ∨ x = .normal) ∧ ∃ rs d H'', resD e fn.results.toList = some rs ∧ H''.sub H' ∧ Frz H' H'' (resOne rs) d ∧ K d H'') : CallD P H f ds K := by
 refine ⟨⟨fn, hf, hn, by rw [hb]; rfl⟩, fun w args ho ha => ?_⟩
 refine calls_of_marks hf hb ?_
 have hst : St ⟨P, fn.ntmps, w, H⟩ { tmps := args ++ Array.replicate (fn.ntmps - args.size) undef, defers := [] } w (argEnv 0 ds) H := by
  refine ⟨by simp [ha.1]; omega, trivial, fun t d hd => ?_, ho, .refl _ _⟩
  obtain ⟨_, hd'⟩ := argEnv_get ds 0 t d hd
  obtain ⟨v, hv, hr⟩ := ha.2 t d (by simpa using hd')
  exact ⟨v, by rw [Array.getElem?_append_left (Array.getElem?_eq_some_iff.1 hv).1]; exact hv, hr⟩
 refine wp_mono ((h w).go _ w hst) fun x a' w' hx => ?_
 obtain ⟨e', H', ⟨hxx, rs, d, H'', hres, hsub, hfrz, hK⟩, s⟩ := hx
 refine ⟨hxx, s.defers, fun w2 hsh => ?_⟩
 have s := s.shut hsh
 obtain ⟨v, hrun, hrep⟩ := run_results s fn hres
 exact ⟨v, hrun, v, d, H'', rfl, hK, Rep.frz s.heap hsub hfrz hrep, s.heap.sub hsub, s.ext.sub hsub⟩

theorem PureH.of_body {P : Program} {H : Heap} {f : FuncId} {fn : Func} {c : Code} {ds : List D} {d : D} (hf : P.funcs[f]? = some fn) (hb : fn.body = some c) (hn : (fn.name == "runtime.NumGoroutine") = false) (hds : ds.length ≤ fn.ntmps)
  (h : ∀ w0 : World, DW ⟨P, fn.ntmps, w0, H⟩ c (argEnv 0 ds) H fun x e H' => (x = .ret ∨ x = .normal) ∧ ∃ rs, resD e fn.results.toList = some rs ∧ Over H H' ∧ Frz H' H (resOne rs) d) : PureH P H f ds d := by
 have := CallD.of_body (K := fun d' H' => d' = d ∧ H' = H) hf hb hn hds (H := H) fun w0 => (h w0).mono fun x e H' ⟨h1, rs, h2, h3, h4⟩ => ⟨h1, rs, d, H, h2, h3, h4, rfl, rfl⟩
 exact ⟨this.body, fun w args ho ha => (this.calls w args ho ha).mono fun en w' ⟨v, d', H', h1, ⟨h2, h3⟩, h4, h5, h6⟩ => by subst h2; subst h3; exact ⟨v, h1, h4, h5, h6⟩⟩
end
section
open Go.RowKit

class SliceT (P : Program) (t : TypeId) (E : outParam TypeId) : Prop where
 h : P.underlying t = some (.slice E)
class ElT (P : Program) (E : TypeId) (k : outParam Nat) (zd : outParam (List D)) (bytes : outParam Nat) : Prop where
 z : ZeroOf P E k zd
 pos : 0 < k
 b : ∀ inf, P.info? E = some inf → inf.bytes = bytes
class CellT (P : Program) (t : TypeId) : Prop where
 h : ∃ td, P.underlying t = some td ∧ aggD td = false
class AggT (P : Program) (t : TypeId) (k : outParam Nat) : Prop where
 h : ∃ td inf, P.underlying t = some td ∧ aggD td = true ∧ P.info? t = some inf ∧ inf.size = k
class FieldT (P : Program) (t : TypeId) (f : Nat) (o : outParam Nat) : Prop where
 h : fieldOff P t f = some o
class BoolT (P : Program) (t : TypeId) : Prop where
 h : P.underlying t = some .bool
class SizeT (P : Program) (t : TypeId) (k : outParam Nat) : Prop where
 h : ∃ inf, P.info? t = some inf ∧ inf.size = k

theorem ElT.of {P : Program} {E k bytes : Nat} {zd : List D} {z : Value} (h : (P.info? E).map (fun i => (i.zero, i.size, i.bytes)) = some (some z, k, bytes)) (hz : z.cells = (zd.map litV).toArray) (hl : zd.all litOk = true) (hk : zd.length = k) (hp : 0 < k) : ElT P E k zd bytes := by
 cases hi : P.info? E with
 | none => simp [hi] at h
 | some inf =>
  simp [hi] at h
  obtain ⟨h1, h2, h3⟩ := h
  exact ⟨⟨⟨inf, z, hi, h1, h2, hz⟩, hl, hk⟩, hp, fun inf' h' => by rw [hi] at h'; cases h'; exact h3⟩

theorem AggT.of {P : Program} {t k : Nat} {td : TypeDesc} (hu : P.underlying t = some td) (hd : aggD td = true) (h : (P.info? t).map (·.size) = some k) : AggT P t k := by
 cases hi : P.info? t with
 | none => simp [hi] at h
 | some inf => simp [hi] at h; exact ⟨⟨td, inf, hu, hd, hi, h⟩⟩

theorem SizeT.of {P : Program} {t k : Nat} (h : (P.info? t).map (·.size) = some k) : SizeT P t k := by
 cases hi : P.info? t with
 | none => simp [hi] at h
 | some inf => simp [hi] at h; exact ⟨⟨inf, hi, h⟩⟩

section
variable {P : Program} {H : Heap} {e : Env} {dst : Option Tmp} {ty : TypeId} {pos : String} {af : Array Edge} {gd : Option (Nat × Bool)}

theorem s_fn {f : FuncId} {caps : Array Operand} {ds : List D} (h : evList e caps.toList = some ds) : Sta P H e ⟨dst, .makeFunc (.func f) #[] caps, ty, pos, af, gd⟩ (.fn f ds) := .mk fun ρ w ha ho => by
 have := reps_list (H := H) ha caps.toList ds h
 have he : (caps.toList.map ρ).toArray = caps.map ρ := by apply Array.ext'; simp
 rw [he] at this
 simp [OpTo, execOp, Instr.makeFunc]
 exact ⟨this.fn f, ho, .refl _ _⟩

theorem s_pickT {c x y : Operand} {d : D} (hc : e.ev c = some (.bool true)) (hx : e.ev x = some d) : Sta P H e ⟨dst, .pick c x y, ty, pos, af, gd⟩ d := sta_pick hc (fun _ => hx) (fun h => by cases h)
theorem s_pickF {c x y : Operand} {d : D} (hc : e.ev c = some (.bool false)) (hy : e.ev y = some d) : Sta P H e ⟨dst, .pick c x y, ty, pos, af, gd⟩ d := sta_pick hc (fun h => by cases h) (fun _ => hy)

theorem s_and1 {x y : Operand} {tx t2 : TypeId} {a : Int} (hx : e.ev x = some (I a)) (hy : e.ev y = some (I 1)) (h0 : 0 ≤ a) (h1 : a ≤ 9223372036854775807) : Sta P H e ⟨dst, .binOp .and tx x y t2, ty, pos, af, gd⟩ (I (a % 2)) := .mk fun ρ w ha ho => by
 have e1 := rep_int (ha x _ hx)
 have e2 := rep_int (ha y _ hy)
 obtain ⟨n, rfl⟩ := Int.eq_ofNat_of_zero_le h0
 have hb : (BitVec.ofInt 64 (n : Int) &&& BitVec.ofInt 64 1).toNat = n % 2 := by
  rw [BitVec.toNat_and]
  have h2 : (BitVec.ofInt 64 (n : Int)).toNat = n := by
   rw [BitVec.toNat_ofInt]
   omega
  have h3 : (BitVec.ofInt 64 1).toNat = 1 := by decide
  rw [h2, h3, Nat.and_one_is_mod]
 have hw : IntKind.i64.wrap (((BitVec.ofInt 64 (n : Int) &&& BitVec.ofInt 64 1).toNat : Nat) : Int) = (n : Int) % 2 := by
  rw [hb, wrap_of_fits ⟨by omega, by omega⟩]
  omega
 simp only [OpTo, execOp, e1, e2, eqGuard, Sem.run_bind]
 refine ⟨?_, ho, .refl _ _⟩
 show Rep w H (.int .i64 (IntKind.i64.wrap ((BitVec.ofInt 64 (n : Int) &&& BitVec.ofInt 64 1).toNat : Nat))) _
 rw [hw]
 exact .int _ _

theorem s_shr1 {x y : Operand} {tx t2 : TypeId} {a : Int} {k : IntKind} (hx : e.ev x = some (I a)) (hy : e.ev y = some (.int k 1)) (h0 : 0 ≤ a) : Sta P H e ⟨dst, .binOp .shr tx x y t2, ty, pos, af, gd⟩ (I (a / 2)) := .mk fun ρ w ha ho => by
 have e1 := rep_int (ha x _ hx)
 have e2 := rep_int (ha y _ hy)
 simp only [OpTo, execOp, e1, e2, eqGuard, Sem.run_bind]
 refine ⟨?_, ho, .refl _ _⟩
 have hf : a.fdiv (2 ^ min (Int.toNat 1) IntKind.i64.bits) = a / 2 := Int.fdiv_eq_ediv_of_nonneg a (by decide)
 show Rep w H (.int .i64 (a.fdiv (2 ^ min (Int.toNat 1) IntKind.i64.bits))) _
 rw [hf]
 exact .int _ _

theorem s_cmp {op : BinOp} {x y : Operand} {tx t2 : TypeId} {a b : Int} {c : Bool} (hx : e.ev x = some (I a)) (hy : e.ev y = some (I b)) (hd : binI op a b = some (.bool c)) :
  Sta P H e ⟨dst, .binOp op tx x y t2, ty, pos, af, gd⟩ (.bool c) := sta_binI hx hy hd trivial

theorem s_arith {op : BinOp} {x y : Operand} {tx t2 : TypeId} {a b c : Int} (hx : e.ev x = some (I a)) (hy : e.ev y = some (I b)) (hd : binI op a b = some (I c)) (h1 : -9223372036854775808 ≤ c) (h2 : c ≤ 9223372036854775807) :
  Sta P H e ⟨dst, .binOp op tx x y t2, ty, pos, af, gd⟩ (I c) := sta_binI hx hy hd ⟨h1, h2⟩

theorem s_len {x : Operand} {t E : TypeId} {d : D} {n : Nat} [SliceT P t E] (hx : e.ev x = some d) (hn : lenD d = some n) : Sta P H e ⟨dst, .call ⟨.builtin .len, #[x], #[t]⟩, ty, pos, af, gd⟩ (I n) := sta_len SliceT.h hx hn

theorem s_index {x y : Operand} {t E : TypeId} {k bytes : Nat} {zd l : List D} {i : Nat} [SliceT P t E] [ElT P E k zd bytes] (hx : e.ev x = some (.list k l)) (hy : e.ev y = some (I i)) (hl : i < l.length) :
  Sta P H e ⟨dst, .indexAddr t x y, ty, pos, af, gd⟩ (.ipt k l i 0) := by
 obtain ⟨inf, z, hi, hz1, hz2, hz3⟩ := (ElT.z (P := P) (E := E) (k := k) (zd := zd) (bytes := bytes)).is
 have := sta_indexAddr_list (P := P) (H := H) (dst := dst) (ty := ty) (pos := pos) (af := af) (gd := gd) (SliceT.h (t := t) (E := E)) hi hz2 (ElT.pos (P := P) (E := E) (k := k) (zd := zd) (bytes := bytes)) hx hy (by omega) (by omega)
 simpa using this

theorem s_indexRef {x y : Operand} {t E : TypeId} {k bytes b off n : Nat} {zd : List D} {i : Nat} [SliceT P t E] [ElT P E k zd bytes] (hx : e.ev x = some (.ref b off n k)) (hy : e.ev y = some (I i)) (hl : i < n) :
  Sta P H e ⟨dst, .indexAddr t x y, ty, pos, af, gd⟩ (.ptr b (off + i * k)) := by
 obtain ⟨inf, z, hi, hz1, hz2, hz3⟩ := (ElT.z (P := P) (E := E) (k := k) (zd := zd) (bytes := bytes)).is
 have := sta_indexAddr_ref (P := P) (H := H) (dst := dst) (ty := ty) (pos := pos) (af := af) (gd := gd) (SliceT.h (t := t) (E := E)) hi hz2 hx hy (by omega) (by omega)
 simpa using this

theorem s_load {t : TypeId} {x : Operand} {k i j : Nat} {l : List D} {d : D} [CellT P t] (hx : e.ev x = some (.ipt k l i j)) (hc : cellAt l i j = some d) : Sta P H e ⟨dst, .load t x, ty, pos, af, gd⟩ d := by
 obtain ⟨td, hu, hd⟩ := CellT.h (P := P) (t := t)
 exact sta_load_cell hu hd hx hc

theorem s_loadAgg {t : TypeId} {x : Operand} {k i : Nat} {l : List D} {ds : List D} [AggT P t k] (hx : e.ev x = some (.ipt k l i 0)) (hl : l[i]? = some (.agg ds)) (hk : ds.length = k) : Sta P H e ⟨dst, .load t x, ty, pos, af, gd⟩ (.agg ds) := by
 obtain ⟨td, inf, hu, hd, hi, hs⟩ := AggT.h (P := P) (t := t) (k := k)
 exact sta_load_el hu hd hi (by rw [hs, hk]) hx hl

theorem s_loadMut {t T0 : TypeId} {x : Operand} {b off : Nat} {cells : List D} {d : D} [CellT P t] (hx : e.ev x = some (.ptr b off)) (hH : H b = some (T0, cells)) (hc : cells[off]? = some d) : Sta P H e ⟨dst, .load t x, ty, pos, af, gd⟩ d := by
 obtain ⟨td, hu, hd⟩ := CellT.h (P := P) (t := t)
 exact sta_load_mut hu hd hx hH hc

theorem s_loadMutAgg {t T0 : TypeId} {x : Operand} {b off k : Nat} {cells ds : List D} [AggT P t k] (hx : e.ev x = some (.ptr b off)) (hH : H b = some (T0, cells)) (hds : (cells.drop off).take k = ds) (hn : ds.length = k) :
  Sta P H e ⟨dst, .load t x, ty, pos, af, gd⟩ (.agg ds) := by
 obtain ⟨td, inf, hu, hd, hi, hs⟩ := AggT.h (P := P) (t := t) (k := k)
 exact sta_load_mut_agg hu hd hi hx hH (by rw [hs]; exact hds) (by rw [hs]; exact hn)

theorem s_field {t : TypeId} {x : Operand} {f o k i j : Nat} {l : List D} [FieldT P t f o] (hx : e.ev x = some (.ipt k l i j)) : Sta P H e ⟨dst, .fieldAddr t x f, ty, pos, af, gd⟩ (.ipt k l i (j + o)) := sta_fieldAddr_ipt FieldT.h hx
theorem s_fieldMut {t : TypeId} {x : Operand} {f o b off : Nat} [FieldT P t f o] (hx : e.ev x = some (.ptr b off)) : Sta P H e ⟨dst, .fieldAddr t x f, ty, pos, af, gd⟩ (.ptr b (off + o)) := sta_fieldAddr_ptr FieldT.h hx

theorem s_slice {t E : TypeId} {x : Operand} {lo hi : Option Operand} {k bytes a b : Nat} {zd l : List D} [SliceT P t E] [ElT P E k zd bytes] (hx : e.ev x = some (.list k l)) (hlo : boundD e lo 0 = some a) (hhi : boundD e hi l.length = some b) (hab : a ≤ b) (hb : b ≤ l.length) :
  Sta P H e ⟨dst, .slice t x lo hi none, ty, pos, af, gd⟩ (.list k ((l.take b).drop a)) := by
 obtain ⟨inf, z, hi', hz1, hz2, hz3⟩ := (ElT.z (P := P) (E := E) (k := k) (zd := zd) (bytes := bytes)).is
 exact sta_slice_list SliceT.h hi' hz2 hx hlo hhi hab hb

theorem s_from {t E : TypeId} {x y : Operand} {k bytes : Nat} {zd l : List D} {n : Int} [SliceT P t E] [ElT P E k zd bytes] (hx : e.ev x = some (.list k l)) (hy : e.ev y = some (I n)) (hn : 0 ≤ n) (hb : n.toNat ≤ l.length) :
  Sta P H e ⟨dst, .slice t x (some y) none none, ty, pos, af, gd⟩ (.list k (l.drop n.toNat)) := by
 have := s_slice (P := P) (H := H) (dst := dst) (ty := ty) (pos := pos) (af := af) (gd := gd) (t := t) (lo := some y) (hi := none) (a := n.toNat) (b := l.length) hx (by simp [boundD, hy, hn]) rfl hb (Nat.le_refl _)
 simpa using this

theorem s_lit {t E : TypeId} {n k bytes : Nat} {parts : Array (Nat × Operand)} {zd : List D} {pd : List (Nat × D)} {ds : List D} [SliceT P t E] [ElT P E k zd bytes] (hn : n * k ≤ 16777216) (hn0 : 0 < n)
  (hp : evParts e parts.toList = some pd) (hds : ds.length = n) (huni : ∀ d ∈ ds, (cellsOf d).length = k) (hf : fillD (fun i => some (i * k, k)) (List.replicate n zd).flatten pd = some (ds.flatMap cellsOf)) :
  Sta P H e ⟨dst, .buildSlice t n parts, ty, pos, af, gd⟩ (.list k ds) :=
 sta_buildSlice SliceT.h (ElT.z (E := E) (bytes := bytes)) (ElT.pos (P := P) (E := E) (zd := zd) (bytes := bytes)) hn hn0 hp hds huni hf

theorem s_lit1 {t E : TypeId} {k bytes : Nat} {x : Operand} {zd : List D} {d : D} [SliceT P t E] [ElT P E k zd bytes] (hk : k ≤ 16777216) (hx : e.ev x = some d) (hd : (cellsOf d).length = k) : Sta P H e ⟨dst, .buildSlice t 1 #[(0, x)], ty, pos, af, gd⟩ (.list k [d]) := by
 have hz : zd.length = k := (ElT.z (P := P) (E := E) (k := k) (zd := zd) (bytes := bytes)).len
 refine s_lit (P := P) (t := t) (E := E) (bytes := bytes) (zd := zd) (pd := [(0, d)]) (by omega) (by omega) (by simp [evParts, hx]) rfl (fun y hy => by simp at hy; subst hy; exact hd) ?_
 simp [fillD, hd, hz, setMany]

theorem s_litEmpty {t E : TypeId} {k bytes : Nat} {zd : List D} [SliceT P t E] [ElT P E k zd bytes] : Sta P H e ⟨dst, .buildSlice t 0 #[], ty, pos, af, gd⟩ .nil := sta_buildEmpty SliceT.h (ElT.z (E := E) (bytes := bytes))

theorem s_appendNil {t E : TypeId} {x y : Operand} {k bytes : Nat} {zd : List D} {dy : D} {xs : List D} [SliceT P t E] [ElT P E k zd bytes] (hx : e.ev x = some .nil) (hy : e.ev y = some dy)
  (hsrc : dy = .list k xs ∨ (dy = .nil ∧ xs = [])) (hxs : Uni k xs) (hb : xs.length * bytes ≤ 140737488355328) (hlen : xs.length ≤ 4611686018427387904) :
  Sta P H e ⟨dst, .call ⟨.builtin .append, #[x, y], #[t, t]⟩, ty, pos, af, gd⟩ (.list k xs) :=
 sta_append_nil SliceT.h (ElT.z (E := E) (bytes := bytes)) (ElT.pos (P := P) (E := E) (zd := zd) (bytes := bytes)) hx hy hsrc hxs (fun inf hi => by rw [ElT.b (P := P) (E := E) (k := k) (zd := zd) (bytes := bytes) inf hi]; exact hb) hlen

theorem d_append {H0 : Heap} {t E : TypeId} {x y : Operand} {k bytes : Nat} {zd : List D} {d dy : D} {l xs : List D} {K : D → Heap → Prop} [SliceT P t E] [ElT P E k zd bytes] (hx : e.ev x = some d) (hacc : Acc H0 H d k E l) (hover : Over H0 H)
  (hy : e.ev y = some dy) (hsrc : dy = .list k xs ∨ (dy = .nil ∧ xs = [])) (hxs : Uni k xs) (hb : (l.length + xs.length) * bytes ≤ 140737488355328) (hlen : l.length + xs.length ≤ 4611686018427387904)
  (hK : ∀ d' H', Acc H0 H' d' k E (l ++ xs) → Over H0 H' → (∀ c z, H c = some z → d.blk ≠ some c → H' c = some z) → K d' H') :
  OpD P H e ⟨dst, .call ⟨.builtin .append, #[x, y], #[t, t]⟩, ty, pos, af, gd⟩ K :=
 opD_append SliceT.h (ElT.z (E := E) (bytes := bytes)) (ElT.pos (P := P) (E := E) (zd := zd) (bytes := bytes)) hx hacc hover hy hsrc hxs (fun inf hi => by rw [ElT.b (P := P) (E := E) (k := k) (zd := zd) (bytes := bytes) inf hi]; exact hb) hlen hK

theorem d_make {t E : TypeId} {x y : Operand} {k n c bytes : Nat} {zd : List D} {K : D → Heap → Prop} [SliceT P t E] [ElT P E k zd bytes] (hx : e.ev x = some (I n)) (hy : e.ev y = some (I c)) (hnc : n ≤ c)
  (hb : bytes * c ≤ 281474976710656) (hc : c ≤ 4611686018427387904) (hK : ∀ b, H b = none → K (.ref b 0 n k) (H.set b (E, (List.replicate n zd).flatten))) : OpD P H e ⟨dst, .makeSlice t x y, ty, pos, af, gd⟩ K :=
 opD_make SliceT.h (ElT.z (E := E) (bytes := bytes)) (ElT.pos (P := P) (E := E) (zd := zd) (bytes := bytes)) hx hy hnc (fun inf hi => by rw [ElT.b (P := P) (E := E) (k := k) (zd := zd) (bytes := bytes) inf hi]; exact hb) hc hK

theorem s_make {t E : TypeId} {x y : Operand} {k n bytes : Nat} {zd : List D} {el : D} [SliceT P t E] [ElT P E k zd bytes] (hel : cellsOf el = zd) (hx : e.ev x = some (I n)) (hy : e.ev y = some (I n)) (hb : bytes * n ≤ 281474976710656) (hc : n ≤ 4611686018427387904) :
  Sta P H e ⟨dst, .makeSlice t x y, ty, pos, af, gd⟩ (.list k (List.replicate n el)) :=
 sta_make SliceT.h (ElT.z (E := E) (bytes := bytes)) (ElT.pos (P := P) (E := E) (zd := zd) (bytes := bytes)) hel hx hy (fun inf hi => by rw [ElT.b (P := P) (E := E) (k := k) (zd := zd) (bytes := bytes) inf hi]; exact hb) hc

theorem d_alloc {t : TypeId} {k bytes : Nat} {zd : List D} {K : D → Heap → Prop} [ElT P t k zd bytes] (hK : ∀ b, H b = none → K (.ptr b 0) (H.set b (t, zd))) : OpD P H e ⟨dst, .alloc t, ty, pos, af, gd⟩ K := opD_alloc (ElT.z (E := t) (bytes := bytes)) hK

theorem d_store {t T0 : TypeId} {k : Nat} {x y : Operand} {b off : Nat} {d : D} {cells : List D} {K : D → Heap → Prop} [SizeT P t k] (hx : e.ev x = some (.ptr b off)) (hy : e.ev y = some d) (hk : k = (cellsOf d).length) (hH : H b = some (T0, cells))
  (hl : off + (cellsOf d).length ≤ cells.length) (hc : ∀ z ∈ cellsOf d, z.isCell = true) (hK : K (.tup []) (H.set b (T0, setMany cells off (cellsOf d)))) : OpD P H e ⟨dst, .store t x y, ty, pos, af, gd⟩ K := by
 obtain ⟨inf, hi, hs⟩ := SizeT.h (P := P) (t := t) (k := k)
 exact opD_store hi (by rw [hs, hk]) hx hy hH hl hc hK

end

def intsD (l : List Int) : D := .list 1 (l.map I)
def intssD (l : List (List Int)) : D := .list 1 (l.map intsD)

structure Tm where
 c : Int
 e : List Int

def tmD (t : Tm) : D := .agg [I t.c, intsD t.e]

abbrev Pl := List Tm
def plD (f : Pl) : D := .list 2 (f.map tmD)
abbrev Vc := List Pl
def vcD (v : Vc) : D := .list 1 (v.map plD)
def vcsD (l : List Vc) : D := .list 1 (l.map vcD)

structure Rg where
 p : Int
 n : Int
 order : Int
 over : Int

def rgD (r : Rg) : D := .agg [I r.p, I r.n, I r.order, I r.over]

theorem cellAt_map1 {α : Type} {f : α → D} (hf : ∀ a, cellsOf (f a) = [f a]) {l : List α} {i : Nat} (hi : i < l.length) : cellAt (l.map f) i 0 = some (f l[i]) := by
 simp [cellAt, hi, hf]

theorem uni_map1 {α : Type} {f : α → D} (hf : ∀ a, cellsOf (f a) = [f a]) (hc : ∀ a, (f a).isCell = true) (l : List α) : Uni 1 (l.map f) := by
 intro d hd
 obtain ⟨a, _, rfl⟩ := List.mem_map.1 hd
 rw [hf]
 exact ⟨rfl, fun x hx => by simp at hx; subst hx; exact hc a⟩

theorem uni_I (l : List Int) : Uni 1 (l.map I) := uni_map1 (fun _ => rfl) (fun _ => rfl) l
theorem uni_ints (l : List (List Int)) : Uni 1 (l.map intsD) := uni_map1 (fun _ => rfl) (fun _ => rfl) l
theorem uni_pl (l : List Pl) : Uni 1 (l.map plD) := uni_map1 (fun _ => rfl) (fun _ => rfl) l
theorem uni_vc (l : List Vc) : Uni 1 (l.map vcD) := uni_map1 (fun _ => rfl) (fun _ => rfl) l
theorem uni_tm (l : Pl) : Uni 2 (l.map tmD) := by
 intro d hd
 obtain ⟨a, _, rfl⟩ := List.mem_map.1 hd
 exact ⟨rfl, fun x hx => by simp [tmD, cellsOf] at hx; rcases hx with rfl | rfl <;> rfl⟩

section
variable {P : Program} {H : Heap} {e : Env} {dst : Option Tmp} {ty : TypeId} {pos : String} {af : Array Edge} {gd : Option (Nat × Bool)}

theorem s_lenM {α : Type} {f : α → D} {l : List α} {k : Nat} {x : Operand} {t E : TypeId} [SliceT P t E] (hx : e.ev x = some (.list k (l.map f))) : Sta P H e ⟨dst, .call ⟨.builtin .len, #[x], #[t]⟩, ty, pos, af, gd⟩ (I l.length) := by
 have := s_len (P := P) (H := H) (dst := dst) (ty := ty) (pos := pos) (af := af) (gd := gd) (t := t) hx rfl
 simpa using this

theorem s_loadM {α : Type} {f : α → D} {l : List α} {k i : Nat} {t : TypeId} {x : Operand} [CellT P t] (hf : ∀ a, cellsOf (f a) = [f a]) (hx : e.ev x = some (.ipt k (l.map f) i 0)) (hi : i < l.length) : Sta P H e ⟨dst, .load t x, ty, pos, af, gd⟩ (f l[i]) :=
 s_load hx (cellAt_map1 hf hi)

theorem s_loadTm {f : Pl} {i : Nat} {t : TypeId} {x : Operand} [AggT P t 2] (hx : e.ev x = some (.ipt 2 (f.map tmD) i 0)) (hi : i < f.length) : Sta P H e ⟨dst, .load t x, ty, pos, af, gd⟩ (tmD f[i]) :=
 s_loadAgg hx (by simp [hi, tmD]) rfl

theorem s_loadC {f : Pl} {i : Nat} {t : TypeId} {x : Operand} [CellT P t] (hx : e.ev x = some (.ipt 2 (f.map tmD) i 0)) (hi : i < f.length) : Sta P H e ⟨dst, .load t x, ty, pos, af, gd⟩ (I f[i].c) :=
 s_load hx (by simp [cellAt, hi, tmD, cellsOf])

theorem s_loadE {f : Pl} {i : Nat} {t : TypeId} {x : Operand} [CellT P t] (hx : e.ev x = some (.ipt 2 (f.map tmD) i 1)) (hi : i < f.length) : Sta P H e ⟨dst, .load t x, ty, pos, af, gd⟩ (intsD f[i].e) :=
 s_load hx (by simp [cellAt, hi, tmD, cellsOf])

theorem s_indexM {α : Type} {f : α → D} {l : List α} {x y : Operand} {t E : TypeId} {k bytes : Nat} {zd : List D} {i : Nat} [SliceT P t E] [ElT P E k zd bytes] (hx : e.ev x = some (.list k (l.map f))) (hy : e.ev y = some (I i)) (hl : i < l.length) :
  Sta P H e ⟨dst, .indexAddr t x y, ty, pos, af, gd⟩ (.ipt k (l.map f) i 0) := s_index (zd := zd) (bytes := bytes) hx hy (by simpa using hl)

theorem s_fromM {α : Type} {f : α → D} {l : List α} {t E : TypeId} {x y : Operand} {k bytes : Nat} {zd : List D} {n : Int} [SliceT P t E] [ElT P E k zd bytes] (hx : e.ev x = some (.list k (l.map f))) (hy : e.ev y = some (I n)) (hn : 0 ≤ n) (hb : n.toNat ≤ l.length) :
  Sta P H e ⟨dst, .slice t x (some y) none none, ty, pos, af, gd⟩ (.list k ((l.drop n.toNat).map f)) := by
 have := s_from (P := P) (H := H) (dst := dst) (ty := ty) (pos := pos) (af := af) (gd := gd) (t := t) (zd := zd) (bytes := bytes) hx hy hn (by simpa using hb)
 rw [List.map_drop]
 exact this

end

section
variable {C : Ctx} {e : Env} {H : Heap} {Q : Post}

theorem DW.condT {c : Operand} {x y : Code} (hc : e.ev c = some (.bool true)) (h : DW C x e H Q) : DW C (.cond c x y) e H Q := DW.cond hc (fun _ => h) (fun h => by cases h)
theorem DW.condF {c : Operand} {x y : Code} (hc : e.ev c = some (.bool false)) (h : DW C y e H Q) : DW C (.cond c x y) e H Q := DW.cond hc (fun h => by cases h) (fun _ => h)

end

section
variable {C : Ctx} {ops rest : List Oper} {e : Env} {H : Heap} {K : Env → Heap → Prop} {dst : Option Tmp} {op : Op} {ty : TypeId} {pos : String} {af : Array Edge} {j : Nat} {want : Bool} {d : D}

theorem RO.S (hk : RO C ops rest (e.putO dst d) H K) (h : Sta C.P H e ⟨dst, op, ty, pos, af, none⟩ d := by (first | exact sta_move rfl | exact sta_assign rfl | exact s_cmp rfl rfl rfl | (refine s_arith rfl rfl rfl ?_ ?_ <;> omega) | (refine sta_rem rfl rfl ?_ ?_ <;> omega) | exact s_lenM rfl | exact s_len rfl rfl | exact s_field rfl | (refine s_indexM rfl rfl ?_; omega) | (refine s_indexM0 rfl rfl ?_; omega) | (refine s_loadM (fun _ => rfl) rfl ?_; omega) | (refine s_loadTm rfl ?_; omega) | (refine s_loadC rfl ?_; omega) | (refine s_loadE rfl ?_; omega) | exact s_load rfl rfl | exact s_loadAgg rfl rfl rfl | exact sta_not rfl | exact sta_extract rfl rfl | exact s_pickT rfl rfl | exact s_pickF rfl rfl | exact sta_box (k := 1) rfl rfl | exact sta_box (k := 4) rfl rfl | exact sta_box (k := 2) rfl rfl | exact s_fn rfl | exact s_lit1 (k := 1) (by decide) rfl rfl | exact s_lit1 (k := 2) (by decide) rfl rfl | exact s_litEmpty)) (hd : dstOk C.N dst = true := by exact rfl) : RO C ops (⟨dst, op, ty, pos, af, none⟩ :: rest) e H K := RO.sta h hd hk
theorem RO.Y (hk : RO C ops rest (e.putO dst d) H K) (hg : guardD ops e j = some (some want) := by exact rfl) (hd : dstOk C.N dst = true := by exact rfl) (h : Sta C.P H e ⟨dst, op, ty, pos, af, some (j, want)⟩ d := by (first | exact sta_move rfl | exact sta_assign rfl | exact s_cmp rfl rfl rfl | (refine s_arith rfl rfl rfl ?_ ?_ <;> omega) | (refine sta_rem rfl rfl ?_ ?_ <;> omega) | exact s_lenM rfl | exact s_len rfl rfl | exact s_field rfl | (refine s_indexM rfl rfl ?_; omega) | (refine s_indexM0 rfl rfl ?_; omega) | (refine s_loadM (fun _ => rfl) rfl ?_; omega) | (refine s_loadTm rfl ?_; omega) | (refine s_loadC rfl ?_; omega) | (refine s_loadE rfl ?_; omega) | exact s_load rfl rfl | exact s_loadAgg rfl rfl rfl | exact sta_not rfl | exact sta_extract rfl rfl | exact s_pickT rfl rfl | exact s_pickF rfl rfl | exact sta_box (k := 1) rfl rfl | exact sta_box (k := 4) rfl rfl | exact sta_box (k := 2) rfl rfl | exact s_fn rfl | exact s_lit1 (k := 1) (by decide) rfl rfl | exact s_lit1 (k := 2) (by decide) rfl rfl | exact s_litEmpty)) : RO C ops (⟨dst, op, ty, pos, af, some (j, want)⟩ :: rest) e H K := RO.yes hg hd (OpD.of_sta h hk)
theorem RO.Sv (hk : RO C ops rest (e.putO dst d) H K) (h : Sta C.P H e ⟨dst, op, ty, pos, af, none⟩ d := by (first | exact sta_move rfl | exact sta_assign rfl | exact s_cmp rfl rfl rfl | (refine s_arith rfl rfl rfl ?_ ?_ <;> omega) | (refine sta_rem rfl rfl ?_ ?_ <;> omega) | exact s_lenM rfl | exact s_len rfl rfl | exact s_field rfl | (refine s_indexM rfl rfl ?_; omega) | (refine s_indexM0 rfl rfl ?_; omega) | (refine s_loadM (fun _ => rfl) rfl ?_; omega) | (refine s_loadTm rfl ?_; omega) | (refine s_loadC rfl ?_; omega) | (refine s_loadE rfl ?_; omega) | exact s_load rfl rfl | exact s_loadAgg rfl rfl rfl | exact sta_not rfl | exact sta_extract rfl rfl | exact s_pickT rfl rfl | exact s_pickF rfl rfl | exact sta_box (k := 1) rfl rfl | exact sta_box (k := 4) rfl rfl | exact sta_box (k := 2) rfl rfl | exact s_fn rfl | exact s_lit1 (k := 1) (by decide) rfl rfl | exact s_lit1 (k := 2) (by decide) rfl rfl | exact s_litEmpty | exact s_fieldMut rfl | exact s_loadMut rfl (Heap.set_self _ _ _) rfl | exact s_loadMutAgg rfl (Heap.set_self _ _ _) rfl rfl)) (hd : dstOk C.N dst = true := by exact rfl) : RO C ops (⟨dst, op, ty, pos, af, none⟩ :: rest) e H K := RO.sta h hd hk
theorem RO.Yv (hk : RO C ops rest (e.putO dst d) H K) (hg : guardD ops e j = some (some want) := by exact rfl) (hd : dstOk C.N dst = true := by exact rfl) (h : Sta C.P H e ⟨dst, op, ty, pos, af, some (j, want)⟩ d := by (first | exact sta_move rfl | exact sta_assign rfl | exact s_cmp rfl rfl rfl | (refine s_arith rfl rfl rfl ?_ ?_ <;> omega) | (refine sta_rem rfl rfl ?_ ?_ <;> omega) | exact s_lenM rfl | exact s_len rfl rfl | exact s_field rfl | (refine s_indexM rfl rfl ?_; omega) | (refine s_indexM0 rfl rfl ?_; omega) | (refine s_loadM (fun _ => rfl) rfl ?_; omega) | (refine s_loadTm rfl ?_; omega) | (refine s_loadC rfl ?_; omega) | (refine s_loadE rfl ?_; omega) | exact s_load rfl rfl | exact s_loadAgg rfl rfl rfl | exact sta_not rfl | exact sta_extract rfl rfl | exact s_pickT rfl rfl | exact s_pickF rfl rfl | exact sta_box (k := 1) rfl rfl | exact sta_box (k := 4) rfl rfl | exact sta_box (k := 2) rfl rfl | exact s_fn rfl | exact s_lit1 (k := 1) (by decide) rfl rfl | exact s_lit1 (k := 2) (by decide) rfl rfl | exact s_litEmpty | exact s_fieldMut rfl | exact s_loadMut rfl (Heap.set_self _ _ _) rfl | exact s_loadMutAgg rfl (Heap.set_self _ _ _) rfl rfl)) : RO C ops (⟨dst, op, ty, pos, af, some (j, want)⟩ :: rest) e H K := RO.yes hg hd (OpD.of_sta h hk)

end
end
end Go.Proofs.YtfjmdhemlfafbaaGreat
