/-
  More rules: nil as an empty list, min and max, pairs, a row that is filled place by place. No condition.
-/
import Derived.Test.YtfjmdhemlfafbaaGreatKHc3
set_option linter.unusedVariables false
set_option linter.unusedSimpArgs false

namespace Go.Proofs.YtfjmdhemlfafbaaGreat
section
open Go.RowKit

def opTmps (o : Oper) : List Nat := o.op.operands.toList.filterMap fun
 | .tmp t => some t
 | _ => none

def Env.mask (e : Env) (o : Oper) : Env := e.only (opTmps o)

def RS (C : Ctx) (H : Heap) (ops : List Oper) : List Oper → Env → (Env → Prop) → Prop
 | [], e, K => K e
 | o :: rest, e, K => dstOk C.N o.dst = true ∧
   GuardIs ops e o (∃ d, (∀ H', Over H H' → Sta C.P H' (e.mask o) o d) ∧ RS C H ops rest (e.putO o.dst d) K) (RS C H ops rest (e.putO o.dst (.tup [])) K)

def StaAt (C : Ctx) (H : Heap) (ops : List Oper) (e : Env) (o : Oper) (d : D) : Prop :=
 dstOk C.N o.dst = true ∧ GuardIs ops e o (∀ H', Over H H' → Sta C.P H' (e.mask o) o d) (d = .tup [])

theorem RS.trace {C : Ctx} {H : Heap} {ops : List Oper} : ∀ (l : List Oper) (e : Env) (K : Env → Prop), RS C H ops l e K →
  ∃ (es : Nat → Env) (ds : Nat → D), es 0 = e ∧ (∀ i o, l[i]? = some o → StaAt C H ops (es i) o (ds i) ∧ es (i + 1) = (es i).putO o.dst (ds i)) ∧ K (es l.length)
 | [], e, K, h => ⟨fun _ => e, fun _ => .nil, rfl, fun i o hi => by simp at hi, h⟩
 | o :: rest, e, K, ⟨hd, hg⟩ => by
  have step : ∀ d, GuardIs ops e o (∀ H', Over H H' → Sta C.P H' (e.mask o) o d) (d = .tup []) → RS C H ops rest (e.putO o.dst d) K →
    ∃ (es : Nat → Env) (ds : Nat → D), es 0 = e ∧ (∀ i o', (o :: rest)[i]? = some o' → StaAt C H ops (es i) o' (ds i) ∧ es (i + 1) = (es i).putO o'.dst (ds i)) ∧ K (es (o :: rest).length) := by
   intro d hgd hr
   obtain ⟨es, ds, h0, hi, hK⟩ := RS.trace rest _ K hr
   refine ⟨fun i => match i with | 0 => e | i + 1 => es i, fun i => match i with | 0 => d | i + 1 => ds i, rfl, fun i o' ho => ?_, hK⟩
   cases i with
   | zero =>
    simp at ho
    subst ho
    exact ⟨⟨hd, hgd⟩, h0⟩
   | succ i => exact hi i o' (by simpa using ho)
  unfold GuardIs at hg
  cases hgu : o.guard with
  | none =>
   rw [hgu] at hg
   obtain ⟨d, h1, h2⟩ := hg
   exact step d (by unfold GuardIs; rw [hgu]; exact h1) h2
  | some jw =>
   obtain ⟨j, want⟩ := jw
   rw [hgu] at hg
   obtain ⟨b, hb, hy, hn⟩ := hg
   by_cases hbw : b = some want
   ·obtain ⟨d, h1, h2⟩ := hy hbw
    exact step d (by unfold GuardIs; rw [hgu]; exact ⟨b, hb, fun _ => h1, fun h => absurd hbw h⟩) h2
   ·exact step (.tup []) (by unfold GuardIs; rw [hgu]; exact ⟨b, hb, fun h => absurd h hbw, fun _ => rfl⟩) (hn hbw)

def maskOf (done : List Nat) (o : Oper) : Nat := o.after.toList.foldl (fun s e => if Region.binds .any e then s ||| (2 ^ e.on) ||| done.getD e.on 0 else s) 0

def masks : List Nat → List Oper → List Nat
 | done, [] => done
 | done, o :: r => masks (done ++ [maskOf done o]) r

def guardTmp (ops : List Oper) (o : Oper) : List Nat :=
 match o.guard with
 | some (j, _) => match (ops[j]?).bind (·.dst) with
  | some t => [t]
  | none => []
 | none => []

def ordOk (ops : List Oper) (n m : Nat) : Bool :=
 let ms := masks [] ops
 let before (i j : Nat) : Bool := (ms.getD i 0).testBit j
 (ops.zipIdx.all fun (o, i) => o.after.toList.all fun e => !Region.binds .any e || Nat.blt e.on i) &&
 ((ops.take n).zipIdx.all fun (o, i) =>
  (opTmps o ++ guardTmp ops o).all fun t => (ops.take m).zipIdx.all fun (p, k) => p.dst != some t || (Nat.blt k i && before i k)) &&
 ((ops.take m).zipIdx.all fun (o, i) => o.dst == none || (ops.take m).zipIdx.all fun (p, k) => Nat.beq k i || p.dst != o.dst) &&
 (ops.zipIdx.all fun (o, i) => Nat.blt i m || (List.range i).all fun j => before i j) &&
 (ops.take n).all fun o => match o.op with | .select .. => false | _ => true

def Shut (ops : List Oper) (L : Nat → Prop) : Prop := ∀ (i : Nat) (o : Oper), ops[i]? = some o → L i → ∀ e ∈ o.after.toList, Region.binds .any e = true → L e.on

theorem mask_bits {ops : List Oper} {L : Nat → Prop} (done : List Nat) (o : Oper) (hd : ∀ i j, L i → (done.getD i 0).testBit j = true → L j) (ho : ∀ e ∈ o.after.toList, Region.binds .any e = true → L e.on) : ∀ j, (maskOf done o).testBit j = true → L j := by
 have key : ∀ (l : List Edge) (s : Nat), (∀ e ∈ l, Region.binds .any e = true → L e.on) → (∀ j, s.testBit j = true → L j) →
   ∀ j, (l.foldl (fun s e => if Region.binds .any e then s ||| (2 ^ e.on) ||| done.getD e.on 0 else s) s).testBit j = true → L j := by
  intro l
  induction l with
  | nil => intro s _ hs j hj; exact hs j hj
  | cons e l ih =>
   intro s hl hs j hj
   simp only [List.foldl_cons] at hj
   refine ih _ (fun e' he' => hl e' (by simp [he'])) (fun j hj => ?_) j hj
   split at hj
   ·rename_i hb
    have hon := hl e (by simp) hb
    rw [Nat.testBit_or, Nat.testBit_or, Bool.or_eq_true, Bool.or_eq_true] at hj
    rcases hj with (h | h) | h
    ·exact hs j h
    ·rw [Nat.testBit_two_pow] at h
     have : e.on = j := by simpa using h
     exact this ▸ hon
    ·exact hd _ j hon h
   ·exact hs j hj
 exact key o.after.toList 0 ho (fun j hj => by simp at hj)

theorem getD_left (l m : List Nat) (i d : Nat) (h : i < l.length) : (l ++ m).getD i d = l.getD i d := by
 simp [List.getD_eq_getElem?_getD, List.getElem?_append_left h]

theorem masks_get {ops : List Oper} {L : Nat → Prop} (hL : Shut ops L) : ∀ (l : List Oper) (done : List Nat), (∀ i o, l[i]? = some o → ops[done.length + i]? = some o) → (∀ i j, L i → (done.getD i 0).testBit j = true → L j) →
  (∀ (i : Nat) (o : Oper), ops[i]? = some o → i < done.length + l.length → done.length ≤ i → (∀ e ∈ o.after.toList, Region.binds .any e = true → L e.on) → ∀ j, ((masks done l).getD i 0).testBit j = true → L j)
 | [], done, _, _, i, o, _, h1, h2, _, _, _ => by simp at h1; omega
 | p :: l, done, hl, hd, i, o, ho, h1, h2, ha, j, hj => by
  have hp : ops[done.length]? = some p := by simpa using hl 0 p rfl
  have hd' : ∀ i j, L i → ((done ++ [maskOf done p]).getD i 0).testBit j = true → L j := by
   intro i j hi hj
   by_cases hlt : i < done.length
   ·rw [getD_left _ _ _ _ hlt] at hj
    exact hd i j hi hj
   ·by_cases heq : i = done.length
    ·subst heq
     have : (done ++ [maskOf done p]).getD done.length 0 = maskOf done p := by simp [List.getD]
     rw [this] at hj
     exact mask_bits (ops := ops) done p hd (fun e he hb => hL _ p hp hi e he hb) j hj
    ·have : (done ++ [maskOf done p]).getD i 0 = 0 := by
      rw [List.getD_eq_getElem?_getD, List.getElem?_eq_none (by simp; omega)]; rfl
     rw [this] at hj
     simp at hj
  have stay : ∀ (l : List Oper) (done : List Nat) (i : Nat), i < done.length → (masks done l).getD i 0 = done.getD i 0 := by
   intro l
   induction l with
   | nil => intro done i _; rfl
   | cons q l ih =>
    intro done i hi
    simp only [masks]
    rw [ih _ i (by simp; omega), getD_left _ _ _ _ hi]
  by_cases heq : i = done.length
  ·subst heq
   rw [hp] at ho
   cases ho
   simp only [masks] at hj
   rw [stay l _ _ (by simp)] at hj
   have : (done ++ [maskOf done p]).getD done.length 0 = maskOf done p := by simp [List.getD]
   rw [this] at hj
   exact mask_bits (ops := ops) done p hd ha j hj
  ·simp only [masks] at hj
   refine masks_get hL l (done ++ [maskOf done p]) (fun i o h => ?_) hd' i o ho (by simp at h1 ⊢; omega) (by simp; omega) ha j hj
   have := hl (i + 1) o (by simpa using h)
   rw [← this]
   congr 1
   simp
   omega

theorem trace_get {l : List Oper} {e : Env} {es : Nat → Env} {ds : Nat → D} (h0 : es 0 = e) (hi : ∀ (i : Nat) (o : Oper), l[i]? = some o → es (i + 1) = (es i).putO o.dst (ds i))
  (hdist : ∀ (i k : Nat) (o p : Oper) (t : Nat), l[i]? = some o → l[k]? = some p → o.dst = some t → p.dst = some t → i = k) :
  ∀ (i : Nat), i ≤ l.length → ∀ (t : Nat) (d : D), (es i).get t = some d → (∃ (k : Nat) (p : Oper), k < i ∧ l[k]? = some p ∧ p.dst = some t ∧ d = ds k) ∨ (e.get t = some d ∧ ∀ (k : Nat) (p : Oper), k < i → l[k]? = some p → p.dst ≠ some t)
 | 0, _, t, d, h => by
  rw [h0] at h
  exact .inr ⟨h, fun k p hk => absurd hk (Nat.not_lt_zero _)⟩
 | i + 1, hle, t, d, h => by
  have ho : l[i]? = some l[i] := by simp
  rw [hi i _ ho] at h
  have ih := trace_get h0 hi hdist i (by omega) t
  cases hdst : (l[i]'(by omega)).dst with
  | none =>
   rw [hdst] at h
   rcases ih d h with ⟨k, p, hk, hp, hd, he⟩ | ⟨he, hn⟩
   ·exact .inl ⟨k, p, by omega, hp, hd, he⟩
   ·refine .inr ⟨he, fun k p hk hp => ?_⟩
    by_cases hki : k = i
    ·subst hki
     rw [ho] at hp
     cases hp
     rw [hdst]
     simp
    ·exact hn k p (by omega) hp
  | some s =>
   rw [hdst] at h
   simp only [Env.putO, Env.get_cons] at h
   split at h
   ·rename_i hst
    subst hst
    cases h
    exact .inl ⟨i, _, by omega, ho, hdst, rfl⟩
   ·rename_i hst
    rcases ih d h with ⟨k, p, hk, hp, hd, he⟩ | ⟨he, hn⟩
    ·exact .inl ⟨k, p, by omega, hp, hd, he⟩
    ·refine .inr ⟨he, fun k p hk hp => ?_⟩
     by_cases hki : k = i
     ·subst hki
      rw [ho] at hp
      cases hp
      rw [hdst]
      simpa using hst
     ·exact hn k p (by omega) hp

theorem OpTo.congr {P : Program} {ρ ρ' : Operand → Value} {o : Oper} {w : World} {K : Value → World → Prop} (hs : ∀ cs b, o.op ≠ .select cs b) (h : ∀ x ∈ o.op.operands, ρ x = ρ' x) (hk : OpTo P ρ o w K) : OpTo P ρ' o w K := by
 unfold OpTo at *
 rw [← execOp_congr o hs h]
 exact hk

structure Inv (C : Ctx) (H : Heap) (e : Env) (pre : List Oper) (ds : Nat → D) (al : Option (Nat × TypeId × List D)) (L : Nat → Prop) (a : Act) (w : World) (Hc : Heap) : Prop where
 size : a.tmps.size = C.N
 defers : Marks C.w0 a.defers w
 heap : HOK w Hc
 ext : Ext C.w0 C.H0 w Hc
 over : Over H Hc
 ran : ∀ (k : Nat) (p : Oper) (t : Nat), pre[k]? = some p → L k → p.dst = some t → ∃ v, a.tmps[t]? = some v ∧ Rep w Hc v (ds k)
 rest : ∀ (t : Nat) (d : D), e.get t = some d → (∀ (k : Nat) (p : Oper), pre[k]? = some p → p.dst ≠ some t) → (∀ s T zd, al = some (s, T, zd) → s ≠ t) → ∃ v, a.tmps[t]? = some v ∧ Rep w Hc v d
 made : match al with
  | none => Hc = H
  | some (s, T, zd) => (L pre.length → ∃ g : Nat, a.tmps[s]? = some (Value.pointer (some ⟨g, 0, none⟩)) ∧ H g = none ∧ Hc = H.set g (T, zd)) ∧ (¬ L pre.length → Hc = H)

theorem Act.put_defers' (a : Act) (dst : Option Tmp) (v : Value) : (a.put dst v).defers = a.defers := by cases dst <;> rfl

theorem put_tmps {a : Act} {dst : Option Tmp} {v u : Value} {t : Nat} (h : a.tmps[t]? = some u) (hne : dst ≠ some t) : (a.put dst v).tmps[t]? = some u := by
 cases dst with
 | none => exact h
 | some s =>
  have : s ≠ t := fun e => hne (by rw [e])
  simp only [Act.put]
  rw [Array.getElem?_setIfInBounds, if_neg this]
  exact h

theorem put_tmps_self {a : Act} {v : Value} {t : Nat} (h : t < a.tmps.size) : (a.put (some t) v).tmps[t]? = some v := by
 simp [Act.put, h]

theorem Inv.step {C : Ctx} {H : Heap} {e : Env} {pre : List Oper} {ops : List Oper} {es : Nat → Env} {ds : Nat → D} {al : Option (Nat × TypeId × List D)} {L : Nat → Prop} {a : Act} {w : World} {Hc : Heap} (hi : Inv C H e pre ds al L a w Hc)
  (h0 : es 0 = e) (hes : ∀ (i : Nat) (o : Oper), pre[i]? = some o → es (i + 1) = (es i).putO o.dst (ds i)) (hpre : ∀ (i : Nat) (o : Oper), pre[i]? = some o → ops[i]? = some o)
  (hdist : ∀ (i k : Nat) (o p : Oper) (t : Nat), pre[i]? = some o → pre[k]? = some p → o.dst = some t → p.dst = some t → i = k)
  (hals : ∀ s T zd, al = some (s, T, zd) → ∀ (i : Nat) (o : Oper), pre[i]? = some o → s ∉ opTmps o ++ guardTmp ops o ∧ o.dst ≠ some s)
  {i : Nat} {o : Oper} (ho : pre[i]? = some o) (hst : StaAt C H ops (es i) o (ds i)) (hsel : ∀ cs b, o.op ≠ .select cs b)
  (hdep : ∀ t ∈ opTmps o ++ guardTmp ops o, ∀ (k : Nat) (p : Oper), pre[k]? = some p → p.dst = some t → k < i ∧ L k)
  {Q : Exit → Act → World → Prop} {K : Act → World → Prop} (hK : ∀ a' w', Inv C H e pre ds al (fun j => L j ∨ j = i) a' w' Hc → K a' w') (hin : i ≠ pre.length) : wpOp C.P ops.toArray Q i K a w := by
 have hlen : i < pre.length := (List.getElem?_eq_some_iff.1 ho).1
 -- what the operation sees
 have hsee : ∀ t ∈ opTmps o ++ guardTmp ops o, ∀ d, (es i).get t = some d → ∃ v, a.tmps[t]? = some v ∧ Rep w Hc v d := fun t ht d hd => by
  rcases trace_get h0 hes hdist i (by omega) t d hd with ⟨k, p, hk, hp, hpt, rfl⟩ | ⟨he, hn⟩
  ·exact hi.ran k p t hp (hdep t ht k p hp hpt).2 hpt
  ·refine hi.rest t d he (fun k p hp hpt => ?_) fun s T zd hs hst => ?_
   ·exact hn k p (hdep t ht k p hp hpt).1 hp hpt
   ·subst hst; exact (hals _ _ _ hs i o ho).1 ht
 have hagree : ∃ ρ : Operand → Value, Agree ρ w Hc ((es i).mask o) ∧ ∀ x ∈ o.op.operands, ρ x = a.eval x := by
  refine ⟨a.eval, ⟨fun x d hx => ?_, fun v => rfl⟩, fun x _ => rfl⟩
  cases x with
  | tmp t =>
   have hx' : (es i).get t = some d := Env.only_get _ _ t d hx
   have ht : t ∈ opTmps o := by
    have : ∀ (ts : List Nat) (d : D), ((es i).only ts).get t = some d → t ∈ ts := by
     intro ts
     induction ts with
     | nil => intro d h; simp [Env.only, Env.get] at h
     | cons s ts ih =>
      intro d h
      simp only [Env.only] at h
      split at h
      ·rw [Env.get_cons] at h
       split at h
       ·rename_i hst; subst hst; simp
       ·exact List.mem_cons_of_mem _ (ih d h)
      ·exact List.mem_cons_of_mem _ (ih d h)
    exact this _ d hx
   obtain ⟨v, hv, hr⟩ := hsee t (List.mem_append_left _ ht) d hx'
   simpa [Act.eval, Array.getD_eq_getD_getElem?, hv] using hr
  | const v => exact rep_const hx
  | global g => simp [Env.ev] at hx
  | func f =>
   simp only [Env.ev, Option.some.injEq] at hx
   subst hx
   exact RepsA.fn f ⟨rfl, fun j x hx => by simp at hx⟩
 have hafter : ∀ (v : Value) (w' : World), Rep w' Hc v (ds i) → HOK w' Hc → Ext w Hc w' Hc → Inv C H e pre ds al (fun j => L j ∨ j = i) (a.put o.dst v) w' Hc := by
  intro v w' hr hok hex
  have hdst : ∀ t, o.dst = some t → t < a.tmps.size := fun t ht => by
   have := hst.1
   rw [ht] at this
   rw [hi.size]
   simpa [dstOk, Nat.blt_eq] using this
  refine ⟨?_, ?_, hok, hi.ext.trans hex, hi.over, ?_, ?_, ?_⟩
  ·cases hd : o.dst with
   | none => exact hi.size
   | some t => simp [Act.put, hi.size]
  ·rw [Act.put_defers']; exact hi.defers.ext hi.heap hex
  ·intro k p t hp hk hpt
   by_cases hki : k = i
   ·subst hki
    rw [ho] at hp
    cases hp
    rw [hpt]
    exact ⟨v, put_tmps_self (hdst t hpt), hr⟩
   ·have hkL : L k := hk.resolve_right hki
    obtain ⟨u, hu, hur⟩ := hi.ran k p t hp hkL hpt
    exact ⟨u, put_tmps hu (fun hx => hki (hdist k i p o t hp ho hpt hx)), hur.ext hex⟩
  ·intro t d he hn hs
   obtain ⟨u, hu, hur⟩ := hi.rest t d he hn hs
   exact ⟨u, put_tmps hu (hn i o ho), hur.ext hex⟩
  ·have hm := hi.made
   cases al with
   | none => exact hm
   | some x =>
    obtain ⟨s, T, zd⟩ := x
    obtain ⟨m1, m2⟩ := hm
    refine ⟨fun h => ?_, fun h => m2 fun h' => h (.inl h')⟩
    obtain ⟨g, hg, hH, hc⟩ := m1 (h.resolve_right (fun hx => hin hx.symm))
    exact ⟨g, put_tmps hg (hals s T zd rfl i o ho).2, hH, hc⟩
 obtain ⟨hdok, hg⟩ := hst
 unfold wpOp
 have hops : ops.toArray[i]? = some o := by simpa using hpre i o ho
 rw [hops]
 simp only []
 have yes : (∀ H', Over H H' → Sta C.P H' ((es i).mask o) o (ds i)) → o.wp C.P a w K Q := fun hs => by
  obtain ⟨ρ, hag, hρ⟩ := hagree
  have h1 := ((hs Hc hi.over).go ρ w hag hi.heap).congr hsel hρ
  exact wp_of_opTo h1 fun v w' ⟨hr, hok, hex⟩ => hK _ _ (hafter v w' hr hok hex)
 have no : ds i = .tup [] → K (a.put o.dst undef) w := fun hd => by
  refine hK _ _ (hafter undef w ?_ hi.heap (.refl _ _))
  rw [hd]
  exact RepsA.tup (vs := #[]) (ds := []) ⟨rfl, fun j x hx => by simp at hx⟩
 unfold GuardIs at hg
 cases hgu : o.guard with
 | none =>
  rw [hgu] at hg
  rw [if_pos (by simp [Region.wanted, hgu])]
  exact .inl (yes hg)
 | some jw =>
  obtain ⟨j, want⟩ := jw
  rw [hgu] at hg
  obtain ⟨b, hb, hy, hn⟩ := hg
  have hyield : yielded ops.toArray a.tmps j = b := by
   unfold guardD at hb
   unfold yielded
   simp only [List.getElem?_toArray]
   cases hj : (ops[j]?).bind (·.dst) with
   | none => rw [hj] at hb; cases hb
   | some t =>
    rw [hj] at hb
    simp only [Option.bind_some]
    have ht : t ∈ opTmps o ++ guardTmp ops o := List.mem_append_right _ (by simp [guardTmp, hgu, hj])
    simp only at hb
    cases hx : (es i).get t with
    | none => rw [hx] at hb; cases hb
    | some d =>
     obtain ⟨v, hv, hr⟩ := hsee t ht d hx
     rw [hx] at hb
     rw [hv]
     split at hb
     ·rename_i c hc
      cases hc
      rw [rep_bool hr]
      exact Option.some.inj hb
     ·rename_i hc
      cases hc
      obtain ⟨vs, rfl, _⟩ := rep_tup hr
      exact Option.some.inj hb
     ·cases hb
  by_cases hbw : b = some want
  ·rw [if_pos (by simp only [Region.wanted, hgu, hyield, hbw]; exact beq_self_eq_true _)]
   exact .inl (yes (hy hbw))
  ·rw [if_neg (by simp only [Region.wanted, hgu, hyield]; intro hx; exact hbw (by simpa using hx))]
   exact no (hn hbw)

structure OrdOk (ops : List Oper) (n m : Nat) : Prop where
 lt : ∀ (i : Nat) (o : Oper), ops[i]? = some o → ∀ e ∈ o.after.toList, Region.binds .any e = true → e.on < i
 dep : ∀ (i : Nat) (o : Oper), i < n → ops[i]? = some o → ∀ t ∈ opTmps o ++ guardTmp ops o, ∀ (k : Nat) (p : Oper), k < m → ops[k]? = some p → p.dst = some t → k < i ∧ ((masks [] ops).getD i 0).testBit k = true
 dist : ∀ (i k : Nat) (o p : Oper) (t : Nat), i < m → k < m → ops[i]? = some o → ops[k]? = some p → o.dst = some t → p.dst = some t → i = k
 suf : ∀ (i : Nat) (o : Oper), ops[i]? = some o → m ≤ i → ∀ j, j < i → ((masks [] ops).getD i 0).testBit j = true
 sel : ∀ (i : Nat) (o : Oper), i < n → ops[i]? = some o → ∀ cs b, o.op ≠ .select cs b

theorem zipIdx_all {l : List Oper} {f : Oper × Nat → Bool} (h : l.zipIdx.all f = true) (i : Nat) (o : Oper) (ho : l[i]? = some o) : f (o, i) = true := by
 refine List.all_eq_true.1 h (o, i) ?_
 have := List.mem_of_getElem? (l := l.zipIdx) (i := i) (a := (o, i)) (by simp [List.getElem?_zipIdx, ho])
 exact this

theorem ordOk_spec {ops : List Oper} {n m : Nat} (h : ordOk ops n m = true) : OrdOk ops n m := by
 unfold ordOk at h
 simp only [Bool.and_eq_true] at h
 obtain ⟨⟨⟨⟨h1, h2⟩, h3⟩, h4⟩, h5⟩ := h
 refine ⟨fun i o ho e he hb => ?_, fun i o hin ho t ht k p hk hp hpt => ?_, fun i k o p t hi hk ho hp hot hpt => ?_, fun i o ho hmi j hj => ?_, fun i o hi ho cs b hop => ?_⟩
 ·have := zipIdx_all h1 i o ho
  simp only at this
  have := List.all_eq_true.1 this e he
  simp only [hb, Bool.not_true, Bool.false_or] at this
  simpa [Nat.blt_eq] using this
 ·have h := zipIdx_all h2 i o (by rw [List.getElem?_take, if_pos hin]; exact ho)
  simp only at h
  have h := List.all_eq_true.1 h t ht
  have h := zipIdx_all h k p (by rw [List.getElem?_take, if_pos hk]; exact hp)
  simp only [hpt, Bool.or_eq_true, Bool.and_eq_true] at h
  rcases h with h | ⟨ha, hb⟩
  ·simp at h
  ·exact ⟨by simpa [Nat.blt_eq] using ha, hb⟩
 ·have h := zipIdx_all h3 i o (by rw [List.getElem?_take, if_pos hi]; exact ho)
  simp only [hot, Bool.or_eq_true] at h
  rcases h with h | h
  ·simp at h
  ·have h := zipIdx_all h k p (by rw [List.getElem?_take, if_pos hk]; exact hp)
   simp only [hpt, Bool.or_eq_true] at h
   rcases h with h | h
   ·exact (Nat.eq_of_beq_eq_true h).symm
   ·simp at h
 ·have h := zipIdx_all h4 i o ho
  simp only [Bool.or_eq_true] at h
  rcases h with h | h
  ·have : i < m := by simpa [Nat.blt_eq] using h
   omega
  ·exact List.all_eq_true.1 h j (List.mem_range.2 hj)
 ·have h := List.all_eq_true.1 h5 o (List.mem_of_getElem? (i := i) (by rw [List.getElem?_take, if_pos hi]; exact ho))
  rw [hop] at h
  cases h

def LA (listed : Array Bool) (j : Nat) : Prop := listed.getD j false = true

theorem before_of {ops : List Oper} {L : Nat → Prop} (hL : Shut ops L) {i : Nat} {o : Oper} (ho : ops[i]? = some o) (ha : ∀ e ∈ o.after.toList, Region.binds .any e = true → L e.on) {j : Nat} (hj : ((masks [] ops).getD i 0).testBit j = true) : L j :=
 masks_get hL ops [] (fun i o h => by simpa using h) (fun i j _ h => by simp at h) i o ho (by simp; exact (List.getElem?_eq_some_iff.1 ho).1) (by simp) ha j hj

theorem phase2 {C : Ctx} {ops : List Oper} {n m : Nat} (hok : OrdOk ops n m) {K : Env → Heap → Prop} {Q : Exit → Act → World → Prop} (hQ : ∀ e H a w, K e H → St C a w e H → Q .normal a w) :
  ∀ (l : List Oper) (p fuel : Nat) (listed : Array Bool) (e : Env) (H : Heap) (a : Act) (w : World), ops.drop p = l → m ≤ p → p ≤ ops.length → listed.size = ops.length → (∀ j, j < ops.length → (LA listed j ↔ j < p)) → RO C ops l e H K → St C a w e H → l.length ≤ fuel →
   wpAny C.P .any ops.toArray Q fuel listed a w
 | [], p, fuel, listed, e, H, a, w, hl, hmp, hpl, hsz, hli, hro, hs, hf => by
  have hp : p = ops.length := by
   have := congrArg List.length hl
   simp at this
   omega
  have hready : Region.ready .any ops.toArray listed = [] := by
   rw [List.eq_nil_iff_forall_not_mem]
   intro j hj
   rw [mem_ready] at hj
   obtain ⟨h0, o, ho, _⟩ := hj
   have hlt : j < ops.length := by
    have := (Array.getElem?_eq_some_iff.1 ho).1
    simpa using this
   have hla : LA listed j := (hli j hlt).2 (by omega)
   have hjs : j < listed.size := by omega
   unfold LA at hla
   simp [hjs] at hla h0
   rw [hla] at h0
   cases h0
  cases fuel with
  | zero => exact ⟨hready, hQ e H a w hro hs⟩
  | succ fuel => exact ⟨fun _ => hQ e H a w hro hs, fun j hj => by rw [hready] at hj; cases hj⟩
 | o :: rest, p, fuel, listed, e, H, a, w, hl, hmp, hpl, hsz, hli, hro, hs, hf => by
  have hp : p < ops.length := by
   have := congrArg List.length hl
   simp at this
   omega
  have hop : ops[p]? = some o := by
   have : (ops.drop p)[0]? = some o := by rw [hl]; rfl
   rw [List.getElem?_drop] at this
   simpa using this
  have hrest : ops.drop (p + 1) = rest := by
   rw [← List.drop_drop, hl]
   simp
  cases fuel with
  | zero => simp at hf
  | succ fuel =>
   have hnot : ¬ LA listed p := fun h => by have := (hli p hp).1 h; omega
   have hpr : p ∈ Region.ready .any ops.toArray listed := by
    rw [mem_ready]
    refine ⟨?_, o, by simpa using hop, fun e he hb => ?_⟩
    ·have hps : p < listed.size := by omega
     unfold LA at hnot
     simp [hps] at hnot ⊢
     exact hnot
    ·have := hok.lt p o hop e (Array.mem_toList_iff.2 he) hb
     exact (hli e.on (by omega)).2 this
   refine ⟨fun h => (by rw [h] at hpr; cases hpr), fun i hi => ?_⟩
   have hip : i = p := by
    rw [mem_ready] at hi
    obtain ⟨h0, o', ho', hall⟩ := hi
    have hil : i < ops.length := by
     have := (Array.getElem?_eq_some_iff.1 ho').1
     simpa using this
    have hni : ¬ LA listed i := fun h => by
     have his : i < listed.size := by omega
     unfold LA at h
     simp [his] at h h0
     rw [h] at h0
     cases h0
    have hge : p ≤ i := by
     rcases Nat.lt_or_ge i p with h | h
     ·exact absurd ((hli i hil).2 h) hni
     ·exact h
    rcases Nat.lt_or_ge p i with hlt | hge'
    ·have hshut : Shut ops (LA listed) := fun k q hq hk e he hb => by
      have hkl : k < ops.length := (List.getElem?_eq_some_iff.1 hq).1
      have hkp := (hli k hkl).1 hk
      have := hok.lt k q hq e he hb
      exact (hli e.on (by omega)).2 (by omega)
     have ho'' : ops[i]? = some o' := by simpa using ho'
     have := before_of hshut ho'' (fun e he hb => hall e (Array.mem_toList_iff.1 he) hb) (hok.suf i o' ho'' (by omega) p hlt)
     exact absurd this hnot
    ·omega
   subst hip
   have hnext : ∀ e' H' a' w', RO C ops rest e' H' K → St C a' w' e' H' → wpAny C.P .any ops.toArray Q fuel (listed.setIfInBounds i true) a' w' := fun e' H' a' w' hr hs' => by
    refine phase2 hok hQ rest (i + 1) fuel _ e' H' a' w' hrest (by omega) (by omega) (by simpa using hsz) (fun j hj => ?_) hr hs' (by simpa using hf)
    by_cases hji : j = i
    ·subst hji
     unfold LA
     have : j < listed.size := by omega
     simp [this]
    ·unfold LA
     rw [getD_set_ne false (Ne.symm hji)]
     have := hli j hj
     unfold LA at this
     rw [this]
     omega
   obtain ⟨hd, hg⟩ := hro
   have yes : (OpD C.P H e o fun d H' => RO C ops rest (e.putO o.dst d) H' K) → o.wp C.P a w (wpAny C.P .any ops.toArray Q fuel (listed.setIfInBounds i true)) Q := fun hop =>
    wp_of_opTo (hop.go a.eval w hs.agree hs.heap) fun v w' ⟨d, H', hk, hr, ho, he⟩ => hnext _ _ _ _ hk (hs.put hd hr ho he)
   have no : RO C ops rest (e.putO o.dst (.tup [])) H K → wpAny C.P .any ops.toArray Q fuel (listed.setIfInBounds i true) (a.put o.dst undef) w := fun hk =>
    hnext _ _ _ _ hk (hs.put hd (RepsA.tup (vs := #[]) (ds := []) ⟨rfl, fun j x hx => by simp at hx⟩) hs.heap (.refl _ _))
   unfold wpOp
   have hops : ops.toArray[i]? = some o := by simpa using hop
   rw [hops]
   simp only []
   unfold GuardIs at hg
   cases hgu : o.guard with
   | none =>
    rw [hgu] at hg
    rw [if_pos (by simp [Region.wanted, hgu])]
    exact .inl (yes hg)
   | some jw =>
    obtain ⟨j, want⟩ := jw
    rw [hgu] at hg
    obtain ⟨b, hb, h1, h2⟩ := hg
    have hy := guard_yielded hs hb
    by_cases hbw : b = some want
    ·rw [if_pos (by simp only [Region.wanted, hgu, hy, hbw]; exact beq_self_eq_true _)]
     exact .inl (yes (h1 hbw))
    ·rw [if_neg (by simp only [Region.wanted, hgu, hy]; intro hx; exact hbw (by simpa using hx))]
     exact no (h2 hbw)

inductive AlIs (P : Program) (N : Nat) : List Oper → Option (Nat × TypeId × List D) → Prop
 | none : AlIs P N [] none
 | some {s : Nat} {T : TypeId} {k : Nat} {zd : List D} {ty : TypeId} {pos : String} {af : Array Edge} (hz : ZeroOf P T k zd) (hs : s < N) : AlIs P N [⟨some s, .alloc T, ty, pos, af, none⟩] (some (s, T, zd))

def restK (C : Ctx) (ops suf : List Oper) (H : Heap) (K : Env → Heap → Prop) (alo : Option (Nat × TypeId × List D)) (ef : Env) : Prop :=
 match alo with
 | none => RO C ops suf ef H K
 | some (s, T, zd) => ∀ b, H b = none → RO C ops suf ((s, .ptr b 0) :: ef) (H.set b (T, zd)) K

theorem count_set {m i : Nat} {listed : Array Bool} (hi : i < m) (hsz : m ≤ listed.size) (hn : listed.getD i false = false) :
  ((List.range m).filter fun j => !(listed.setIfInBounds i true).getD j false).length < ((List.range m).filter fun j => !listed.getD j false).length := by
 have key : ∀ (l : List Nat), i ∈ l → (∀ j ∈ l, j < listed.size) → (l.filter fun j => !(listed.setIfInBounds i true).getD j false).length < (l.filter fun j => !listed.getD j false).length := by
  have le : ∀ (l : List Nat), (l.filter fun j => !(listed.setIfInBounds i true).getD j false).length ≤ (l.filter fun j => !listed.getD j false).length := by
   intro l
   induction l with
   | nil => exact Nat.le_refl _
   | cons x l ih =>
    simp only [List.filter_cons]
    by_cases hx : listed.getD x false = true
    ·rw [if_neg (by rw [getD_set_true hx]; simp), if_neg (by rw [hx]; simp)]
     exact ih
    ·have hx' : listed.getD x false = false := by simpa using hx
     rw [show (!listed.getD x false) = true by rw [hx']; rfl]
     split
     ·simp only [if_true, List.length_cons]; omega
     ·simp only [if_true, List.length_cons]; omega
  intro l
  induction l with
  | nil => intro h; cases h
  | cons x l ih =>
   intro hm hb
   simp only [List.filter_cons]
   by_cases hxi : x = i
   ·subst hxi
    have hxs : x < listed.size := hb x (by simp)
    have h1 : (listed.setIfInBounds x true).getD x false = true := by simp [hxs]
    rw [if_neg (by rw [h1]; simp), if_pos (by rw [hn]; rfl)]
    have := le l
    simp only [List.length_cons]
    omega
   ·have hil : i ∈ l := by
     rcases List.mem_cons.1 hm with h | h
     ·exact absurd h.symm hxi
     ·exact h
    have h2 := ih hil fun j hj => hb j (by simp [hj])
    rw [getD_set_ne false (Ne.symm hxi)]
    split
    ·simp only [List.length_cons]; omega
    ·exact h2
 exact key (List.range m) (List.mem_range.2 hi) fun j hj => by have := List.mem_range.1 hj; omega

theorem phase1_end {C : Ctx} {H : Heap} {e : Env} {pre al suf : List Oper} {es : Nat → Env} {ds : Nat → D} {alo : Option (Nat × TypeId × List D)} {K : Env → Heap → Prop} {Q : Exit → Act → World → Prop} (hQ : ∀ e H a w, K e H → St C a w e H → Q .normal a w)
  (hok : OrdOk (pre ++ al ++ suf) pre.length (pre.length + al.length)) (hal : AlIs C.P C.N al alo) (h0 : es 0 = e) (hes : ∀ (i : Nat) (o : Oper), pre[i]? = some o → StaAt C H (pre ++ al ++ suf) (es i) o (ds i) ∧ es (i + 1) = (es i).putO o.dst (ds i))
  (hK : restK C (pre ++ al ++ suf) suf H K alo (es pre.length)) (hdist : ∀ (i k : Nat) (o p : Oper) (t : Nat), pre[i]? = some o → pre[k]? = some p → o.dst = some t → p.dst = some t → i = k)
  (fuel : Nat) (listed : Array Bool) (a : Act) (w : World) (Hc : Heap) (hsz : listed.size = (pre ++ al ++ suf).length) (hall : ∀ j, j < pre.length + al.length → LA listed j) (hbelow : ∀ j, LA listed j → j < pre.length + al.length)
  (hf : suf.length ≤ fuel) (hinv : Inv C H e pre ds alo (LA listed) a w Hc) : wpAny C.P .any (pre ++ al ++ suf).toArray Q fuel listed a w := by
 have hdrop : (pre ++ al ++ suf).drop (pre.length + al.length) = suf := by
  rw [← List.length_append, List.drop_left]
 have hli : ∀ j, j < (pre ++ al ++ suf).length → (LA listed j ↔ j < pre.length + al.length) := fun j _ => ⟨hbelow j, hall j⟩
 have hlen : pre.length + al.length ≤ (pre ++ al ++ suf).length := by simp
 have envs : ∀ (t : Nat) (d : D), (es pre.length).get t = some d → (∀ s T zd, alo = some (s, T, zd) → s ≠ t) → ∃ v, a.tmps[t]? = some v ∧ Rep w Hc v d := fun t d hd hs => by
  rcases trace_get h0 (fun i o h => (hes i o h).2) hdist pre.length (Nat.le_refl _) t d hd with ⟨k, p, hk, hp, hpt, rfl⟩ | ⟨he, hn⟩
  ·exact hinv.ran k p t hp (hall k (by omega)) hpt
  ·exact hinv.rest t d he (fun k p hp => hn k p (List.getElem?_eq_some_iff.1 hp).1 hp) hs
 have hm := hinv.made
 cases alo with
 | none =>
  simp only at hm
  subst hm
  exact phase2 hok hQ suf _ fuel listed _ _ a w hdrop (Nat.le_refl _) hlen hsz hli hK ⟨hinv.size, hinv.defers, fun t d hd => envs t d hd (fun s T zd h => by cases h), hinv.heap, hinv.ext⟩ hf
 | some x =>
  obtain ⟨s, T, zd⟩ := x
  have hal1 : al.length = 1 := by cases hal; rfl
  obtain ⟨g, hg, hHg, hHc⟩ := hm.1 (hall _ (by omega))
  subst hHc
  refine phase2 hok hQ suf _ fuel listed _ _ a w hdrop (Nat.le_refl _) hlen hsz hli (hK g hHg) ⟨hinv.size, hinv.defers, fun t d hd => ?_, hinv.heap, hinv.ext⟩ hf
  rw [Env.get_cons] at hd
  split at hd
  ·rename_i hst
   subst hst
   cases hd
   exact ⟨_, hg, .ptr g 0⟩
  ·rename_i hst
   exact envs t d hd (fun s' T' zd' h => by cases h; exact hst)

theorem phase1 {C : Ctx} {H : Heap} {e : Env} {pre al suf : List Oper} {es : Nat → Env} {ds : Nat → D} {alo : Option (Nat × TypeId × List D)} {K : Env → Heap → Prop} {Q : Exit → Act → World → Prop} (hQ : ∀ e H a w, K e H → St C a w e H → Q .normal a w)
  (hok : OrdOk (pre ++ al ++ suf) pre.length (pre.length + al.length)) (hal : AlIs C.P C.N al alo) (h0 : es 0 = e) (hes : ∀ (i : Nat) (o : Oper), pre[i]? = some o → StaAt C H (pre ++ al ++ suf) (es i) o (ds i) ∧ es (i + 1) = (es i).putO o.dst (ds i))
  (hK : restK C (pre ++ al ++ suf) suf H K alo (es pre.length)) :
  ∀ (fuel : Nat) (listed : Array Bool) (a : Act) (w : World) (Hc : Heap), listed.size = (pre ++ al ++ suf).length → Shut (pre ++ al ++ suf) (LA listed) → (∀ j, LA listed j → j < pre.length + al.length) →
   ((List.range (pre.length + al.length)).filter fun j => !listed.getD j false).length + suf.length ≤ fuel → Inv C H e pre ds alo (LA listed) a w Hc → wpAny C.P .any (pre ++ al ++ suf).toArray Q fuel listed a w := by
 have hpre : ∀ (i : Nat) (o : Oper), pre[i]? = some o → (pre ++ al ++ suf)[i]? = some o := fun i o ho => by
  have hlt := (List.getElem?_eq_some_iff.1 ho).1
  rw [List.append_assoc, List.getElem?_append_left hlt]; exact ho
 have hdist : ∀ (i k : Nat) (o p : Oper) (t : Nat), pre[i]? = some o → pre[k]? = some p → o.dst = some t → p.dst = some t → i = k := fun i k o p t ho hp hot hpt => by
  have h1 := (List.getElem?_eq_some_iff.1 ho).1
  have h2 := (List.getElem?_eq_some_iff.1 hp).1
  exact hok.dist i k o p t (by omega) (by omega) (hpre i o ho) (hpre k p hp) hot hpt
 have hals : ∀ s T zd, alo = some (s, T, zd) → ∀ (i : Nat) (o : Oper), pre[i]? = some o → s ∉ opTmps o ++ guardTmp (pre ++ al ++ suf) o ∧ o.dst ≠ some s := fun s T zd hs i o ho => by
  have hlt := (List.getElem?_eq_some_iff.1 ho).1
  cases hal with
  | none => cases hs
  | some hz hsN =>
   cases hs
   rename_i k ty pos af
   have ha : (pre ++ [(⟨some s, .alloc T, ty, pos, af, none⟩ : Oper)] ++ suf)[pre.length]? = some ⟨some s, .alloc T, ty, pos, af, none⟩ := by simp
   refine ⟨fun hm => ?_, fun hd => ?_⟩
   ·have := (hok.dep i o hlt (hpre i o ho) s hm pre.length _ (by simp) ha rfl).1
    omega
   ·have := hok.dist i pre.length o _ s (by omega) (by simp) (hpre i o ho) ha hd rfl
    omega
 intro fuel
 induction fuel with
 | zero =>
  intro listed a w Hc hsz hshut hbelow hcount hinv
  -- nothing is left
  have hall : ∀ j, j < pre.length + al.length → LA listed j := fun j hj => by
   by_cases h : listed.getD j false = true
   ·exact h
   ·have hm : j ∈ (List.range (pre.length + al.length)).filter fun j => !listed.getD j false := List.mem_filter.2 ⟨List.mem_range.2 hj, by simpa using h⟩
    have := List.length_pos_of_mem hm
    omega
  exact phase1_end hQ hok hal h0 hes hK hdist 0 listed a w Hc hsz hall hbelow (by omega) hinv
 | succ fuel ih =>
  intro listed a w Hc hsz hshut hbelow hcount hinv
  by_cases hall : ∀ j, j < pre.length + al.length → LA listed j
  ·exact phase1_end hQ hok hal h0 hes hK hdist (fuel + 1) listed a w Hc hsz hall hbelow (by
    have : ((List.range (pre.length + al.length)).filter fun j => !listed.getD j false) = [] := by
     rw [List.filter_eq_nil_iff]
     intro j hj
     have := hall j (List.mem_range.1 hj)
     unfold LA at this
     simp [this]
    rw [this] at hcount
    simpa using hcount) hinv
  ·-- one of the first ones is left: only such ones can come next
   have hex : ∃ j, j < pre.length + al.length ∧ ¬ LA listed j := by
    by_cases h : ∃ j, j < pre.length + al.length ∧ ¬ LA listed j
    ·exact h
    ·exact absurd (fun j hj => Classical.byContradiction fun hn => h ⟨j, hj, hn⟩) hall
   obtain ⟨q, ⟨hq, hqn⟩, hqmin⟩ := exists_least (fun j => j < pre.length + al.length ∧ ¬ LA listed j) hex
   have hlen : pre.length + al.length ≤ (pre ++ al ++ suf).length := by simp
   have hready : ∀ i ∈ Region.ready .any (pre ++ al ++ suf).toArray listed, i < pre.length + al.length ∧ ¬ LA listed i ∧ ∃ o, (pre ++ al ++ suf)[i]? = some o ∧ ∀ e ∈ o.after.toList, Region.binds .any e = true → LA listed e.on := by
    intro i hi
    rw [mem_ready] at hi
    obtain ⟨hn, o, ho, ha⟩ := hi
    have ho' : (pre ++ al ++ suf)[i]? = some o := by simpa using ho
    have hil := (List.getElem?_eq_some_iff.1 ho').1
    have hni : ¬ LA listed i := fun h => by
     have his : i < listed.size := by omega
     unfold LA at h
     simp [his] at h hn
     rw [h] at hn
     cases hn
    have ha' : ∀ e ∈ o.after.toList, Region.binds .any e = true → LA listed e.on := fun e he hb => ha e (Array.mem_toList_iff.1 he) hb
    refine ⟨?_, hni, o, ho', ha'⟩
    rcases Nat.lt_or_ge i (pre.length + al.length) with h | h
    ·exact h
    ·exact absurd (before_of hshut ho' ha' (hok.suf i o ho' h q (by omega))) hqn
   refine ⟨fun h => ?_, fun i hi => ?_⟩
   ·-- the least one that is left is ready
    have hql : q < (pre ++ al ++ suf).length := by omega
    have hqo : (pre ++ al ++ suf)[q]? = some (pre ++ al ++ suf)[q] := by simp
    have : q ∈ Region.ready .any (pre ++ al ++ suf).toArray listed := by
     rw [mem_ready]
     refine ⟨?_, (pre ++ al ++ suf)[q], by simp, fun e he hb => ?_⟩
     ·have hqs : q < listed.size := by omega
      unfold LA at hqn
      simp [hqs] at hqn ⊢
      exact hqn
     ·have hlt := hok.lt q _ hqo e (Array.mem_toList_iff.2 he) hb
      refine Classical.byContradiction fun hn => ?_
      have := hqmin e.on ⟨by omega, hn⟩
      omega
    rw [h] at this
    cases this
   ·obtain ⟨him, hni, o, ho, hafter⟩ := hready i hi
    have hil : i < listed.size := by omega
    have hshut' : Shut (pre ++ al ++ suf) (LA (listed.setIfInBounds i true)) := fun k p hp hk e he hb => by
     by_cases hki : k = i
     ·subst hki
      rw [ho] at hp
      cases hp
      exact getD_set_true (hafter e he hb)
     ·have hk' : LA listed k := by
       unfold LA at hk ⊢
       rwa [getD_set_ne false (Ne.symm hki)] at hk
      exact getD_set_true (hshut k p hp hk' e he hb)
    have hLA : ∀ j, LA (listed.setIfInBounds i true) j ↔ (LA listed j ∨ j = i) := fun j => by
     unfold LA
     by_cases hji : j = i
     ·subst hji
      simp [hil]
     ·rw [getD_set_ne false (Ne.symm hji)]
      simp [hji]
    have hbelow' : ∀ j, LA (listed.setIfInBounds i true) j → j < pre.length + al.length := fun j hj => by
     rcases (hLA j).1 hj with h | h
     ·exact hbelow j h
     ·omega
    have hcnt := count_set (m := pre.length + al.length) (listed := listed) him (by omega) (by unfold LA at hni; simpa using hni)
    have next : ∀ a' w' Hc', Inv C H e pre ds alo (fun j => LA listed j ∨ j = i) a' w' Hc' → wpAny C.P .any (pre ++ al ++ suf).toArray Q fuel (listed.setIfInBounds i true) a' w' := fun a' w' Hc' hinv' => by
     refine ih _ a' w' Hc' (by simpa using hsz) hshut' hbelow' (by omega) ?_
     have hfun : LA (listed.setIfInBounds i true) = fun j => LA listed j ∨ j = i := funext fun j => propext (hLA j)
     rw [hfun]
     exact hinv'
    by_cases hip : i < pre.length
    ·have hopre : pre[i]? = some o := by
      have h := ho
      rw [List.append_assoc, List.getElem?_append_left hip] at h
      exact h
     refine Inv.step hinv h0 (fun i o h => (hes i o h).2) hpre hdist hals hopre (hes i o hopre).1 (hok.sel i o hip ho) (fun t ht k p hp hpt => ?_) (fun a' w' hinv' => next a' w' Hc hinv') (by omega)
     have hkl := (List.getElem?_eq_some_iff.1 hp).1
     obtain ⟨hki, hbit⟩ := hok.dep i o hip ho t ht k p (by omega) (hpre k p hp) hpt
     exact ⟨hki, before_of hshut ho hafter hbit⟩
    ·-- the variable is made
     cases hal with
     | none => simp at him; omega
     | some hz hsN =>
      rename_i s T k zd ty pos af
      have hieq : i = pre.length := by simp at him; omega
      subst hieq
      have hoe : o = ⟨some s, .alloc T, ty, pos, af, none⟩ := by
       have h := ho
       simp at h
       exact h.symm
      subst hoe
      obtain ⟨m1, m2⟩ := hinv.made
      have hHc : Hc = H := m2 hni
      subst hHc
      obtain ⟨inf, z, hi', hz1, hz2, hz3⟩ := hz.is
      have hfresh := hinv.heap.fresh
      have hrun : (execOp a.eval ⟨some s, .alloc T, ty, pos, af, none⟩).run C.P w = .ok (.value (.pointer (some ⟨w.heap.size, 0, none⟩))) (w.alloc (.cells z.cells T)) := by
       simp [execOp, Instr.alloc, run_zeroValue hi' hz1, newVar, newRow, newObj, Sem.run]
      have hr := hz.reps w Hc
      have hok' : HOK (w.alloc (.cells z.cells T)) (Hc.set w.heap.size (T, zd)) := by
       rw [hz3]
       exact hinv.heap.allocMut T _ zd (by simp) fun j x hx => ⟨litOk_cell (List.all_eq_true.1 hz.lit x (List.mem_of_getElem? hx)), hr.2 j x hx⟩
      have hex' : Ext w Hc (w.alloc (.cells z.cells T)) (Hc.set w.heap.size (T, zd)) := Ext.allocMut w Hc _ _
      unfold wpOp
      have hops : (pre ++ [(⟨some s, .alloc T, ty, pos, af, none⟩ : Oper)] ++ suf).toArray[pre.length]? = some ⟨some s, .alloc T, ty, pos, af, none⟩ := by simp
      rw [hops]
      simp only []
      rw [if_pos (by simp [Region.wanted])]
      refine .inl ?_
      unfold Oper.wp
      rw [hrun]
      show wpAny C.P .any _ Q fuel _ (a.put (some s) _) _
      refine next _ _ (Hc.set w.heap.size (T, zd)) ⟨?_, ?_, hok', hinv.ext.trans hex', ?_, ?_, ?_, ?_⟩
      ·simp [Act.put, hinv.size]
      ·rw [Act.put_defers']; exact hinv.defers.ext hinv.heap hex'
      ·intro c x hx
       have hne : c ≠ w.heap.size := fun e => by subst e; rw [hfresh] at hx; cases hx
       simp [Heap.set, hne, hx]
      ·intro k' p t hp hk' hpt
       have hkl := (List.getElem?_eq_some_iff.1 hp).1
       have hkL : LA listed k' := hk'.resolve_right (by omega)
       obtain ⟨u, hu, hur⟩ := hinv.ran k' p t hp hkL hpt
       refine ⟨u, put_tmps hu (fun hx => ?_), hur.ext hex'⟩
       cases hx
       exact (hals _ T zd rfl k' p hp).2 hpt
      ·intro t d he hn hs
       obtain ⟨u, hu, hur⟩ := hinv.rest t d he hn hs
       exact ⟨u, put_tmps hu (fun hx => hs s T zd rfl (by simpa using hx)), hur.ext hex'⟩
      ·exact ⟨fun _ => ⟨w.heap.size, put_tmps_self (by rw [hinv.size]; exact hsN), hfresh, rfl⟩, fun h => absurd (.inr rfl) h⟩

theorem DW.draw {C : Ctx} {e : Env} {H : Heap} {Q : Post} {id : Nat} (pre al suf : List Oper) (alo : Option (Nat × TypeId × List D)) (hm : C.P.follows .mixedOrders = true) (hok : ordOk (pre ++ al ++ suf) pre.length (pre.length + al.length) = true) (hal : AlIs C.P C.N al alo)
  (h : RS C H (pre ++ al ++ suf) pre e fun ef => restK C (pre ++ al ++ suf) suf H (fun e' H' => Q .normal e' H') alo ef) : DW C (.region id (pre ++ al ++ suf).toArray true) e H Q := by
 refine .mk fun a w hs => wp_region_any hm ?_
 obtain ⟨es, ds, h0, hes, hK⟩ := RS.trace pre e _ h
 have hnone : ∀ j, ¬ LA (Array.replicate (pre ++ al ++ suf).toArray.size false) j := fun j hj => by
  unfold LA at hj
  rw [Array.getD_eq_getD_getElem?, Array.getElem?_replicate] at hj
  split at hj <;> simp at hj
 refine phase1 (K := fun e' H' => Q .normal e' H') (fun e' H' a' w' hk hs' => ⟨e', H', hk, hs'⟩) (ordOk_spec hok) hal h0 hes hK _ _ a _ H (by simp) (fun i o _ hi => absurd hi (hnone i)) (fun j hj => absurd hj (hnone j)) ?_ ?_
 ·have : ((List.range (pre.length + al.length)).filter fun j => !(Array.replicate (pre ++ al ++ suf).toArray.size false).getD j false).length ≤ pre.length + al.length := by
   have := List.length_filter_le (fun j => !(Array.replicate (pre ++ al ++ suf).toArray.size false).getD j false) (List.range (pre.length + al.length))
   simpa using this
  simp only [List.size_toArray, List.length_append] at this ⊢
  omega
 ·have hex : Ext w H { w with drawn := w.drawn + 1 } H := Ext.drew w H _
  refine ⟨hs.size, hs.defers.ext hs.heap hex, hs.heap.drew _, hs.ext.trans hex, Over.refl _, fun k p t hp hk => absurd hk (hnone k), fun t d he _ _ => ?_, ?_⟩
  ·obtain ⟨v, hv, hr⟩ := hs.env t d he
   exact ⟨v, hv, hr.ext hex⟩
  ·cases alo with
   | none => rfl
   | some x => exact ⟨fun h => absurd h (hnone _), fun _ => rfl⟩
end
section
open Go.RowKit

section
variable {C : Ctx} {e : Env} {H : Heap} {Q : Post} {ops : List Oper} {rest : List Oper} {K : Env → Prop}

theorem DW.drawS {id : Nat} {l : List Oper} (n : Nat) (hm : C.P.follows .mixedOrders = true) (hok : ordOk l n n = true) (hn : n ≤ l.length) (h : RS C H l (l.take n) e fun ef => RO C l (l.drop n) ef H fun e' H' => Q .normal e' H') : DW C (.region id l.toArray true) e H Q := by
 have hl : l.take n ++ [] ++ l.drop n = l := by simp
 have hlen : (l.take n).length = n := by simp [Nat.min_eq_left hn]
 have := DW.draw (C := C) (e := e) (H := H) (Q := Q) (id := id) (l.take n) [] (l.drop n) none hm (by rw [hl, hlen]; exact hok) .none (by rw [hl]; exact h)
 rwa [hl] at this

theorem DW.drawA {id : Nat} {l : List Oper} (n : Nat) {s T : Nat} {k bytes : Nat} {zd : List D} {ty : TypeId} {pos : String} {af : Array Edge} [ElT C.P T k zd bytes] (hm : C.P.follows .mixedOrders = true) (hok : ordOk l n (n + 1) = true) (ha : l[n]? = some ⟨some s, .alloc T, ty, pos, af, none⟩) (hs : Nat.blt s C.N = true)
  (h : RS C H l (l.take n) e fun ef => ∀ b, H b = none → RO C l (l.drop (n + 1)) ((s, .ptr b 0) :: ef) (H.set b (T, zd)) fun e' H' => Q .normal e' H') : DW C (.region id l.toArray true) e H Q := by
 have hn : n < l.length := (List.getElem?_eq_some_iff.1 ha).1
 have hl : l.take n ++ [(⟨some s, .alloc T, ty, pos, af, none⟩ : Oper)] ++ l.drop (n + 1) = l := by
  have h1 : l[n] = ⟨some s, .alloc T, ty, pos, af, none⟩ := by
   rw [List.getElem?_eq_getElem hn] at ha
   exact Option.some.inj ha
  rw [← h1, List.take_append_getElem hn, List.take_append_drop]
 have hlen : (l.take n).length = n := by simp; omega
 have := DW.draw (C := C) (e := e) (H := H) (Q := Q) (id := id) (l.take n) [(⟨some s, .alloc T, ty, pos, af, none⟩ : Oper)] (l.drop (n + 1)) (some (s, T, zd)) hm (by rw [hl, hlen]; exact hok) (.some (ElT.z (E := T) (bytes := bytes)) (by simpa [Nat.blt_eq] using hs)) (by rw [hl]; exact h)
 rwa [hl] at this

theorem RS.nil (h : K e) : RS C H ops [] e K := h

theorem RS.sta {dst : Option Tmp} {op : Op} {ty : TypeId} {pos : String} {af : Array Edge} {d : D} (h : ∀ H', Over H H' → Sta C.P H' (e.mask ⟨dst, op, ty, pos, af, none⟩) ⟨dst, op, ty, pos, af, none⟩ d) (hd : dstOk C.N dst = true) (hk : RS C H ops rest (e.putO dst d) K) :
  RS C H ops (⟨dst, op, ty, pos, af, none⟩ :: rest) e K := ⟨hd, ⟨d, h, hk⟩⟩

theorem RS.yes {dst : Option Tmp} {op : Op} {ty : TypeId} {pos : String} {af : Array Edge} {j : Nat} {want : Bool} {d : D} (hg : guardD ops e j = some (some want)) (h : ∀ H', Over H H' → Sta C.P H' (e.mask ⟨dst, op, ty, pos, af, some (j, want)⟩) ⟨dst, op, ty, pos, af, some (j, want)⟩ d)
  (hd : dstOk C.N dst = true) (hk : RS C H ops rest (e.putO dst d) K) : RS C H ops (⟨dst, op, ty, pos, af, some (j, want)⟩ :: rest) e K := ⟨hd, ⟨_, hg, fun _ => ⟨d, h, hk⟩, fun h => absurd rfl h⟩⟩

theorem RS.no {dst : Option Tmp} {op : Op} {ty : TypeId} {pos : String} {af : Array Edge} {j : Nat} {want : Bool} {b : Option Bool} (hg : guardD ops e j = some b) (hb : b ≠ some want) (hd : dstOk C.N dst = true) (hk : RS C H ops rest (e.putO dst (.tup [])) K) :
  RS C H ops (⟨dst, op, ty, pos, af, some (j, want)⟩ :: rest) e K := ⟨hd, ⟨_, hg, fun h => absurd h hb, fun _ => hk⟩⟩

theorem RS.S {dst : Option Tmp} {op : Op} {ty : TypeId} {pos : String} {af : Array Edge} {d : D} (hk : RS C H ops rest (e.putO dst d) K) (h : ∀ H', Over H H' → Sta C.P H' (e.mask ⟨dst, op, ty, pos, af, none⟩) ⟨dst, op, ty, pos, af, none⟩ d := by (first | (intro H' hov; (first | exact sta_move rfl | exact sta_assign rfl | exact s_cmp rfl rfl rfl | (refine s_arith rfl rfl rfl ?_ ?_ <;> omega) | (refine sta_rem rfl rfl ?_ ?_ <;> omega) | exact s_lenM rfl | exact s_len rfl rfl | exact s_field rfl | (refine s_indexM rfl rfl ?_; omega) | (refine s_indexM0 rfl rfl ?_; omega) | (refine s_loadM (fun _ => rfl) rfl ?_; omega) | (refine s_loadTm rfl ?_; omega) | (refine s_loadC rfl ?_; omega) | (refine s_loadE rfl ?_; omega) | exact s_load rfl rfl | exact s_loadAgg rfl rfl rfl | exact sta_not rfl | exact sta_extract rfl rfl | exact s_pickT rfl rfl | exact s_pickF rfl rfl | exact sta_box (k := 1) rfl rfl | exact sta_box (k := 4) rfl rfl | exact sta_box (k := 2) rfl rfl | exact s_fn rfl | exact s_lit1 (k := 1) (by decide) rfl rfl | exact s_lit1 (k := 2) (by decide) rfl rfl | exact s_litEmpty)) | exact r_loadM (fun _ => rfl) rfl (by omega) | exact r_loadTm rfl (by omega) | exact r_loadC rfl (by omega) | exact r_loadE rfl (by omega))) (hd : dstOk C.N dst = true := by exact rfl) :
  RS C H ops (⟨dst, op, ty, pos, af, none⟩ :: rest) e K := RS.sta h hd hk
theorem RS.Y {dst : Option Tmp} {op : Op} {ty : TypeId} {pos : String} {af : Array Edge} {j : Nat} {want : Bool} {d : D} (hk : RS C H ops rest (e.putO dst d) K) (hg : guardD ops e j = some (some want) := by exact rfl) (h : ∀ H', Over H H' → Sta C.P H' (e.mask ⟨dst, op, ty, pos, af, some (j, want)⟩) ⟨dst, op, ty, pos, af, some (j, want)⟩ d := by (first | (intro H' hov; (first | exact sta_move rfl | exact sta_assign rfl | exact s_cmp rfl rfl rfl | (refine s_arith rfl rfl rfl ?_ ?_ <;> omega) | (refine sta_rem rfl rfl ?_ ?_ <;> omega) | exact s_lenM rfl | exact s_len rfl rfl | exact s_field rfl | (refine s_indexM rfl rfl ?_; omega) | (refine s_indexM0 rfl rfl ?_; omega) | (refine s_loadM (fun _ => rfl) rfl ?_; omega) | (refine s_loadTm rfl ?_; omega) | (refine s_loadC rfl ?_; omega) | (refine s_loadE rfl ?_; omega) | exact s_load rfl rfl | exact s_loadAgg rfl rfl rfl | exact sta_not rfl | exact sta_extract rfl rfl | exact s_pickT rfl rfl | exact s_pickF rfl rfl | exact sta_box (k := 1) rfl rfl | exact sta_box (k := 4) rfl rfl | exact sta_box (k := 2) rfl rfl | exact s_fn rfl | exact s_lit1 (k := 1) (by decide) rfl rfl | exact s_lit1 (k := 2) (by decide) rfl rfl | exact s_litEmpty)) | exact r_loadM (fun _ => rfl) rfl (by omega) | exact r_loadTm rfl (by omega) | exact r_loadC rfl (by omega) | exact r_loadE rfl (by omega)))
  (hd : dstOk C.N dst = true := by exact rfl) : RS C H ops (⟨dst, op, ty, pos, af, some (j, want)⟩ :: rest) e K := RS.yes hg h hd hk
theorem RS.Sv {dst : Option Tmp} {op : Op} {ty : TypeId} {pos : String} {af : Array Edge} {d : D} (hk : RS C H ops rest (e.putO dst d) K) (h : ∀ H', Over H H' → Sta C.P H' (e.mask ⟨dst, op, ty, pos, af, none⟩) ⟨dst, op, ty, pos, af, none⟩ d := by (first | (intro H' hov; (first | exact sta_move rfl | exact sta_assign rfl | exact s_cmp rfl rfl rfl | (refine s_arith rfl rfl rfl ?_ ?_ <;> omega) | (refine sta_rem rfl rfl ?_ ?_ <;> omega) | exact s_lenM rfl | exact s_len rfl rfl | exact s_field rfl | (refine s_indexM rfl rfl ?_; omega) | (refine s_indexM0 rfl rfl ?_; omega) | (refine s_loadM (fun _ => rfl) rfl ?_; omega) | (refine s_loadTm rfl ?_; omega) | (refine s_loadC rfl ?_; omega) | (refine s_loadE rfl ?_; omega) | exact s_load rfl rfl | exact s_loadAgg rfl rfl rfl | exact sta_not rfl | exact sta_extract rfl rfl | exact s_pickT rfl rfl | exact s_pickF rfl rfl | exact sta_box (k := 1) rfl rfl | exact sta_box (k := 4) rfl rfl | exact sta_box (k := 2) rfl rfl | exact s_fn rfl | exact s_lit1 (k := 1) (by decide) rfl rfl | exact s_lit1 (k := 2) (by decide) rfl rfl | exact s_litEmpty | exact s_fieldMut rfl | exact s_loadMut rfl (Heap.set_self _ _ _) rfl | exact s_loadMutAgg rfl (Heap.set_self _ _ _) rfl rfl)) | exact r_loadM (fun _ => rfl) rfl (by omega) | exact r_loadTm rfl (by omega) | exact r_loadC rfl (by omega) | exact r_loadE rfl (by omega) | exact r_loadMut rfl (Heap.set_self _ _ _) rfl | exact r_loadMutAgg rfl (Heap.set_self _ _ _) rfl rfl)) (hd : dstOk C.N dst = true := by exact rfl) :
  RS C H ops (⟨dst, op, ty, pos, af, none⟩ :: rest) e K := RS.sta h hd hk
theorem RS.Yv {dst : Option Tmp} {op : Op} {ty : TypeId} {pos : String} {af : Array Edge} {j : Nat} {want : Bool} {d : D} (hk : RS C H ops rest (e.putO dst d) K) (hg : guardD ops e j = some (some want) := by exact rfl) (h : ∀ H', Over H H' → Sta C.P H' (e.mask ⟨dst, op, ty, pos, af, some (j, want)⟩) ⟨dst, op, ty, pos, af, some (j, want)⟩ d := by (first | (intro H' hov; (first | exact sta_move rfl | exact sta_assign rfl | exact s_cmp rfl rfl rfl | (refine s_arith rfl rfl rfl ?_ ?_ <;> omega) | (refine sta_rem rfl rfl ?_ ?_ <;> omega) | exact s_lenM rfl | exact s_len rfl rfl | exact s_field rfl | (refine s_indexM rfl rfl ?_; omega) | (refine s_indexM0 rfl rfl ?_; omega) | (refine s_loadM (fun _ => rfl) rfl ?_; omega) | (refine s_loadTm rfl ?_; omega) | (refine s_loadC rfl ?_; omega) | (refine s_loadE rfl ?_; omega) | exact s_load rfl rfl | exact s_loadAgg rfl rfl rfl | exact sta_not rfl | exact sta_extract rfl rfl | exact s_pickT rfl rfl | exact s_pickF rfl rfl | exact sta_box (k := 1) rfl rfl | exact sta_box (k := 4) rfl rfl | exact sta_box (k := 2) rfl rfl | exact s_fn rfl | exact s_lit1 (k := 1) (by decide) rfl rfl | exact s_lit1 (k := 2) (by decide) rfl rfl | exact s_litEmpty | exact s_fieldMut rfl | exact s_loadMut rfl (Heap.set_self _ _ _) rfl | exact s_loadMutAgg rfl (Heap.set_self _ _ _) rfl rfl)) | exact r_loadM (fun _ => rfl) rfl (by omega) | exact r_loadTm rfl (by omega) | exact r_loadC rfl (by omega) | exact r_loadE rfl (by omega) | exact r_loadMut rfl (Heap.set_self _ _ _) rfl | exact r_loadMutAgg rfl (Heap.set_self _ _ _) rfl rfl))
  (hd : dstOk C.N dst = true := by exact rfl) : RS C H ops (⟨dst, op, ty, pos, af, some (j, want)⟩ :: rest) e K := RS.yes hg h hd hk

end

theorem zA : type_of% @RO.Sv := @RO.Sv
theorem zB : type_of% @RO.Yv := @RO.Yv
theorem zC : type_of% @RO.S := @RO.S
theorem zD : type_of% @RO.Y := @RO.Y
theorem zE : type_of% @RO.no := @RO.no
theorem zF : type_of% @RO.nil := @RO.nil
theorem zG : type_of% @DW.region := @DW.region
theorem zH : type_of% @DW.seq := @DW.seq
theorem zI : type_of% @DW.block := @DW.block
theorem zJ : type_of% @DW.skip := @DW.skip
theorem zK : type_of% @DW.exit := @DW.exit
theorem zL : type_of% @DW.condT := @DW.condT
theorem zM : type_of% @DW.condF := @DW.condF
theorem zN : type_of% @RS.Sv := @RS.Sv
theorem zO : type_of% @RS.Yv := @RS.Yv
theorem zP : type_of% @RS.S := @RS.S
theorem zQ : type_of% @RS.Y := @RS.Y
theorem zR : type_of% @RS.no := @RS.no
theorem zS : type_of% @RS.nil := @RS.nil
end
section
open Go.RowKit

section
variable {P : Program} {H : Heap} {e : Env} {dst : Option Tmp} {ty : TypeId} {pos : String} {af : Array Edge} {gd : Option (Nat × Bool)}

theorem r_loadM {α : Type} {f : α → D} {l : List α} {k i : Nat} {t : TypeId} {x : Operand} [CellT P t] (hf : ∀ a, cellsOf (f a) = [f a]) (hx : e.ev x = some (.ipt k (l.map f) i 0)) (hi : i < l.length) : ∀ H', Over H H' → Sta P H' e ⟨dst, .load t x, ty, pos, af, gd⟩ (f l[i]) :=
 fun _ _ => s_loadM hf hx hi
theorem r_loadTm {f : Pl} {i : Nat} {t : TypeId} {x : Operand} [AggT P t 2] (hx : e.ev x = some (.ipt 2 (f.map tmD) i 0)) (hi : i < f.length) : ∀ H', Over H H' → Sta P H' e ⟨dst, .load t x, ty, pos, af, gd⟩ (tmD f[i]) :=
 fun _ _ => s_loadTm hx hi
theorem r_loadC {f : Pl} {i : Nat} {t : TypeId} {x : Operand} [CellT P t] (hx : e.ev x = some (.ipt 2 (f.map tmD) i 0)) (hi : i < f.length) : ∀ H', Over H H' → Sta P H' e ⟨dst, .load t x, ty, pos, af, gd⟩ (I f[i].c) :=
 fun _ _ => s_loadC hx hi
theorem r_loadE {f : Pl} {i : Nat} {t : TypeId} {x : Operand} [CellT P t] (hx : e.ev x = some (.ipt 2 (f.map tmD) i 1)) (hi : i < f.length) : ∀ H', Over H H' → Sta P H' e ⟨dst, .load t x, ty, pos, af, gd⟩ (intsD f[i].e) :=
 fun _ _ => s_loadE hx hi

end

theorem Frz.tup2 {H H' : Heap} {a b a' b' : D} (h1 : Frz H H' a a') (h2 : Frz H H' b b') : Frz H H' (.tup [a, b]) (.tup [a', b']) :=
 .tup rfl fun j x y hx hy => by
  match j, hx, hy with
  | 0, hx, hy => cases hx; cases hy; exact h1
  | 1, hx, hy => cases hx; cases hy; exact h2
  | j + 2, hx, hy => simp at hx

def rowTo (l : List D) (z : D) (k : Nat) : List D := l.take k ++ List.replicate (l.length - k) z

theorem rowTo_len (l : List D) (z : D) {k : Nat} (h : k ≤ l.length) : (rowTo l z k).length = l.length := by simp [rowTo]; omega

theorem rowTo_zero (l : List D) (z : D) : rowTo l z 0 = List.replicate l.length z := by simp [rowTo]

theorem rowTo_all (l : List D) (z : D) : rowTo l z l.length = l := by simp [rowTo]

theorem rowTo_set {l : List D} {z : D} {k : Nat} (h : k < l.length) : setMany (rowTo l z k) k [l[k]] = rowTo l z (k + 1) := by
 apply List.ext_getElem?
 intro j
 rw [setMany_get (by rw [rowTo_len l z (by omega)]; simp; omega)]
 simp only [List.length_singleton]
 unfold rowTo
 by_cases h1 : j = k
 ·subst h1
  rw [if_pos (by omega), Nat.sub_self, List.getElem?_append_left (by simp; omega)]
  simp [h]
 ·rw [if_neg (by omega)]
  by_cases h2 : j < k
  ·rw [List.getElem?_append_left (by simp; omega), List.getElem?_append_left (by simp; omega)]
   simp [h2, show j < k + 1 by omega]
  ·rw [List.getElem?_append_right (by simp; omega), List.getElem?_append_right (by simp; omega)]
   simp only [List.length_take]
   rw [Nat.min_eq_left (by omega), Nat.min_eq_left (by omega)]
   by_cases h3 : j < l.length
   ·rw [List.getElem?_replicate_of_lt (by omega), List.getElem?_replicate_of_lt (by omega)]
   ·rw [List.getElem?_eq_none (by simp; omega), List.getElem?_eq_none (by simp; omega)]

theorem Heap.set_set (H : Heap) (b : Nat) (x y : TypeId × List D) : (H.set b x).set b y = H.set b y := by
 funext c
 simp only [Heap.set]
 split <;> rfl

theorem Heap.set_self (H : Heap) (b : Nat) (x : TypeId × List D) : H.set b x b = some x := by simp [Heap.set]

theorem flat_cells1 {α : Type} {f : α → D} (hf : ∀ a, cellsOf (f a) = [f a]) (l : List α) : (l.map f).flatMap cellsOf = l.map f := by
 induction l with
 | nil => rfl
 | cons a l ih => simp [hf, ih]

theorem flatten_replicate1 (n : Nat) (z : D) : (List.replicate n [z]).flatten = List.replicate n z := by
 induction n with
 | zero => rfl
 | succ n ih => rw [List.replicate_succ, List.flatten_cons, ih]; rfl
end
end Go.Proofs.YtfjmdhemlfafbaaGreat
