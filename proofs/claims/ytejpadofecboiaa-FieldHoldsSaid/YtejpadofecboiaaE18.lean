/-
  Regions whose order is drawn, where one operation in their midst writes: static ones that only reckon may come behind it. No condition.
-/
import Derived.Test.YtejpadofecboiaaE13
namespace Go.Proofs.Ytejpadofecboiaa
open Go.RowKit
set_option linter.unusedVariables false
set_option linter.unusedSimpArgs false

/-- What a static operation may see. -/
def Sees (H : Heap) (free : List Nat) (i : Nat) (H' : Heap) : Prop := i ∈ free ∨ Over H H'

def StaM (C : Ctx) (H : Heap) (free : List Nat) (i : Nat) (e : Env) (o : Oper) (d : D) : Prop :=
  dstOk C.N o.dst = true ∧ o.guard = none ∧ ∀ H', Sees H free i H' → Sta C.P H' (e.mask o) o d

/-- Static operations, in the text's order. -/
def RM (C : Ctx) (H : Heap) (free : List Nat) : Nat → List Oper → Env → (Env → Prop) → Prop
  | _, [], e, K => K e
  | i, o :: rest, e, K => ∃ d, StaM C H free i e o d ∧ RM C H free (i + 1) rest (e.putO o.dst d) K

theorem RM.trace {C : Ctx} {H : Heap} {free : List Nat} : ∀ (n : Nat) (l : List Oper) (e : Env) (K : Env → Prop), RM C H free n l e K →
    ∃ (es : Nat → Env) (ds : Nat → D), es 0 = e ∧ (∀ i o, l[i]? = some o → StaM C H free (n + i) (es i) o (ds i) ∧ es (i + 1) = (es i).putO o.dst (ds i)) ∧ K (es l.length)
  | n, [], e, K, h => ⟨fun _ => e, fun _ => .nil, rfl, fun i o hi => by simp at hi, h⟩
  | n, o :: rest, e, K, ⟨d, hd, hr⟩ => by
    obtain ⟨es, ds, h0, hi, hK⟩ := RM.trace (n + 1) rest _ K hr
    refine ⟨fun i => match i with | 0 => e | i + 1 => es i, fun i => match i with | 0 => d | i + 1 => ds i, rfl, fun i o' ho => ?_, hK⟩
    cases i with
    | zero =>
      simp at ho
      subst ho
      exact ⟨hd, h0⟩
    | succ i =>
      have := hi i o' (by simpa using ho)
      rw [show n + (i + 1) = n + 1 + i by omega]
      exact this

structure InvM (C : Ctx) (H Hn : Heap) (e : Env) (pre : List Oper) (ds : Nat → D) (L : Nat → Prop) (a : Act) (w : World) (Hc : Heap) : Prop where
  size : a.tmps.size = C.N
  defers : a.defers = []
  heap : HOK w Hc
  ext : Ext C.w0 C.H0 w Hc
  ran : ∀ (k : Nat) (p : Oper) (t : Nat), pre[k]? = some p → L k → p.dst = some t → ∃ v, a.tmps[t]? = some v ∧ Rep w Hc v (ds k)
  rest : ∀ (t : Nat) (d : D), e.get t = some d → (∀ (k : Nat) (p : Oper), pre[k]? = some p → p.dst ≠ some t) → ∃ v, a.tmps[t]? = some v ∧ Rep w Hc v d
  made : (L pre.length → Hc = Hn) ∧ (¬ L pre.length → Hc = H)

/-- What an operation sees, as it runs. -/
theorem InvM.see {C : Ctx} {H Hn : Heap} {e : Env} {pre : List Oper} {es : Nat → Env} {ds : Nat → D} {L : Nat → Prop} {a : Act} {w : World} {Hc : Heap} (hi : InvM C H Hn e pre ds L a w Hc)
    (h0 : es 0 = e) (hes : ∀ (i : Nat) (o : Oper), pre[i]? = some o → es (i + 1) = (es i).putO o.dst (ds i)) (hdist : ∀ (i k : Nat) (o p : Oper) (t : Nat), pre[i]? = some o → pre[k]? = some p → o.dst = some t → p.dst = some t → i = k)
    {i : Nat} {o : Oper} (hle : i ≤ pre.length) (hdep : ∀ t ∈ opTmps o, ∀ (k : Nat) (p : Oper), pre[k]? = some p → p.dst = some t → k < i ∧ L k) : Agree a.eval w Hc ((es i).mask o) := by
  have hsee : ∀ t ∈ opTmps o, ∀ d, (es i).get t = some d → ∃ v, a.tmps[t]? = some v ∧ Rep w Hc v d := fun t ht d hd => by
    rcases trace_get h0 hes hdist i hle t d hd with ⟨k, p, hk, hp, hpt, rfl⟩ | ⟨he, hn⟩
    · exact hi.ran k p t hp (hdep t ht k p hp hpt).2 hpt
    · exact hi.rest t d he fun k p hp hpt => hn k p (hdep t ht k p hp hpt).1 hp hpt
  refine ⟨fun x d hx => ?_, fun v => rfl⟩
  cases x with
  | tmp t =>
    have hx' : (es i).get t = some d := Env.only_get _ _ t d hx
    have ht : t ∈ opTmps o := by
      have : ∀ (ts : List Nat) (d : D), ((es i).only ts).get t = some d → t ∈ ts := by
        intro ts
        induction ts with
        | nil => intro d h; simp [Env.only, Env.get] at h
        | cons s ts ih =>
          intro d h
          simp only [Env.only] at h
          split at h
          · rw [Env.get_cons] at h
            split at h
            · rename_i hst; subst hst; simp
            · exact List.mem_cons_of_mem _ (ih d h)
          · exact List.mem_cons_of_mem _ (ih d h)
      exact this _ d hx
    obtain ⟨v, hv, hr⟩ := hsee t ht d hx'
    simpa [Act.eval, Array.getD_eq_getD_getElem?, hv] using hr
  | const v => exact rep_const hx
  | global g => simp [Env.ev] at hx
  | func f =>
    simp only [Env.ev, Option.some.injEq] at hx
    subst hx
    exact RepsA.fn f ⟨rfl, fun j x hx => by simp at hx⟩

/-- A static operation has run. -/
theorem InvM.put {C : Ctx} {H Hn : Heap} {e : Env} {pre : List Oper} {ds : Nat → D} {L : Nat → Prop} {a : Act} {w : World} {Hc : Heap} (hi : InvM C H Hn e pre ds L a w Hc)
    (hdist : ∀ (i k : Nat) (o p : Oper) (t : Nat), pre[i]? = some o → pre[k]? = some p → o.dst = some t → p.dst = some t → i = k) {i : Nat} {o : Oper} (ho : pre[i]? = some o) (hd : dstOk C.N o.dst = true)
    {v : Value} {w' : World} (hr : Rep w' Hc v (ds i)) (hok : HOK w' Hc) (hex : Ext w Hc w' Hc) : InvM C H Hn e pre ds (fun j => L j ∨ j = i) (a.put o.dst v) w' Hc := by
  have hlen : i < pre.length := (List.getElem?_eq_some_iff.1 ho).1
  have hdst : ∀ t, o.dst = some t → t < a.tmps.size := fun t ht => by
    rw [ht] at hd
    rw [hi.size]
    simpa [dstOk, Nat.blt_eq] using hd
  refine ⟨?_, ?_, hok, hi.ext.trans hex, ?_, ?_, ?_⟩
  · cases hd : o.dst with
    | none => exact hi.size
    | some t => simp [Act.put, hi.size]
  · rw [Act.put_defers']; exact hi.defers
  · intro k p t hp hk hpt
    by_cases hki : k = i
    · subst hki
      rw [ho] at hp
      cases hp
      rw [hpt]
      exact ⟨v, put_tmps_self (hdst t hpt), hr⟩
    · obtain ⟨u, hu, hur⟩ := hi.ran k p t hp (hk.resolve_right hki) hpt
      exact ⟨u, put_tmps hu (fun hx => hki (hdist k i p o t hp ho hpt hx)), hur.ext hex⟩
  · intro t d he hn
    obtain ⟨u, hu, hur⟩ := hi.rest t d he hn
    exact ⟨u, put_tmps hu (hn i o ho), hur.ext hex⟩
  · obtain ⟨m1, m2⟩ := hi.made
    exact ⟨fun h => m1 (h.resolve_right (by omega)), fun h => m2 fun h' => h (.inl h')⟩

theorem phaseM {C : Ctx} {H Hn : Heap} {free : List Nat} {e : Env} {pre suf : List Oper} {od : Oper} {es : Nat → Env} {ds : Nat → D} {K : Env → Heap → Prop} {Q : Exit → Act → World → Prop} (hQ : ∀ e H a w, K e H → St C a w e H → Q .normal a w)
    (hok : OrdOk (pre ++ [od] ++ suf) (pre.length + 1) (pre.length + 1)) (hfree : ∀ i, i < pre.length → i ∈ free ∨ ((masks [] (pre ++ [od] ++ suf)).getD pre.length 0).testBit i = true)
    (h0 : es 0 = e) (hes : ∀ (i : Nat) (o : Oper), pre[i]? = some o → StaM C H free i (es i) o (ds i) ∧ es (i + 1) = (es i).putO o.dst (ds i))
    (hdg : od.guard = none) (hdd : od.dst = none) (hdyn : OpD C.P H ((es pre.length).mask od) od fun _ H' => H' = Hn) (hK : RO C (pre ++ [od] ++ suf) suf (es pre.length) Hn K) :
    ∀ (fuel : Nat) (listed : Array Bool) (a : Act) (w : World) (Hc : Heap), listed.size = (pre ++ [od] ++ suf).length → Shut (pre ++ [od] ++ suf) (LA listed) → (∀ j, LA listed j → j < pre.length + 1) →
      ((List.range (pre.length + 1)).filter fun j => !listed.getD j false).length + suf.length ≤ fuel → InvM C H Hn e pre ds (LA listed) a w Hc → wpAny C.P .any (pre ++ [od] ++ suf).toArray Q fuel listed a w := by
  have hpre : ∀ (i : Nat) (o : Oper), pre[i]? = some o → (pre ++ [od] ++ suf)[i]? = some o := fun i o ho => by
    have hlt := (List.getElem?_eq_some_iff.1 ho).1
    rw [List.append_assoc, List.getElem?_append_left hlt]; exact ho
  have hodi : (pre ++ [od] ++ suf)[pre.length]? = some od := by simp
  have hdist : ∀ (i k : Nat) (o p : Oper) (t : Nat), pre[i]? = some o → pre[k]? = some p → o.dst = some t → p.dst = some t → i = k := fun i k o p t ho hp hot hpt => by
    have h1 := (List.getElem?_eq_some_iff.1 ho).1
    have h2 := (List.getElem?_eq_some_iff.1 hp).1
    exact hok.dist i k o p t (by omega) (by omega) (hpre i o ho) (hpre k p hp) hot hpt
  have hes2 : ∀ (i : Nat) (o : Oper), pre[i]? = some o → es (i + 1) = (es i).putO o.dst (ds i) := fun i o h => (hes i o h).2
  have hlen : pre.length + 1 ≤ (pre ++ [od] ++ suf).length := by simp
  have ending : ∀ (fuel : Nat) (listed : Array Bool) (a : Act) (w : World) (Hc : Heap), listed.size = (pre ++ [od] ++ suf).length → (∀ j, j < pre.length + 1 → LA listed j) → (∀ j, LA listed j → j < pre.length + 1) → suf.length ≤ fuel →
      InvM C H Hn e pre ds (LA listed) a w Hc → wpAny C.P .any (pre ++ [od] ++ suf).toArray Q fuel listed a w := fun fuel listed a w Hc hsz hall hbelow hf hinv => by
    have hdrop : (pre ++ [od] ++ suf).drop (pre.length + 1) = suf := by
      rw [show pre.length + 1 = (pre ++ [od]).length by simp, List.drop_left]
    have hHc : Hc = Hn := hinv.made.1 (hall _ (by omega))
    subst hHc
    refine phase2 hok hQ suf _ fuel listed _ _ a w hdrop (Nat.le_refl _) hlen hsz (fun j _ => ⟨hbelow j, hall j⟩) hK ⟨hinv.size, hinv.defers, fun t d hd => ?_, hinv.heap, hinv.ext⟩ hf
    rcases trace_get h0 hes2 hdist pre.length (Nat.le_refl _) t d hd with ⟨k, p, hk, hp, hpt, rfl⟩ | ⟨he, hn⟩
    · exact hinv.ran k p t hp (hall k (by omega)) hpt
    · exact hinv.rest t d he fun k p hp => hn k p (List.getElem?_eq_some_iff.1 hp).1 hp
  intro fuel
  induction fuel with
  | zero =>
    intro listed a w Hc hsz hshut hbelow hcount hinv
    have hall : ∀ j, j < pre.length + 1 → LA listed j := fun j hj => by
      by_cases h : listed.getD j false = true
      · exact h
      · have hm : j ∈ (List.range (pre.length + 1)).filter fun j => !listed.getD j false := List.mem_filter.2 ⟨List.mem_range.2 hj, by simpa using h⟩
        have := List.length_pos_of_mem hm
        omega
    exact ending 0 listed a w Hc hsz hall hbelow (by omega) hinv
  | succ fuel ih =>
    intro listed a w Hc hsz hshut hbelow hcount hinv
    by_cases hall : ∀ j, j < pre.length + 1 → LA listed j
    · exact ending (fuel + 1) listed a w Hc hsz hall hbelow (by
        have : ((List.range (pre.length + 1)).filter fun j => !listed.getD j false) = [] := by
          rw [List.filter_eq_nil_iff]
          intro j hj
          have := hall j (List.mem_range.1 hj)
          unfold LA at this
          simp [this]
        rw [this] at hcount
        simpa using hcount) hinv
    · have hex : ∃ j, j < pre.length + 1 ∧ ¬ LA listed j := by
        by_cases h : ∃ j, j < pre.length + 1 ∧ ¬ LA listed j
        · exact h
        · exact absurd (fun j hj => Classical.byContradiction fun hn => h ⟨j, hj, hn⟩) hall
      obtain ⟨q, ⟨hq, hqn⟩, hqmin⟩ := exists_least (fun j => j < pre.length + 1 ∧ ¬ LA listed j) hex
      have hready : ∀ i ∈ Region.ready .any (pre ++ [od] ++ suf).toArray listed, i < pre.length + 1 ∧ ¬ LA listed i ∧ ∃ o, (pre ++ [od] ++ suf)[i]? = some o ∧ ∀ e ∈ o.after.toList, Region.binds .any e = true → LA listed e.on := by
        intro i hi
        rw [mem_ready] at hi
        obtain ⟨hn, o, ho, ha⟩ := hi
        have ho' : (pre ++ [od] ++ suf)[i]? = some o := by simpa using ho
        have hil := (List.getElem?_eq_some_iff.1 ho').1
        have hni : ¬ LA listed i := fun h => by
          have his : i < listed.size := by omega
          unfold LA at h
          simp [his] at h hn
          rw [h] at hn
          cases hn
        have ha' : ∀ e ∈ o.after.toList, Region.binds .any e = true → LA listed e.on := fun e he hb => ha e (Array.mem_toList_iff.1 he) hb
        refine ⟨?_, hni, o, ho', ha'⟩
        rcases Nat.lt_or_ge i (pre.length + 1) with h | h
        · exact h
        · exact absurd (before_of hshut ho' ha' (hok.suf i o ho' h q (by omega))) hqn
      refine ⟨fun h => ?_, fun i hi => ?_⟩
      · have hqo : (pre ++ [od] ++ suf)[q]? = some ((pre ++ [od] ++ suf)[q]'(by omega)) := by simp
        have : q ∈ Region.ready .any (pre ++ [od] ++ suf).toArray listed := by
          rw [mem_ready]
          refine ⟨?_, (pre ++ [od] ++ suf)[q]'(by omega), by simp, fun e he hb => ?_⟩
          · have hqs : q < listed.size := by omega
            unfold LA at hqn
            simp [hqs] at hqn ⊢
            exact hqn
          · have hlt := hok.lt q _ hqo e (Array.mem_toList_iff.2 he) hb
            refine Classical.byContradiction fun hn => ?_
            have := hqmin e.on ⟨by omega, hn⟩
            omega
        rw [h] at this
        cases this
      · obtain ⟨him, hni, o, ho, hafter⟩ := hready i hi
        have hil : i < listed.size := by omega
        have hshut' : Shut (pre ++ [od] ++ suf) (LA (listed.setIfInBounds i true)) := fun k p hp hk e he hb => by
          by_cases hki : k = i
          · subst hki
            rw [ho] at hp
            cases hp
            exact getD_set_true (hafter e he hb)
          · have hk' : LA listed k := by
              unfold LA at hk ⊢
              rwa [getD_set_ne false (Ne.symm hki)] at hk
            exact getD_set_true (hshut k p hp hk' e he hb)
        have hLA : ∀ j, LA (listed.setIfInBounds i true) j ↔ (LA listed j ∨ j = i) := fun j => by
          unfold LA
          by_cases hji : j = i
          · subst hji
            simp [hil]
          · rw [getD_set_ne false (Ne.symm hji)]
            simp [hji]
        have hbelow' : ∀ j, LA (listed.setIfInBounds i true) j → j < pre.length + 1 := fun j hj => by
          rcases (hLA j).1 hj with h | h
          · exact hbelow j h
          · omega
        have hcnt := count_set (m := pre.length + 1) (listed := listed) him (by omega) (by unfold LA at hni; simpa using hni)
        have next : ∀ a' w' Hc', InvM C H Hn e pre ds (fun j => LA listed j ∨ j = i) a' w' Hc' → wpAny C.P .any (pre ++ [od] ++ suf).toArray Q fuel (listed.setIfInBounds i true) a' w' := fun a' w' Hc' hinv' => by
          refine ih _ a' w' Hc' (by simpa using hsz) hshut' hbelow' (by omega) ?_
          have hfun : LA (listed.setIfInBounds i true) = fun j => LA listed j ∨ j = i := funext fun j => propext (hLA j)
          rw [hfun]
          exact hinv'
        have hdep : ∀ t ∈ opTmps o, ∀ (k : Nat) (p : Oper), pre[k]? = some p → p.dst = some t → k < i ∧ LA listed k := fun t ht k p hp hpt => by
          have hkl := (List.getElem?_eq_some_iff.1 hp).1
          obtain ⟨hki, hbit⟩ := hok.dep i o (by omega) ho t (List.mem_append_left _ ht) k p (by omega) (hpre k p hp) hpt
          exact ⟨hki, before_of hshut ho hafter hbit⟩
        have hagree := hinv.see h0 hes2 hdist (i := i) (o := o) (by omega) hdep
        unfold wpOp
        have hops : (pre ++ [od] ++ suf).toArray[i]? = some o := by simpa using ho
        rw [hops]
        simp only []
        by_cases hip : i < pre.length
        · have hopre : pre[i]? = some o := by
            have h := ho
            rw [List.append_assoc, List.getElem?_append_left hip] at h
            exact h
          obtain ⟨⟨hd, hg, hs⟩, _⟩ := hes i o hopre
          rw [if_pos (by simp [Region.wanted, hg])]
          refine .inl ?_
          have hsee : Sees H free i Hc := by
            rcases hfree i hip with h | h
            · exact .inl h
            · refine .inr ?_
              have hnl : ¬ LA listed pre.length := fun hl => by
                have := before_of (ops := pre ++ [od] ++ suf) hshut hodi (fun e he hb => hshut _ _ hodi hl e he hb) h
                exact hni this
              rw [hinv.made.2 hnl]
              exact Over.refl _
          exact wp_of_opTo ((hs Hc hsee).go a.eval w hagree hinv.heap) fun v w' ⟨hr, hok', hex⟩ => next _ _ Hc (hinv.put hdist hopre hd hr hok' hex)
        · have hieq : i = pre.length := by omega
          subst hieq
          have hoe : o = od := by
            rw [hodi] at ho
            exact (Option.some.inj ho).symm
          subst hoe
          have hHc : Hc = H := hinv.made.2 hni
          subst hHc
          rw [if_pos (by simp [Region.wanted, hdg])]
          refine .inl ?_
          refine wp_of_opTo (hdyn.go a.eval w hagree hinv.heap) fun v w' ⟨d, H', hH', hr, hok', hex⟩ => ?_
          subst hH'
          rw [hdd]
          exact next a w' H' ⟨hinv.size, hinv.defers, hok', hinv.ext.trans hex, fun k p t hp hk hpt => by
            have hkl := (List.getElem?_eq_some_iff.1 hp).1
            obtain ⟨u, hu, hur⟩ := hinv.ran k p t hp (hk.resolve_right (by omega)) hpt
            exact ⟨u, hu, hur.ext hex⟩, fun t d he hn => by
            obtain ⟨u, hu, hur⟩ := hinv.rest t d he hn
            exact ⟨u, hu, hur.ext hex⟩, ⟨fun _ => rfl, fun h => absurd (.inr rfl) h⟩⟩

def freeOk (l : List Oper) (n : Nat) (free : List Nat) : Bool := (List.range n).all fun i => free.contains i || ((masks [] l).getD n 0).testBit i

/-- A region whose order is drawn: n static ones, then one that writes, then the rest. -/
theorem DW.drawM {C : Ctx} {e : Env} {H : Heap} {Q : Post} {id : Nat} {l : List Oper} (n : Nat) (free : List Nat) (Hn : Heap) {od : Oper} (hm : C.P.follows .mixedOrders = true) (hok : ordOk l (n + 1) (n + 1) = true) (hf : freeOk l n free = true) (hod : l[n]? = some od) (hdg : od.guard = none) (hdd : od.dst = none)
    (h : RM C H free 0 (l.take n) e fun ef => OpD C.P H (ef.mask od) od (fun _ H' => H' = Hn) ∧ RO C l (l.drop (n + 1)) ef Hn fun e' H' => Q .normal e' H') : DW C (.region id l.toArray true) e H Q := by
  have hn : n < l.length := (List.getElem?_eq_some_iff.1 hod).1
  have hl : l.take n ++ [od] ++ l.drop (n + 1) = l := by
    have h1 : l[n] = od := by
      rw [List.getElem?_eq_getElem hn] at hod
      exact Option.some.inj hod
    rw [← h1, List.take_append_getElem hn, List.take_append_drop]
  have hlen : (l.take n).length = n := by simp; omega
  refine .mk fun a w hs => wp_region_any hm ?_
  obtain ⟨es, ds, h0, hes, hK1, hK2⟩ := RM.trace 0 (l.take n) e _ h
  have hnone : ∀ j, ¬ LA (Array.replicate l.toArray.size false) j := fun j hj => by
    unfold LA at hj
    rw [Array.getD_eq_getD_getElem?, Array.getElem?_replicate] at hj
    split at hj <;> simp at hj
  have key := phaseM (C := C) (H := H) (Hn := Hn) (free := free) (e := e) (pre := l.take n) (suf := l.drop (n + 1)) (od := od) (es := es) (ds := ds) (K := fun e' H' => Q .normal e' H') (Q := lift C Q) (fun e' H' a' w' hk hs' => ⟨e', H', hk, hs'⟩)
    (by rw [hl, hlen]; exact ordOk_spec hok) (by
      rw [hl, hlen]
      intro i hi
      have := List.all_eq_true.1 hf i (List.mem_range.2 hi)
      simpa using this) h0 (fun i o ho => by simpa using hes i o ho) hdg hdd hK1 (by rw [hl]; exact hK2)
  rw [hl] at key
  refine key _ _ a _ H (by simp) (fun i o _ hi => absurd hi (hnone i)) (fun j hj => absurd hj (hnone j)) ?_ ?_
  · have := List.length_filter_le (fun j => !(Array.replicate l.toArray.size false).getD j false) (List.range ((l.take n).length + 1))
    rw [List.length_range] at this
    simp only [List.length_drop, List.size_toArray] at this ⊢
    omega
  · have hex : Ext w H { w with drawn := w.drawn + 1 } H := Ext.drew w H _
    exact ⟨hs.size, hs.defers, hs.heap.drew _, hs.ext.trans hex, fun k p t hp hk => absurd hk (hnone k), fun t d he _ => by
      obtain ⟨v, hv, hr⟩ := hs.env t d he
      exact ⟨v, hv, hr.ext hex⟩, ⟨fun h => absurd h (hnone _), fun _ => rfl⟩⟩

theorem RM.sta {C : Ctx} {H : Heap} {free : List Nat} {i : Nat} {rest : List Oper} {e : Env} {K : Env → Prop} {dst : Option Tmp} {op : Op} {ty : TypeId} {pos : String} {af : Array Edge} {d : D} (hi : free.contains i = false) (h : ∀ H', Over H H' → Sta C.P H' (e.mask ⟨dst, op, ty, pos, af, none⟩) ⟨dst, op, ty, pos, af, none⟩ d)
    (hd : dstOk C.N dst = true) (hk : RM C H free (i + 1) rest (e.putO dst d) K) : RM C H free i (⟨dst, op, ty, pos, af, none⟩ :: rest) e K :=
  ⟨d, ⟨hd, rfl, fun H' hs => h H' (hs.resolve_left (by simpa using hi))⟩, hk⟩

theorem RM.free {C : Ctx} {H : Heap} {free : List Nat} {i : Nat} {rest : List Oper} {e : Env} {K : Env → Prop} {dst : Option Tmp} {op : Op} {ty : TypeId} {pos : String} {af : Array Edge} {d : D} (h : ∀ H', Sta C.P H' (e.mask ⟨dst, op, ty, pos, af, none⟩) ⟨dst, op, ty, pos, af, none⟩ d)
    (hd : dstOk C.N dst = true) (hk : RM C H free (i + 1) rest (e.putO dst d) K) : RM C H free i (⟨dst, op, ty, pos, af, none⟩ :: rest) e K :=
  ⟨d, ⟨hd, rfl, fun H' _ => h H'⟩, hk⟩

theorem RM.nil {C : Ctx} {H : Heap} {free : List Nat} {i : Nat} {e : Env} {K : Env → Prop} (h : K e) : RM C H free i [] e K := h

end Go.Proofs.Ytejpadofecboiaa
