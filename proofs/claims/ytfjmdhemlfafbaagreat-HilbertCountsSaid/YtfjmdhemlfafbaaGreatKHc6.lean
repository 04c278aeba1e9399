/-
  Two variables made in a drawn region, the others static: for use by hand. No condition.
-/
import Derived.Test.YtfjmdhemlfafbaaGreatKHc4
import Derived.Test.YtfjmdhemlfafbaaGreatKHc5
set_option linter.unusedVariables false
set_option linter.unusedSimpArgs false

namespace Go.Proofs.YtfjmdhemlfafbaaGreat
section
open Go.RowKit

structure Two2 where
 s1 : Nat
 T1 : TypeId
 z1 : List D
 s2 : Nat
 T2 : TypeId
 z2 : List D

def Md (A : Two2) (H : Heap) (n : Nat) (L : Nat → Prop) (tmps : Array Value) (Hc : Heap) : Prop :=
 (¬ L n ∧ ¬ L (n + 1) ∧ Hc = H) ∨
 (L n ∧ ¬ L (n + 1) ∧ ∃ g : Nat, tmps[A.s1]? = some (Value.pointer (some ⟨g, 0, none⟩)) ∧ H g = none ∧ Hc = H.set g (A.T1, A.z1)) ∨
 (¬ L n ∧ L (n + 1) ∧ ∃ g : Nat, tmps[A.s2]? = some (Value.pointer (some ⟨g, 0, none⟩)) ∧ H g = none ∧ Hc = H.set g (A.T2, A.z2)) ∨
 (L n ∧ L (n + 1) ∧ ∃ g g' : Nat, tmps[A.s1]? = some (Value.pointer (some ⟨g, 0, none⟩)) ∧ tmps[A.s2]? = some (Value.pointer (some ⟨g', 0, none⟩)) ∧ H g = none ∧ H g' = none ∧ g ≠ g' ∧ Hc = (H.set g (A.T1, A.z1)).set g' (A.T2, A.z2))

structure Inv2 (C : Ctx) (H : Heap) (e : Env) (pre : List Oper) (ds : Nat → D) (al : Two2) (L : Nat → Prop) (a : Act) (w : World) (Hc : Heap) : Prop where
 size : a.tmps.size = C.N
 defers : Marks C.w0 a.defers w
 heap : HOK w Hc
 ext : Ext C.w0 C.H0 w Hc
 over : Over H Hc
 ran : ∀ (k : Nat) (p : Oper) (t : Nat), pre[k]? = some p → L k → p.dst = some t → ∃ v, a.tmps[t]? = some v ∧ Rep w Hc v (ds k)
 rest : ∀ (t : Nat) (d : D), e.get t = some d → (∀ (k : Nat) (p : Oper), pre[k]? = some p → p.dst ≠ some t) → al.s1 ≠ t → al.s2 ≠ t → ∃ v, a.tmps[t]? = some v ∧ Rep w Hc v d
 made : Md al H pre.length L a.tmps Hc

theorem Inv2.step {C : Ctx} {H : Heap} {e : Env} {pre : List Oper} {ops : List Oper} {es : Nat → Env} {ds : Nat → D} {al : Two2} {L : Nat → Prop} {a : Act} {w : World} {Hc : Heap} (hi : Inv2 C H e pre ds al L a w Hc)
  (h0 : es 0 = e) (hes : ∀ (i : Nat) (o : Oper), pre[i]? = some o → es (i + 1) = (es i).putO o.dst (ds i)) (hpre : ∀ (i : Nat) (o : Oper), pre[i]? = some o → ops[i]? = some o)
  (hdist : ∀ (i k : Nat) (o p : Oper) (t : Nat), pre[i]? = some o → pre[k]? = some p → o.dst = some t → p.dst = some t → i = k)
  (hals : ∀ (i : Nat) (o : Oper), pre[i]? = some o → (al.s1 ∉ opTmps o ++ guardTmp ops o ∧ o.dst ≠ some al.s1) ∧ (al.s2 ∉ opTmps o ++ guardTmp ops o ∧ o.dst ≠ some al.s2))
  {i : Nat} {o : Oper} (ho : pre[i]? = some o) (hst : StaAt C H ops (es i) o (ds i)) (hsel : ∀ cs b, o.op ≠ .select cs b)
  (hdep : ∀ t ∈ opTmps o ++ guardTmp ops o, ∀ (k : Nat) (p : Oper), pre[k]? = some p → p.dst = some t → k < i ∧ L k)
  {Q : Exit → Act → World → Prop} {K : Act → World → Prop} (hK : ∀ a' w', Inv2 C H e pre ds al (fun j => L j ∨ j = i) a' w' Hc → K a' w') : wpOp C.P ops.toArray Q i K a w := by
 have hlen : i < pre.length := (List.getElem?_eq_some_iff.1 ho).1
 -- what the operation sees
 have hsee : ∀ t ∈ opTmps o ++ guardTmp ops o, ∀ d, (es i).get t = some d → ∃ v, a.tmps[t]? = some v ∧ Rep w Hc v d := fun t ht d hd => by
  rcases trace_get h0 hes hdist i (by omega) t d hd with ⟨k, p, hk, hp, hpt, rfl⟩ | ⟨he, hn⟩
  ·exact hi.ran k p t hp (hdep t ht k p hp hpt).2 hpt
  ·refine hi.rest t d he (fun k p hp hpt => ?_) (fun hst => ?_) fun hst => ?_
   ·exact hn k p (hdep t ht k p hp hpt).1 hp hpt
   ·subst hst; exact (hals i o ho).1.1 ht
   ·subst hst; exact (hals i o ho).2.1 ht
 have hagree : ∃ ρ : Operand → Value, Agree ρ w Hc ((es i).mask o) ∧ ∀ x ∈ o.op.operands, ρ x = a.eval x := by
  refine ⟨a.eval, ⟨fun x d hx => ?_, fun v => rfl⟩, fun x _ => rfl⟩
  cases x with
  | tmp t =>
   have hx' : (es i).get t = some d := Env.only_get _ _ t d hx
   have ht : t ∈ opTmps o := by
    have : ∀ (ts : List Nat) (d : D), ((es i).only ts).get t = some d → t ∈ ts := by
     intro ts
     induction ts with
     | nil => intro d h; simp [Env.only, Env.get] at h
     | cons s ts ih =>
      intro d h
      simp only [Env.only] at h
      split at h
      ·rw [Env.get_cons] at h
       split at h
       ·rename_i hst; subst hst; simp
       ·exact List.mem_cons_of_mem _ (ih d h)
      ·exact List.mem_cons_of_mem _ (ih d h)
    exact this _ d hx
   obtain ⟨v, hv, hr⟩ := hsee t (List.mem_append_left _ ht) d hx'
   simpa [Act.eval, Array.getD_eq_getD_getElem?, hv] using hr
  | const v => exact rep_const hx
  | global g => simp [Env.ev] at hx
  | func f =>
   simp only [Env.ev, Option.some.injEq] at hx
   subst hx
   exact RepsA.fn f ⟨rfl, fun j x hx => by simp at hx⟩
 have hafter : ∀ (v : Value) (w' : World), Rep w' Hc v (ds i) → HOK w' Hc → Ext w Hc w' Hc → Inv2 C H e pre ds al (fun j => L j ∨ j = i) (a.put o.dst v) w' Hc := by
  intro v w' hr hok hex
  have hdst : ∀ t, o.dst = some t → t < a.tmps.size := fun t ht => by
   have := hst.1
   rw [ht] at this
   rw [hi.size]
   simpa [dstOk, Nat.blt_eq] using this
  refine ⟨?_, ?_, hok, hi.ext.trans hex, hi.over, ?_, ?_, ?_⟩
  ·cases hd : o.dst with
   | none => exact hi.size
   | some t => simp [Act.put, hi.size]
  ·rw [Act.put_defers']; exact hi.defers.ext hi.heap hex
  ·intro k p t hp hk hpt
   by_cases hki : k = i
   ·subst hki
    rw [ho] at hp
    cases hp
    rw [hpt]
    exact ⟨v, put_tmps_self (hdst t hpt), hr⟩
   ·have hkL : L k := hk.resolve_right hki
    obtain ⟨u, hu, hur⟩ := hi.ran k p t hp hkL hpt
    exact ⟨u, put_tmps hu (fun hx => hki (hdist k i p o t hp ho hpt hx)), hur.ext hex⟩
  ·intro t d he hn hs hs2
   obtain ⟨u, hu, hur⟩ := hi.rest t d he hn hs hs2
   exact ⟨u, put_tmps hu (hn i o ho), hur.ext hex⟩
  ·have hL : ∀ j, pre.length ≤ j → ((L j ∨ j = i) ↔ L j) := fun j hj => ⟨fun h => h.resolve_right (by omega), .inl⟩
   have e1 := hL pre.length (Nat.le_refl _)
   have e2 := hL (pre.length + 1) (by omega)
   unfold Md
   dsimp only
   rw [e1, e2]
   rcases hi.made with h | ⟨h1, h2, g, h3, h4, h5⟩ | ⟨h1, h2, g, h3, h4, h5⟩ | ⟨h1, h2, g, g', h3, h4, h5, h6, h7, h8⟩
   ·exact .inl h
   ·exact .inr (.inl ⟨h1, h2, g, put_tmps h3 (hals i o ho).1.2, h4, h5⟩)
   ·exact .inr (.inr (.inl ⟨h1, h2, g, put_tmps h3 (hals i o ho).2.2, h4, h5⟩))
   ·exact .inr (.inr (.inr ⟨h1, h2, g, g', put_tmps h3 (hals i o ho).1.2, put_tmps h4 (hals i o ho).2.2, h5, h6, h7, h8⟩))
 obtain ⟨hdok, hg⟩ := hst
 unfold wpOp
 have hops : ops.toArray[i]? = some o := by simpa using hpre i o ho
 rw [hops]
 simp only []
 have yes : (∀ H', Over H H' → Sta C.P H' ((es i).mask o) o (ds i)) → o.wp C.P a w K Q := fun hs => by
  obtain ⟨ρ, hag, hρ⟩ := hagree
  have h1 := ((hs Hc hi.over).go ρ w hag hi.heap).congr hsel hρ
  exact wp_of_opTo h1 fun v w' ⟨hr, hok, hex⟩ => hK _ _ (hafter v w' hr hok hex)
 have no : ds i = .tup [] → K (a.put o.dst undef) w := fun hd => by
  refine hK _ _ (hafter undef w ?_ hi.heap (.refl _ _))
  rw [hd]
  exact RepsA.tup (vs := #[]) (ds := []) ⟨rfl, fun j x hx => by simp at hx⟩
 unfold GuardIs at hg
 cases hgu : o.guard with
 | none =>
  rw [hgu] at hg
  rw [if_pos (by simp [Region.wanted, hgu])]
  exact .inl (yes hg)
 | some jw =>
  obtain ⟨j, want⟩ := jw
  rw [hgu] at hg
  obtain ⟨b, hb, hy, hn⟩ := hg
  have hyield : yielded ops.toArray a.tmps j = b := by
   unfold guardD at hb
   unfold yielded
   simp only [List.getElem?_toArray]
   cases hj : (ops[j]?).bind (·.dst) with
   | none => rw [hj] at hb; cases hb
   | some t =>
    rw [hj] at hb
    simp only [Option.bind_some]
    have ht : t ∈ opTmps o ++ guardTmp ops o := List.mem_append_right _ (by simp [guardTmp, hgu, hj])
    simp only at hb
    cases hx : (es i).get t with
    | none => rw [hx] at hb; cases hb
    | some d =>
     obtain ⟨v, hv, hr⟩ := hsee t ht d hx
     rw [hx] at hb
     rw [hv]
     split at hb
     ·rename_i c hc
      cases hc
      rw [rep_bool hr]
      exact Option.some.inj hb
     ·rename_i hc
      cases hc
      obtain ⟨vs, rfl, _⟩ := rep_tup hr
      exact Option.some.inj hb
     ·cases hb
  by_cases hbw : b = some want
  ·rw [if_pos (by simp only [Region.wanted, hgu, hyield, hbw]; exact beq_self_eq_true _)]
   exact .inl (yes (hy hbw))
  ·rw [if_neg (by simp only [Region.wanted, hgu, hyield]; intro hx; exact hbw (by simpa using hx))]
   exact no (hn hbw)
end
section
open Go.RowKit

def ordX2 (ops : List Oper) (st free : List Nat) (c : Nat) : Bool :=
 let ms := masks [] ops
 let before (i j : Nat) : Bool := (ms.getD i 0).testBit j
 (ops.zipIdx.all fun (o, i) => o.after.toList.all fun e => !Region.binds .any e || Nat.blt e.on i) &&
 (ops.zipIdx.all fun (o, i) => (opTmps o ++ guardTmp ops o).all fun t => ops.zipIdx.all fun (p, k) => p.dst != some t || (Nat.blt k i && before i k && (st.contains k || !st.contains i)) || (!st.contains k && Nat.blt i k && before k i)) &&
 (ops.zipIdx.all fun (o, i) => o.dst == none || ops.zipIdx.all fun (p, k) => Nat.beq k i || p.dst != o.dst) &&
 (ops.zipIdx.all fun (o, i) => (List.range ops.length).all fun j => ((Nat.blt i c || st.contains i) || st.contains j || !Nat.blt j i || before i j) && ((Nat.blt i c || st.contains i) || !st.contains j || free.contains j || before i j)) &&
 ops.all fun o => match o.op with | .select .. => false | _ => true

structure OrdX2 (ops : List Oper) (st free : List Nat) (c : Nat) : Prop where
 lt : ∀ (i : Nat) (o : Oper), ops[i]? = some o → ∀ e ∈ o.after.toList, Region.binds .any e = true → e.on < i
 dep : ∀ (i : Nat) (o : Oper), ops[i]? = some o → ∀ t ∈ opTmps o ++ guardTmp ops o, ∀ (k : Nat) (p : Oper), ops[k]? = some p → p.dst = some t → (k < i ∧ ((masks [] ops).getD i 0).testBit k = true ∧ (i ∈ st → k ∈ st)) ∨ (k ∉ st ∧ i < k ∧ ((masks [] ops).getD k 0).testBit i = true)
 dist : ∀ (i k : Nat) (o p : Oper) (t : Nat), ops[i]? = some o → ops[k]? = some p → o.dst = some t → p.dst = some t → i = k
 chain : ∀ (i j : Nat), i < ops.length → c ≤ i → j < i → i ∉ st → j ∉ st → ((masks [] ops).getD i 0).testBit j = true
 nfree : ∀ (i j : Nat), i < ops.length → c ≤ i → j < ops.length → i ∉ st → j ∈ st → j ∉ free → ((masks [] ops).getD i 0).testBit j = true
 sel : ∀ (i : Nat) (o : Oper), ops[i]? = some o → ∀ cs b, o.op ≠ .select cs b

theorem ordX2_spec {ops : List Oper} {st free : List Nat} {c : Nat} (h : ordX2 ops st free c = true) : OrdX2 ops st free c := by
 unfold ordX2 at h
 simp only [Bool.and_eq_true] at h
 obtain ⟨⟨⟨⟨h1, h2⟩, h3⟩, h4⟩, h5⟩ := h
 refine ⟨fun i o ho e he hb => ?_, fun i o ho t ht k p hp hpt => ?_, fun i k o p t ho hp hot hpt => ?_, fun i j hi hc hj hi2 hj2 => ?_, fun i j hi hc hj hi2 hj2 hj3 => ?_, fun i o ho cs b hop => ?_⟩
 ·have := zipIdx_all h1 i o ho
  simp only at this
  have := List.all_eq_true.1 this e he
  simp only [hb, Bool.not_true, Bool.false_or] at this
  simpa [Nat.blt_eq] using this
 ·have h := zipIdx_all h2 i o ho
  simp only at h
  have h := List.all_eq_true.1 h t ht
  have h := zipIdx_all h k p hp
  simp only [hpt, Bool.or_eq_true, Bool.and_eq_true] at h
  rcases h with (h | ⟨⟨ha, hb⟩, hc⟩) | ⟨⟨ha, hb⟩, hc⟩
  ·simp at h
  ·refine .inl ⟨by simpa [Nat.blt_eq] using ha, hb, fun hi => ?_⟩
   rcases hc with hc | hc
   ·simpa using hc
   ·simp [hi] at hc
  ·exact .inr ⟨by simpa using ha, by simpa [Nat.blt_eq] using hb, hc⟩
 ·have h := zipIdx_all h3 i o ho
  simp only [hot, Bool.or_eq_true] at h
  rcases h with h | h
  ·simp at h
  ·have h := zipIdx_all h k p hp
   simp only [hpt, Bool.or_eq_true] at h
   rcases h with h | h
   ·exact (Nat.eq_of_beq_eq_true h).symm
   ·simp at h
 ·have ho : ops[i]? = some ops[i] := by simp
  have h := zipIdx_all h4 i _ ho
  simp only at h
  have h := List.all_eq_true.1 h j (List.mem_range.2 (show j < ops.length by omega))
  simp only [Bool.and_eq_true, Bool.or_eq_true] at h
  rcases h.1 with (((h | h) | h) | h) | h
  ·have : i < c := by simpa [Nat.blt_eq] using h
   omega
  ·exact absurd (by simpa using h) hi2
  ·exact absurd (by simpa using h) hj2
  ·have hlt : Nat.blt j i = true := by rw [Nat.blt_eq]; exact hj
   rw [hlt] at h
   simp at h
  ·exact h
 ·have ho : ops[i]? = some ops[i] := by simp
  have h := zipIdx_all h4 i _ ho
  simp only at h
  have h := List.all_eq_true.1 h j (List.mem_range.2 (show j < ops.length by omega))
  simp only [Bool.and_eq_true, Bool.or_eq_true] at h
  rcases h.2 with (((h | h) | h) | h) | h
  ·have : i < c := by simpa [Nat.blt_eq] using h
   omega
  ·exact absurd (by simpa using h) hi2
  ·simp [hj2] at h
  ·exact absurd (by simpa using h) hj3
  ·exact h
 ·have h := List.all_eq_true.1 h5 o (List.mem_of_getElem? ho)
  rw [hop] at h
  cases h

structure InvX2 (C : Ctx) (c m0 : Nat) (H Hs : Heap) (ops : List Oper) (st : List Nat) (es : Nat → Env) (ds : Nat → D) (K : Env → Heap → Prop) (L : Nat → Prop) (a : Act) (w : World) : Prop where
 size : a.tmps.size = C.N
 defers : Marks C.w0 a.defers w
 rest : ∃ (Hc : Heap) (ed : Env) (m : Nat), HOK w Hc ∧ Ext C.w0 C.H0 w Hc ∧ Over Hs Hc ∧ ((m = m0 → Over H Hc) ∧ m ≤ (pickD ops st).length ∧ m0 ≤ m ∧ ∀ i, i ∉ st → i < c → i < ops.length → L i) ∧
  (∀ (t : Nat) (d : D), ed.get t = some d → (∀ i p, (p, i) ∈ pickS ops st → p.dst = some t → L i) → ∃ v, a.tmps[t]? = some v ∧ Rep w Hc v d) ∧
  (∀ (k : Nat) (x : Oper × Nat) (t : Nat), (pickS ops st)[k]? = some x → x.1.dst = some t → ed.get t = some (ds k)) ∧
  (∀ (k t : Nat) (d : D), k ≤ (pickS ops st).length → (es k).get t = some d → (∀ (j : Nat) (x : Oper × Nat), (pickS ops st)[j]? = some x → x.1.dst = some t → j < k) → (∀ x ∈ pickD ops st, x.1.dst = some t → ¬ L x.2) → ed.get t = some d) ∧
  (∀ (j : Nat) (x : Oper × Nat), (pickD ops st)[j]? = some x → (L x.2 ↔ j < m)) ∧ RY C Hs ops ((pickD ops st).drop m) ed Hc K

theorem phaseX2 {C : Ctx} {c m0 : Nat} {H Hs : Heap} {free st : List Nat} {e : Env} {ops : List Oper} {es : Nat → Env} {ds : Nat → D} {K : Env → Heap → Prop} {Q : Exit → Act → World → Prop} (hQ : ∀ e H a w, K e H → St C a w e H → Q .normal a w) (hHs : Over Hs H)
  (hok : OrdX2 ops st free c) (hm0 : ∀ (j : Nat) (x : Oper × Nat), (pickD ops st)[j]? = some x → m0 ≤ j → c ≤ x.2) (h0 : es 0 = e) (hes : ∀ k x, (pickS ops st)[k]? = some x → StaX C H Hs free ops (es k) x (ds k) ∧ es (k + 1) = (es k).putO x.1.dst (ds k)) :
  ∀ (fuel : Nat) (listed : Array Bool) (a : Act) (w : World), listed.size = ops.length → Shut ops (LA listed) → ((List.range ops.length).filter fun j => !listed.getD j false).length ≤ fuel → InvX2 C c m0 H Hs ops st es ds K (LA listed) a w → wpAny C.P .any ops.toArray Q fuel listed a w := by
 have ending : ∀ (listed : Array Bool) (a : Act) (w : World), (∀ j, j < ops.length → LA listed j) → InvX2 C c m0 H Hs ops st es ds K (LA listed) a w → Q .normal a w := fun listed a w hall ⟨hsz, hdf, Hc, ed, m, i1, i2, i3, ⟨i4, _⟩, i5, i6, i7, i8, i9⟩ => by
  have hm : (pickD ops st).drop m = [] := by
   rw [List.drop_eq_nil_iff]
   refine Classical.byContradiction fun hn => ?_
   have hml : m < (pickD ops st).length := by omega
   have hx : (pickD ops st)[m]? = some (pickD ops st)[m] := by simp
   have hmem := pickD_mem.1 (List.mem_of_getElem? hx)
   have := (i8 m _ hx).1 (hall _ (List.getElem?_eq_some_iff.1 hmem.1).1)
   omega
  rw [hm] at i9
  refine hQ ed Hc a w i9 ⟨hsz, hdf, fun t d hd => i5 t d hd fun i p hp _ => ?_, i1, i2⟩
  exact hall i (List.getElem?_eq_some_iff.1 (pickS_mem.1 hp).1).1
 have ready_none : ∀ (listed : Array Bool), listed.size = ops.length → Region.ready .any ops.toArray listed = [] → ∀ j, j < ops.length → LA listed j := fun listed hsz hr => by
  refine fun j hj => Classical.byContradiction fun hn => ?_
  obtain ⟨q, ⟨hq, hqn⟩, hqmin⟩ := exists_least (fun j => j < ops.length ∧ ¬ LA listed j) ⟨j, hj, hn⟩
  have hqo : ops[q]? = some ops[q] := by simp
  have : q ∈ Region.ready .any ops.toArray listed := by
   rw [mem_ready]
   refine ⟨?_, ops[q], by simp, fun e he hb => ?_⟩
   ·have hqs : q < listed.size := by omega
    unfold LA at hqn
    simp [hqs] at hqn ⊢
    exact hqn
   ·have hlt := hok.lt q _ hqo e (Array.mem_toList_iff.2 he) hb
    refine Classical.byContradiction fun hn => ?_
    have := hqmin e.on ⟨by omega, hn⟩
    omega
  rw [hr] at this
  cases this
 intro fuel
 induction fuel with
 | zero =>
  intro listed a w hsz hshut hcount hinv
  have hall : ∀ j, j < ops.length → LA listed j := fun j hj => by
   by_cases h : listed.getD j false = true
   ·exact h
   ·have hm : j ∈ (List.range ops.length).filter fun j => !listed.getD j false := List.mem_filter.2 ⟨List.mem_range.2 hj, by simpa using h⟩
    have := List.length_pos_of_mem hm
    omega
  refine ⟨?_, ending listed a w hall hinv⟩
  rw [List.eq_nil_iff_forall_not_mem]
  intro j hj
  rw [mem_ready] at hj
  obtain ⟨hn, o, ho, _⟩ := hj
  have hlt : j < ops.length := by
   have := (Array.getElem?_eq_some_iff.1 ho).1
   simpa using this
  have hla := hall j hlt
  have hjs : j < listed.size := by omega
  unfold LA at hla
  simp [hjs] at hla hn
  rw [hla] at hn
  cases hn
 | succ fuel ih =>
  intro listed a w hsz hshut hcount hinv
  refine ⟨fun hr => ending listed a w (ready_none listed hsz hr) hinv, fun i hi => ?_⟩
  rw [mem_ready] at hi
  obtain ⟨hn, o, ho, ha⟩ := hi
  have ho' : ops[i]? = some o := by simpa using ho
  have hil := (List.getElem?_eq_some_iff.1 ho').1
  have his : i < listed.size := by omega
  have hni : ¬ LA listed i := fun h => by
   unfold LA at h
   simp [his] at h hn
   rw [h] at hn
   cases hn
  have hafter : ∀ e ∈ o.after.toList, Region.binds .any e = true → LA listed e.on := fun e he hb => ha e (Array.mem_toList_iff.1 he) hb
  have hshut' : Shut ops (LA (listed.setIfInBounds i true)) := fun k p hp hk e he hb => by
   by_cases hki : k = i
   ·subst hki
    rw [ho'] at hp
    cases hp
    exact getD_set_true (hafter e he hb)
   ·have hk' : LA listed k := by
     unfold LA at hk ⊢
     rwa [getD_set_ne false (Ne.symm hki)] at hk
    exact getD_set_true (hshut k p hp hk' e he hb)
  have hLA : ∀ j, LA (listed.setIfInBounds i true) j ↔ (LA listed j ∨ j = i) := fun j => by
   unfold LA
   by_cases hji : j = i
   ·subst hji
    simp [his]
   ·rw [getD_set_ne false (Ne.symm hji)]
    simp [hji]
  have hcnt := count_set (m := ops.length) (listed := listed) hil (by omega) (by unfold LA at hni; simpa using hni)
  have next : ∀ a' w', InvX2 C c m0 H Hs ops st es ds K (fun j => LA listed j ∨ j = i) a' w' → wpAny C.P .any ops.toArray Q fuel (listed.setIfInBounds i true) a' w' := fun a' w' hinv' => by
   refine ih _ a' w' (by simpa using hsz) hshut' (by omega) ?_
   have hfun : LA (listed.setIfInBounds i true) = fun j => LA listed j ∨ j = i := funext fun j => propext (hLA j)
   rw [hfun]
   exact hinv'
  have bef : ∀ k, ((masks [] ops).getD i 0).testBit k = true → LA listed k := fun k hk => before_of hshut ho' hafter hk
  obtain ⟨hsz2, hdf, Hc, ed, m, i1, i2, i3, ⟨i4, i4m, i4n, i4c⟩, i5, i6, i7, i8, i9⟩ := hinv
  have hdst : dstOk C.N o.dst = true → ∀ t, o.dst = some t → t < a.tmps.size := fun hd t ht => by
   rw [ht] at hd
   rw [hsz2]
   simpa [dstOk, Nat.blt_eq] using hd
  unfold wpOp
  rw [ho]
  simp only []
  by_cases hst : i ∈ st
  ·-- a static one
   obtain ⟨k, hkl, hk⟩ := List.mem_iff_getElem.1 (pickS_mem.2 ⟨ho', hst⟩)
   have hk' : (pickS ops st)[k]? = some (o, i) := by rw [List.getElem?_eq_getElem hkl, hk]
   obtain ⟨⟨hd, hg⟩, _⟩ := hes k _ hk'
   have hread : ∀ t ∈ opTmps o ++ guardTmp ops o, ∀ d, (es k).get t = some d → ∃ v, a.tmps[t]? = some v ∧ Rep w Hc v d := fun t ht d hdt => by
    have hw := hok.dep i o ho' t ht
    refine i5 t d (i7 k t d (by omega) hdt (fun j x hx hxt => ?_) fun x hx hxt => ?_) fun q p hp hpt => ?_
    ·obtain ⟨x1, x2⟩ := x
     have hm := pickS_mem.1 (List.mem_of_getElem? hx)
     have := ((hw x2 x1 hm.1 hxt).resolve_right fun h => h.1 hm.2).1
     exact (sorted_lt (pickS_sorted ops st) hx hk').1 this
    ·obtain ⟨x1, x2⟩ := x
     have hm := pickD_mem.1 hx
     rcases hw x2 x1 hm.1 hxt with h | h
     ·exact absurd (h.2.2 hst) hm.2
     ·intro hl
      exact hni (before_of (ops := ops) hshut hm.1 (fun e he hb => hshut _ _ hm.1 hl e he hb) h.2.2)
    ·exact bef q ((hw q p (pickS_mem.1 hp).1 hpt).resolve_right fun h => h.1 (pickS_mem.1 hp).2).2.1
   have hag := agree_mask (a := a) (w := w) (H := Hc) (e := es k) (o := o) fun t ht => hread t (List.mem_append_left _ ht)
   have hsee : SeesX H Hs free i Hc := by
    by_cases hf : i ∈ free
    ·exact .inr ⟨hf, i3⟩
    ·refine .inl ?_
     refine i4 ?_
     refine Classical.byContradiction fun hne => ?_
     -- an operation that is not static has run: this one, too
     have hdl : m0 < (pickD ops st).length := by omega
     have hx : (pickD ops st)[m0]? = some ((pickD ops st)[m0]'hdl) := by simp
     have hm := pickD_mem.1 (List.mem_of_getElem? hx)
     have hl0 : LA listed ((pickD ops st)[m0]'hdl).2 := (i8 m0 _ hx).2 (by omega)
     have hbit := hok.nfree _ i (List.getElem?_eq_some_iff.1 hm.1).1 (hm0 m0 _ hx (Nat.le_refl _)) hil hm.2 hst hf
     have := before_of (ops := ops) hshut hm.1 (fun e he hb => hshut _ _ hm.1 hl0 e he hb) hbit
     exact hni this
   have after : ∀ (v : Value) (w' : World), Rep w' Hc v (ds k) → HOK w' Hc → Ext w Hc w' Hc → InvX2 C c m0 H Hs ops st es ds K (fun j => LA listed j ∨ j = i) (a.put o.dst v) w' := fun v w' hr hok' hex => by
    refine ⟨?_, by rw [Act.put_defers']; exact hdf.ext i1 hex, Hc, ed, m, hok', i2.trans hex, i3, ⟨i4, i4m, i4n, fun q h1 h2 h3 => .inl (i4c q h1 h2 h3)⟩, fun t d hdt hall => ?_, i6, fun k' t' d' hk'' h1 h2 h3 => i7 k' t' d' hk'' h1 h2 fun x hx hxt hl => h3 x hx hxt (.inl hl), fun j x hx => ?_, i9⟩
    ·cases hd' : o.dst with
     | none => exact hsz2
     | some t => simp [Act.put, hsz2]
    ·by_cases hto : o.dst = some t
     ·have : d = ds k := by
       have := i6 k _ t hk' hto
       rw [hdt] at this
       exact Option.some.inj this
      subst this
      rw [hto]
      exact ⟨v, put_tmps_self (hdst hd t hto), hr⟩
     ·obtain ⟨u, hu, hur⟩ := i5 t d hdt fun q p hp hpt => by
       rcases hall q p hp hpt with h | h
       ·exact h
       ·subst h
        have := (pickS_mem.1 hp).1
        rw [ho'] at this
        cases this
        exact absurd hpt hto
      exact ⟨u, put_tmps hu hto, hur.ext hex⟩
    ·obtain ⟨x1, x2⟩ := x
     have hm := pickD_mem.1 (List.mem_of_getElem? hx)
     have hne : x2 ≠ i := fun h => hm.2 (h ▸ hst)
     have := i8 j _ hx
     simp only at this ⊢
     rw [← this]
     constructor
     ·exact fun h => h.resolve_right hne
     ·exact .inl
   have yes : (∀ H', SeesX H Hs free i H' → Sta C.P H' ((es k).mask o) o (ds k)) → o.wp C.P a w (wpAny C.P .any ops.toArray Q fuel (listed.setIfInBounds i true)) Q := fun hs =>
    wp_of_opTo ((hs Hc hsee).go a.eval w hag i1) fun v w' ⟨hr, hok', hex⟩ => next _ _ (after v w' hr hok' hex)
   have no : ds k = .tup [] → wpAny C.P .any ops.toArray Q fuel (listed.setIfInBounds i true) (a.put o.dst undef) w := fun hd' => by
    refine next _ _ (after undef w ?_ i1 (.refl _ _))
    rw [hd']
    exact RepsA.tup (vs := #[]) (ds := []) ⟨rfl, fun j x hx => by simp at hx⟩
   unfold GuardIs at hg
   cases hgu : o.guard with
   | none =>
    simp only [hgu] at hg
    rw [if_pos (by simp [Region.wanted, hgu])]
    exact .inl (yes hg)
   | some jw =>
    obtain ⟨j, want⟩ := jw
    simp only [hgu] at hg
    obtain ⟨b, hb, hy, hn'⟩ := hg
    have hyield := guard_of (ops := ops) hgu (fun t ht => hread t (List.mem_append_right _ ht)) hb
    by_cases hbw : b = some want
    ·rw [if_pos (by simp only [Region.wanted, hgu, hyield, hbw]; exact beq_self_eq_true _)]
     exact .inl (yes (hy hbw))
    ·rw [if_neg (by simp only [Region.wanted, hgu, hyield]; intro hx; exact hbw (by simpa using hx))]
     exact no (hn' hbw)
  ·-- one of the others: the next one
   obtain ⟨k, hkl, hk⟩ := List.mem_iff_getElem.1 (pickD_mem.2 ⟨ho', hst⟩)
   have hk' : (pickD ops st)[k]? = some (o, i) := by rw [List.getElem?_eq_getElem hkl, hk]
   have hkm : k = m := by
    have h1 : ¬ k < m := fun h => hni ((i8 k _ hk').2 h)
    rcases Nat.lt_or_ge m k with h2 | h2
    ·have hx : (pickD ops st)[m]? = some ((pickD ops st)[m]'(by omega)) := by simp
     have hm := pickD_mem.1 (List.mem_of_getElem? hx)
     have hlt := (sorted_lt (pickD_sorted ops st) hx hk').2 h2
     have hci : c ≤ i := Classical.byContradiction fun hlt' => hni (i4c i hst (by omega) hil)
     have hbit := hok.chain i _ hil hci hlt hst hm.2
     have := (i8 m _ hx).1 (bef _ hbit)
     omega
    ·omega
   subst hkm
   have hdrop : (pickD ops st).drop k = (o, i) :: (pickD ops st).drop (k + 1) := by rw [List.drop_eq_getElem_cons hkl, hk]
   rw [hdrop] at i9
   obtain ⟨hd, hg⟩ := i9
   have hread : ∀ t ∈ opTmps o ++ guardTmp ops o, ∀ d, ed.get t = some d → ∃ v, a.tmps[t]? = some v ∧ Rep w Hc v d := fun t ht d hdt =>
    i5 t d hdt fun q p hp hpt => bef q ((hok.dep i o ho' t ht q p (pickS_mem.1 hp).1 hpt).resolve_right fun h => h.1 (pickS_mem.1 hp).2).2.1
   have hag := agree_mask (a := a) (w := w) (H := Hc) (e := ed) (o := o) fun t ht => hread t (List.mem_append_left _ ht)
   have after : ∀ (v : Value) (w' : World) (d : D) (H' : Heap), Rep w' H' v d → HOK w' H' → Ext w Hc w' H' → Over Hs H' → RY C Hs ops ((pickD ops st).drop (k + 1)) (ed.putO o.dst d) H' K → InvX2 C c m0 H Hs ops st es ds K (fun j => LA listed j ∨ j = i) (a.put o.dst v) w' := fun v w' d H' hr hok' hex hov hry => by
    have hget : ∀ t, o.dst ≠ some t → (ed.putO o.dst d).get t = ed.get t := fun t hne => by
     cases hd' : o.dst with
     | none => rfl
     | some s =>
      rw [hd'] at hne
      simp only [Env.putO, Env.get_cons]
      rw [if_neg (fun h => hne (by rw [h]))]
    have hself : ∀ t, o.dst = some t → (ed.putO o.dst d).get t = some d := fun t ht => by
     rw [ht]
     simp [Env.putO, Env.get_cons]
    refine ⟨?_, by rw [Act.put_defers']; exact hdf.ext i1 hex, H', ed.putO o.dst d, k + 1, hok', i2.trans hex, hov, ⟨fun h => by omega, by omega, by omega, fun q h1 h2 h3 => .inl (i4c q h1 h2 h3)⟩, fun t d' hdt hall => ?_, fun q x t hx hxt => ?_, fun q t d' hq hqt hs hdd => ?_, fun j x hx => ?_, hry⟩
    ·cases hd' : o.dst with
     | none => exact hsz2
     | some t => simp [Act.put, hsz2]
    ·by_cases hto : o.dst = some t
     ·rw [hself t hto] at hdt
      cases hdt
      rw [hto]
      exact ⟨v, put_tmps_self (hdst hd t hto), hr⟩
     ·rw [hget t hto] at hdt
      obtain ⟨u, hu, hur⟩ := i5 t d' hdt fun q p hp hpt => by
       rcases hall q p hp hpt with h | h
       ·exact h
       ·subst h; exact absurd (pickS_mem.1 hp).2 hst
      exact ⟨u, put_tmps hu hto, hur.ext hex⟩
    ·obtain ⟨x1, x2⟩ := x
     have hm := pickS_mem.1 (List.mem_of_getElem? hx)
     rw [hget t (fun h => ?_)]
     ·exact i6 q _ t hx hxt
     ·have := hok.dist i x2 o x1 t ho' hm.1 h hxt
      exact hst (this ▸ hm.2)
    ·rw [hget t (fun h => hdd _ (pickD_mem.2 ⟨ho', hst⟩) h (.inr rfl))]
     exact i7 q t d' hq hqt hs fun x hx hxt hl => hdd x hx hxt (.inl hl)
    ·obtain ⟨x1, x2⟩ := x
     have := i8 j _ hx
     simp only at this ⊢
     constructor
     ·rintro (h | h)
      ·have := this.1 h; omega
      ·subst h
       have := (pickD_sorted ops st)
       rcases Nat.lt_trichotomy j k with h1 | h1 | h1
       ·omega
       ·omega
       ·have := (sorted_lt (pickD_sorted ops st) hk' hx).2 h1
        simp at this
     ·intro h
      by_cases hjk : j = k
      ·subst hjk
       rw [hk'] at hx
       cases hx
       exact .inr rfl
      ·exact .inl (this.2 (by omega))
   have yes : (OpD C.P Hc (ed.mask o) o fun d H' => Over Hs H' ∧ RY C Hs ops ((pickD ops st).drop (k + 1)) (ed.putO o.dst d) H' K) → o.wp C.P a w (wpAny C.P .any ops.toArray Q fuel (listed.setIfInBounds i true)) Q := fun hs =>
    wp_of_opTo (hs.go a.eval w hag i1) fun v w' ⟨d, H', ⟨hov, hry⟩, hr, hok', hex⟩ => next _ _ (after v w' d H' hr hok' hex hov hry)
   have no : RY C Hs ops ((pickD ops st).drop (k + 1)) (ed.putO o.dst (.tup [])) Hc K → wpAny C.P .any ops.toArray Q fuel (listed.setIfInBounds i true) (a.put o.dst undef) w := fun hry =>
    next _ _ (after undef w (.tup []) Hc (RepsA.tup (vs := #[]) (ds := []) ⟨rfl, fun j x hx => by simp at hx⟩) i1 (.refl _ _) i3 hry)
   unfold GuardIs at hg
   cases hgu : o.guard with
   | none =>
    rw [hgu] at hg
    rw [if_pos (by simp [Region.wanted, hgu])]
    exact .inl (yes hg)
   | some jw =>
    obtain ⟨j, want⟩ := jw
    rw [hgu] at hg
    obtain ⟨b, hb, hy, hn'⟩ := hg
    have hyield := guard_of (ops := ops) hgu (fun t ht => hread t (List.mem_append_right _ ht)) hb
    by_cases hbw : b = some want
    ·rw [if_pos (by simp only [Region.wanted, hgu, hyield, hbw]; exact beq_self_eq_true _)]
     exact .inl (yes (hy hbw))
    ·rw [if_neg (by simp only [Region.wanted, hgu, hyield]; intro hx; exact hbw (by simpa using hx))]
     exact no (hn' hbw)

theorem filter_true {α : Type} {p : α → Bool} : ∀ {l : List α}, (∀ x ∈ l, p x = true) → l.filter p = l
 | [], _ => rfl
 | a :: l, h => by rw [List.filter_cons, if_pos (h a (by simp)), filter_true fun x hx => h x (by simp [hx])]

theorem filter_false {α : Type} {p : α → Bool} : ∀ {l : List α}, (∀ x ∈ l, p x = false) → l.filter p = []
 | [], _ => rfl
 | a :: l, h => by rw [List.filter_cons, if_neg (by rw [h a (by simp)]; exact Bool.false_ne_true), filter_false fun x hx => h x (by simp [hx])]

theorem pickS_range (pre r : List Oper) : pickS (pre ++ r) (List.range pre.length) = pre.zipIdx := by
 unfold pickS
 rw [List.zipIdx_append, List.filter_append, filter_true, filter_false, List.append_nil]
 ·intro x hx
  have := List.le_snd_of_mem_zipIdx hx
  simp
  omega
 ·intro x hx
  obtain ⟨x1, x2⟩ := x
  rw [List.mem_zipIdx_iff_getElem?] at hx
  have := (List.getElem?_eq_some_iff.1 hx).1
  simpa using this

theorem pickD_range (pre r : List Oper) : pickD (pre ++ r) (List.range pre.length) = r.zipIdx pre.length := by
 unfold pickD
 rw [List.zipIdx_append, List.filter_append, filter_false, filter_true, List.nil_append, Nat.zero_add]
 ·intro x hx
  have := List.le_snd_of_mem_zipIdx hx
  simp
  omega
 ·intro x hx
  obtain ⟨x1, x2⟩ := x
  rw [List.mem_zipIdx_iff_getElem?] at hx
  have := (List.getElem?_eq_some_iff.1 hx).1
  simpa using this

theorem StaX.at {C : Ctx} {H Hs : Heap} {free : List Nat} {ops : List Oper} {e : Env} {o : Oper} {i : Nat} {d : D} (h : StaX C H Hs free ops e (o, i) d) : StaAt C H ops e o d := by
 obtain ⟨h1, h2⟩ := h
 refine ⟨h1, ?_⟩
 unfold GuardIs at h2 ⊢
 dsimp only at h2
 split at h2
 ·exact fun H' ho => h2 H' (.inl ho)
 ·obtain ⟨b, hb, hy, hn⟩ := h2
  exact ⟨b, hb, fun he H' ho => hy he H' (.inl ho), hn⟩

theorem phaseT2_end {C : Ctx} {H Hs : Heap} {free : List Nat} {e : Env} {pre suf : List Oper} {es : Nat → Env} {ds : Nat → D} {A : Two2} {o1 o2 : Oper} {K : Env → Heap → Prop} {Q : Exit → Act → World → Prop} (hQ : ∀ e H a w, K e H → St C a w e H → Q .normal a w) (hHs : Over Hs H)
  (hok : OrdX2 (pre ++ ([o1, o2] ++ suf)) (List.range pre.length) free (pre.length + 2)) (h0 : es 0 = e) (hes : ∀ k x, pre.zipIdx[k]? = some x → StaX C H Hs free (pre ++ ([o1, o2] ++ suf)) (es k) x (ds k) ∧ es (k + 1) = (es k).putO x.1.dst (ds k))
  (hK : ∀ b1 b2, H b1 = none → H b2 = none → b1 ≠ b2 → RY C Hs (pre ++ ([o1, o2] ++ suf)) (suf.zipIdx (pre.length + 2)) ((A.s2, .ptr b2 0) :: (A.s1, .ptr b1 0) :: es pre.length) ((H.set b1 (A.T1, A.z1)).set b2 (A.T2, A.z2)) K)
  (hd1 : o1.dst = some A.s1) (hd2 : o2.dst = some A.s2)
  (fuel : Nat) (listed : Array Bool) (a : Act) (w : World) (Hc : Heap) (hsz : listed.size = (pre ++ ([o1, o2] ++ suf)).length) (hshut : Shut (pre ++ ([o1, o2] ++ suf)) (LA listed)) (h1 : LA listed pre.length) (h2 : LA listed (pre.length + 1)) (hbelow : ∀ j, LA listed j → j < pre.length + 2)
  (hcount : ((List.range (pre ++ ([o1, o2] ++ suf)).length).filter fun j => !listed.getD j false).length ≤ fuel) (hinv : Inv2 C H e pre ds A (LA listed) a w Hc) : wpAny C.P .any (pre ++ ([o1, o2] ++ suf)).toArray Q fuel listed a w := by
 have hS := pickS_range pre ([o1, o2] ++ suf)
 have hD := pickD_range pre ([o1, o2] ++ suf)
 have hD2 : pickD (pre ++ ([o1, o2] ++ suf)) (List.range pre.length) = (o1, pre.length) :: (o2, pre.length + 1) :: suf.zipIdx (pre.length + 2) := by rw [hD]; rfl
 have hpre : ∀ (i : Nat) (o : Oper), pre[i]? = some o → (pre ++ ([o1, o2] ++ suf))[i]? = some o := fun i o ho => by
  rw [List.getElem?_append_left (List.getElem?_eq_some_iff.1 ho).1]; exact ho
 have hat1 : (pre ++ ([o1, o2] ++ suf))[pre.length]? = some o1 := by simp
 have hat2 : (pre ++ ([o1, o2] ++ suf))[pre.length + 1]? = some o2 := by
  rw [List.getElem?_append_right (by omega), show pre.length + 1 - pre.length = 1 by omega]; rfl
 have hzip : ∀ (k : Nat) (o : Oper), pre[k]? = some o → pre.zipIdx[k]? = some (o, k) := fun k o ho => by simp [List.getElem?_zipIdx, ho]
 have hunzip : ∀ (k : Nat) (x : Oper × Nat), pre.zipIdx[k]? = some x → pre[k]? = some x.1 ∧ x.2 = k := fun k x hx => by
  rw [List.getElem?_zipIdx] at hx
  cases hp : pre[k]? with
  | none => rw [hp] at hx; cases hx
  | some o =>
   rw [hp] at hx
   cases hx
   exact ⟨rfl, by simp⟩
 have hsd : ∀ (i k : Nat) (o p : Oper) (t : Nat), pre[i]? = some o → pre[k]? = some p → o.dst = some t → p.dst = some t → i = k := fun i k o p t ho hp hot hpt => hok.dist i k o p t (hpre i o ho) (hpre k p hp) hot hpt
 have hn1 : ∀ (i : Nat) (o : Oper), pre[i]? = some o → o.dst ≠ some A.s1 := fun i o ho hd => by
  have := hok.dist i pre.length o o1 A.s1 (hpre i o ho) hat1 hd hd1
  have := (List.getElem?_eq_some_iff.1 ho).1
  omega
 have hn2 : ∀ (i : Nat) (o : Oper), pre[i]? = some o → o.dst ≠ some A.s2 := fun i o ho hd => by
  have := hok.dist i (pre.length + 1) o o2 A.s2 (hpre i o ho) hat2 hd hd2
  have := (List.getElem?_eq_some_iff.1 ho).1
  omega
 have hes2 : ∀ k x, pre.zipIdx[k]? = some x → es (k + 1) = (es k).putO x.1.dst (ds k) := fun k x hx => (hes k x hx).2
 have hlenz : pre.zipIdx.length = pre.length := by simp
 rcases hinv.made with ⟨g1, _⟩ | ⟨_, g2, _⟩ | ⟨g1, _⟩ | ⟨_, _, g, g', k3, k4, k5, k6, k7, k8⟩
 ·exact absurd h1 g1
 ·exact absurd h2 g2
 ·exact absurd h1 g1
 subst k8
 have hgets : ∀ (t : Nat), t ≠ A.s1 → t ≠ A.s2 → Env.get ((A.s2, D.ptr g' 0) :: (A.s1, D.ptr g 0) :: es pre.length) t = (es pre.length).get t := fun t e1 e2 => by
  rw [Env.get_cons, if_neg (Ne.symm e2), Env.get_cons, if_neg (Ne.symm e1)]
 refine phaseX2 (c := pre.length + 2) (m0 := 2) (st := List.range pre.length) (free := free) (H := H) (Hs := Hs) (e := e) (es := es) (ds := ds) (K := K) hQ hHs hok (fun j x hx hj => ?_) h0 (by rw [hS]; exact hes) fuel listed a w hsz hshut hcount ?_
 ·rw [hD, List.getElem?_zipIdx] at hx
  cases hp : ([o1, o2] ++ suf)[j]? with
  | none => rw [hp] at hx; cases hx
  | some o => rw [hp] at hx; cases hx; show pre.length + 2 ≤ pre.length + j; omega
 ·refine ⟨hinv.size, hinv.defers, _, (A.s2, .ptr g' 0) :: (A.s1, .ptr g 0) :: es pre.length, 2, hinv.heap, hinv.ext, fun b x hx => hinv.over b x (hHs b x hx), ⟨fun _ => hinv.over, by rw [hD2]; simp, Nat.le_refl _, fun i hi hc _ => ?_⟩, fun t d hd hall => ?_, fun k x t hx hxt => ?_, fun k t d hk hkt hj hdd => ?_, fun j x hx => ?_, ?_⟩
  ·have hi' : ¬ i < pre.length := fun h => hi (List.mem_range.2 h)
   rcases Nat.lt_or_ge i (pre.length + 1) with h | h
   ·rw [show i = pre.length by omega]; exact h1
   ·rw [show i = pre.length + 1 by omega]; exact h2
  ·rw [Env.get_cons] at hd
   split at hd
   ·rename_i hst
    subst hst
    cases hd
    exact ⟨_, k4, .ptr g' 0⟩
   ·rename_i hst2
    rw [Env.get_cons] at hd
    split at hd
    ·rename_i hst
     subst hst
     cases hd
     exact ⟨_, k3, .ptr g 0⟩
    ·rename_i hst
     rcases trace_get h0 (fun i o h => (hes i _ (hzip i o h)).2) hsd pre.length (Nat.le_refl _) t d hd with ⟨k, p, hk, hp, hpt, rfl⟩ | ⟨he, hn⟩
     ·exact hinv.ran k p t hp (hall k p (by rw [hS]; exact List.mem_of_getElem? (hzip k p hp)) hpt) hpt
     ·exact hinv.rest t d he (fun k p hp => hn k p (List.getElem?_eq_some_iff.1 hp).1 hp) hst hst2
  ·rw [hS] at hx
   obtain ⟨hp, _⟩ := hunzip k x hx
   have hkl := (List.getElem?_eq_some_iff.1 hp).1
   rw [hgets t (fun h => hn1 k _ hp (by rw [hxt, h])) (fun h => hn2 k _ hp (by rw [hxt, h]))]
   have := traceX_get h0 hes2 (pre.length - (k + 1)) (k + 1) (by omega) t fun j y h1 h2 hy hyt => by
    have := hsd k j _ _ t hp (hunzip j y hy).1 hxt hyt
    omega
   rw [show k + 1 + (pre.length - (k + 1)) = pre.length by omega] at this
   rw [this, hes2 k x hx, hxt]
   simp [Env.putO, Env.get_cons]
  ·rw [hS] at hk hj
   rw [hD2] at hdd
   rw [hgets t (fun h => hdd (o1, pre.length) (by simp) (by rw [h]; exact hd1) h1) (fun h => hdd (o2, pre.length + 1) (by simp) (by rw [h]; exact hd2) h2)]
   have := traceX_get h0 hes2 (pre.length - k) k (by omega) t fun j y h1 h2 hy hyt => by
    have := hj j y hy hyt
    omega
   rw [show k + (pre.length - k) = pre.length by omega] at this
   rw [this, hkt]
  ·rw [hD, List.getElem?_zipIdx] at hx
   cases hp : ([o1, o2] ++ suf)[j]? with
   | none => rw [hp] at hx; cases hx
   | some o =>
    rw [hp] at hx
    cases hx
    show LA listed (pre.length + j) ↔ j < 2
    constructor
    ·intro h
     have := hbelow _ h
     omega
    ·intro h
     match j, h with
     | 0, _ => exact h1
     | 1, _ => exact h2
  ·rw [hD2]
   exact hK g g' k5 k6 k7

theorem phaseT2 {C : Ctx} {H Hs : Heap} {free : List Nat} {e : Env} {pre suf : List Oper} {es : Nat → Env} {ds : Nat → D} {A : Two2} {o1 o2 : Oper} {K : Env → Heap → Prop} {Q : Exit → Act → World → Prop} (hQ : ∀ e H a w, K e H → St C a w e H → Q .normal a w) (hHs : Over Hs H)
  (hok : OrdX2 (pre ++ ([o1, o2] ++ suf)) (List.range pre.length) free (pre.length + 2)) (h0 : es 0 = e) (hes : ∀ k x, pre.zipIdx[k]? = some x → StaX C H Hs free (pre ++ ([o1, o2] ++ suf)) (es k) x (ds k) ∧ es (k + 1) = (es k).putO x.1.dst (ds k))
  (hK : ∀ b1 b2, H b1 = none → H b2 = none → b1 ≠ b2 → RY C Hs (pre ++ ([o1, o2] ++ suf)) (suf.zipIdx (pre.length + 2)) ((A.s2, .ptr b2 0) :: (A.s1, .ptr b1 0) :: es pre.length) ((H.set b1 (A.T1, A.z1)).set b2 (A.T2, A.z2)) K)
  (hals0 : ∀ (i : Nat) (o : Oper), pre[i]? = some o → A.s1 ∉ opTmps o ++ guardTmp (pre ++ ([o1, o2] ++ suf)) o ∧ A.s2 ∉ opTmps o ++ guardTmp (pre ++ ([o1, o2] ++ suf)) o)
  {k1 k2 : Nat} (hz1 : ZeroOf C.P A.T1 k1 A.z1) (hz2 : ZeroOf C.P A.T2 k2 A.z2) (hN1 : A.s1 < C.N) (hN2 : A.s2 < C.N) (ho1 : ∃ ty pos af, o1 = ⟨some A.s1, .alloc A.T1, ty, pos, af, none⟩) (ho2 : ∃ ty pos af, o2 = ⟨some A.s2, .alloc A.T2, ty, pos, af, none⟩) :
  ∀ (fuel : Nat) (listed : Array Bool) (a : Act) (w : World) (Hc : Heap), listed.size = (pre ++ ([o1, o2] ++ suf)).length → Shut (pre ++ ([o1, o2] ++ suf)) (LA listed) → (∀ j, LA listed j → j < pre.length + 2) →
   ((List.range (pre ++ ([o1, o2] ++ suf)).length).filter fun j => !listed.getD j false).length ≤ fuel → Inv2 C H e pre ds A (LA listed) a w Hc → wpAny C.P .any (pre ++ ([o1, o2] ++ suf)).toArray Q fuel listed a w := by
 have hpre : ∀ (i : Nat) (o : Oper), pre[i]? = some o → (pre ++ ([o1, o2] ++ suf))[i]? = some o := fun i o ho => by
  have hlt := (List.getElem?_eq_some_iff.1 ho).1
  rw [List.getElem?_append_left hlt]; exact ho
 have hdist : ∀ (i k : Nat) (o p : Oper) (t : Nat), pre[i]? = some o → pre[k]? = some p → o.dst = some t → p.dst = some t → i = k := fun i k o p t ho hp hot hpt => by
  have h1 := (List.getElem?_eq_some_iff.1 ho).1
  have h2 := (List.getElem?_eq_some_iff.1 hp).1
  exact hok.dist i k o p t (hpre i o ho) (hpre k p hp) hot hpt
 have hat1 : (pre ++ ([o1, o2] ++ suf))[pre.length]? = some o1 := by simp
 have hat2 : (pre ++ ([o1, o2] ++ suf))[pre.length + 1]? = some o2 := by
  rw [List.getElem?_append_right (by omega), show pre.length + 1 - pre.length = 1 by omega]; rfl
 have hd1 : o1.dst = some A.s1 := by obtain ⟨_, _, _, h⟩ := ho1; rw [h]
 have hd2 : o2.dst = some A.s2 := by obtain ⟨_, _, _, h⟩ := ho2; rw [h]
 have h12 : A.s1 ≠ A.s2 := fun h => by
  have := hok.dist pre.length (pre.length + 1) o1 o2 A.s1 hat1 hat2 hd1 (by rw [hd2, h])
  omega
 have hals : ∀ (i : Nat) (o : Oper), pre[i]? = some o → (A.s1 ∉ opTmps o ++ guardTmp (pre ++ ([o1, o2] ++ suf)) o ∧ o.dst ≠ some A.s1) ∧ (A.s2 ∉ opTmps o ++ guardTmp (pre ++ ([o1, o2] ++ suf)) o ∧ o.dst ≠ some A.s2) := fun i o ho => by
  have hlt := (List.getElem?_eq_some_iff.1 ho).1
  refine ⟨⟨fun hm => ?_, fun hd => ?_⟩, ⟨fun hm => ?_, fun hd => ?_⟩⟩
  ·exact (hals0 i o ho).1 hm
  ·have := hok.dist i pre.length o _ A.s1 (hpre i o ho) hat1 hd hd1
   omega
  ·exact (hals0 i o ho).2 hm
  ·have := hok.dist i (pre.length + 1) o _ A.s2 (hpre i o ho) hat2 hd hd2
   omega
 intro fuel
 induction fuel with
 | zero =>
  intro listed a w Hc hsz hshut hbelow hcount hinv
  have hall : ∀ j, j < pre.length + 2 → LA listed j := fun j hj => by
   by_cases h : listed.getD j false = true
   ·exact h
   ·have hm : j ∈ (List.range (pre ++ ([o1, o2] ++ suf)).length).filter fun j => !listed.getD j false := List.mem_filter.2 ⟨List.mem_range.2 (by simp; omega), by simpa using h⟩
    have := List.length_pos_of_mem hm
    omega
  exact phaseT2_end hQ hHs hok h0 hes hK hd1 hd2 0 listed a w Hc hsz hshut (hall _ (by omega)) (hall _ (by omega)) hbelow hcount hinv
 | succ fuel ih =>
  intro listed a w Hc hsz hshut hbelow hcount hinv
  by_cases hall : ∀ j, j < pre.length + 2 → (pre.length ≤ j ∨ j ∉ free) → LA listed j
  ·exact phaseT2_end hQ hHs hok h0 hes hK hd1 hd2 (fuel + 1) listed a w Hc hsz hshut (hall _ (by omega) (.inl (Nat.le_refl _))) (hall _ (by omega) (.inl (by omega))) hbelow hcount hinv
  ·-- one of the first ones is left: only such ones can come next
   have hex2 : ∃ j, j < pre.length + 2 ∧ (pre.length ≤ j ∨ j ∉ free) ∧ ¬ LA listed j := Classical.byContradiction fun hn => hall fun j hj hd => Classical.byContradiction fun hl => hn ⟨j, hj, hd, hl⟩
   obtain ⟨q2, hq2, hq2d, hq2n⟩ := hex2
   obtain ⟨q, ⟨hq, hqn⟩, hqmin⟩ := exists_least (fun j => j < pre.length + 2 ∧ ¬ LA listed j) ⟨q2, hq2, hq2n⟩
   have hlen : pre.length + 2 ≤ (pre ++ ([o1, o2] ++ suf)).length := by simp
   have hready : ∀ i ∈ Region.ready .any (pre ++ ([o1, o2] ++ suf)).toArray listed, i < pre.length + 2 ∧ ¬ LA listed i ∧ ∃ o, (pre ++ ([o1, o2] ++ suf))[i]? = some o ∧ ∀ e ∈ o.after.toList, Region.binds .any e = true → LA listed e.on := by
    intro i hi
    rw [mem_ready] at hi
    obtain ⟨hn, o, ho, ha⟩ := hi
    have ho' : (pre ++ ([o1, o2] ++ suf))[i]? = some o := by simpa using ho
    have hil := (List.getElem?_eq_some_iff.1 ho').1
    have hni : ¬ LA listed i := fun h => by
     have his : i < listed.size := by omega
     unfold LA at h
     simp [his] at h hn
     rw [h] at hn
     cases hn
    have ha' : ∀ e ∈ o.after.toList, Region.binds .any e = true → LA listed e.on := fun e he hb => ha e (Array.mem_toList_iff.1 he) hb
    refine ⟨?_, hni, o, ho', ha'⟩
    rcases Nat.lt_or_ge i (pre.length + 2) with h | h
    ·exact h
    ·refine absurd (before_of hshut ho' ha' ?_) hq2n
     have hni2 : i ∉ List.range pre.length := fun hm => by have := List.mem_range.1 hm; omega
     rcases Nat.lt_or_ge q2 pre.length with hlt | hge
     ·exact hok.nfree i q2 hil h (by omega) hni2 (List.mem_range.2 hlt) (hq2d.resolve_left (by omega))
     ·exact hok.chain i q2 hil h (by omega) hni2 fun hm => by have := List.mem_range.1 hm; omega
   refine ⟨fun h => ?_, fun i hi => ?_⟩
   ·-- the least one that is left is ready
    have hql : q < (pre ++ ([o1, o2] ++ suf)).length := by omega
    have hqo : (pre ++ ([o1, o2] ++ suf))[q]? = some (pre ++ ([o1, o2] ++ suf))[q] := by simp
    have : q ∈ Region.ready .any (pre ++ ([o1, o2] ++ suf)).toArray listed := by
     rw [mem_ready]
     refine ⟨?_, (pre ++ ([o1, o2] ++ suf))[q], by simp, fun e he hb => ?_⟩
     ·have hqs : q < listed.size := by omega
      unfold LA at hqn
      simp [hqs] at hqn ⊢
      exact hqn
     ·have hlt := hok.lt q _ hqo e (Array.mem_toList_iff.2 he) hb
      refine Classical.byContradiction fun hn => ?_
      have := hqmin e.on ⟨by omega, hn⟩
      omega
    rw [h] at this
    cases this
   ·obtain ⟨him, hni, o, ho, hafter⟩ := hready i hi
    have hil : i < listed.size := by omega
    have hshut' : Shut (pre ++ ([o1, o2] ++ suf)) (LA (listed.setIfInBounds i true)) := fun k p hp hk e he hb => by
     by_cases hki : k = i
     ·subst hki
      rw [ho] at hp
      cases hp
      exact getD_set_true (hafter e he hb)
     ·have hk' : LA listed k := by
       unfold LA at hk ⊢
       rwa [getD_set_ne false (Ne.symm hki)] at hk
      exact getD_set_true (hshut k p hp hk' e he hb)
    have hLA : ∀ j, LA (listed.setIfInBounds i true) j ↔ (LA listed j ∨ j = i) := fun j => by
     unfold LA
     by_cases hji : j = i
     ·subst hji
      simp [hil]
     ·rw [getD_set_ne false (Ne.symm hji)]
      simp [hji]
    have hbelow' : ∀ j, LA (listed.setIfInBounds i true) j → j < pre.length + 2 := fun j hj => by
     rcases (hLA j).1 hj with h | h
     ·exact hbelow j h
     ·omega
    have hcnt := count_set (m := (pre ++ ([o1, o2] ++ suf)).length) (i := i) (listed := listed) (by omega) (by omega) (by unfold LA at hni; simpa using hni)
    have next : ∀ a' w' Hc', Inv2 C H e pre ds A (fun j => LA listed j ∨ j = i) a' w' Hc' → wpAny C.P .any (pre ++ ([o1, o2] ++ suf)).toArray Q fuel (listed.setIfInBounds i true) a' w' := fun a' w' Hc' hinv' => by
     refine ih _ a' w' Hc' (by simpa using hsz) hshut' hbelow' (by omega) ?_
     have hfun : LA (listed.setIfInBounds i true) = fun j => LA listed j ∨ j = i := funext fun j => propext (hLA j)
     rw [hfun]
     exact hinv'
    by_cases hip : i < pre.length
    ·have hopre : pre[i]? = some o := by
      have h := ho
      rw [List.getElem?_append_left hip] at h
      exact h
     have hzip : ∀ (k : Nat) (o : Oper), pre[k]? = some o → pre.zipIdx[k]? = some (o, k) := fun k o ho => by simp [List.getElem?_zipIdx, ho]
     refine Inv2.step hinv h0 (fun i o h => (hes i _ (hzip i o h)).2) hpre hdist hals hopre (hes i _ (hzip i o hopre)).1.at (hok.sel i o ho) (fun t ht k p hp hpt => ?_) (fun a' w' hinv' => next a' w' Hc hinv')
     have hkl := (List.getElem?_eq_some_iff.1 hp).1
     obtain ⟨hki, hbit, _⟩ := (hok.dep i o ho t ht k p (hpre k p hp) hpt).resolve_right fun h => h.1 (List.mem_range.2 hkl)
     exact ⟨hki, before_of hshut ho hafter hbit⟩
    ·-- a variable is made
     have hfresh := hinv.heap.fresh
     -- the step, for either of them
     have made : ∀ (s : Nat) (T : TypeId) (zd : List D) (k : Nat), ZeroOf C.P T k zd → s < C.N → (∃ ty pos af, o = ⟨some s, .alloc T, ty, pos, af, none⟩) → (∀ (i : Nat) (o : Oper), pre[i]? = some o → o.dst ≠ some s) →
       (∀ t, t ≠ s → (A.s1 ≠ t ∧ A.s2 ≠ t) ∨ True) → (s = A.s1 ∨ s = A.s2) →
       Md A H pre.length (fun j => LA listed j ∨ j = i) (a.put (some s) (.pointer (some ⟨w.heap.size, 0, none⟩))).tmps (Hc.set w.heap.size (T, zd)) →
       wpOp C.P (pre ++ ([o1, o2] ++ suf)).toArray Q i (wpAny C.P .any (pre ++ ([o1, o2] ++ suf)).toArray Q fuel (listed.setIfInBounds i true)) a w := by
      intro s T zd k hz hsN hoo hno _ hs hmd
      obtain ⟨ty, pos, af, hoe⟩ := hoo
      subst hoe
      obtain ⟨inf, z, hi', hz1', hz2', hz3'⟩ := hz.is
      have hrun : (execOp a.eval ⟨some s, .alloc T, ty, pos, af, none⟩).run C.P w = .ok (.value (.pointer (some ⟨w.heap.size, 0, none⟩))) (w.alloc (.cells z.cells T)) := by
       simp [execOp, Instr.alloc, run_zeroValue hi' hz1', newVar, newRow, newObj, Sem.run]
      have hr := hz.reps w Hc
      have hok' : HOK (w.alloc (.cells z.cells T)) (Hc.set w.heap.size (T, zd)) := by
       rw [hz3']
       exact hinv.heap.allocMut T _ zd (by simp) fun j x hx => ⟨litOk_cell (List.all_eq_true.1 hz.lit x (List.mem_of_getElem? hx)), hr.2 j x hx⟩
      have hex' : Ext w Hc (w.alloc (.cells z.cells T)) (Hc.set w.heap.size (T, zd)) := Ext.allocMut w Hc _ _
      unfold wpOp
      have hops : (pre ++ ([o1, o2] ++ suf)).toArray[i]? = some ⟨some s, .alloc T, ty, pos, af, none⟩ := by simpa using ho
      rw [hops]
      simp only []
      rw [if_pos (by simp [Region.wanted])]
      refine .inl ?_
      unfold Oper.wp
      rw [hrun]
      show wpAny C.P .any _ Q fuel _ (a.put (some s) _) _
      refine next _ _ (Hc.set w.heap.size (T, zd)) ⟨?_, ?_, hok', hinv.ext.trans hex', ?_, ?_, ?_, hmd⟩
      ·simp [Act.put, hinv.size]
      ·rw [Act.put_defers']; exact hinv.defers.ext hinv.heap hex'
      ·intro c x hx
       have hx := hinv.over c x hx
       have hne : c ≠ w.heap.size := fun e => by subst e; rw [hfresh] at hx; cases hx
       simp [Heap.set, hne, hx]
      ·intro k' p t hp hk' hpt
       have hkl := (List.getElem?_eq_some_iff.1 hp).1
       have hkL : LA listed k' := hk'.resolve_right (by omega)
       obtain ⟨u, hu, hur⟩ := hinv.ran k' p t hp hkL hpt
       refine ⟨u, put_tmps hu (fun hx => ?_), hur.ext hex'⟩
       cases hx
       exact hno k' p hp hpt
      ·intro t d he hn hs1 hs2
       obtain ⟨u, hu, hur⟩ := hinv.rest t d he hn hs1 hs2
       refine ⟨u, put_tmps hu (fun hx => ?_), hur.ext hex'⟩
       cases hx
       rcases hs with h | h
       ·exact hs1 h.symm
       ·exact hs2 h.symm
     have hslf : ∀ s, s < C.N → (a.put (some s) (.pointer (some ⟨w.heap.size, 0, none⟩))).tmps[s]? = some (Value.pointer (some ⟨w.heap.size, 0, none⟩)) := fun s hs => put_tmps_self (by rw [hinv.size]; exact hs)
     have hHf : H w.heap.size = none := hinv.over.none hfresh
     by_cases hi0 : i = pre.length
     ·subst hi0
      have hoe : o = o1 := by rw [hat1] at ho; exact (Option.some.inj ho).symm
      subst hoe
      refine made A.s1 A.T1 A.z1 k1 hz1 hN1 ho1 (fun i o h => (hals i o h).1.2) (fun _ _ => .inr trivial) (.inl rfl) ?_
      rcases hinv.made with ⟨_, h2, h3⟩ | ⟨h1, _⟩ | ⟨_, h2, g, h3, h4, h5⟩ | ⟨h1, _⟩
      ·subst h3
       exact .inr (.inl ⟨.inr rfl, fun h => h2 (h.resolve_right (by omega)), _, hslf _ hN1, hHf, rfl⟩)
      ·exact absurd h1 hni
      ·subst h5
       have hne : g ≠ w.heap.size := fun e => by subst e; simp [Heap.set] at hfresh
       refine .inr (.inr (.inr ⟨.inr rfl, .inl h2, _, g, hslf _ hN1, put_tmps h3 (fun h => h12 (Option.some.inj h)), hHf, h4, Ne.symm hne, ?_⟩))
       funext c
       simp only [Heap.set]
       by_cases c1 : c = w.heap.size
       ·subst c1; rw [if_pos rfl, if_neg (Ne.symm hne), if_pos rfl]
       ·rw [if_neg c1, if_neg c1]
      ·exact absurd h1 hni
     ·have hi1 : i = pre.length + 1 := by omega
      subst hi1
      have hoe : o = o2 := by rw [hat2] at ho; exact (Option.some.inj ho).symm
      subst hoe
      refine made A.s2 A.T2 A.z2 k2 hz2 hN2 ho2 (fun i o h => (hals i o h).2.2) (fun _ _ => .inr trivial) (.inr rfl) ?_
      rcases hinv.made with ⟨h1, _, h3⟩ | ⟨h1, _, g, h3, h4, h5⟩ | ⟨_, h2, _⟩ | ⟨_, h2, _⟩
      ·subst h3
       exact .inr (.inr (.inl ⟨fun h => h1 (h.resolve_right (by omega)), .inr rfl, _, hslf _ hN2, hHf, rfl⟩))
      ·subst h5
       have hne : g ≠ w.heap.size := fun e => by subst e; simp [Heap.set] at hfresh
       exact .inr (.inr (.inr ⟨.inl h1, .inr rfl, g, _, put_tmps h3 (fun h => h12 (Option.some.inj h).symm), hslf _ hN2, h4, hHf, hne, rfl⟩))
      ·exact absurd h2 hni
      ·exact absurd h2 hni

theorem DW.draw2X {C : Ctx} {e : Env} {H : Heap} {Q : Post} {id : Nat} (pre suf : List Oper) (free : List Nat) (Hs : Heap) (A : Two2) {o1 o2 : Oper} {k1 k2 : Nat} (hm : C.P.follows .mixedOrders = true) (hok : ordX2 (pre ++ ([o1, o2] ++ suf)) (List.range pre.length) free (pre.length + 2) = true) (hHs : Over Hs H)
  (hals0 : ∀ (i : Nat) (o : Oper), pre[i]? = some o → A.s1 ∉ opTmps o ++ guardTmp (pre ++ ([o1, o2] ++ suf)) o ∧ A.s2 ∉ opTmps o ++ guardTmp (pre ++ ([o1, o2] ++ suf)) o)
  (hz1 : ZeroOf C.P A.T1 k1 A.z1) (hz2 : ZeroOf C.P A.T2 k2 A.z2) (hN1 : A.s1 < C.N) (hN2 : A.s2 < C.N) (ho1 : ∃ ty pos af, o1 = ⟨some A.s1, .alloc A.T1, ty, pos, af, none⟩) (ho2 : ∃ ty pos af, o2 = ⟨some A.s2, .alloc A.T2, ty, pos, af, none⟩)
  (h : RX C H Hs free (pre ++ ([o1, o2] ++ suf)) pre.zipIdx e fun ef => ∀ b1 b2, H b1 = none → H b2 = none → b1 ≠ b2 → RY C Hs (pre ++ ([o1, o2] ++ suf)) (suf.zipIdx (pre.length + 2)) ((A.s2, .ptr b2 0) :: (A.s1, .ptr b1 0) :: ef) ((H.set b1 (A.T1, A.z1)).set b2 (A.T2, A.z2)) fun e' H' => Q .normal e' H') :
  DW C (.region id (pre ++ ([o1, o2] ++ suf)).toArray true) e H Q := by
 refine .mk fun a w hs => wp_region_any hm ?_
 obtain ⟨es, ds, h0, hes, hK⟩ := RX.trace _ e _ h
 rw [List.length_zipIdx] at hK
 have hnone : ∀ j, ¬ LA (Array.replicate (pre ++ ([o1, o2] ++ suf)).toArray.size false) j := fun j hj => by
  unfold LA at hj
  rw [Array.getD_eq_getD_getElem?, Array.getElem?_replicate] at hj
  split at hj <;> simp at hj
 refine phaseT2 (K := fun e' H' => Q .normal e' H') (fun e' H' a' w' hk hs' => ⟨e', H', hk, hs'⟩) hHs (ordX2_spec hok) h0 hes hK hals0 hz1 hz2 hN1 hN2 ho1 ho2 _ _ a _ H (by simp) (fun i o _ hi => absurd hi (hnone i)) (fun j hj => absurd hj (hnone j)) ?_ ?_
 ·have := List.length_filter_le (fun j => !(Array.replicate (pre ++ ([o1, o2] ++ suf)).toArray.size false).getD j false) (List.range (pre ++ ([o1, o2] ++ suf)).length)
  simp only [List.length_range, List.size_toArray] at this ⊢
  omega
 ·have hex : Ext w H { w with drawn := w.drawn + 1 } H := Ext.drew w H _
  refine ⟨hs.size, hs.defers.ext hs.heap hex, hs.heap.drew _, hs.ext.trans hex, Over.refl _, fun k p t hp hk => absurd hk (hnone k), fun t d he _ _ _ => ?_, .inl ⟨hnone _, hnone _, rfl⟩⟩
  obtain ⟨v, hv, hr⟩ := hs.env t d he
  exact ⟨v, hv, hr.ext hex⟩
end
section
open Go.RowKit

def apart2 (ops pre : List Oper) (s1 s2 : Nat) : Bool := pre.all fun o => (opTmps o ++ guardTmp ops o).all fun t => !(Nat.beq t s1) && !(Nat.beq t s2)

theorem apart2_ok {ops pre : List Oper} {s1 s2 : Nat} (h : apart2 ops pre s1 s2 = true) (i : Nat) (o : Oper) (ho : pre[i]? = some o) : s1 ∉ opTmps o ++ guardTmp ops o ∧ s2 ∉ opTmps o ++ guardTmp ops o := by
 unfold apart2 at h
 have h := List.all_eq_true.1 h o (List.mem_of_getElem? ho)
 constructor
 ·intro hm
  have h := List.all_eq_true.1 h _ hm
  rw [Nat.beq_refl] at h
  simp at h
 ·intro hm
  have h := List.all_eq_true.1 h _ hm
  rw [Nat.beq_refl] at h
  simp at h

theorem DW.draw2Y {C : Ctx} {e : Env} {H : Heap} {Q : Post} {id : Nat} {l : List Oper} (n : Nat) (free : List Nat) (A : Two2) {o1 o2 : Oper} {k1 k2 : Nat} (hm : C.P.follows .mixedOrders = true)
  (hsp : l = l.take n ++ ([o1, o2] ++ l.drop (n + 2))) (hlen : (l.take n).length = n) (ho1 : ∃ ty pos af, o1 = ⟨some A.s1, .alloc A.T1, ty, pos, af, none⟩) (ho2 : ∃ ty pos af, o2 = ⟨some A.s2, .alloc A.T2, ty, pos, af, none⟩)
  (hok : ordX2 l (List.range n) free (n + 2) = true) (hap : apart2 l (l.take n) A.s1 A.s2 = true) (hz1 : ZeroOf C.P A.T1 k1 A.z1) (hz2 : ZeroOf C.P A.T2 k2 A.z2) (hN1 : A.s1 < C.N) (hN2 : A.s2 < C.N)
  (h : RX C H H free l ((l.take n).zipIdx) e fun ef => ∀ b1 b2, H b1 = none → H b2 = none → b1 ≠ b2 → RY C H l ((l.drop (n + 2)).zipIdx (n + 2)) ((A.s2, .ptr b2 0) :: (A.s1, .ptr b1 0) :: ef) ((H.set b1 (A.T1, A.z1)).set b2 (A.T2, A.z2)) fun e' H' => Q .normal e' H') :
  DW C (.region id l.toArray true) e H Q := by
 have key := DW.draw2X (C := C) (e := e) (H := H) (Q := Q) (id := id) (l.take n) (l.drop (n + 2)) free H A (o1 := o1) (o2 := o2) (k1 := k1) (k2 := k2) hm
 rw [hlen, ← hsp] at key
 exact key hok (Over.refl _) (fun i o hi => apart2_ok hap i o hi) hz1 hz2 hN1 hN2 ho1 ho2 h

section
variable {C : Ctx} {e : Env} {H Hs : Heap} {free : List Nat} {ops : List Oper} {rest : List (Oper × Nat)} {i : Nat} {dst : Option Tmp} {op : Op} {ty : TypeId} {pos : String} {af : Array Edge} {d : D}

theorem RX.old {K : Env → Prop} (h : ∀ H', Over H H' → Sta C.P H' (e.mask ⟨dst, op, ty, pos, af, none⟩) ⟨dst, op, ty, pos, af, none⟩ d) (hd : dstOk C.N dst = true) (hk : RX C H H free ops rest (e.putO dst d) K) :
  RX C H H free ops ((⟨dst, op, ty, pos, af, none⟩, i) :: rest) e K := ⟨hd, d, fun H' hs => h H' (hs.elim id fun hx => hx.2), hk⟩
end
end
end Go.Proofs.YtfjmdhemlfafbaaGreat
