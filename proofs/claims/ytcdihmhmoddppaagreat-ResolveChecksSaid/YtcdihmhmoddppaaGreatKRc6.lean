/-
  Regions whose order is drawn, in which two variables are made. No condition.
-/
import Derived.Test.YtcdihmhmoddppaaGreatKRc4

namespace Go.Proofs.YtcdihmhmoddppaaGreat
open Go.RowKit
set_option linter.unusedVariables false
set_option linter.unusedSimpArgs false

/-- Two variables that are made somewhere in the region. -/
structure Two2 where
  s1 : Nat
  T1 : TypeId
  z1 : List D
  s2 : Nat
  T2 : TypeId
  z2 : List D

/-- Which of them are made already, and where. -/
def Md (A : Two2) (H : Heap) (n : Nat) (L : Nat → Prop) (tmps : Array Value) (Hc : Heap) : Prop :=
  (¬ L n ∧ ¬ L (n + 1) ∧ Hc = H) ∨
  (L n ∧ ¬ L (n + 1) ∧ ∃ g : Nat, tmps[A.s1]? = some (Value.pointer (some ⟨g, 0, none⟩)) ∧ H g = none ∧ Hc = H.set g (A.T1, A.z1)) ∨
  (¬ L n ∧ L (n + 1) ∧ ∃ g : Nat, tmps[A.s2]? = some (Value.pointer (some ⟨g, 0, none⟩)) ∧ H g = none ∧ Hc = H.set g (A.T2, A.z2)) ∨
  (L n ∧ L (n + 1) ∧ ∃ g g' : Nat, tmps[A.s1]? = some (Value.pointer (some ⟨g, 0, none⟩)) ∧ tmps[A.s2]? = some (Value.pointer (some ⟨g', 0, none⟩)) ∧ H g = none ∧ H g' = none ∧ g ≠ g' ∧ Hc = (H.set g (A.T1, A.z1)).set g' (A.T2, A.z2))

/-- The state while static operations run in whatever order. -/
structure Inv2 (C : Ctx) (H : Heap) (e : Env) (pre : List Oper) (ds : Nat → D) (al : Two2) (L : Nat → Prop) (a : Act) (w : World) (Hc : Heap) : Prop where
  size : a.tmps.size = C.N
  defers : a.defers = []
  heap : HOK w Hc
  ext : Ext C.w0 C.H0 w Hc
  over : Over H Hc
  ran : ∀ (k : Nat) (p : Oper) (t : Nat), pre[k]? = some p → L k → p.dst = some t → ∃ v, a.tmps[t]? = some v ∧ Rep w Hc v (ds k)
  rest : ∀ (t : Nat) (d : D), e.get t = some d → (∀ (k : Nat) (p : Oper), pre[k]? = some p → p.dst ≠ some t) → al.s1 ≠ t → al.s2 ≠ t → ∃ v, a.tmps[t]? = some v ∧ Rep w Hc v d
  made : Md al H pre.length L a.tmps Hc

/-- A static operation runs. -/
theorem Inv2.step {C : Ctx} {H : Heap} {e : Env} {pre : List Oper} {ops : List Oper} {es : Nat → Env} {ds : Nat → D} {al : Two2} {L : Nat → Prop} {a : Act} {w : World} {Hc : Heap} (hi : Inv2 C H e pre ds al L a w Hc)
    (h0 : es 0 = e) (hes : ∀ (i : Nat) (o : Oper), pre[i]? = some o → es (i + 1) = (es i).putO o.dst (ds i)) (hpre : ∀ (i : Nat) (o : Oper), pre[i]? = some o → ops[i]? = some o)
    (hdist : ∀ (i k : Nat) (o p : Oper) (t : Nat), pre[i]? = some o → pre[k]? = some p → o.dst = some t → p.dst = some t → i = k)
    (hals : ∀ (i : Nat) (o : Oper), pre[i]? = some o → (al.s1 ∉ opTmps o ++ guardTmp ops o ∧ o.dst ≠ some al.s1) ∧ (al.s2 ∉ opTmps o ++ guardTmp ops o ∧ o.dst ≠ some al.s2))
    {i : Nat} {o : Oper} (ho : pre[i]? = some o) (hst : StaAt C H ops (es i) o (ds i)) (hsel : ∀ cs b, o.op ≠ .select cs b)
    (hdep : ∀ t ∈ opTmps o ++ guardTmp ops o, ∀ (k : Nat) (p : Oper), pre[k]? = some p → p.dst = some t → k < i ∧ L k)
    {Q : Exit → Act → World → Prop} {K : Act → World → Prop} (hK : ∀ a' w', Inv2 C H e pre ds al (fun j => L j ∨ j = i) a' w' Hc → K a' w') : wpOp C.P ops.toArray Q i K a w := by
  have hlen : i < pre.length := (List.getElem?_eq_some_iff.1 ho).1
  -- what the operation sees
  have hsee : ∀ t ∈ opTmps o ++ guardTmp ops o, ∀ d, (es i).get t = some d → ∃ v, a.tmps[t]? = some v ∧ Rep w Hc v d := fun t ht d hd => by
    rcases trace_get h0 hes hdist i (by omega) t d hd with ⟨k, p, hk, hp, hpt, rfl⟩ | ⟨he, hn⟩
    · exact hi.ran k p t hp (hdep t ht k p hp hpt).2 hpt
    · refine hi.rest t d he (fun k p hp hpt => ?_) (fun hst => ?_) fun hst => ?_
      · exact hn k p (hdep t ht k p hp hpt).1 hp hpt
      · subst hst; exact (hals i o ho).1.1 ht
      · subst hst; exact (hals i o ho).2.1 ht
  have hagree : ∃ ρ : Operand → Value, Agree ρ w Hc ((es i).mask o) ∧ ∀ x ∈ o.op.operands, ρ x = a.eval x := by
    refine ⟨a.eval, ⟨fun x d hx => ?_, fun v => rfl⟩, fun x _ => rfl⟩
    cases x with
    | tmp t =>
      have hx' : (es i).get t = some d := Env.only_get _ _ t d hx
      have ht : t ∈ opTmps o := by
        have : ∀ (ts : List Nat) (d : D), ((es i).only ts).get t = some d → t ∈ ts := by
          intro ts
          induction ts with
          | nil => intro d h; simp [Env.only, Env.get] at h
          | cons s ts ih =>
            intro d h
            simp only [Env.only] at h
            split at h
            · rw [Env.get_cons] at h
              split at h
              · rename_i hst; subst hst; simp
              · exact List.mem_cons_of_mem _ (ih d h)
            · exact List.mem_cons_of_mem _ (ih d h)
        exact this _ d hx
      obtain ⟨v, hv, hr⟩ := hsee t (List.mem_append_left _ ht) d hx'
      simpa [Act.eval, Array.getD_eq_getD_getElem?, hv] using hr
    | const v => exact rep_const hx
    | global g => simp [Env.ev] at hx
    | func f =>
      simp only [Env.ev, Option.some.injEq] at hx
      subst hx
      exact RepsA.fn f ⟨rfl, fun j x hx => by simp at hx⟩
  have hafter : ∀ (v : Value) (w' : World), Rep w' Hc v (ds i) → HOK w' Hc → Ext w Hc w' Hc → Inv2 C H e pre ds al (fun j => L j ∨ j = i) (a.put o.dst v) w' Hc := by
    intro v w' hr hok hex
    have hdst : ∀ t, o.dst = some t → t < a.tmps.size := fun t ht => by
      have := hst.1
      rw [ht] at this
      rw [hi.size]
      simpa [dstOk, Nat.blt_eq] using this
    refine ⟨?_, ?_, hok, hi.ext.trans hex, hi.over, ?_, ?_, ?_⟩
    · cases hd : o.dst with
      | none => exact hi.size
      | some t => simp [Act.put, hi.size]
    · rw [Act.put_defers']; exact hi.defers
    · intro k p t hp hk hpt
      by_cases hki : k = i
      · subst hki
        rw [ho] at hp
        cases hp
        rw [hpt]
        exact ⟨v, put_tmps_self (hdst t hpt), hr⟩
      · have hkL : L k := hk.resolve_right hki
        obtain ⟨u, hu, hur⟩ := hi.ran k p t hp hkL hpt
        exact ⟨u, put_tmps hu (fun hx => hki (hdist k i p o t hp ho hpt hx)), hur.ext hex⟩
    · intro t d he hn hs hs2
      obtain ⟨u, hu, hur⟩ := hi.rest t d he hn hs hs2
      exact ⟨u, put_tmps hu (hn i o ho), hur.ext hex⟩
    · have hL : ∀ j, pre.length ≤ j → ((L j ∨ j = i) ↔ L j) := fun j hj => ⟨fun h => h.resolve_right (by omega), .inl⟩
      have e1 := hL pre.length (Nat.le_refl _)
      have e2 := hL (pre.length + 1) (by omega)
      unfold Md
      dsimp only
      rw [e1, e2]
      rcases hi.made with h | ⟨h1, h2, g, h3, h4, h5⟩ | ⟨h1, h2, g, h3, h4, h5⟩ | ⟨h1, h2, g, g', h3, h4, h5, h6, h7, h8⟩
      · exact .inl h
      · exact .inr (.inl ⟨h1, h2, g, put_tmps h3 (hals i o ho).1.2, h4, h5⟩)
      · exact .inr (.inr (.inl ⟨h1, h2, g, put_tmps h3 (hals i o ho).2.2, h4, h5⟩))
      · exact .inr (.inr (.inr ⟨h1, h2, g, g', put_tmps h3 (hals i o ho).1.2, put_tmps h4 (hals i o ho).2.2, h5, h6, h7, h8⟩))
  obtain ⟨hdok, hg⟩ := hst
  unfold wpOp
  have hops : ops.toArray[i]? = some o := by simpa using hpre i o ho
  rw [hops]
  simp only []
  have yes : (∀ H', Over H H' → Sta C.P H' ((es i).mask o) o (ds i)) → o.wp C.P a w K Q := fun hs => by
    obtain ⟨ρ, hag, hρ⟩ := hagree
    have h1 := ((hs Hc hi.over).go ρ w hag hi.heap).congr hsel hρ
    exact wp_of_opTo h1 fun v w' ⟨hr, hok, hex⟩ => hK _ _ (hafter v w' hr hok hex)
  have no : ds i = .tup [] → K (a.put o.dst undef) w := fun hd => by
    refine hK _ _ (hafter undef w ?_ hi.heap (.refl _ _))
    rw [hd]
    exact RepsA.tup (vs := #[]) (ds := []) ⟨rfl, fun j x hx => by simp at hx⟩
  unfold GuardIs at hg
  cases hgu : o.guard with
  | none =>
    rw [hgu] at hg
    rw [if_pos (by simp [Region.wanted, hgu])]
    exact .inl (yes hg)
  | some jw =>
    obtain ⟨j, want⟩ := jw
    rw [hgu] at hg
    obtain ⟨b, hb, hy, hn⟩ := hg
    have hyield : yielded ops.toArray a.tmps j = b := by
      unfold guardD at hb
      unfold yielded
      simp only [List.getElem?_toArray]
      cases hj : (ops[j]?).bind (·.dst) with
      | none => rw [hj] at hb; cases hb
      | some t =>
        rw [hj] at hb
        simp only [Option.bind_some]
        have ht : t ∈ opTmps o ++ guardTmp ops o := List.mem_append_right _ (by simp [guardTmp, hgu, hj])
        simp only at hb
        cases hx : (es i).get t with
        | none => rw [hx] at hb; cases hb
        | some d =>
          obtain ⟨v, hv, hr⟩ := hsee t ht d hx
          rw [hx] at hb
          rw [hv]
          split at hb
          · rename_i c hc
            cases hc
            rw [rep_bool hr]
            exact Option.some.inj hb
          · rename_i hc
            cases hc
            obtain ⟨vs, rfl, _⟩ := rep_tup hr
            exact Option.some.inj hb
          · cases hb
    by_cases hbw : b = some want
    · rw [if_pos (by simp only [Region.wanted, hgu, hyield, hbw]; exact beq_self_eq_true _)]
      exact .inl (yes (hy hbw))
    · rw [if_neg (by simp only [Region.wanted, hgu, hyield]; intro hx; exact hbw (by simpa using hx))]
      exact no (hn hbw)

theorem phaseT_end {C : Ctx} {H : Heap} {e : Env} {pre suf : List Oper} {es : Nat → Env} {ds : Nat → D} {A : Two2} {o1 o2 : Oper} {K : Env → Heap → Prop} {Q : Exit → Act → World → Prop} (hQ : ∀ e H a w, K e H → St C a w e H → Q .normal a w)
    (hok : OrdOk (pre ++ [o1, o2] ++ suf) pre.length (pre.length + 2)) (h0 : es 0 = e) (hes : ∀ (i : Nat) (o : Oper), pre[i]? = some o → StaAt C H (pre ++ [o1, o2] ++ suf) (es i) o (ds i) ∧ es (i + 1) = (es i).putO o.dst (ds i))
    (hK : ∀ b1 b2, H b1 = none → H b2 = none → b1 ≠ b2 → RO C (pre ++ [o1, o2] ++ suf) suf ((A.s2, .ptr b2 0) :: (A.s1, .ptr b1 0) :: es pre.length) ((H.set b1 (A.T1, A.z1)).set b2 (A.T2, A.z2)) K) (hdist : ∀ (i k : Nat) (o p : Oper) (t : Nat), pre[i]? = some o → pre[k]? = some p → o.dst = some t → p.dst = some t → i = k)
    (fuel : Nat) (listed : Array Bool) (a : Act) (w : World) (Hc : Heap) (hsz : listed.size = (pre ++ [o1, o2] ++ suf).length) (hall : ∀ j, j < pre.length + 2 → LA listed j) (hbelow : ∀ j, LA listed j → j < pre.length + 2)
    (hf : suf.length ≤ fuel) (hinv : Inv2 C H e pre ds A (LA listed) a w Hc) : wpAny C.P .any (pre ++ [o1, o2] ++ suf).toArray Q fuel listed a w := by
  have hdrop : (pre ++ [o1, o2] ++ suf).drop (pre.length + 2) = suf := by
    have : pre.length + 2 = (pre ++ [o1, o2]).length := by simp
    rw [this, List.drop_left]
  have hli : ∀ j, j < (pre ++ [o1, o2] ++ suf).length → (LA listed j ↔ j < pre.length + 2) := fun j _ => ⟨hbelow j, hall j⟩
  have hlen : pre.length + 2 ≤ (pre ++ [o1, o2] ++ suf).length := by simp
  have envs : ∀ (t : Nat) (d : D), (es pre.length).get t = some d → A.s1 ≠ t → A.s2 ≠ t → ∃ v, a.tmps[t]? = some v ∧ Rep w Hc v d := fun t d hd hs hs2 => by
    rcases trace_get h0 (fun i o h => (hes i o h).2) hdist pre.length (Nat.le_refl _) t d hd with ⟨k, p, hk, hp, hpt, rfl⟩ | ⟨he, hn⟩
    · exact hinv.ran k p t hp (hall k (by omega)) hpt
    · exact hinv.rest t d he (fun k p hp => hn k p (List.getElem?_eq_some_iff.1 hp).1 hp) hs hs2
  rcases hinv.made with ⟨h1, _⟩ | ⟨_, h2, _⟩ | ⟨h1, _⟩ | ⟨h1, h2, g, g', h3, h4, h5, h6, h7, h8⟩
  · exact absurd (hall _ (by omega)) h1
  · exact absurd (hall _ (by omega)) h2
  · exact absurd (hall _ (by omega)) h1
  · subst h8
    refine phase2 hok hQ suf _ fuel listed _ _ a w hdrop (Nat.le_refl _) hlen hsz hli (hK g g' h5 h6 h7) ⟨hinv.size, hinv.defers, fun t d hd => ?_, hinv.heap, hinv.ext⟩ hf
    rw [Env.get_cons] at hd
    split at hd
    · rename_i hst
      subst hst
      cases hd
      exact ⟨_, h4, .ptr g' 0⟩
    · rename_i hst2
      rw [Env.get_cons] at hd
      split at hd
      · rename_i hst
        subst hst
        cases hd
        exact ⟨_, h3, .ptr g 0⟩
      · rename_i hst
        exact envs t d hd hst hst2

theorem phaseT {C : Ctx} {H : Heap} {e : Env} {pre suf : List Oper} {es : Nat → Env} {ds : Nat → D} {A : Two2} {o1 o2 : Oper} {K : Env → Heap → Prop} {Q : Exit → Act → World → Prop} (hQ : ∀ e H a w, K e H → St C a w e H → Q .normal a w)
    (hok : OrdOk (pre ++ [o1, o2] ++ suf) pre.length (pre.length + 2)) (h0 : es 0 = e) (hes : ∀ (i : Nat) (o : Oper), pre[i]? = some o → StaAt C H (pre ++ [o1, o2] ++ suf) (es i) o (ds i) ∧ es (i + 1) = (es i).putO o.dst (ds i))
    (hK : ∀ b1 b2, H b1 = none → H b2 = none → b1 ≠ b2 → RO C (pre ++ [o1, o2] ++ suf) suf ((A.s2, .ptr b2 0) :: (A.s1, .ptr b1 0) :: es pre.length) ((H.set b1 (A.T1, A.z1)).set b2 (A.T2, A.z2)) K)
    {k1 k2 : Nat} (hz1 : ZeroOf C.P A.T1 k1 A.z1) (hz2 : ZeroOf C.P A.T2 k2 A.z2) (hN1 : A.s1 < C.N) (hN2 : A.s2 < C.N) (ho1 : ∃ ty pos af, o1 = ⟨some A.s1, .alloc A.T1, ty, pos, af, none⟩) (ho2 : ∃ ty pos af, o2 = ⟨some A.s2, .alloc A.T2, ty, pos, af, none⟩) :
    ∀ (fuel : Nat) (listed : Array Bool) (a : Act) (w : World) (Hc : Heap), listed.size = (pre ++ [o1, o2] ++ suf).length → Shut (pre ++ [o1, o2] ++ suf) (LA listed) → (∀ j, LA listed j → j < pre.length + 2) →
      ((List.range (pre.length + 2)).filter fun j => !listed.getD j false).length + suf.length ≤ fuel → Inv2 C H e pre ds A (LA listed) a w Hc → wpAny C.P .any (pre ++ [o1, o2] ++ suf).toArray Q fuel listed a w := by
  have hpre : ∀ (i : Nat) (o : Oper), pre[i]? = some o → (pre ++ [o1, o2] ++ suf)[i]? = some o := fun i o ho => by
    have hlt := (List.getElem?_eq_some_iff.1 ho).1
    rw [List.append_assoc, List.getElem?_append_left hlt]; exact ho
  have hdist : ∀ (i k : Nat) (o p : Oper) (t : Nat), pre[i]? = some o → pre[k]? = some p → o.dst = some t → p.dst = some t → i = k := fun i k o p t ho hp hot hpt => by
    have h1 := (List.getElem?_eq_some_iff.1 ho).1
    have h2 := (List.getElem?_eq_some_iff.1 hp).1
    exact hok.dist i k o p t (by omega) (by omega) (hpre i o ho) (hpre k p hp) hot hpt
  have hat1 : (pre ++ [o1, o2] ++ suf)[pre.length]? = some o1 := by simp
  have hat2 : (pre ++ [o1, o2] ++ suf)[pre.length + 1]? = some o2 := by
    rw [List.append_assoc, List.getElem?_append_right (by omega), show pre.length + 1 - pre.length = 1 by omega]; rfl
  have hd1 : o1.dst = some A.s1 := by obtain ⟨_, _, _, h⟩ := ho1; rw [h]
  have hd2 : o2.dst = some A.s2 := by obtain ⟨_, _, _, h⟩ := ho2; rw [h]
  have h12 : A.s1 ≠ A.s2 := fun h => by
    have := hok.dist pre.length (pre.length + 1) o1 o2 A.s1 (by omega) (by omega) hat1 hat2 hd1 (by rw [hd2, h])
    omega
  have hals : ∀ (i : Nat) (o : Oper), pre[i]? = some o → (A.s1 ∉ opTmps o ++ guardTmp (pre ++ [o1, o2] ++ suf) o ∧ o.dst ≠ some A.s1) ∧ (A.s2 ∉ opTmps o ++ guardTmp (pre ++ [o1, o2] ++ suf) o ∧ o.dst ≠ some A.s2) := fun i o ho => by
    have hlt := (List.getElem?_eq_some_iff.1 ho).1
    refine ⟨⟨fun hm => ?_, fun hd => ?_⟩, ⟨fun hm => ?_, fun hd => ?_⟩⟩
    · have := (hok.dep i o hlt (hpre i o ho) A.s1 hm pre.length _ (by omega) hat1 hd1).1
      omega
    · have := hok.dist i pre.length o _ A.s1 (by omega) (by omega) (hpre i o ho) hat1 hd hd1
      omega
    · have := (hok.dep i o hlt (hpre i o ho) A.s2 hm (pre.length + 1) _ (by omega) hat2 hd2).1
      omega
    · have := hok.dist i (pre.length + 1) o _ A.s2 (by omega) (by omega) (hpre i o ho) hat2 hd hd2
      omega
  intro fuel
  induction fuel with
  | zero =>
    intro listed a w Hc hsz hshut hbelow hcount hinv
    -- nothing is left
    have hall : ∀ j, j < pre.length + 2 → LA listed j := fun j hj => by
      by_cases h : listed.getD j false = true
      · exact h
      · have hm : j ∈ (List.range (pre.length + 2)).filter fun j => !listed.getD j false := List.mem_filter.2 ⟨List.mem_range.2 hj, by simpa using h⟩
        have := List.length_pos_of_mem hm
        omega
    exact phaseT_end hQ hok h0 hes hK hdist 0 listed a w Hc hsz hall hbelow (by omega) hinv
  | succ fuel ih =>
    intro listed a w Hc hsz hshut hbelow hcount hinv
    by_cases hall : ∀ j, j < pre.length + 2 → LA listed j
    · exact phaseT_end hQ hok h0 hes hK hdist (fuel + 1) listed a w Hc hsz hall hbelow (by
        have : ((List.range (pre.length + 2)).filter fun j => !listed.getD j false) = [] := by
          rw [List.filter_eq_nil_iff]
          intro j hj
          have := hall j (List.mem_range.1 hj)
          unfold LA at this
          simp [this]
        rw [this] at hcount
        simpa using hcount) hinv
    · -- one of the first ones is left: only such ones can come next
      have hex : ∃ j, j < pre.length + 2 ∧ ¬ LA listed j := by
        by_cases h : ∃ j, j < pre.length + 2 ∧ ¬ LA listed j
        · exact h
        · exact absurd (fun j hj => Classical.byContradiction fun hn => h ⟨j, hj, hn⟩) hall
      obtain ⟨q, ⟨hq, hqn⟩, hqmin⟩ := exists_least (fun j => j < pre.length + 2 ∧ ¬ LA listed j) hex
      have hlen : pre.length + 2 ≤ (pre ++ [o1, o2] ++ suf).length := by simp
      have hready : ∀ i ∈ Region.ready .any (pre ++ [o1, o2] ++ suf).toArray listed, i < pre.length + 2 ∧ ¬ LA listed i ∧ ∃ o, (pre ++ [o1, o2] ++ suf)[i]? = some o ∧ ∀ e ∈ o.after.toList, Region.binds .any e = true → LA listed e.on := by
        intro i hi
        rw [mem_ready] at hi
        obtain ⟨hn, o, ho, ha⟩ := hi
        have ho' : (pre ++ [o1, o2] ++ suf)[i]? = some o := by simpa using ho
        have hil := (List.getElem?_eq_some_iff.1 ho').1
        have hni : ¬ LA listed i := fun h => by
          have his : i < listed.size := by omega
          unfold LA at h
          simp [his] at h hn
          rw [h] at hn
          cases hn
        have ha' : ∀ e ∈ o.after.toList, Region.binds .any e = true → LA listed e.on := fun e he hb => ha e (Array.mem_toList_iff.1 he) hb
        refine ⟨?_, hni, o, ho', ha'⟩
        rcases Nat.lt_or_ge i (pre.length + 2) with h | h
        · exact h
        · exact absurd (before_of hshut ho' ha' (hok.suf i o ho' h q (by omega))) hqn
      refine ⟨fun h => ?_, fun i hi => ?_⟩
      · -- the least one that is left is ready
        have hql : q < (pre ++ [o1, o2] ++ suf).length := by omega
        have hqo : (pre ++ [o1, o2] ++ suf)[q]? = some (pre ++ [o1, o2] ++ suf)[q] := by simp
        have : q ∈ Region.ready .any (pre ++ [o1, o2] ++ suf).toArray listed := by
          rw [mem_ready]
          refine ⟨?_, (pre ++ [o1, o2] ++ suf)[q], by simp, fun e he hb => ?_⟩
          · have hqs : q < listed.size := by omega
            unfold LA at hqn
            simp [hqs] at hqn ⊢
            exact hqn
          · have hlt := hok.lt q _ hqo e (Array.mem_toList_iff.2 he) hb
            refine Classical.byContradiction fun hn => ?_
            have := hqmin e.on ⟨by omega, hn⟩
            omega
        rw [h] at this
        cases this
      · obtain ⟨him, hni, o, ho, hafter⟩ := hready i hi
        have hil : i < listed.size := by omega
        have hshut' : Shut (pre ++ [o1, o2] ++ suf) (LA (listed.setIfInBounds i true)) := fun k p hp hk e he hb => by
          by_cases hki : k = i
          · subst hki
            rw [ho] at hp
            cases hp
            exact getD_set_true (hafter e he hb)
          · have hk' : LA listed k := by
              unfold LA at hk ⊢
              rwa [getD_set_ne false (Ne.symm hki)] at hk
            exact getD_set_true (hshut k p hp hk' e he hb)
        have hLA : ∀ j, LA (listed.setIfInBounds i true) j ↔ (LA listed j ∨ j = i) := fun j => by
          unfold LA
          by_cases hji : j = i
          · subst hji
            simp [hil]
          · rw [getD_set_ne false (Ne.symm hji)]
            simp [hji]
        have hbelow' : ∀ j, LA (listed.setIfInBounds i true) j → j < pre.length + 2 := fun j hj => by
          rcases (hLA j).1 hj with h | h
          · exact hbelow j h
          · omega
        have hcnt := count_set (m := pre.length + 2) (listed := listed) him (by omega) (by unfold LA at hni; simpa using hni)
        have next : ∀ a' w' Hc', Inv2 C H e pre ds A (fun j => LA listed j ∨ j = i) a' w' Hc' → wpAny C.P .any (pre ++ [o1, o2] ++ suf).toArray Q fuel (listed.setIfInBounds i true) a' w' := fun a' w' Hc' hinv' => by
          refine ih _ a' w' Hc' (by simpa using hsz) hshut' hbelow' (by omega) ?_
          have hfun : LA (listed.setIfInBounds i true) = fun j => LA listed j ∨ j = i := funext fun j => propext (hLA j)
          rw [hfun]
          exact hinv'
        by_cases hip : i < pre.length
        · have hopre : pre[i]? = some o := by
            have h := ho
            rw [List.append_assoc, List.getElem?_append_left hip] at h
            exact h
          refine Inv2.step hinv h0 (fun i o h => (hes i o h).2) hpre hdist hals hopre (hes i o hopre).1 (hok.sel i o hip ho) (fun t ht k p hp hpt => ?_) (fun a' w' hinv' => next a' w' Hc hinv')
          have hkl := (List.getElem?_eq_some_iff.1 hp).1
          obtain ⟨hki, hbit⟩ := hok.dep i o hip ho t ht k p (by omega) (hpre k p hp) hpt
          exact ⟨hki, before_of hshut ho hafter hbit⟩
        · -- a variable is made
          have hfresh := hinv.heap.fresh
          -- the step, for either of them
          have made : ∀ (s : Nat) (T : TypeId) (zd : List D) (k : Nat), ZeroOf C.P T k zd → s < C.N → (∃ ty pos af, o = ⟨some s, .alloc T, ty, pos, af, none⟩) → (∀ (i : Nat) (o : Oper), pre[i]? = some o → o.dst ≠ some s) →
              (∀ t, t ≠ s → (A.s1 ≠ t ∧ A.s2 ≠ t) ∨ True) → (s = A.s1 ∨ s = A.s2) →
              Md A H pre.length (fun j => LA listed j ∨ j = i) (a.put (some s) (.pointer (some ⟨w.heap.size, 0, none⟩))).tmps (Hc.set w.heap.size (T, zd)) →
              wpOp C.P (pre ++ [o1, o2] ++ suf).toArray Q i (wpAny C.P .any (pre ++ [o1, o2] ++ suf).toArray Q fuel (listed.setIfInBounds i true)) a w := by
            intro s T zd k hz hsN hoo hno _ hs hmd
            obtain ⟨ty, pos, af, hoe⟩ := hoo
            subst hoe
            obtain ⟨inf, z, hi', hz1', hz2', hz3'⟩ := hz.is
            have hrun : (execOp a.eval ⟨some s, .alloc T, ty, pos, af, none⟩).run C.P w = .ok (.value (.pointer (some ⟨w.heap.size, 0, none⟩))) (w.alloc (.cells z.cells T)) := by
              simp [execOp, Instr.alloc, run_zeroValue hi' hz1', newVar, newRow, newObj, Sem.run]
            have hr := hz.reps w Hc
            have hok' : HOK (w.alloc (.cells z.cells T)) (Hc.set w.heap.size (T, zd)) := by
              rw [hz3']
              exact hinv.heap.allocMut T _ zd (by simp) fun j x hx => ⟨litOk_cell (List.all_eq_true.1 hz.lit x (List.mem_of_getElem? hx)), hr.2 j x hx⟩
            have hex' : Ext w Hc (w.alloc (.cells z.cells T)) (Hc.set w.heap.size (T, zd)) := Ext.allocMut w Hc _ _
            unfold wpOp
            have hops : (pre ++ [o1, o2] ++ suf).toArray[i]? = some ⟨some s, .alloc T, ty, pos, af, none⟩ := by simpa using ho
            rw [hops]
            simp only []
            rw [if_pos (by simp [Region.wanted])]
            refine .inl ?_
            unfold Oper.wp
            rw [hrun]
            show wpAny C.P .any _ Q fuel _ (a.put (some s) _) _
            refine next _ _ (Hc.set w.heap.size (T, zd)) ⟨?_, ?_, hok', hinv.ext.trans hex', ?_, ?_, ?_, hmd⟩
            · simp [Act.put, hinv.size]
            · rw [Act.put_defers']; exact hinv.defers
            · intro c x hx
              have hx := hinv.over c x hx
              have hne : c ≠ w.heap.size := fun e => by subst e; rw [hfresh] at hx; cases hx
              simp [Heap.set, hne, hx]
            · intro k' p t hp hk' hpt
              have hkl := (List.getElem?_eq_some_iff.1 hp).1
              have hkL : LA listed k' := hk'.resolve_right (by omega)
              obtain ⟨u, hu, hur⟩ := hinv.ran k' p t hp hkL hpt
              refine ⟨u, put_tmps hu (fun hx => ?_), hur.ext hex'⟩
              cases hx
              exact hno k' p hp hpt
            · intro t d he hn hs1 hs2
              obtain ⟨u, hu, hur⟩ := hinv.rest t d he hn hs1 hs2
              refine ⟨u, put_tmps hu (fun hx => ?_), hur.ext hex'⟩
              cases hx
              rcases hs with h | h
              · exact hs1 h.symm
              · exact hs2 h.symm
          have hslf : ∀ s, s < C.N → (a.put (some s) (.pointer (some ⟨w.heap.size, 0, none⟩))).tmps[s]? = some (Value.pointer (some ⟨w.heap.size, 0, none⟩)) := fun s hs => put_tmps_self (by rw [hinv.size]; exact hs)
          have hHf : H w.heap.size = none := hinv.over.none hfresh
          by_cases hi0 : i = pre.length
          · subst hi0
            have hoe : o = o1 := by rw [hat1] at ho; exact (Option.some.inj ho).symm
            subst hoe
            refine made A.s1 A.T1 A.z1 k1 hz1 hN1 ho1 (fun i o h => (hals i o h).1.2) (fun _ _ => .inr trivial) (.inl rfl) ?_
            rcases hinv.made with ⟨_, h2, h3⟩ | ⟨h1, _⟩ | ⟨_, h2, g, h3, h4, h5⟩ | ⟨h1, _⟩
            · subst h3
              exact .inr (.inl ⟨.inr rfl, fun h => h2 (h.resolve_right (by omega)), _, hslf _ hN1, hHf, rfl⟩)
            · exact absurd h1 hni
            · subst h5
              have hne : g ≠ w.heap.size := fun e => by subst e; simp [Heap.set] at hfresh
              refine .inr (.inr (.inr ⟨.inr rfl, .inl h2, _, g, hslf _ hN1, put_tmps h3 (fun h => h12 (Option.some.inj h)), hHf, h4, Ne.symm hne, ?_⟩))
              funext c
              simp only [Heap.set]
              by_cases c1 : c = w.heap.size
              · subst c1; rw [if_pos rfl, if_neg (Ne.symm hne), if_pos rfl]
              · rw [if_neg c1, if_neg c1]
            · exact absurd h1 hni
          · have hi1 : i = pre.length + 1 := by omega
            subst hi1
            have hoe : o = o2 := by rw [hat2] at ho; exact (Option.some.inj ho).symm
            subst hoe
            refine made A.s2 A.T2 A.z2 k2 hz2 hN2 ho2 (fun i o h => (hals i o h).2.2) (fun _ _ => .inr trivial) (.inr rfl) ?_
            rcases hinv.made with ⟨h1, _, h3⟩ | ⟨h1, _, g, h3, h4, h5⟩ | ⟨_, h2, _⟩ | ⟨_, h2, _⟩
            · subst h3
              exact .inr (.inr (.inl ⟨fun h => h1 (h.resolve_right (by omega)), .inr rfl, _, hslf _ hN2, hHf, rfl⟩))
            · subst h5
              have hne : g ≠ w.heap.size := fun e => by subst e; simp [Heap.set] at hfresh
              exact .inr (.inr (.inr ⟨.inl h1, .inr rfl, g, _, put_tmps h3 (fun h => h12 (Option.some.inj h).symm), hslf _ hN2, h4, hHf, hne, rfl⟩))
            · exact absurd h2 hni
            · exact absurd h2 hni

/-- A region whose order is drawn: static ones, two variables made, the rest. -/
theorem DW.draw2 {C : Ctx} {e : Env} {H : Heap} {Q : Post} {id : Nat} (pre suf : List Oper) (A : Two2) {o1 o2 : Oper} {k1 k2 : Nat} (hm : C.P.follows .mixedOrders = true) (hok : ordOk (pre ++ [o1, o2] ++ suf) pre.length (pre.length + 2) = true)
    (hz1 : ZeroOf C.P A.T1 k1 A.z1) (hz2 : ZeroOf C.P A.T2 k2 A.z2) (hN1 : A.s1 < C.N) (hN2 : A.s2 < C.N) (ho1 : ∃ ty pos af, o1 = ⟨some A.s1, .alloc A.T1, ty, pos, af, none⟩) (ho2 : ∃ ty pos af, o2 = ⟨some A.s2, .alloc A.T2, ty, pos, af, none⟩)
    (h : RS C H (pre ++ [o1, o2] ++ suf) pre e fun ef => ∀ b1 b2, H b1 = none → H b2 = none → b1 ≠ b2 → RO C (pre ++ [o1, o2] ++ suf) suf ((A.s2, .ptr b2 0) :: (A.s1, .ptr b1 0) :: ef) ((H.set b1 (A.T1, A.z1)).set b2 (A.T2, A.z2)) fun e' H' => Q .normal e' H') :
    DW C (.region id (pre ++ [o1, o2] ++ suf).toArray true) e H Q := by
  refine .mk fun a w hs => wp_region_any hm ?_
  obtain ⟨es, ds, h0, hes, hK⟩ := RS.trace pre e _ h
  have hnone : ∀ j, ¬ LA (Array.replicate (pre ++ [o1, o2] ++ suf).toArray.size false) j := fun j hj => by
    unfold LA at hj
    rw [Array.getD_eq_getD_getElem?, Array.getElem?_replicate] at hj
    split at hj <;> simp at hj
  refine phaseT (K := fun e' H' => Q .normal e' H') (fun e' H' a' w' hk hs' => ⟨e', H', hk, hs'⟩) (ordOk_spec hok) h0 hes hK hz1 hz2 hN1 hN2 ho1 ho2 _ _ a _ H (by simp) (fun i o _ hi => absurd hi (hnone i)) (fun j hj => absurd hj (hnone j)) ?_ ?_
  · have : ((List.range (pre.length + 2)).filter fun j => !(Array.replicate (pre ++ [o1, o2] ++ suf).toArray.size false).getD j false).length ≤ pre.length + 2 := by
      have := List.length_filter_le (fun j => !(Array.replicate (pre ++ [o1, o2] ++ suf).toArray.size false).getD j false) (List.range (pre.length + 2))
      simpa using this
    simp only [List.size_toArray, List.length_append, List.length_cons, List.length_nil] at this ⊢
    omega
  · have hex : Ext w H { w with drawn := w.drawn + 1 } H := Ext.drew w H _
    refine ⟨hs.size, hs.defers, hs.heap.drew _, hs.ext.trans hex, Over.refl _, fun k p t hp hk => absurd hk (hnone k), fun t d he _ _ _ => ?_, .inl ⟨hnone _, hnone _, rfl⟩⟩
    obtain ⟨v, hv, hr⟩ := hs.env t d he
    exact ⟨v, hv, hr.ext hex⟩

end Go.Proofs.YtcdihmhmoddppaaGreat
