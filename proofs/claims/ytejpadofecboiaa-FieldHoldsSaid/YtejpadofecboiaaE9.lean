/-
  The logic at the data level: code, by what its slots and the mutable blocks hold. No condition.
-/
import Derived.Test.YtejpadofecboiaaE8
namespace Go.Proofs.Ytejpadofecboiaa
open Go.RowKit
set_option linter.unusedVariables false
set_option linter.unusedSimpArgs false

def Env.putO (e : Env) : Option Tmp → D → Env
  | some t, d => (t, d) :: e
  | none, _ => e

/-- Where a function's run began. -/
structure Ctx where
  P : Program
  N : Nat
  w0 : World
  H0 : Heap

structure St (C : Ctx) (a : Act) (w : World) (e : Env) (H : Heap) : Prop where
  size : a.tmps.size = C.N
  defers : a.defers = []
  env : ∀ (t : Nat) (d : D), e.get t = some d → ∃ v, a.tmps[t]? = some v ∧ Rep w H v d
  heap : HOK w H
  ext : Ext C.w0 C.H0 w H

abbrev Post := Exit → Env → Heap → Prop

def lift (C : Ctx) (Q : Post) (x : Exit) (a : Act) (w : World) : Prop := ∃ e H, Q x e H ∧ St C a w e H

structure DW (C : Ctx) (c : Code) (e : Env) (H : Heap) (Q : Post) : Prop where
  go : ∀ a w, St C a w e H → c.wp C.P (lift C Q) a w

theorem St.agree {C : Ctx} {a : Act} {w : World} {e : Env} {H : Heap} (h : St C a w e H) : Agree a.eval w H e := by
  refine ⟨fun x d hx => ?_, fun v => rfl⟩
  cases x with
  | tmp t =>
    obtain ⟨v, hv, hr⟩ := h.env t d hx
    simpa [Act.eval, Array.getD_eq_getD_getElem?, hv] using hr
  | const v => exact rep_const hx
  | global g => simp [Env.ev] at hx
  | func f =>
    simp only [Env.ev, Option.some.injEq] at hx
    subst hx
    exact RepsA.fn f ⟨rfl, fun j x hx => by simp at hx⟩

def dstOk (N : Nat) : Option Tmp → Bool
  | none => true
  | some t => Nat.blt t N

theorem Env.get_cons (e : Env) (t t' : Nat) (d : D) : Env.get ((t, d) :: e) t' = if t = t' then some d else e.get t' := by
  simp only [Env.get]
  by_cases h : t = t'
  · subst h; simp
  · have : Nat.beq t t' = false := by
      cases hb : Nat.beq t t' with
      | false => rfl
      | true => exact absurd (Nat.eq_of_beq_eq_true hb) h
    simp [this, h]

theorem St.put {C : Ctx} {a : Act} {w w' : World} {e : Env} {H H' : Heap} (h : St C a w e H) {dst : Option Tmp} (hd : dstOk C.N dst = true) {v : Value} {d : D} (hv : Rep w' H' v d) (ho : HOK w' H') (he : Ext w H w' H') : St C (a.put dst v) w' (e.putO dst d) H' := by
  cases dst with
  | none => exact ⟨h.size, h.defers, fun t x hx => let ⟨u, hu, hr⟩ := h.env t x hx; ⟨u, hu, hr.ext he⟩, ho, h.ext.trans he⟩
  | some s =>
    have hs : s < C.N := by simpa [dstOk, Nat.blt_eq] using hd
    refine ⟨by simp [Act.put, h.size], h.defers, fun t x hx => ?_, ho, h.ext.trans he⟩
    simp only [Env.putO, Env.get_cons] at hx
    simp only [Act.put]
    rw [Array.getElem?_setIfInBounds]
    split at hx
    · rename_i hst
      subst hst
      cases hx
      exact ⟨v, by simp [h.size, hs], hv⟩
    · rename_i hst
      rw [if_neg hst]
      obtain ⟨u, hu, hr⟩ := h.env t x hx
      exact ⟨u, hu, hr.ext he⟩

section
variable {C : Ctx} {e : Env} {H : Heap} {Q : Post}

theorem DW.mono {c : Code} {Q' : Post} (h : DW C c e H Q) (hq : ∀ x e' H', Q x e' H' → Q' x e' H') : DW C c e H Q' :=
  .mk fun a w hs => wp_mono (h.go a w hs) fun x a' w' ⟨e', H', q, s⟩ => ⟨e', H', hq _ _ _ q, s⟩

/-- Fewer slots may be kept. -/
theorem St.weaken {a : Act} {w : World} {e e' : Env} (h : St C a w e H) (hs : ∀ t d, e'.get t = some d → e.get t = some d) : St C a w e' H :=
  ⟨h.size, h.defers, fun t d hd => h.env t d (hs t d hd), h.heap, h.ext⟩

theorem DW.weaken {c : Code} {e' : Env} (hs : ∀ t d, e'.get t = some d → e.get t = some d) (h : DW C c e' H Q) : DW C c e H Q :=
  .mk fun a w hst => h.go a w (hst.weaken hs)

/-- The slots of a list, as they are. -/
def Env.only (e : Env) : List Nat → Env
  | [] => []
  | t :: ts => match e.get t with
    | some d => (t, d) :: Env.only e ts
    | none => Env.only e ts

theorem Env.only_get (e : Env) : ∀ (ts : List Nat) (t : Nat) (d : D), (e.only ts).get t = some d → e.get t = some d
  | [], t, d, h => by simp [Env.only, Env.get] at h
  | s :: ts, t, d, h => by
    simp only [Env.only] at h
    split at h
    · rename_i x hx
      rw [Env.get_cons] at h
      split at h
      · rename_i hst; subst hst; rw [hx]; exact h
      · exact Env.only_get e ts t d h
    · exact Env.only_get e ts t d h

theorem DW.keep {c : Code} (ts : List Nat) (h : DW C c (e.only ts) H Q) : DW C c e H Q := .weaken (Env.only_get e ts) h

/-- A slot's datum may be seen as another one, and mutable blocks may become immutable. -/
theorem DW.change {c : Code} {e' : Env} {H' : Heap} (hH : H'.sub H) (hs : ∀ t d', e'.get t = some d' → ∃ d, e.get t = some d ∧ Frz H H' d d') (h : DW C c e' H' Q) : DW C c e H Q :=
  .mk fun a w hst => h.go a w ⟨hst.size, hst.defers, fun t d' hd' => by
    obtain ⟨d, hd, hf⟩ := hs t d' hd'
    obtain ⟨v, hv, hr⟩ := hst.env t d hd
    exact ⟨v, hv, Rep.frz hst.heap hH hf hr⟩, hst.heap.sub hH, hst.ext.sub hH⟩

theorem DW.skip (h : Q .normal e H) : DW C .skip e H Q := .mk fun a w hs => wp_skip ⟨e, H, h, hs⟩
theorem DW.exit {id : Nat} (h : Q (.exit id) e H) : DW C (.exit id) e H Q := .mk fun a w hs => wp_exit ⟨e, H, h, hs⟩
theorem DW.ret (h : Q .ret e H) : DW C .ret e H Q := .mk fun a w hs => wp_ret ⟨e, H, h, hs⟩

/-- Behind the first one comes the second one. -/
def thenQ (C : Ctx) (y : Code) (Q : Post) : Post
  | .normal, e, H => DW C y e H Q
  | x, e, H => Q x e H

theorem DW.seq {x y : Code} (h : DW C x e H (thenQ C y Q)) : DW C (.seq x y) e H Q := .mk fun a w hs => wp_seq (wp_mono (h.go a w hs) fun z a' w' hz => by
  obtain ⟨e', H', q, s⟩ := hz
  cases z with
  | normal => exact q.go a' w' s
  | exit id => exact ⟨e', H', q, s⟩
  | goto l => exact ⟨e', H', q, s⟩
  | ret => exact ⟨e', H', q, s⟩
  | panic c => exact ⟨e', H', q, s⟩
  | outgrown => exact ⟨e', H', q, s⟩)

theorem DW.cond {c : Operand} {x y : Code} {t : Bool} (hc : e.ev c = some (.bool t)) (h1 : t = true → DW C x e H Q) (h2 : t = false → DW C y e H Q) : DW C (.cond c x y) e H Q := .mk fun a w hs =>
  wp_cond_split (rep_bool (hs.agree c _ hc)) (fun h => (h1 h).go a w hs) (fun h => (h2 h).go a w hs)

def blockQ (id : Nat) (Q : Post) : Post
  | .exit id', e, H => bif Nat.beq id' id then Q .normal e H else Q (.exit id') e H
  | x, e, H => Q x e H

theorem DW.block {id : Nat} {c : Code} (h : DW C c e H (blockQ id Q)) : DW C (.block id c) e H Q := .mk fun a w hs => wp_block (wp_mono (h.go a w hs) fun z a' w' hz => by
  obtain ⟨e', H', q, s⟩ := hz
  cases z with
  | exit id' =>
    simp only [Exit.inBlock]
    simp only [blockQ] at q
    by_cases hi : id' = id
    · subst hi
      rw [if_pos rfl]
      rw [show Nat.beq id' id' = true from Nat.beq_refl id'] at q
      exact ⟨e', H', q, s⟩
    · rw [if_neg hi]
      have : Nat.beq id' id = false := by
        cases hb : Nat.beq id' id with
        | false => rfl
        | true => exact absurd (Nat.eq_of_beq_eq_true hb) hi
      rw [this] at q
      exact ⟨e', H', q, s⟩
  | normal => exact ⟨e', H', q, s⟩
  | goto l => exact ⟨e', H', q, s⟩
  | ret => exact ⟨e', H', q, s⟩
  | panic c => exact ⟨e', H', q, s⟩
  | outgrown => exact ⟨e', H', q, s⟩)

def loopQ (I : Nat → Env → Heap → Prop) (n : Nat) (Q : Post) : Post
  | .normal, e, H => ∃ m, m < n ∧ I m e H
  | x, e, H => Q x e H

theorem exists_least (p : Nat → Prop) (h : ∃ n, p n) : ∃ n, p n ∧ ∀ m, p m → n ≤ m := by
  obtain ⟨n, hn⟩ := h
  induction n using Nat.strongRecOn with
  | _ n ih =>
    by_cases hx : ∃ m, m < n ∧ p m
    · obtain ⟨m, hm, hp⟩ := hx
      exact ih m hm hp
    · refine ⟨n, hn, fun m hm => ?_⟩
      by_cases hlt : m < n
      · exact absurd ⟨m, hlt, hm⟩ hx
      · omega

/-- A loop: what holds at each round's head, with a number that falls. -/
theorem DW.loop {c : Code} (I : Nat → Env → Heap → Prop) (n : Nat) (h0 : I n e H) (hr : ∀ n e H, I n e H → DW C c e H (loopQ I n Q)) : DW C (.loop c) e H Q := by
  classical
  refine .mk fun a w hs => ?_
  let J : Act → World → Nat → Prop := fun a w n => ∃ e H, I n e H ∧ St C a w e H
  have hJ : ∃ n, J a w n := ⟨n, e, H, h0, hs⟩
  let least : (a : Act) → (w : World) → Nat := fun a w => if h : ∃ n, J a w n then Classical.choose (exists_least _ h) else 0
  have hleast : ∀ a w, (∃ n, J a w n) → J a w (least a w) ∧ ∀ m, J a w m → least a w ≤ m := fun a w h => by
    have : least a w = Classical.choose (exists_least _ h) := dif_pos h
    rw [this]
    exact Classical.choose_spec (exists_least _ h)
  refine wp_loop (fun a w => ∃ n, J a w n) least hJ fun a w hj => ?_
  obtain ⟨e', H', hI, hst⟩ := (hleast a w hj).1
  refine wp_mono ((hr _ e' H' hI).go a w hst) fun z a' w' hz => ?_
  obtain ⟨e2, H2, q, s⟩ := hz
  cases z with
  | normal =>
    obtain ⟨m, hm, hIm⟩ := q
    have hj' : ∃ n, J a' w' n := ⟨m, e2, H2, hIm, s⟩
    exact ⟨hj', Nat.lt_of_le_of_lt ((hleast a' w' hj').2 m ⟨e2, H2, hIm, s⟩) hm⟩
  | exit id => exact ⟨e2, H2, q, s⟩
  | goto l => exact ⟨e2, H2, q, s⟩
  | ret => exact ⟨e2, H2, q, s⟩
  | panic c => exact ⟨e2, H2, q, s⟩
  | outgrown => exact ⟨e2, H2, q, s⟩

end
end Go.Proofs.Ytejpadofecboiaa
