/-
  Ways that meet again; nil handed on as an empty list. No condition.
-/
import Derived.Test.YtejpadofecboiaaE17
namespace Go.Proofs.Ytejpadofecboiaa
open Go.RowKit
set_option linter.unusedVariables false
set_option linter.unusedSimpArgs false

/-- A datum, seen as another one: nil as a list without elements. -/
def Seen (d' d : D) : Prop := d' = d ∨ (d' = .nil ∧ ∃ k, d = .list k [])

theorem Seen.rep {w : World} {H : Heap} {v : Value} {d' d : D} (h : Seen d' d) (hr : Rep w H v d') : Rep w H v d := by
  rcases h with rfl | ⟨rfl, k, rfl⟩
  · exact hr
  · exact hr.nil_list k

def HasN (e : Env) : Env → Prop
  | [] => True
  | (t, d) :: r => (∃ d', e.get t = some d' ∧ Seen d' d) ∧ HasN e r

theorem HasN.get {e : Env} : ∀ {l : Env} {t : Nat} {d : D}, HasN e l → l.get t = some d → ∃ d', e.get t = some d' ∧ Seen d' d
  | [], t, d, _, h => by simp [Env.get] at h
  | (s, x) :: r, t, d, ⟨h1, h2⟩, h => by
    rw [Env.get_cons] at h
    split at h
    · rename_i hst; subst hst; cases h; exact h1
    · exact HasN.get h2 h

theorem HasN.one {e : Env} {t : Nat} {d : D} {l : Env} (h : e.get t = some d) (r : HasN e l) : HasN e ((t, d) :: l) := ⟨⟨d, h, .inl rfl⟩, r⟩
theorem HasN.nil1 {e : Env} {t k : Nat} {l : Env} (h : e.get t = some .nil) (r : HasN e l) : HasN e ((t, .list k []) :: l) := ⟨⟨.nil, h, .inr ⟨rfl, k, rfl⟩⟩, r⟩
theorem HasN.eq {e : Env} {t : Nat} {d d' : D} {l : Env} (h : e.get t = some d') (hd : d' = d) (r : HasN e l) : HasN e ((t, d) :: l) := ⟨⟨d', h, .inl hd⟩, r⟩

theorem DW.hasN {C : Ctx} {c : Code} {e : Env} {H : Heap} {Q : Post} (l : Env) (h : HasN e l) (hd : DW C c l H Q) : DW C c e H Q :=
  .mk fun a w hst => hd.go a w ⟨hst.size, hst.defers, fun t d ht => by
    obtain ⟨d', hd', hs⟩ := h.get ht
    obtain ⟨v, hv, hr⟩ := hst.env t d' hd'
    exact ⟨v, hv, hs.rep hr⟩, hst.heap, hst.ext⟩

def cutQ (l : Env) (H' : Heap) (Q : Post) : Post
  | .normal, e, H => HasN e l ∧ H = H'
  | x, e, H => Q x e H

/-- Ways meet: behind them these slots hold these data. -/
theorem DW.cut {C : Ctx} {x y : Code} {e : Env} {H : Heap} {Q : Post} (l : Env) (H' : Heap) (h2 : DW C y l H' Q) (h1 : DW C x e H (cutQ l H' Q)) : DW C x e H (thenQ C y Q) := h1.mono fun z e' H'' h => by
  cases z with
  | normal =>
    obtain ⟨ha, hb⟩ := h
    subst hb
    exact DW.hasN l ha h2
  | exit id => exact h
  | goto l => exact h
  | ret => exact h
  | panic c => exact h
  | outgrown => exact h

theorem OpD.mono {P : Program} {H : Heap} {e : Env} {o : Oper} {K K' : D → Heap → Prop} (h : OpD P H e o K) (hk : ∀ d H', K d H' → K' d H') : OpD P H e o K' :=
  .mk fun ρ w ha ho => (h.go ρ w ha ho).mono fun v w' ⟨d, H', h1, h2⟩ => ⟨d, H', hk _ _ h1, h2⟩

theorem RO.mono {C : Ctx} {ops : List Oper} {K K' : Env → Heap → Prop} (hk : ∀ e H, K e H → K' e H) : ∀ {l : List Oper} {e : Env} {H : Heap}, RO C ops l e H K → RO C ops l e H K'
  | [], e, H, h => hk e H h
  | o :: l, e, H, ⟨hd, hg⟩ => by
    refine ⟨hd, ?_⟩
    unfold GuardIs at hg ⊢
    cases hgu : o.guard with
    | none =>
      rw [hgu] at hg
      exact hg.mono fun d H' h => RO.mono hk h
    | some jw =>
      obtain ⟨j, want⟩ := jw
      rw [hgu] at hg
      obtain ⟨b, h1, h2, h3⟩ := hg
      exact ⟨b, h1, fun h => (h2 h).mono fun d H' h => RO.mono hk h, fun h => RO.mono hk (h3 h)⟩

/-- Ways meet at a region's end. -/
theorem RO.cut {C : Ctx} {ops rest : List Oper} {y : Code} {e : Env} {H : Heap} {Q : Post} (l : Env) (H' : Heap) (h2 : DW C y l H' Q) (h1 : RO C ops rest e H fun e' H'' => HasN e' l ∧ H'' = H') : RO C ops rest e H fun e' H'' => thenQ C y Q .normal e' H'' :=
  RO.mono (fun e' H'' ⟨ha, hb⟩ => by subst hb; exact DW.hasN l ha h2) h1

theorem RepsA.nilAt {w : World} {H : Heap} {args : Array Value} {ds : List D} (i k : Nat) (h : RepsA w H args ds) (hi : ds[i]? = some .nil) : RepsA w H args (ds.set i (.list k [])) := by
  refine ⟨by simpa using h.1, fun j x hx => ?_⟩
  rw [List.getElem?_set] at hx
  split at hx
  · rename_i hij
    subst hij
    split at hx
    · cases hx
      obtain ⟨v, hv, hr⟩ := h.2 i _ hi
      exact ⟨v, hv, hr.nil_list k⟩
    · cases hx
  · exact h.2 j x hx

/-- nil may be handed in for an empty list. -/
theorem PureH.nilAt {P : Program} {H : Heap} {f : FuncId} {ds : List D} {d : D} (i k : Nat) (h : PureH P H f (ds.set i (.list k [])) d) (hi : ds[i]? = some .nil) : PureH P H f ds d :=
  ⟨h.body, fun w args ho ha => h.calls w args ho (ha.nilAt i k hi)⟩

end Go.Proofs.Ytejpadofecboiaa
