/-
  What holds while a basis grows; how many members there may be. No condition.
-/
import Derived.Test.YtfjmdhemlfafbaaGreatKHc18
import Derived.Test.YtfjmdhemlfafbaaGreatKHc14
import Derived.Test.YtfjmdhemlfafbaaGreatKHc12
set_option linter.unusedVariables false
set_option linter.unusedSimpArgs false

namespace Go.Proofs.YtfjmdhemlfafbaaGreat
section
open Go.RowKit

structure HS where
 v : Vc
 left : Vc
 σ : List (Nat × Tm)

def hstepA (s : HS) (a : Nat) (u : Tm) : HS := ⟨s.v.set a (s.v.getD a []).tail, s.left.set a (s.left.getD a [] ++ [u]), s.σ⟩
def hstepB (r : Rg) (l : List Vc) (s : HS) (u : Tm) (i : Nat) : HS := ⟨vsumT r s.v (vbyT r (l.getD i []) (negT r (byAt r l u i))), s.left, s.σ ++ [(i, byAt r l u i)]⟩

def hstep (r : Rg) (l : List Vc) (s : HS) : Option HS := match topV r s.v with
 | none => none
 | some (a, u) => match goesT r l a u.e with
  | none => some (hstepA s a u)
  | some i => some (hstepB r l s u i)

def hrun (r : Rg) (l : List Vc) : Nat → HS → HS
 | 0, s => s
 | n + 1, s => match hstep r l s with
  | none => s
  | some s' => hrun r l n s'

def hinit (k : Nat) (v : Vc) : HS := ⟨v, List.replicate k [], []⟩
def hdiv (r : Rg) (k : Nat) (l : List Vc) (v : Vc) : HS := hrun r l (muT r v) (hinit k v)

structure HL (r : Rg) (k : Nat) (δ : Nat → Int) (l : List Vc) : Prop where
 cx : Cx r k δ
 hv : ∀ d ∈ l, ∃ τ, HV r k δ τ d

def evS (l : List Vc) (σ : List (Nat × Tm)) : Fu := fun ψ => (σ.map fun x => x.2.c * mulF x.2.e (ev (l.getD x.1 [])) ψ).sum

structure SigOk (r : Rg) (k : Nat) (δ : Nat → Int) (l : List Vc) (τ C : Int) (x : Nat × Tm) : Prop where
 lt : x.1 < l.length
 tb : TB 1 r.p r.n.toNat 8000 x.2
 me : ME r.n.toNat x.2.e
 lead : ∃ a w, topV r (l.getD x.1 []) = some (a, w) ∧ x.2.e.sum + w.e.sum + δ a = τ ∧ code2 r a (zipE (· + ·) w.e x.2.e) ≤ C

structure HInv (r : Rg) (k : Nat) (δ : Nat → Int) (τ C : Int) (l : List Vc) (v0 : Vc) (s : HS) : Prop where
 v : HV r k δ τ s.v
 top : ∀ (j : Nat) (h : j < s.v.length), ∀ t ∈ s.v[j], code2 r j t.e ≤ C
 left : HV r k δ τ s.left
 ltop : ∀ (j : Nat) (h : j < s.left.length), ∀ t ∈ s.left[j], code2 r j t.e ≤ C
 above : ∀ (j : Nat) (h : j < s.left.length), ∀ t ∈ s.left[j], (muT r s.v : Int) ≤ code2 r j t.e
 normal : ∀ (j : Nat) (h : j < s.left.length), ∀ t ∈ s.left[j], goesT r l j t.e = none
 sum : CongF r.p (ev v0) fun ψ => ev s.v ψ + ev s.left ψ + evS l s.σ ψ
 sig : ∀ x ∈ s.σ, SigOk r k δ l τ C x

theorem muT_ltM {r : Rg} {n : Nat} {v v' : Vc} {a : Nat} {u : Tm} (hv : VM r n v) (ht : topV r v = some (a, u)) (hv' : VM r n v') (h : ∀ (i : Nat) (hi : i < v'.length), ∀ s ∈ v'[i], code2 r i s.e < code2 r a u.e) : muT r v' < muT r v := by
 unfold muT
 rw [ht]
 cases hx : topV r v' with
 | none => exact Nat.succ_pos _
 | some x =>
  obtain ⟨b, w⟩ := x
  have hi := topV_isM hv' hx
  obtain ⟨f, hf⟩ := hi.at_
  have := h b hi.lt w (by rw [hf]; simp)
  have := code2_range (r := r) (i := b) hi.me (by have := hi.lt; have := hv'.len; omega)
  dsimp only
  omega

theorem HV.nils {r : Rg} {k : Nat} {δ : Nat → Int} {τ : Int} (h8 : τ ≤ 8000) : HV r k δ τ (List.replicate k []) :=
 ⟨h8, by simp, fun i hi => by rw [List.getElem_replicate]; exact PB.nil _ _ _ _ _, fun i hi t ht => by rw [List.getElem_replicate] at ht; cases ht⟩

theorem HInv.init {r : Rg} {k : Nat} {δ : Nat → Int} {τ C : Int} {l : List Vc} {v : Vc} (hv : HV r k δ τ v) (hC : ∀ (j : Nat) (h : j < v.length), ∀ t ∈ v[j], code2 r j t.e ≤ C) : HInv r k δ τ C l v (hinit k v) := by
 have hn : ∀ (j : Nat) (h : j < (hinit k v).left.length), (hinit k v).left[j] = [] := fun j h => by simp [hinit]
 refine ⟨hv, hC, HV.nils hv.t8, fun j h t ht => ?_, fun j h t ht => ?_, fun j h t ht => ?_, fun ψ => dz ?_, fun x h => (by cases h)⟩
 ·rw [hn] at ht; cases ht
 ·rw [hn] at ht; cases ht
 ·rw [hn] at ht; cases ht
 ·have : ev (hinit k v).left ψ = 0 := ev_nil hn ψ
  show ev v ψ - (ev v ψ + ev (hinit k v).left ψ + 0) = 0
  omega

theorem LvGo_snoc {ψ : Ps} : ∀ {v : Vc} {j a : Nat} {u : Tm} (h : a < v.length), LvGo ψ j (v.set a (v[a] ++ [u])) = LvGo ψ j v + u.c * ψ (j + a) u.e
 | g :: v, j, 0, u, _ => by
  show Lf (ψ j) (g ++ [u]) + LvGo ψ (j + 1) v = Lf (ψ j) g + LvGo ψ (j + 1) v + u.c * ψ (j + 0) u.e
  rw [Lf_append, Lf_cons, Lf_nil]
  show _ = _ + u.c * ψ j u.e
  omega
 | g :: v, j, a + 1, u, h => by
  have := LvGo_snoc (ψ := ψ) (v := v) (j := j + 1) (a := a) (u := u) (by simpa using h)
  show Lf (ψ j) g + LvGo ψ (j + 1) (v.set a (v[a]'(by simpa using h) ++ [u])) = Lf (ψ j) g + LvGo ψ (j + 1) v + u.c * ψ (j + (a + 1)) u.e
  rw [this, show j + 1 + a = j + (a + 1) by omega]; omega

theorem HInv.stepA {r : Rg} {k : Nat} {δ : Nat → Int} {τ C : Int} {l : List Vc} {v0 : Vc} {s : HS} (hl : HL r k δ l) (h : HInv r k δ τ C l v0 s) {a : Nat} {u : Tm} (ht : topV r s.v = some (a, u)) (hg : goesT r l a u.e = none) :
  HInv r k δ τ C l v0 (hstepA s a u) ∧ muT r (hstepA s a u).v < muT r s.v := by
 have hvm := h.v.vm hl.cx
 have hlm := h.left.vm hl.cx
 have iv := topV_isM hvm ht
 have hk := hl.cx.k40
 have ha := iv.lt
 have hvl := h.v.len
 have hll := h.left.len
 obtain ⟨f, hf⟩ := iv.at_
 have hua := h.v.all a ha
 have hoa := h.v.hom a ha
 have hca := h.top a ha
 rw [hf] at hua hoa hca
 have hal : a < s.left.length := by omega
 have e1 : (s.v.getD a []).tail = f := by rw [List.getD_eq_getElem?_getD, List.getElem?_eq_getElem ha]; show (s.v[a]).tail = f; rw [hf]; rfl
 have e2 : s.left.getD a [] = s.left[a] := by rw [List.getD_eq_getElem?_getD, List.getElem?_eq_getElem hal]; rfl
 have hst : hstepA s a u = ⟨s.v.set a f, s.left.set a (s.left[a] ++ [u]), s.σ⟩ := by unfold hstepA; rw [e1, e2]
 rw [hst]
 have hv' : HV r k δ τ (s.v.set a f) := ⟨h.v.t8, by simp [hvl], fun i hi => by
   rw [List.getElem_set]
   split
   ·exact hua.tail
   ·exact h.v.all i (by simpa using hi), fun i hi t htm => by
   rw [List.getElem_set] at htm
   split at htm
   ·rename_i hia
    subst hia
    exact hoa t (by simp [htm])
   ·exact h.v.hom i (by simpa using hi) t htm⟩
 have hmu : muT r (s.v.set a f) < muT r s.v := muT_ltM hvm ht (hv'.vm hl.cx) fun i hi t htm => by
  rw [List.getElem_set] at htm
  split at htm
  ·rename_i hia
   subst hia
   exact code2_same' iv.me (hvm.me ha t (by rw [hf]; simp [htm])) (hua.below t htm)
  ·rename_i hia
   have hi2 : i < s.v.length := by simpa using hi
   have h1 := iv.max i hi2 t htm
   have h2 : code2 r i t.e ≠ code2 r a u.e := fun hh => hia (code2_inj (hvm.me hi2 t htm) iv.me (by omega) (by omega) hh).1.symm
   omega
 have hmu0 : (muT r s.v : Int) = code2 r a u.e + 1 := by
  unfold muT
  rw [ht]
  have := code2_range (r := r) (i := a) iv.me (by omega)
  dsimp only
  omega
 have huc : code2 r a u.e ≤ C := hca u (by simp)
 have hpart : ∀ (j : Nat) (hj : j < (s.left.set a (s.left[a] ++ [u])).length), ∀ t ∈ (s.left.set a (s.left[a] ++ [u]))[j], (∃ hj2 : j < s.left.length, t ∈ s.left[j]) ∨ (j = a ∧ t = u) := fun j hj t htm => by
  rw [List.getElem_set] at htm
  split at htm
  ·rename_i hia
   subst hia
   rcases List.mem_append.1 htm with htm | htm
   ·exact .inl ⟨hal, htm⟩
   ·exact .inr ⟨rfl, List.mem_singleton.1 htm⟩
  ·exact .inl ⟨by simpa using hj, htm⟩
 refine ⟨⟨hv', fun j hj t htm => ?_, ⟨h.left.t8, by simp [hll], fun j hj => ?_, fun j hj t htm => ?_⟩, fun j hj t htm => ?_, fun j hj t htm => ?_, fun j hj t htm => ?_, fun ψ => ?_, h.sig⟩, hmu⟩
 ·dsimp only at hj htm
  rw [List.getElem_set] at htm
  split at htm
  ·rename_i hia
   subst hia
   exact hca t (by simp [htm])
  ·exact h.top j (by simpa using hj) t htm
 ·rw [List.getElem_set]
  split
  ·rename_i hia
   subst hia
   refine (h.left.all a hal).snoc hua.head fun t htm => ?_
   have := h.above a hal t htm
   exact code2_same (r := r) (i := a) (hlm.me hal t htm) iv.me (by omega)
  ·exact h.left.all j (by simpa using hj)
 ·rcases hpart j hj t htm with ⟨hj2, h1⟩ | ⟨h1, h2⟩
  ·exact h.left.hom j hj2 t h1
  ·subst h1; subst h2
   exact hoa t (by simp)
 ·rcases hpart j hj t htm with ⟨hj2, h1⟩ | ⟨h1, h2⟩
  ·exact h.ltop j hj2 t h1
  ·subst h1; subst h2; exact huc
 ·dsimp only
  rcases hpart j hj t htm with ⟨hj2, h1⟩ | ⟨h1, h2⟩
  ·have := h.above j hj2 t h1
   omega
  ·subst h1; subst h2; omega
 ·rcases hpart j hj t htm with ⟨hj2, h1⟩ | ⟨h1, h2⟩
  ·exact h.normal j hj2 t h1
  ·subst h1; subst h2; exact hg
 ·have h1 := h.sum ψ
  have h2 : ev s.v ψ = u.c * ψ (0 + a) u.e + ev (s.v.set a f) ψ := LvGo_set ha hf
  have h3 : ev (s.left.set a (s.left[a] ++ [u])) ψ = ev s.left ψ + u.c * ψ (0 + a) u.e := LvGo_snoc hal
  refine dv h1 ?_
  dsimp only
  rw [h2, h3]
  omega

theorem evS_snoc (l : List Vc) (σ : List (Nat × Tm)) (x : Nat × Tm) (ψ : Ps) : evS l (σ ++ [x]) ψ = evS l σ ψ + x.2.c * mulF x.2.e (ev (l.getD x.1 [])) ψ := by
 unfold evS
 rw [List.map_append, List.sum_append]
 simp

theorem HInv.stepB {r : Rg} {k : Nat} {δ : Nat → Int} {τ C : Int} {l : List Vc} {v0 : Vc} {s : HS} (hl : HL r k δ l) (h : HInv r k δ τ C l v0 s) {a i : Nat} {u : Tm} (ht : topV r s.v = some (a, u)) (hg : goesT r l a u.e = some i) :
  HInv r k δ τ C l v0 (hstepB r l s u i) ∧ muT r (hstepB r l s u i).v < muT r s.v ∧ ∃ (hi : i < l.length) (w : Tm) (τd : Int), HV r k δ τd l[i] ∧ topV r l[i] = some (a, w) ∧ goesM u.e w.e = true ∧ byAt r l u i = byOf r u w ∧ TB 1 r.p r.n.toNat 8000 (byOf r u w) ∧ ME r.n.toNat (byOf r u w).e ∧ SigOk r k δ l τ C (i, byOf r u w) := by
 obtain ⟨hi, w, htd, hgm⟩ := goesT_some hg
 obtain ⟨hp2, hn3, hn1, hpr, hck⟩ := hl.cx.rg
 obtain ⟨τd, hdv⟩ := hl.hv _ (List.getElem_mem hi)
 have t1 := h.v.top hl.cx ht
 have t2 := hdv.top hl.cx htd
 obtain ⟨b1, b2, b3, b4, b5⟩ := byOf_ok hck t1.2.1 t1.2.2.1 t2.2.1 t2.2.2.1 hgm
 have e1 : l.getD i [] = l[i] := by rw [List.getD_eq_getElem?_getD, List.getElem?_eq_getElem hi]; rfl
 have e3 : byAt r l u i = byOf r u w := by unfold byAt; rw [e1, htd]; rfl
 obtain ⟨k1, k2⟩ := reduce_hom hl.cx h.v hdv ht htd hgm
 have iv := topV_isM (h.v.vm hl.cx) ht
 have hmu := muT_ltM (h.v.vm hl.cx) ht (k1.vm hl.cx) k2
 obtain ⟨f, hf⟩ := iv.at_
 have huC : code2 r a u.e ≤ C := h.top a iv.lt u (by rw [hf]; simp)
 have hso : SigOk r k δ l τ C (i, byOf r u w) := ⟨hi, b1, b2, a, w, by rw [e1]; exact htd, by
  show (byOf r u w).e.sum + w.e.sum + δ a = τ
  rw [b4]
  have := t1.2.2.2
  omega, by rw [b3]; exact huC⟩
 unfold hstepB
 rw [e1, e3]
 have hneg := negT_ok b1
 have htm : TM r (negT r (byOf r u w)) := ⟨by have := hneg.lo; omega, hneg.hi, ⟨b2.len, b2.pos⟩⟩
 have hns : (negT r (byOf r u w)).e.sum = u.e.sum - w.e.sum := b4
 have hby := hdv.by hl.cx htm (by rw [hns]; have := h.v.t8; have := t1.2.2.2; have := t2.2.2.2; omega)
 have hbe : τd + (negT r (byOf r u w)).e.sum = τ := by rw [hns]; have := t1.2.2.2; have := t2.2.2.2; omega
 rw [hbe] at hby
 refine ⟨⟨k1, fun j hj t htm => ?_, h.left, h.ltop, fun j hj t htm => ?_, h.normal, fun ψ => ?_, fun x hx => ?_⟩, hmu, hi, w, τd, hdv, htd, hgm, rfl, b1, b2, hso⟩
 ·have := k2 j hj t htm
  omega
 ·have := h.above j hj t htm
  dsimp only
  omega
 ·have h1 := h.sum ψ
  have h2 := h.v.ev_sum hl.cx hby ψ
  have h3 := ev_by (r := r) l[i] (negT r (byOf r u w)) ψ
  dsimp only at h1 h2 h3 ⊢
  rw [evS_snoc]
  dsimp only
  rw [e1]
  have h4 : (negT r (byOf r u w)).c * mulF (negT r (byOf r u w)).e (ev l[i]) ψ = r.p * mulF (byOf r u w).e (ev l[i]) ψ - (byOf r u w).c * mulF (byOf r u w).e (ev l[i]) ψ := by
   show (r.p - (byOf r u w).c) * _ = _
   rw [Int.sub_mul]; rfl
  rw [h4] at h3
  have h5 : r.p ∣ r.p * mulF (byOf r u w).e (ev l[i]) ψ := Int.dvd_mul_right _ _
  refine dv (Int.dvd_sub (Int.dvd_sub (Int.dvd_sub h1 h2) h3) h5) ?_
  omega
 ·rcases List.mem_append.1 hx with hx | hx
  ·exact h.sig x hx
  ·rw [List.mem_singleton.1 hx]; exact hso

theorem hrun_ok {r : Rg} {k : Nat} {δ : Nat → Int} {τ C : Int} {l : List Vc} {v0 : Vc} (hl : HL r k δ l) : ∀ (n : Nat) (s : HS), HInv r k δ τ C l v0 s → muT r s.v ≤ n → HInv r k δ τ C l v0 (hrun r l n s) ∧ topV r (hrun r l n s).v = none
 | 0, s, h, hn => by
  refine ⟨h, ?_⟩
  show topV r s.v = none
  cases hx : topV r s.v with
  | none => rfl
  | some x => unfold muT at hn; rw [hx] at hn; obtain ⟨a, u⟩ := x; exact absurd hn (by dsimp only; omega)
 | n + 1, s, h, hn => by
  show HInv r k δ τ C l v0 (match hstep r l s with | none => s | some s' => hrun r l n s') ∧ topV r (match hstep r l s with | none => s | some s' => hrun r l n s').v = none
  cases hx : topV r s.v with
  | none =>
   have : hstep r l s = none := by unfold hstep; rw [hx]
   rw [this]
   exact ⟨h, hx⟩
  | some x =>
   obtain ⟨a, u⟩ := x
   cases hg : goesT r l a u.e with
   | none =>
    have : hstep r l s = some (hstepA s a u) := by unfold hstep; rw [hx]; dsimp only; rw [hg]
    rw [this]
    obtain ⟨h1, h2⟩ := h.stepA hl hx hg
    exact hrun_ok hl n _ h1 (by omega)
   | some i =>
    have : hstep r l s = some (hstepB r l s u i) := by unfold hstep; rw [hx]; dsimp only; rw [hg]
    rw [this]
    obtain ⟨h1, h2, _⟩ := h.stepB hl hx hg
    exact hrun_ok hl n _ h1 (by omega)

theorem hdiv_ok {r : Rg} {k : Nat} {δ : Nat → Int} {τ C : Int} {l : List Vc} {v : Vc} (hl : HL r k δ l) (hv : HV r k δ τ v) (hC : ∀ (j : Nat) (h : j < v.length), ∀ t ∈ v[j], code2 r j t.e ≤ C) :
  HInv r k δ τ C l v (hdiv r k l v) ∧ topV r (hdiv r k l v).v = none := hrun_ok hl _ _ (.init hv hC) (Nat.le_refl _)

theorem hrun_more {r : Rg} {k : Nat} {δ : Nat → Int} {τ C : Int} {l : List Vc} {v0 : Vc} (hl : HL r k δ l) : ∀ (n m : Nat) (s : HS), HInv r k δ τ C l v0 s → muT r s.v ≤ n → muT r s.v ≤ m → hrun r l n s = hrun r l m s
 | n, m, s, h, hn, hm => by
  cases hx : topV r s.v with
  | none =>
   have h0 : hstep r l s = none := by unfold hstep; rw [hx]
   have : ∀ n, hrun r l n s = s := fun n => by
    cases n with
    | zero => rfl
    | succ n => show (match hstep r l s with | none => s | some s' => hrun r l n s') = s; rw [h0]
   rw [this n, this m]
  | some x =>
   obtain ⟨a, u⟩ := x
   have hpos : 0 < muT r s.v := by unfold muT; rw [hx]; exact Nat.succ_pos _
   match n, m, hn, hm with
   | n + 1, m + 1, hn, hm =>
    show (match hstep r l s with | none => s | some s' => hrun r l n s') = (match hstep r l s with | none => s | some s' => hrun r l m s')
    cases hg : goesT r l a u.e with
    | none =>
     have : hstep r l s = some (hstepA s a u) := by unfold hstep; rw [hx]; dsimp only; rw [hg]
     rw [this]
     obtain ⟨h1, h2⟩ := h.stepA hl hx hg
     exact hrun_more hl n m _ h1 (by omega) (by omega)
    | some i =>
     have : hstep r l s = some (hstepB r l s u i) := by unfold hstep; rw [hx]; dsimp only; rw [hg]
     rw [this]
     obtain ⟨h1, h2, _⟩ := h.stepB hl hx hg
     exact hrun_more hl n m _ h1 (by omega) (by omega)
   | 0, _, hn, _ => omega
   | _, 0, _, hm => omega

structure HAt (r : Rg) (k : Nat) (δ : Nat → Int) (τ C : Int) (l : List Vc) (v : Vc) (s : HS) : Prop where
 inv : HInv r k δ τ C l v s
 fin : hrun r l (muT r s.v) s = hdiv r k l v

theorem HAt.init {r : Rg} {k : Nat} {δ : Nat → Int} {τ C : Int} {l : List Vc} {v : Vc} (hv : HV r k δ τ v) (hC : ∀ (j : Nat) (h : j < v.length), ∀ t ∈ v[j], code2 r j t.e ≤ C) : HAt r k δ τ C l v (hinit k v) := ⟨.init hv hC, rfl⟩

theorem HAt.done {r : Rg} {k : Nat} {δ : Nat → Int} {τ C : Int} {l : List Vc} {v : Vc} {s : HS} (h : HAt r k δ τ C l v s) (hx : topV r s.v = none) : hdiv r k l v = s := by
 have h0 : hstep r l s = none := by unfold hstep; rw [hx]
 have hf := h.fin
 have : ∀ n, hrun r l n s = s := fun n => by
  cases n with
  | zero => rfl
  | succ n => show (match hstep r l s with | none => s | some s' => hrun r l n s') = s; rw [h0]
 rw [this] at hf
 exact hf.symm

theorem HAt.stepA {r : Rg} {k : Nat} {δ : Nat → Int} {τ C : Int} {l : List Vc} {v : Vc} {s : HS} (hl : HL r k δ l) (h : HAt r k δ τ C l v s) {a : Nat} {u : Tm} (ht : topV r s.v = some (a, u)) (hg : goesT r l a u.e = none) : HAt r k δ τ C l v (hstepA s a u) ∧ muT r (hstepA s a u).v < muT r s.v := by
 obtain ⟨h1, h2⟩ := h.inv.stepA hl ht hg
 refine ⟨⟨h1, ?_⟩, h2⟩
 have e : hstep r l s = some (hstepA s a u) := by unfold hstep; rw [ht]; dsimp only; rw [hg]
 obtain ⟨n, hn⟩ : ∃ n, muT r s.v = n + 1 := ⟨muT r s.v - 1, by omega⟩
 have hf := h.fin
 rw [hn] at hf
 have hf' : (match hstep r l s with | none => s | some s' => hrun r l n s') = hdiv r k l v := hf
 rw [e] at hf'
 rw [← hf']
 exact hrun_more hl _ _ _ h1 (Nat.le_refl _) (by omega)

theorem HAt.stepB {r : Rg} {k : Nat} {δ : Nat → Int} {τ C : Int} {l : List Vc} {v : Vc} {s : HS} (hl : HL r k δ l) (h : HAt r k δ τ C l v s) {a i : Nat} {u : Tm} (ht : topV r s.v = some (a, u)) (hg : goesT r l a u.e = some i) : HAt r k δ τ C l v (hstepB r l s u i) ∧ muT r (hstepB r l s u i).v < muT r s.v := by
 obtain ⟨h1, h2, _⟩ := h.inv.stepB hl ht hg
 refine ⟨⟨h1, ?_⟩, h2⟩
 have e : hstep r l s = some (hstepB r l s u i) := by unfold hstep; rw [ht]; dsimp only; rw [hg]
 obtain ⟨n, hn⟩ : ∃ n, muT r s.v = n + 1 := ⟨muT r s.v - 1, by omega⟩
 have hf := h.fin
 rw [hn] at hf
 have hf' : (match hstep r l s with | none => s | some s' => hrun r l n s') = hdiv r k l v := hf
 rw [e] at hf'
 rw [← hf']
 exact hrun_more hl _ _ _ h1 (Nat.le_refl _) (by omega)
end
section
open Go.RowKit

theorem zipE_max_comm : ∀ (a b : List Int), zipE max a b = zipE max b a
 | [], [] => rfl
 | [], _ :: _ => rfl
 | _ :: _, [] => rfl
 | x :: a, y :: b => by
  show max x y :: zipE max a b = max y x :: zipE max b a
  rw [zipE_max_comm a b, Int.max_comm]

theorem vtimes_one (r : Rg) (t : Tm) (v : Vc) : vtimesT r [t] v = vbyT r v t := rfl
end
section
open Go.RowKit

structure Pr where
 i : Nat
 k : Nat
 e : List Int

instance : Inhabited Pr := ⟨⟨0, 0, []⟩⟩

structure GS where
 ms : List Mb
 ps : List Pr

def GS.m (s : GS) (i : Nat) : Mb := s.ms.getD i default

def newPs (ms : List Mb) (x : Mb) : List Pr := (List.range ms.length).filterMap fun j => if x.a = (ms.getD j default).a then some ⟨j, ms.length, zipE max x.u.e (ms.getD j default).u.e⟩ else none

def addM (s : GS) (x : Mb) : GS := ⟨s.ms ++ [x], s.ps ++ newPs s.ms x⟩

def mkM (r : Rg) (v y : Vc) : Mb := ⟨v, (atOf (topV r v)).toNat, tmOf (topV r v), y⟩

def nextUp (ps : List Pr) : Nat → Nat
 | 0 => 0
 | n + 1 => if (ps.getD n default).e.sum < (ps.getD (nextUp ps n) default).e.sum then n else nextUp ps n

def nextAt (ps : List Pr) : Nat := nextUp ps ps.length

theorem nextUp_ok {ps : List Pr} : ∀ {n : Nat}, n ≤ ps.length → (0 < n → nextUp ps n < n) ∧ (n = 0 → nextUp ps n = 0) ∧ ∀ j, j < n → (ps.getD (nextUp ps n) default).e.sum ≤ (ps.getD j default).e.sum
 | 0, _ => ⟨fun h => by omega, fun _ => rfl, fun j h => by omega⟩
 | n + 1, hn => by
  obtain ⟨h1, h0, h2⟩ := nextUp_ok (ps := ps) (n := n) (by omega)
  unfold nextUp
  split
  ·rename_i hlt
   refine ⟨fun _ => by omega, fun h => by omega, fun j hj => ?_⟩
   by_cases hjn : j = n
   ·subst hjn; exact Int.le_refl _
   ·have := h2 j (by omega); omega
  ·rename_i hlt
   refine ⟨fun _ => ?_, fun h => by omega, fun j hj => ?_⟩
   ·by_cases hn0 : n = 0
    ·have := h0 hn0; omega
    ·have := h1 (by omega); omega
   ·by_cases hjn : j = n
    ·subst hjn; omega
    ·exact h2 j (by omega)

theorem nextAt_ok {ps : List Pr} (h : ps ≠ []) : nextAt ps < ps.length ∧ ∀ p ∈ ps, (ps.getD (nextAt ps) default).e.sum ≤ p.e.sum := by
 have hl : 0 < ps.length := List.length_pos_iff.2 h
 obtain ⟨h1, _, h2⟩ := nextUp_ok (ps := ps) (Nat.le_refl _)
 refine ⟨h1 hl, fun p hp => ?_⟩
 obtain ⟨j, hj, rfl⟩ := List.getElem_of_mem hp
 have := h2 j hj
 rw [getD_lt (i := j) hj] at this
 exact this

def tellY (r : Rg) (ms : List Mb) (y : Vc) (σ : List (Nat × Tm)) : Vc := σ.foldl (fun y x => vsumT r y (vbyT r (ms.getD x.1 default).y (negT r x.2))) y

theorem tellY_snoc (r : Rg) (ms : List Mb) (y : Vc) (σ : List (Nat × Tm)) (x : Nat × Tm) : tellY r ms y (σ ++ [x]) = vsumT r (tellY r ms y σ) (vbyT r (ms.getD x.1 default).y (negT r x.2)) := by
 unfold tellY
 rw [List.foldl_append]
 rfl

def vsOf (ms : List Mb) : List Vc := ms.map (·.v)

def pairV2 (r : Rg) (s : GS) (p : Pr) : Vc := lessT r (s.m p.i).v (s.m p.k).v (upT r (s.m p.i).u p.e) (upT r (s.m p.k).u p.e)
def pairY (r : Rg) (s : GS) (p : Pr) : Vc := lessT r (s.m p.i).y (s.m p.k).y (upT r (s.m p.i).u p.e) (upT r (s.m p.k).u p.e)

def growStep (r : Rg) (k : Nat) (s : GS) : GS :=
 let p := s.ps.getD (nextAt s.ps) default
 let d := hdiv r k (vsOf s.ms) (pairV2 r s p)
 let s' : GS := ⟨s.ms, s.ps.eraseIdx (nextAt s.ps)⟩
 if emptyT d.left = true then s' else addM s' (mkM r d.left (tellY r s.ms (pairY r s p) d.σ))

theorem upT_ok {r : Rg} {n : Nat} {u : Tm} {L : List Int} (hck : ckP r.p = 0) (hu : TB 1 r.p n 8000 u) (hun : Mn n u.e) (hL : Mn n L) (hg : goesM L u.e = true) :
  (1 ≤ (upT r u L).c ∧ (upT r u L).c < r.p) ∧ Mn n (upT r u L).e ∧ zipE (· + ·) u.e (upT r u L).e = L ∧ (upT r u L).e.sum = L.sum - u.e.sum ∧ u.c * (upT r u L).c % r.p = 1 := by
 obtain ⟨h1, h2, h3⟩ := goes_rest hL hun hg
 exact ⟨turn_lo hck hu.lo hu.hi, h1, h2, h3, turnP_inv' hck u.c (by have := hu.lo; omega) hu.hi⟩

structure PairOk (r : Rg) (k : Nat) (δ : Nat → Int) (x y : Mb) : Prop where
 cx : Cx r k δ
 ox : MbOk r k δ x
 oy : MbOk r k δ y
 same : x.a = y.a
 t8 : (lcmE x y).sum + δ x.a ≤ 8000

theorem PairOk.facts {r : Rg} {k : Nat} {δ : Nat → Int} {x y : Mb} (h : PairOk r k δ x y) : Mn r.n.toNat (lcmE x y) ∧ goesM (lcmE x y) x.u.e = true ∧ goesM (lcmE x y) y.u.e = true ∧ ME r.n.toNat x.u.e ∧ ME r.n.toNat y.u.e ∧ TB 1 r.p r.n.toNat 8000 x.u ∧ TB 1 r.p r.n.toNat 8000 y.u ∧ x.a < k ∧ x.u.e.sum ≤ (lcmE x y).sum ∧ y.u.e.sum ≤ (lcmE x y).sum := by
 obtain ⟨x1, x2, x3⟩ := h.ox.ld h.cx
 obtain ⟨y1, y2, y3⟩ := h.oy.ld h.cx
 have hll : x.u.e.length = y.u.e.length := by rw [x3.len, y3.len]
 obtain ⟨l1, l2, l3, l4⟩ := max_sum hll x3.pos y3.pos
 obtain ⟨g1, g2⟩ := goes_of_max hll
 exact ⟨⟨zipE_same_len x3.len y3.len, l4⟩, g1, g2, x3, y3, x2, y2, x1, l1, l2⟩

theorem PairOk.less {r : Rg} {k : Nat} {δ : Nat → Int} {x y : Mb} (h : PairOk r k δ x y) :
  HV r k δ ((lcmE x y).sum + δ x.a) (lessT r x.v y.v (upT r x.u (lcmE x y)) (upT r y.u (lcmE x y))) ∧
  (∀ (i : Nat) (hi : i < (lessT r x.v y.v (upT r x.u (lcmE x y)) (upT r y.u (lcmE x y))).length), ∀ s ∈ (lessT r x.v y.v (upT r x.u (lcmE x y)) (upT r y.u (lcmE x y)))[i], code2 r i s.e < code2 r x.a (lcmE x y)) ∧
  CongF r.p (ev (lessT r x.v y.v (upT r x.u (lcmE x y)) (upT r y.u (lcmE x y)))) fun ψ => (upT r x.u (lcmE x y)).c * mulF (upT r x.u (lcmE x y)).e (ev x.v) ψ - (upT r y.u (lcmE x y)).c * mulF (upT r y.u (lcmE x y)).e (ev y.v) ψ := by
 obtain ⟨hL, gx, gy, mx, my, tx, ty, xk, sx, sy⟩ := h.facts
 obtain ⟨hp2, hn3, hn1, hpr, hck⟩ := h.cx.rg
 obtain ⟨⟨a1, a2⟩, a3, a4, a5, a6⟩ := upT_ok hck tx mx.mn hL gx
 obtain ⟨⟨b1, b2⟩, b3, b4, b5, b6⟩ := upT_ok hck ty my.mn hL gy
 have ht8 := h.t8
 have hdx : x.dg δ = x.u.e.sum + δ x.a := rfl
 have hdy : y.dg δ = y.u.e.sum + δ y.a := rfl
 have tA : TM r (upT r x.u (lcmE x y)) := ⟨by omega, a2, a3⟩
 have hA := h.ox.hv.by h.cx tA (by rw [a5]; omega)
 have hAt := h.ox.hv.by_top h.cx tA (by omega) (by rw [a5]; omega) h.ox.top
 rw [a6, a4] at hAt
 have eA : x.dg δ + (upT r x.u (lcmE x y)).e.sum = (lcmE x y).sum + δ x.a := by rw [a5]; omega
 rw [eA] at hA
 have hyt : topV r y.v = some (x.a, y.u) := by rw [h.same]; exact h.oy.top
 have hby : byOf r ⟨1, lcmE x y⟩ y.u = upT r y.u (lcmE x y) := by
  unfold byOf upT
  have : (1 : Int) * turnP r.p y.u.c % r.p = turnP r.p y.u.c := by
   rw [Int.one_mul]
   have b1' : 1 ≤ turnP r.p y.u.c := b1
   exact Int.emod_eq_of_lt (by omega) b2
  dsimp only
  rw [this]
 obtain ⟨k1, k2⟩ := reduce_hom h.cx hA h.oy.hv hAt hyt gy
 rw [hby] at k1 k2
 refine ⟨k1, k2, fun ψ => ?_⟩
 have hneg : TM r (negT r (upT r y.u (lcmE x y))) := ⟨by show 0 ≤ r.p - (upT r y.u (lcmE x y)).c; omega, by show r.p - (upT r y.u (lcmE x y)).c < r.p; omega, b3⟩
 have hns : (negT r (upT r y.u (lcmE x y))).e.sum = (lcmE x y).sum - y.u.e.sum := b5
 have hB := h.oy.hv.by h.cx hneg (by rw [hns, hdy, ← h.same]; omega)
 have eB : y.dg δ + (negT r (upT r y.u (lcmE x y))).e.sum = (lcmE x y).sum + δ x.a := by rw [hns, hdy, ← h.same]; omega
 rw [eB] at hB
 have c1 := hA.ev_sum h.cx hB ψ
 have c2 := ev_by (r := r) x.v (upT r x.u (lcmE x y)) ψ
 have c3 := ev_by (r := r) y.v (negT r (upT r y.u (lcmE x y))) ψ
 dsimp only at c1 c2 c3 ⊢
 have c4 : (negT r (upT r y.u (lcmE x y))).c * mulF (negT r (upT r y.u (lcmE x y))).e (ev y.v) ψ = r.p * mulF (upT r y.u (lcmE x y)).e (ev y.v) ψ - (upT r y.u (lcmE x y)).c * mulF (upT r y.u (lcmE x y)).e (ev y.v) ψ := by
  show (r.p - (upT r y.u (lcmE x y)).c) * _ = _
  rw [Int.sub_mul]; rfl
 rw [c4] at c3
 have c5 : r.p ∣ r.p * mulF (upT r y.u (lcmE x y)).e (ev y.v) ψ := Int.dvd_mul_right _ _
 refine dv (Int.dvd_add (Int.dvd_add (Int.dvd_add c1 c2) c3) c5) ?_
 unfold lessT
 omega

theorem evS_sp {r : Rg} {k : Nat} {δ : Nat → Int} {ms G : List Mb} {τ C : Int} {a : Nat} {L : List Int} (hms : ∀ x ∈ ms, MbOk r k δ x) (hG : ∀ x ∈ ms, x ∈ G) (hC : C < code2 r a L) : ∀ (σ : List (Nat × Tm)), (∀ x ∈ σ, SigOk r k δ (vsOf ms) τ C x) → Sp r.p (RowLt r δ G τ a L) (evS (vsOf ms) σ)
 | [], _ => .zero fun ψ => dz rfl
 | x :: σ, h => by
  have ih := evS_sp (τ := τ) hms hG hC σ fun y hy => h y (by simp [hy])
  obtain ⟨h1, h2, h3, b, w, h4, h5, h6⟩ := h x (by simp)
  have hlt : x.1 < ms.length := by simpa [vsOf] using h1
  have e1 : (vsOf ms).getD x.1 [] = ms[x.1].v := by
   rw [getD_lt h1]
   simp [vsOf]
  rw [e1] at h4
  have hm := hms _ (List.getElem_mem hlt)
  have h7 := hm.top
  rw [h4] at h7
  obtain ⟨rfl, rfl⟩ := Prod.mk.inj (Option.some.inj h7)
  have hrow : RowLt r δ G τ a L (mulF x.2.e (ev ms[x.1].v)) := ⟨ms[x.1], hG _ (List.getElem_mem hlt), x.2.e, h3.mn, by unfold Mb.dg; omega, by omega, rfl⟩
  refine (ih.add ((Sp.mem hrow).smul x.2.c)).congr fun ψ => dz ?_
  unfold evS
  rw [List.map_cons, List.sum_cons]
  dsimp only
  rw [e1]
  omega

theorem PairOk.good {r : Rg} {k : Nat} {δ : Nat → Int} {x y : Mb} (h : PairOk r k δ x y) {ms G : List Mb} (hms : ∀ x ∈ ms, MbOk r k δ x) (hG : ∀ x ∈ ms, x ∈ G) {s : HS} {v : Vc}
  (hv : v = lessT r x.v y.v (upT r x.u (lcmE x y)) (upT r y.u (lcmE x y))) (hs : HInv r k δ ((lcmE x y).sum + δ x.a) (code2 r x.a (lcmE x y) - 1) (vsOf ms) v s) (hz : ∀ (i : Nat) (hi : i < s.v.length), s.v[i] = [])
  (hl : (∀ (i : Nat) (hi : i < s.left.length), s.left[i] = []) ∨ ∃ z ∈ G, z.v = s.left ∧ MbOk r k δ z ∧ z.dg δ = (lcmE x y).sum + δ x.a) : GoodP r δ G x y := by
 obtain ⟨hL, gx, gy, mx, my, tx, ty, xk, sx, sy⟩ := h.facts
 obtain ⟨hp2, hn3, hn1, hpr, hck⟩ := h.cx.rg
 obtain ⟨⟨a1, a2⟩, a3, a4, a5, a6⟩ := upT_ok hck tx mx.mn hL gx
 obtain ⟨⟨b1, b2⟩, b3, b4, b5, b6⟩ := upT_ok hck ty my.mn hL gy
 obtain ⟨_, _, hev⟩ := h.less
 rw [← hv] at hev
 have h1 := evS_sp (G := G) hms hG (show code2 r x.a (lcmE x y) - 1 < code2 r x.a (lcmE x y) by omega) s.σ hs.sig
 have h2 : Sp r.p (RowLt r δ G ((lcmE x y).sum + δ x.a) x.a (lcmE x y)) (ev s.left) := by
  rcases hl with hl | ⟨z, hzG, hzv, hzo, hzd⟩
  ·exact .zero fun ψ => dz (ev_nil hl ψ)
  ·have hzl := hzo.ld h.cx
   have hz0 : Mn r.n.toNat (List.replicate r.n.toNat (0 : Int)) := ⟨by simp, fun x hx => by rw [List.eq_of_mem_replicate hx]; omega⟩
   have hzz : ∀ y ∈ List.replicate r.n.toNat (0 : Int), y = 0 := fun y hy => List.eq_of_mem_replicate hy
   have hsum : (List.replicate r.n.toNat (0 : Int)).sum = 0 := by simp
   refine .mem ⟨z, hzG, List.replicate r.n.toNat 0, hz0, by rw [hsum, hzd]; omega, ?_, ?_⟩
   ·rw [add_zero_e (by rw [hzl.2.2.len]; simp) hzz]
    have ht := hzo.top
    rw [hzv] at ht
    have iv := topV_isM (hs.left.vm h.cx) ht
    obtain ⟨f, hf⟩ := iv.at_
    have := hs.ltop z.a iv.lt z.u (by rw [hf]; simp)
    omega
   ·rw [mul_zero_ev hzo.hv (by simp) hzz, hzv]
 have h3 : Sp r.p (RowLt r δ G ((lcmE x y).sum + δ x.a) x.a (lcmE x y)) (ev v) := (h2.add h1).congr fun ψ => by
  have c1 := hs.sum ψ
  have c2 := ev_nil hz ψ
  refine dv (Int.dvd_neg.2 c1) ?_
  dsimp only
  omega
 refine ⟨y.u.c * (upT r x.u (lcmE x y)).c, (h3.smul y.u.c).congr fun ψ => ?_⟩
 have c1 := hev ψ
 dsimp only at c1 ⊢
 have e1 : (upT r x.u (lcmE x y)).e = zipE (· - ·) (lcmE x y) x.u.e := rfl
 have e2 : (upT r y.u (lcmE x y)).e = zipE (· - ·) (lcmE x y) y.u.e := rfl
 rw [e1, e2] at c1
 obtain ⟨q1, q2⟩ := c1
 have b7 : r.p ∣ y.u.c * (upT r y.u (lcmE x y)).c - 1 := by
  have := emod_dvd r.p (y.u.c * (upT r y.u (lcmE x y)).c)
  rw [b6] at this
  have := Int.dvd_neg.2 this
  rwa [Int.neg_sub] at this
 obtain ⟨q3, q4⟩ := b7
 generalize mulF (zipE (· - ·) (lcmE x y) x.u.e) (ev x.v) ψ = X at *
 generalize mulF (zipE (· - ·) (lcmE x y) y.u.e) (ev y.v) ψ = Y at *
 generalize (upT r x.u (lcmE x y)).c = cA at *
 generalize (upT r y.u (lcmE x y)).c = cB at *
 generalize ev v ψ = V at *
 exact ⟨y.u.c * q1 - q3 * Y, by grind⟩
end
section
open Go.RowKit

structure GInv (r : Rg) (k : Nat) (δ : Nat → Int) (m : Nat) (d : Nat → Int) (G0 : List Mb) (s : GS) : Prop where
 k3 : k ≤ 3
 gens : Gens r k δ G0
 small : Small r k δ G0
 cxY : Cx r m d
 rest : ∃ R, s.ms = G0 ++ R
 ok : ∀ x ∈ s.ms, MbOk r k δ x
 ys : ∀ x ∈ s.ms, HV r m d (x.dg δ) x.y
 inn : ∀ x ∈ s.ms, Sp r.p (Row r δ G0 (x.dg δ)) (ev x.v)
 dgb : ∀ x ∈ s.ms, x.dg δ ≤ 519
 val : ∀ p ∈ s.ps, p.i < p.k ∧ p.k < s.ms.length ∧ (s.m p.i).a = (s.m p.k).a ∧ p.e = lcmE (s.m p.i) (s.m p.k)
 good : ∀ i j, i < j → j < s.ms.length → (s.m i).a = (s.m j).a → (∃ p ∈ s.ps, p.i = i ∧ p.k = j) ∨ GoodP r δ s.ms (s.m i) (s.m j)
 cst : ∃ c : Int, (∀ p ∈ s.ps, c ≤ p.e.sum + δ (s.m p.i).a) ∧ ∀ i, G0.length ≤ i → i < s.ms.length → (s.m i).dg δ ≤ c + 6
 nd : ∀ i j, i < j → j < s.ms.length → G0.length ≤ j → divs (s.m j).a (s.m j).u.e (s.m i) = false
 dr : ∀ i j, i < j → j < s.ms.length → G0.length ≤ i → (s.m i).dg δ ≤ (s.m j).dg δ + 6
 many : s.ps.length ≤ s.ms.length * 948224

theorem GS.m_mem {s : GS} {i : Nat} (h : i < s.ms.length) : s.m i ∈ s.ms := by
 unfold GS.m
 rw [getD_lt h]
 exact List.getElem_mem h

theorem GS.m_eq {s : GS} {i : Nat} (h : i < s.ms.length) : s.m i = s.ms[i] := getD_lt h

def triN : Nat → Nat
 | 0 => 0
 | n + 1 => triN n + (n + 1)

theorem triN_lt {a b : Nat} (h : a < b) : triN a + a < triN b := by
 obtain ⟨c, rfl⟩ : ∃ c, b = a + 1 + c := ⟨b - (a + 1), by omega⟩
 induction c with
 | zero => show triN a + a < triN a + (a + 1); omega
 | succ c ih => have := ih (by omega); show _ < triN (a + 1 + c) + (a + 1 + c + 1); omega

theorem triN_val : triN 519 = 134940 := by decide +kernel

def codeI (δ : Nat → Int) (x : Mb) : Nat := (triN ((x.u.e.getD 0 0).toNat + (x.u.e.getD 1 0).toNat) + (x.u.e.getD 1 0).toNat) * 7 + (x.dg δ).toNat % 7

theorem Mn.two {n : Nat} {e : List Int} (h : Mn n e) (hn : 1 ≤ n ∧ n ≤ 3) : 0 ≤ e.getD 0 0 ∧ 0 ≤ e.getD 1 0 ∧ e.getD 0 0 + e.getD 1 0 ≤ e.sum := by
 obtain ⟨hl, hp⟩ := h
 match e, hl with
 | [x], _ => have := hp x (by simp); simp; omega
 | [x, y], _ => have := hp x (by simp); have := hp y (by simp); simp; omega
 | [x, y, z], _ => have := hp x (by simp); have := hp y (by simp); have := hp z (by simp); simp; omega
 | [], hl => simp at hl; omega
 | _ :: _ :: _ :: _ :: _, hl => simp at hl; omega

theorem codeI_lt {r : Rg} {k : Nat} {δ : Nat → Int} {x : Mb} (hc : Cx r k δ) (h : MbOk r k δ x) (hd : x.dg δ ≤ 519) : codeI δ x < 948220 := by
 obtain ⟨x1, x2, x3⟩ := h.ld hc
 have hn := hc.rg
 obtain ⟨h1, h2, h3⟩ := x3.mn.two (by omega)
 have hp := hc.pos x.a
 unfold Mb.dg at hd
 have h4 : triN ((x.u.e.getD 0 0).toNat + (x.u.e.getD 1 0).toNat) ≤ triN 519 := by
  rcases Nat.lt_or_ge ((x.u.e.getD 0 0).toNat + (x.u.e.getD 1 0).toNat) 519 with h | h
  ·have := triN_lt h; omega
  ·rw [show (x.u.e.getD 0 0).toNat + (x.u.e.getD 1 0).toNat = 519 by omega]; exact Nat.le_refl _
 rw [triN_val] at h4
 unfold codeI
 omega

theorem codeI_eq {δ : Nat → Int} {x y : Mb} (h : codeI δ x = codeI δ y) : (x.u.e.getD 0 0).toNat = (y.u.e.getD 0 0).toNat ∧ (x.u.e.getD 1 0).toNat = (y.u.e.getD 1 0).toNat ∧ (x.dg δ).toNat % 7 = (y.dg δ).toNat % 7 := by
 unfold codeI at h
 generalize (x.u.e.getD 0 0).toNat = a at *
 generalize (x.u.e.getD 1 0).toNat = b at *
 generalize (y.u.e.getD 0 0).toNat = c at *
 generalize (y.u.e.getD 1 0).toNat = d at *
 have h1 : triN (a + b) + b = triN (c + d) + d := by omega
 have h2 : a + b = c + d := by
  rcases Nat.lt_trichotomy (a + b) (c + d) with h | h | h
  ·have := triN_lt h; omega
  ·exact h
  ·have := triN_lt h; omega
 rw [h2] at h1
 omega

theorem GInv.apart {r : Rg} {k : Nat} {δ : Nat → Int} {m : Nat} {d : Nat → Int} {G0 : List Mb} {s : GS} (h : GInv r k δ m d G0 s) {i j : Nat} (hij : i < j) (hj : j < s.ms.length) (hi : G0.length ≤ i) (ha : (s.m i).a = (s.m j).a) : codeI δ (s.m i) ≠ codeI δ (s.m j) := by
 intro he
 obtain ⟨c1, c2, c3⟩ := codeI_eq he
 have hnd := h.nd i j hij hj (by omega)
 have hdr := h.dr i j hij hj hi
 have hc := h.gens.cx
 obtain ⟨x1, x2, x3⟩ := (h.ok _ (GS.m_mem (show i < s.ms.length by omega))).ld hc
 obtain ⟨y1, y2, y3⟩ := (h.ok _ (GS.m_mem hj)).ld hc
 have hn := hc.rg
 have hp := hc.pos (s.m j).a
 unfold Mb.dg at c3 hdr
 rw [ha] at c3 hdr
 unfold divs at hnd
 rw [ha] at hnd
 simp only [beq_self_eq_true, Bool.true_and] at hnd
 have p1 := x3.pos
 have p2 := y3.pos
 have l1 := x3.len
 have l2 := y3.len
 generalize (s.m i).u.e = e at *
 generalize (s.m j).u.e = f at *
 obtain hh | hh | hh : r.n.toNat = 1 ∨ r.n.toNat = 2 ∨ r.n.toNat = 3 := by omega
 ·rw [hh] at l1 l2
  match e, f, l1, l2 with
  | [x], [x'], _, _ =>
   have q1 := p1 x (by simp)
   have q2 := p2 x' (by simp)
   simp at c1
   have : x = x' := by omega
   subst this
   rw [goes_self] at hnd
   cases hnd
 ·rw [hh] at l1 l2
  match e, f, l1, l2 with
  | [x, y], [x', y'], _, _ =>
   have q1 := p1 x (by simp)
   have q2 := p2 x' (by simp)
   have q3 := p1 y (by simp)
   have q4 := p2 y' (by simp)
   simp at c1 c2
   have e1 : x = x' := by omega
   have e2 : y = y' := by omega
   subst e1; subst e2
   rw [goes_self] at hnd
   cases hnd
 ·rw [hh] at l1 l2
  match e, f, l1, l2 with
  | [x, y, z], [x', y', z'], _, _ =>
   have q1 := p1 x (by simp)
   have q2 := p2 x' (by simp)
   have q3 := p1 y (by simp)
   have q4 := p2 y' (by simp)
   have q5 := p1 z (by simp)
   have q6 := p2 z' (by simp)
   simp at c1 c2 c3 hdr
   have e1 : x = x' := by omega
   have e2 : y = y' := by omega
   subst e1; subst e2
   unfold goesM goesM goesM at hnd
   simp at hnd
   have h9 : z' < z := Classical.byContradiction fun hn => by
    have := hnd (by omega)
    simp [goesM] at this
   omega

theorem nodup_range_le {l : List Nat} {N : Nat} (h : l.Nodup) (hb : ∀ x ∈ l, x < N) : l.length ≤ N := by
 have := nodup_leG (m := List.range N) h fun x hx => List.mem_range.2 (hb x hx)
 rwa [List.length_range] at this

theorem GInv.count {r : Rg} {k : Nat} {δ : Nat → Int} {m : Nat} {d : Nat → Int} {G0 : List Mb} {s : GS} (h : GInv r k δ m d G0 s) (a : Nat) : ((List.range s.ms.length).filter fun j => decide (a = (s.m j).a)).length ≤ 948224 := by
 have h4 := h.small.m4
 let f : Nat → Nat := fun j => if j < G0.length then 948220 + j else codeI δ (s.m j)
 have hk : ∀ j, j < s.ms.length → codeI δ (s.m j) < 948220 := fun j hj => codeI_lt h.gens.cx (h.ok _ (GS.m_mem hj)) (h.dgb _ (GS.m_mem hj))
 have hnd : (((List.range s.ms.length).filter fun j => decide (a = (s.m j).a)).map f).Nodup := by
  unfold List.Nodup
  rw [List.pairwise_map]
  have hr : (List.range s.ms.length).Pairwise fun i j => i < j := List.pairwise_lt_range
  refine List.Pairwise.imp_of_mem (fun {i j} hi hj hij => ?_) (hr.filter _)
  obtain ⟨i1, i2⟩ := List.mem_filter.1 hi
  obtain ⟨j1, j2⟩ := List.mem_filter.1 hj
  have i1 := List.mem_range.1 i1
  have j1 := List.mem_range.1 j1
  have i2 := of_decide_eq_true i2
  have j2 := of_decide_eq_true j2
  have hki := hk i i1
  have hkj := hk j j1
  show (if i < G0.length then 948220 + i else codeI δ (s.m i)) ≠ (if j < G0.length then 948220 + j else codeI δ (s.m j))
  by_cases gi : i < G0.length
  ·rw [if_pos gi]
   by_cases gj : j < G0.length
   ·rw [if_pos gj]; omega
   ·rw [if_neg gj]; omega
  ·rw [if_neg gi, if_neg (by omega)]
   exact h.apart hij j1 (by omega) (by rw [← i2, ← j2])
 have := nodup_range_le hnd (N := 948224) fun x hx => by
  obtain ⟨j, hj, rfl⟩ := List.mem_map.1 hx
  have hkj := hk j (List.mem_range.1 (List.mem_filter.1 hj).1)
  show (if j < G0.length then 948220 + j else codeI δ (s.m j)) < 948224
  split <;> omega
 rwa [List.length_map] at this

theorem GInv.total {r : Rg} {k : Nat} {δ : Nat → Int} {m : Nat} {d : Nat → Int} {G0 : List Mb} {s : GS} (h : GInv r k δ m d G0 s) : s.ms.length ≤ 2844664 := by
 have h4 := h.small.m4
 have hk3 := h.k3
 let f : Nat → Nat := fun j => if j < G0.length then 2844660 + j else (s.m j).a * 948220 + codeI δ (s.m j)
 have hk : ∀ j, j < s.ms.length → codeI δ (s.m j) < 948220 ∧ (s.m j).a < 3 := fun j hj => ⟨codeI_lt h.gens.cx (h.ok _ (GS.m_mem hj)) (h.dgb _ (GS.m_mem hj)), by
  have := ((h.ok _ (GS.m_mem hj)).ld h.gens.cx).1
  omega⟩
 have hnd : ((List.range s.ms.length).map f).Nodup := by
  unfold List.Nodup
  rw [List.pairwise_map]
  have hr : (List.range s.ms.length).Pairwise fun i j => i < j := List.pairwise_lt_range
  refine List.Pairwise.imp_of_mem (fun {i j} hi hj hij => ?_) hr
  have i1 := List.mem_range.1 hi
  have j1 := List.mem_range.1 hj
  have hki := hk i i1
  have hkj := hk j j1
  show (if i < G0.length then 2844660 + i else (s.m i).a * 948220 + codeI δ (s.m i)) ≠ (if j < G0.length then 2844660 + j else (s.m j).a * 948220 + codeI δ (s.m j))
  by_cases gi : i < G0.length
  ·rw [if_pos gi]
   by_cases gj : j < G0.length
   ·rw [if_pos gj]; omega
   ·rw [if_neg gj]; omega
  ·rw [if_neg gi, if_neg (by omega)]
   intro he
   have ha : (s.m i).a = (s.m j).a := by omega
   exact h.apart hij j1 (by omega) ha (by omega)
 have := nodup_range_le hnd (N := 2844664) fun x hx => by
  obtain ⟨j, hj, rfl⟩ := List.mem_map.1 hx
  have hkj := hk j (List.mem_range.1 hj)
  show (if j < G0.length then 2844660 + j else (s.m j).a * 948220 + codeI δ (s.m j)) < 2844664
  split <;> omega
 rwa [List.length_map, List.length_range] at this

theorem newPs_len (s : GS) (x : Mb) : (newPs s.ms x).length ≤ ((List.range s.ms.length).filter fun j => decide (x.a = (s.m j).a)).length := by
 unfold newPs
 have : ∀ l : List Nat, (l.filterMap fun j => if x.a = (s.ms.getD j default).a then some (⟨j, s.ms.length, zipE max x.u.e (s.ms.getD j default).u.e⟩ : Pr) else none).length ≤ (l.filter fun j => decide (x.a = (s.m j).a)).length := fun l => by
  induction l with
  | nil => exact Nat.le_refl _
  | cons j l ih =>
   rw [List.filterMap_cons, List.filter_cons]
   by_cases hj : x.a = (s.ms.getD j default).a
   ·rw [if_pos hj, if_pos (by exact decide_eq_true hj)]
    simp only [List.length_cons]
    omega
   ·have hj' : ¬ decide (x.a = (s.m j).a) = true := fun hd => hj (of_decide_eq_true hd)
    rw [if_neg hj, if_neg hj']
    exact ih
 exact this _

theorem newPs_mem {ms : List Mb} {x : Mb} {p : Pr} (h : p ∈ newPs ms x) : p.i < ms.length ∧ p.k = ms.length ∧ x.a = (ms.getD p.i default).a ∧ p.e = zipE max x.u.e (ms.getD p.i default).u.e := by
 obtain ⟨j, hj, hp⟩ := List.mem_filterMap.1 h
 split at hp
 ·rename_i ha
  cases hp
  exact ⟨List.mem_range.1 hj, rfl, ha, rfl⟩
 ·cases hp

theorem newPs_has {ms : List Mb} {x : Mb} {j : Nat} (hj : j < ms.length) (ha : x.a = (ms.getD j default).a) : ∃ p ∈ newPs ms x, p.i = j ∧ p.k = ms.length :=
 ⟨⟨j, ms.length, zipE max x.u.e (ms.getD j default).u.e⟩, List.mem_filterMap.2 ⟨j, List.mem_range.2 hj, if_pos ha⟩, rfl, rfl⟩

theorem GoodP.mono {r : Rg} {δ : Nat → Int} {G G' : List Mb} {x y : Mb} (h : GoodP r δ G x y) (hG : ∀ z ∈ G, z ∈ G') : GoodP r δ G' x y := by
 obtain ⟨c, hc⟩ := h
 exact ⟨c, hc.mono fun X ⟨z, hz, h⟩ => ⟨z, hG z hz, h⟩⟩

def muG (s : GS) : Nat := (2844665 - s.ms.length) * 948225 + s.ps.length

theorem addM_m {s : GS} {x : Mb} {i : Nat} (h : i < s.ms.length) : (addM s x).m i = s.m i := by
 unfold GS.m addM
 rw [getD_lt h, getD_lt (by simp; omega)]
 simp [h]

theorem addM_new {s : GS} {x : Mb} : (addM s x).m s.ms.length = x := by
 unfold GS.m addM
 rw [getD_lt (by simp)]
 simp

theorem lcmE_comm (x y : Mb) : zipE max y.u.e x.u.e = lcmE x y := zipE_max_comm _ _
end
end Go.Proofs.YtfjmdhemlfafbaaGreat
