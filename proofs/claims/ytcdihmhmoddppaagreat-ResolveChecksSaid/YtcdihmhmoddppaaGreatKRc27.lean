/-
  Resolutions as data; what is wrong with one; units: a plain law. No condition.
-/
import Derived.Test.YtcdihmhmoddppaaGreatKRc25
import Derived.Test.YtcdihmhmoddppaaGreatKRc24
import Derived.Test.YtcdihmhmoddppaaGreatKRc26
import Derived.Test.YtcdihmhmoddppaaGreatKRc17
import Derived.Test.YtcdihmhmoddppaaGreatKRc23

namespace Go.Proofs.YtcdihmhmoddppaaGreat
open Go.RowKit
set_option linter.unusedVariables false
set_option linter.unusedSimpArgs false

def ngT (p : Int) (t : Tm) : Tm := ⟨p - t.c, t.e⟩
def ngP (p : Int) (f : Pl) : Pl := f.map (ngT p)
def ngV (p : Int) (v : Vc) : Vc := v.map (ngP p)

theorem TB.ng {p : Int} {n : Nat} {B : Int} {t : Tm} (h : TB 1 p n B t) : TB 1 p n B (ngT p t) := ⟨by have := h.hi; show 1 ≤ p - t.c; omega, by have := h.lo; show p - t.c < p; omega, h.len, h.mem⟩

theorem PB.ng {p o : Int} {n : Nat} {B : Int} {f : Pl} (h : PB 1 p o n B f) : PB 1 p o n B (ngP p f) := by
  refine ⟨fun t ht => ?_, ?_⟩
  · obtain ⟨u, hu, rfl⟩ := List.mem_map.1 ht
    exact (h.all u hu).ng
  · exact List.Pairwise.map _ (fun a b hab => hab) h.sorted

theorem Lf_ng (p : Int) (φ : List Int → Int) : ∀ f : Pl, p ∣ Lf φ (ngP p f) + Lf φ f
  | [] => ⟨0, by simp [Lf, ngP]⟩
  | t :: f => by
    obtain ⟨k, hk⟩ := Lf_ng p φ f
    refine ⟨k + φ t.e, ?_⟩
    show ((p - t.c) * φ t.e + Lf φ (ngP p f)) + (t.c * φ t.e + Lf φ f) = _
    grind

theorem sumT_ng {p o : Int} {n : Nat} {B : Int} (hp : 0 < p) {f g : Pl} (hf : PB 1 p o n B f) (hg : PB 1 p o n B g) : sumT p o (ngP p f) (ngP p g) = ngP p (sumT p o f g) := by
  refine PB.uniq hp (sumT_ok hp _ _ hf.ng hg.ng) (sumT_ok hp _ _ hf hg).ng fun φ => ?_
  have h1 := sumT_L hp φ _ _ hf.ng hg.ng
  have h2 := sumT_L hp φ _ _ hf hg
  have h3 := Lf_ng p φ f
  have h4 := Lf_ng p φ g
  have h5 := Lf_ng p φ (sumT p o f g)
  have := Int.dvd_sub (Int.dvd_add (Int.dvd_add (Int.dvd_add h1 h2) h3) h4) h5
  rwa [show ∀ a b c s f g x : Int, a - (b + c) + (s - (f + g)) + (b + f) + (c + g) - (x + s) = a - x by intros; omega] at this

theorem byT_ng {p o : Int} {n : Nat} {B C : Int} (hp : 1 < p) (hpr : Prm p) {f : Pl} (hf : PB 1 p o n B f) {t : Tm} (ht : TB 1 p n C t) : byT p f (ngT p t) = ngP p (byT p f t) := by
  have z1 : TB 0 p n C t := ht.mono (by omega) (Int.le_refl _)
  have z2 : TB 0 p n C (ngT p t) := ht.ng.mono (by omega) (Int.le_refl _)
  refine PB.uniq (by omega) (byT_ok hp hpr hf z2) (byT_ok hp hpr hf z1).ng fun φ => ?_
  obtain ⟨k1, h1⟩ := byT_L (p := p) φ (ngT p t) f
  obtain ⟨k2, h2⟩ := byT_L (p := p) φ t f
  obtain ⟨k3, h3⟩ := Lf_ng p φ (byT p f t)
  have e : (ngT p t).c * Lf (shift φ (ngT p t).e) f = (p - t.c) * Lf (shift φ t.e) f := rfl
  rw [e] at h1
  exact ⟨k1 + k2 - k3 + Lf (shift φ t.e) f, by grind⟩

theorem ngV_getD (p : Int) (v : Vc) (k : Nat) : (ngV p v).getD k [] = ngP p (v.getD k []) := by
  rw [List.getD_eq_getElem?_getD, List.getD_eq_getElem?_getD]
  unfold ngV
  rw [List.getElem?_map]
  cases v[k]? <;> rfl

def ngX (p : Int) (x : Option (Nat × Tm)) : Option (Nat × Tm) := x.map fun y => (y.1, ngT p y.2)

theorem topAt_ng (r : Rg) (v : Vc) : ∀ k, topAt r (ngV r.p v) k = ngX r.p (topAt r v k)
  | 0 => rfl
  | k + 1 => by
    show topStep r (topAt r (ngV r.p v) k) k ((ngV r.p v).getD k []) = ngX r.p (topStep r (topAt r v k) k (v.getD k []))
    rw [topAt_ng r v k, ngV_getD]
    cases v.getD k [] with
    | nil => rfl
    | cons t f =>
      show (match ngX r.p (topAt r v k) with | none => some (k, ngT r.p t) | some (a, u) => if firstT r k t.e a u.e = true then some (k, ngT r.p t) else some (a, u)) = ngX r.p (match topAt r v k with | none => some (k, t) | some (a, u) => if firstT r k t.e a u.e = true then some (k, t) else some (a, u))
      cases topAt r v k with
      | none => rfl
      | some x =>
        obtain ⟨a, u⟩ := x
        show (if firstT r k t.e a u.e = true then some (k, ngT r.p t) else some (a, ngT r.p u)) = ngX r.p (if firstT r k t.e a u.e = true then some (k, t) else some (a, u))
        split <;> rfl

theorem topV_ng (r : Rg) (v : Vc) : topV r (ngV r.p v) = ngX r.p (topV r v) := by
  unfold topV
  rw [show (ngV r.p v).length = v.length by simp [ngV]]
  exact topAt_ng r v _

theorem muT_ng (r : Rg) (v : Vc) : muT r (ngV r.p v) = muT r v := by
  unfold muT
  rw [topV_ng]
  cases topV r v <;> rfl

theorem vsumT_ng {r : Rg} {n : Nat} {B : Int} (hp : 0 < r.p) : ∀ {v w : Vc}, (∀ f ∈ v, PB 1 r.p r.order n B f) → (∀ f ∈ w, PB 1 r.p r.order n B f) → vsumT r (ngV r.p v) (ngV r.p w) = ngV r.p (vsumT r v w)
  | [], w, _, _ => by cases w <;> rfl
  | f :: v, [], _, _ => rfl
  | f :: v, g :: w, h1, h2 => by
    have ih := vsumT_ng hp (v := v) (w := w) (fun x hx => h1 x (by simp [hx])) (fun x hx => h2 x (by simp [hx]))
    show sumT r.p r.order (ngP r.p f) (ngP r.p g) :: vsumT r (ngV r.p v) (ngV r.p w) = ngP r.p (sumT r.p r.order f g) :: ngV r.p (vsumT r v w)
    rw [ih, sumT_ng hp (h1 f (by simp)) (h2 g (by simp))]

theorem vbyT_ng {r : Rg} {n : Nat} {B C : Int} (hp : 1 < r.p) (hpr : Prm r.p) {d : Vc} (hd : ∀ f ∈ d, PB 1 r.p r.order n B f) {t : Tm} (ht : TB 1 r.p n C t) : vbyT r d (ngT r.p t) = ngV r.p (vbyT r d t) := by
  unfold vbyT ngV
  rw [List.map_map]
  exact List.map_congr_left fun f hf => byT_ng hp hpr (hd f hf) ht

theorem byOf_ng {r : Rg} {u w : Tm} (hp : ckP r.p = 0) (hu : 1 ≤ u.c ∧ u.c < r.p) (hw : 1 ≤ w.c ∧ w.c < r.p) : byOf r (ngT r.p u) w = ngT r.p (byOf r u w) := by
  have hp2 := ckP_ok hp
  obtain ⟨i1, i2, _⟩ := inv_facts hp hu hw
  unfold byOf ngT
  congr 1
  show (r.p - u.c) * turnP r.p w.c % r.p = r.p - u.c * turnP r.p w.c % r.p
  have h1 := emod_dvd r.p ((r.p - u.c) * turnP r.p w.c)
  have h2 := emod_dvd r.p (u.c * turnP r.p w.c)
  refine small_eq (p := r.p) ?_ (Int.emod_nonneg _ (by omega)) (Int.emod_lt_of_pos _ (by omega)) (by omega) (by omega)
  obtain ⟨k1, h1⟩ := h1
  obtain ⟨k2, h2⟩ := h2
  exact ⟨k1 + k2 + turnP r.p w.c - 1, by grind⟩

theorem set_ng (p : Int) (v : Vc) (a : Nat) (f : Pl) : ngV p (v.set a f) = (ngV p v).set a (ngP p f) := by
  unfold ngV
  rw [List.map_set]

structure NgS (r : Rg) (s s' : DS) : Prop where
  v : s'.v = ngV r.p s.v
  left : s'.left = ngV r.p s.left

theorem stepA_ng {r : Rg} {s s' : DS} (h : NgS r s s') (a : Nat) (u : Tm) : NgS r (stepA s a u) (stepA s' a (ngT r.p u)) := by
  refine ⟨?_, ?_⟩
  · show s'.v.set a (s'.v.getD a []).tail = ngV r.p (s.v.set a (s.v.getD a []).tail)
    rw [h.v, ngV_getD, set_ng]
    congr 1
    cases s.v.getD a [] <;> rfl
  · show s'.left.set a (s'.left.getD a [] ++ [ngT r.p u]) = ngV r.p (s.left.set a (s.left.getD a [] ++ [u]))
    rw [h.left, ngV_getD, set_ng]
    congr 1
    simp [ngP]

theorem stepB_ng {r : Rg} {rank : Nat} {l : List Vc} {s s' : DS} (hl : DL r rank l) (hi : DInv r rank l s) (h : NgS r s s') {a i : Nat} {u : Tm} (ht : topV r s.v = some (a, u)) (hg : goesT r l a u.e = some i) : NgS r (stepB r l s u i) (stepB r l s' (ngT r.p u) i) := by
  obtain ⟨hp, hn3, hn1, hpr, hck⟩ := hl.rg
  have hrk := hl.rank2
  refine ⟨?_, h.left⟩
  obtain ⟨hil, w, htw, hgo⟩ := goesT_some hg
  have hvd := hi.vd
  have hdd := (hl.vecs _ (List.getElem_mem hil)).vd hn3 hrk
  have iv := topV_is hvd ht
  have iw := topV_is hdd htw
  obtain ⟨f, hf⟩ := iv.at_
  obtain ⟨g, hgd⟩ := iw.at_
  have hua := hvd.all a iv.lt
  have hwa := hdd.all a iw.lt
  rw [hf] at hua
  rw [hgd] at hwa
  obtain ⟨b1, b2, b3, b4, b5⟩ := byOf_ok hck hua.head iv.me hwa.head iw.me hgo
  have hgetl : l.getD i [] = l[i] := by rw [List.getD_eq_getElem?_getD, List.getElem?_eq_getElem hil]; rfl
  have hby : ∀ x, byAt r l x i = byOf r x w := fun x => by unfold byAt; rw [hgetl, htw]; rfl
  show vsumT r s'.v (vbyT r (l.getD i []) (negT r (byAt r l (ngT r.p u) i))) = ngV r.p (vsumT r s.v (vbyT r (l.getD i []) (negT r (byAt r l u i))))
  rw [hby, hby, byOf_ng hck ⟨hua.head.lo, hua.head.hi⟩ ⟨hwa.head.lo, hwa.head.hi⟩, h.v, hgetl]
  have hneg := negT_ok b1
  rw [show negT r (ngT r.p (byOf r u w)) = ngT r.p (negT r (byOf r u w)) from rfl, vbyT_ng (by omega) hpr (fun x hx => (hdd.vb x hx).1) hneg]
  refine vsumT_ng (n := r.n.toNat) (B := 16000) (by omega) (fun x hx => (hvd.vb x hx).1.mono (by omega) (by omega)) fun x hx => ?_
  unfold vbyT at hx
  obtain ⟨y, hy, rfl⟩ := List.mem_map.1 hx
  exact (byT_ok (by omega) hpr (hdd.vb y hy).1 hneg.zero).mono (by omega) (by omega)

theorem divRun_ng {r : Rg} {rank : Nat} {l : List Vc} (hl : DL r rank l) : ∀ (n : Nat) {s s' : DS}, DInv r rank l s → NgS r s s' → NgS r (divRun r l n s) (divRun r l n s')
  | 0, s, s', _, h => h
  | n + 1, s, s', hi, h => by
    show NgS r (match stepT r l s with | none => s | some x => divRun r l n x) (match stepT r l s' with | none => s' | some x => divRun r l n x)
    cases hx : topV r s.v with
    | none =>
      have e1 : stepT r l s = none := by unfold stepT; rw [hx]
      have e2 : stepT r l s' = none := by unfold stepT; rw [h.v, topV_ng, hx]; rfl
      rw [e1, e2]
      exact h
    | some y =>
      obtain ⟨a, u⟩ := y
      have hx' : topV r s'.v = some (a, ngT r.p u) := by rw [h.v, topV_ng, hx]; rfl
      cases hg : goesT r l a u.e with
      | none =>
        have e1 : stepT r l s = some (stepA s a u) := by unfold stepT; rw [hx]; dsimp only; rw [hg]
        have e2 : stepT r l s' = some (stepA s' a (ngT r.p u)) := by
          unfold stepT; rw [hx']; dsimp only
          rw [show (ngT r.p u).e = u.e from rfl, hg]
        rw [e1, e2]
        exact divRun_ng hl n (stepA_ok hl hi hx hg).1 (stepA_ng h a u)
      | some i =>
        have e1 : stepT r l s = some (stepB r l s u i) := by unfold stepT; rw [hx]; dsimp only; rw [hg]
        have e2 : stepT r l s' = some (stepB r l s' (ngT r.p u) i) := by
          unfold stepT; rw [hx']; dsimp only
          rw [show (ngT r.p u).e = u.e from rfl, hg]
        rw [e1, e2]
        exact divRun_ng hl n (stepB_ok hl hi hx hg).1 (stepB_ng hl hi h hx hg)

/-- What is left of the opposite is the opposite of what is left. -/
theorem divT_ng {r : Rg} {rank : Nat} {l : List Vc} {v : Vc} (hl : DL r rank l) (hv : VIn r rank v) : (divT r rank l (ngV r.p v)).left = ngV r.p (divT r rank l v).left := by
  unfold divT
  rw [muT_ng]
  refine (divRun_ng hl _ (divInit_ok hl hv) ⟨rfl, ?_⟩).left
  show List.replicate rank [] = ngV r.p (List.replicate rank [])
  unfold ngV
  rw [List.map_replicate]
  rfl

end Go.Proofs.YtcdihmhmoddppaaGreat

namespace Go.Proofs.YtcdihmhmoddppaaGreat
open Go.RowKit
set_option linter.unusedVariables false
set_option linter.unusedSimpArgs false

/-- Are all polynomials of a vector without terms? -/
def emptyT (v : Vc) : Bool := v.all List.isEmpty

/-- Is a polynomial's degree too great to be asked about? -/
def big40 (f : Pl) : Bool := decide ((40 : Int) < topT f)

/-- By which term a vector's lead becomes a monomial. -/
def upT (r : Rg) (w : Tm) (e : List Int) : Tm := ⟨turnP r.p w.c, zipE (· - ·) e w.e⟩

/-- The first times its term, less the second times its. -/
def lessT (r : Rg) (v w : Vc) (a b : Tm) : Vc := vsumT r (vbyT r v a) (vbyT r w (negT r b))

theorem empty_ng (p : Int) (v : Vc) : emptyT (ngV p v) = emptyT v := by
  unfold emptyT ngV
  rw [List.all_map]
  congr 1
  funext f
  cases f <;> rfl

/-- What two vectors, by their leads, come to. -/
def pairV (r : Rg) (x y : Vc) : Vc := lessT r x y (upT r (tmOf (topV r x)) (zipE max (tmOf (topV r x)).e (tmOf (topV r y)).e)) (upT r (tmOf (topV r y)) (zipE max (tmOf (topV r x)).e (tmOf (topV r y)).e))

/-- Does a pair leave something? -/
def badP (r : Rg) (rank : Nat) (l : List Vc) (j k : Nat) : Bool :=
  decide (0 ≤ atOf (topV r (l.getD j []))) && ((atOf (topV r (l.getD j [])) == atOf (topV r (l.getD k []))) && !emptyT (divT r rank l (pairV r (l.getD j []) (l.getD k []))).left)

def isBasisT (r : Rg) (rank : Nat) (l : List Vc) : Bool := (List.range l.length).all fun k => (List.range k).all fun j => !badP r rank l j k

theorem isBasis_yes {r : Rg} {rank : Nat} {l : List Vc} (h : ∀ k, k < l.length → ∀ j, j < k → badP r rank l j k = false) : isBasisT r rank l = true :=
  List.all_eq_true.2 fun k hk => List.all_eq_true.2 fun j hj => by rw [h k (List.mem_range.1 hk) j (List.mem_range.1 hj)]; rfl

theorem isBasis_no {r : Rg} {rank : Nat} {l : List Vc} {j k : Nat} (hk : k < l.length) (hj : j < k) (h : badP r rank l j k = true) : isBasisT r rank l = false := by
  cases hb : isBasisT r rank l
  · rfl
  · have h1 := List.all_eq_true.1 hb k (List.mem_range.2 hk)
    have h2 := List.all_eq_true.1 h1 j (List.mem_range.2 hj)
    rw [h] at h2
    cases h2

/-- The list, and no degree above 40. -/
structure D40 (r : Rg) (rank : Nat) (l : List Vc) : Prop where
  dl : DL r rank l
  deg : ∀ v ∈ l, ∀ f ∈ v, DB 40 f

theorem max_sum : ∀ {a b : List Int}, a.length = b.length → (∀ x ∈ a, 0 ≤ x) → (∀ x ∈ b, 0 ≤ x) → a.sum ≤ (zipE max a b).sum ∧ b.sum ≤ (zipE max a b).sum ∧ (zipE max a b).sum ≤ a.sum + b.sum ∧ ∀ x ∈ zipE max a b, 0 ≤ x
  | [], [], _, _, _ => ⟨Int.le_refl _, Int.le_refl _, Int.le_refl _, fun x h => by cases h⟩
  | x :: a, y :: b, h, h1, h2 => by
    obtain ⟨i1, i2, i3, i4⟩ := max_sum (a := a) (b := b) (by simpa using h) (fun z hz => h1 z (by simp [hz])) (fun z hz => h2 z (by simp [hz]))
    have hx := h1 x (by simp)
    have hy := h2 y (by simp)
    have e : zipE max (x :: a) (y :: b) = max x y :: zipE max a b := rfl
    rw [e, List.sum_cons, List.sum_cons, List.sum_cons]
    refine ⟨by omega, by omega, by omega, fun z hz => ?_⟩
    rcases List.mem_cons.1 hz with rfl | hz
    · omega
    · exact i4 z hz

theorem max_sub : ∀ {a b w : List Int}, a.length = b.length → (w = a ∨ w = b) → (∀ x ∈ zipE (· - ·) (zipE max a b) w, 0 ≤ x) ∧ (zipE (· - ·) (zipE max a b) w).length = a.length ∧ (zipE (· - ·) (zipE max a b) w).sum = (zipE max a b).sum - w.sum := by
  intro a
  induction a with
  | nil =>
    intro b w h hw
    have hb : b = [] := List.length_eq_zero_iff.1 (by simpa using h.symm)
    subst hb
    rcases hw with rfl | rfl <;> exact ⟨(fun x h => by cases h), rfl, rfl⟩
  | cons x a ih =>
    intro b w h hw
    match b, h with
    | y :: b, h =>
      have hl : a.length = b.length := by simpa using h
      rcases hw with rfl | rfl
      · obtain ⟨i1, i2, i3⟩ := ih hl (.inl rfl)
        have e : zipE (· - ·) (zipE max (x :: a) (y :: b)) (x :: a) = (max x y - x) :: zipE (· - ·) (zipE max a b) a := rfl
        have e2 : zipE max (x :: a) (y :: b) = max x y :: zipE max a b := rfl
        rw [e, e2]
        refine ⟨fun z hz => ?_, by simpa using i2, by rw [List.sum_cons, List.sum_cons, List.sum_cons, i3]; omega⟩
        rcases List.mem_cons.1 hz with rfl | hz
        · omega
        · exact i1 z hz
      · obtain ⟨i1, i2, i3⟩ := ih hl (.inr rfl)
        have e : zipE (· - ·) (zipE max (x :: a) (y :: b)) (y :: b) = (max x y - y) :: zipE (· - ·) (zipE max a b) b := rfl
        have e2 : zipE max (x :: a) (y :: b) = max x y :: zipE max a b := rfl
        rw [e, e2]
        refine ⟨fun z hz => ?_, by simpa using i2, by rw [List.sum_cons, List.sum_cons, List.sum_cons, i3]; omega⟩
        rcases List.mem_cons.1 hz with rfl | hz
        · omega
        · exact i1 z hz

theorem turn_lo {p c : Int} (hp : ckP p = 0) (h0 : 1 ≤ c) (h1 : c < p) : 1 ≤ turnP p c ∧ turnP p c < p := by
  have hp2 := ckP_ok hp
  obtain ⟨h2, h3⟩ := turnP_in (p := p) (by omega) c
  refine ⟨?_, h3⟩
  have := turnP_inv' hp c (by omega) h1
  by_cases hz : turnP p c = 0
  · rw [hz, Int.mul_zero] at this
    have : (0 : Int) % p = 0 := Int.zero_emod p
    omega
  · omega

/-- The lead of a vector of such a list. -/
structure LeadIs (r : Rg) (v : Vc) (a : Nat) (u : Tm) : Prop where
  at_ : topV r v = some (a, u)
  tb : TB 1 r.p r.n.toNat 200 u
  deg : u.e.sum ≤ 40

theorem D40.lead {r : Rg} {rank : Nat} {l : List Vc} (h : D40 r rank l) {v : Vc} (hv : v ∈ l) (ht : 0 ≤ atOf (topV r v)) : ∃ a u, LeadIs r v a u := by
  cases hx : topV r v with
  | none => rw [hx] at ht; exact absurd ht (by decide)
  | some x =>
    obtain ⟨a, u⟩ := x
    have hvd := (h.dl.vecs v hv).vd h.dl.rg.2.1 h.dl.rank2
    have iv := topV_is hvd hx
    obtain ⟨f, hf⟩ := iv.at_
    have hm : v[a]'iv.lt ∈ v := List.getElem_mem _
    have hp := ((h.dl.vecs v hv).all _ hm).ok
    have hd := h.deg v hv _ hm
    rw [hf] at hp hd
    exact ⟨a, u, hx, hp.head, hd u (by simp)⟩

structure UpOk (r : Rg) (a b : Tm) (w : Tm) : Prop where
  tb : TB 1 r.p r.n.toNat 200 (upT r w (zipE max a.e b.e))
  deg : (upT r w (zipE max a.e b.e)).e.sum ≤ 80
  len : (upT r w (zipE max a.e b.e)).e.length = r.n.toNat

theorem up_ok {r : Rg} {a b w : Tm} (hp : ckP r.p = 0) (ha : TB 1 r.p r.n.toNat 200 a) (hb : TB 1 r.p r.n.toNat 200 b) (hda : a.e.sum ≤ 40) (hdb : b.e.sum ≤ 40) (hw : w = a ∨ w = b) : UpOk r a b w := by
  have hl : a.e.length = b.e.length := by rw [ha.len, hb.len]
  obtain ⟨s1, s2, s3, s4⟩ := max_sum hl (fun x hx => (ha.mem x hx).1) (fun x hx => (hb.mem x hx).1)
  obtain ⟨m1, m2, m3⟩ := max_sub (w := w.e) hl (by rcases hw with rfl | rfl; exact .inl rfl; exact .inr rfl)
  have hwt : TB 1 r.p r.n.toNat 200 w := by rcases hw with rfl | rfl <;> assumption
  obtain ⟨t1, t2⟩ := turn_lo hp hwt.lo hwt.hi
  have hw0 : 0 ≤ w.e.sum := sum_nonneg fun x hx => (hwt.mem x hx).1
  have hsum : (upT r w (zipE max a.e b.e)).e.sum ≤ 80 := by show (zipE (· - ·) (zipE max a.e b.e) w.e).sum ≤ 80; rw [m3]; omega
  have hlen : (upT r w (zipE max a.e b.e)).e.length = r.n.toNat := by show (zipE (· - ·) (zipE max a.e b.e) w.e).length = _; rw [m2, ha.len]
  exact ⟨⟨t1, t2, hlen, fun x hx => ⟨m1 x hx, by have := mem_le_sum m1 x hx; have : (zipE (· - ·) (zipE max a.e b.e) w.e).sum ≤ 80 := hsum; omega⟩⟩, hsum, hlen⟩

end Go.Proofs.YtcdihmhmoddppaaGreat

namespace Go.Proofs.YtcdihmhmoddppaaGreat
open Go.RowKit
set_option linter.unusedVariables false
set_option linter.unusedSimpArgs false
set_option maxHeartbeats 8000000

theorem empty_drop {v : Vc} {k : Nat} (h : k < v.length) : emptyT (v.drop k) = (v[k].isEmpty && emptyT (v.drop (k + 1))) := by
  unfold emptyT
  rw [List.drop_eq_getElem_cons h, List.all_cons]

theorem isEmpty_len (f : Pl) : decide ((0 : Int) < (f.length : Int)) = !f.isEmpty := by cases f <;> simp <;> omega

theorem vIs_pure (v : Vc) (hl : v.length ≤ 4611686018427387904) : Pure Tryz.prog 38 [vcD v] (.bool (emptyT v)) := by
  intro H
  refine PureH.of_body Tryz.func38 rfl (by decide) (Nat.le_of_ble_eq_true rfl) fun w0 => ?_
  (repeat (first | refine RO.Sv ?_ | refine RO.Yv ?_ | refine RO.no rfl (by decide) rfl ?_ | refine RO.nil ?_ | refine DW.region ?_ | refine DW.seq ?_ | refine DW.block ?_ | refine DW.skip ?_ | refine DW.exit ?_ | refine DW.condT rfl ?_ | refine DW.condF rfl ?_))
  refine DW.loopI (fun k : Nat => k ≤ v.length ∧ emptyT (v.drop k) = emptyT v) (fun k => [(5, vcD v), (6, I v.length), (7, I k)]) (fun _ => H) (fun k => v.length - k) 0 ⟨Nat.zero_le _, rfl⟩ rfl ⟨rfl, rfl, rfl, trivial⟩ fun k ⟨hk, hg⟩ => ?_
  (repeat (first | refine RO.Sv ?_ | refine RO.Yv ?_ | refine RO.no rfl (by decide) rfl ?_ | refine RO.nil ?_ | refine DW.region ?_ | refine DW.seq ?_ | refine DW.block ?_ | refine DW.skip ?_ | refine DW.exit ?_ | refine DW.condT rfl ?_ | refine DW.condF rfl ?_))
  refine DW.cond rfl (fun hb => ?_) (fun hb => ?_)
  · have hlt : k < v.length := by have := of_decide_eq_true hb; omega
    clear hb
    rw [empty_drop hlt] at hg
    (repeat (first | refine RO.Sv ?_ | refine RO.Yv ?_ | refine RO.no rfl (by decide) rfl ?_ | refine RO.nil ?_ | refine DW.region ?_ | refine DW.seq ?_ | refine DW.block ?_ | refine DW.skip ?_ | refine DW.exit ?_ | refine DW.condT rfl ?_ | refine DW.condF rfl ?_))
    rw [isEmpty_len]
    cases he : v[k].isEmpty
    case false =>
      rw [he, Bool.false_and] at hg
      rw [← hg]
      (repeat (first | refine RO.Sv ?_ | refine RO.Yv ?_ | refine RO.no rfl (by decide) rfl ?_ | refine RO.nil ?_ | refine DW.region ?_ | refine DW.seq ?_ | refine DW.block ?_ | refine DW.skip ?_ | refine DW.exit ?_ | refine DW.condT rfl ?_ | refine DW.condF rfl ?_))
      exact DW.ret ⟨.inl rfl, _, rfl, Over.refl _, .same _⟩
    rw [he, Bool.true_and] at hg
    (repeat (first | refine RO.Sv ?_ | refine RO.Yv ?_ | refine RO.no rfl (by decide) rfl ?_ | refine RO.nil ?_ | refine DW.region ?_ | refine DW.seq ?_ | refine DW.block ?_ | refine DW.skip ?_ | refine DW.exit ?_ | refine DW.condT rfl ?_ | refine DW.condF rfl ?_))
    exact ⟨k + 1, ⟨hlt, hg⟩, by dsimp only; omega, rfl, rfl, rfl, rfl, trivial⟩
  · have hge : k = v.length := by have := of_decide_eq_false hb; omega
    rw [hge, List.drop_length] at hg
    rw [← hg]
    (repeat (first | refine RO.Sv ?_ | refine RO.Yv ?_ | refine RO.no rfl (by decide) rfl ?_ | refine RO.nil ?_ | refine DW.region ?_ | refine DW.seq ?_ | refine DW.block ?_ | refine DW.skip ?_ | refine DW.exit ?_ | refine DW.condT rfl ?_ | refine DW.condF rfl ?_))
    exact DW.ret ⟨.inl rfl, _, rfl, Over.refl _, .same _⟩

theorem Empty_pure (v : Vc) (hl : v.length ≤ 4611686018427387904) : Pure Tryz.prog 26 [vcD v] (.bool (emptyT v)) := by
  intro H
  refine PureH.of_body Tryz.func26 rfl (by decide) (Nat.le_of_ble_eq_true rfl) fun w0 => ?_
  (repeat (first | refine RO.Sv ?_ | refine RO.Yv ?_ | refine RO.no rfl (by decide) rfl ?_ | refine RO.nil ?_ | refine DW.region ?_ | refine DW.seq ?_ | refine DW.block ?_ | refine DW.skip ?_ | refine DW.exit ?_ | refine DW.condT rfl ?_ | refine DW.condF rfl ?_))
  refine DW.loopI (fun k : Nat => k ≤ v.length ∧ emptyT (v.drop k) = emptyT v) (fun k => [(0, vcD v), (3, I k)]) (fun _ => H) (fun k => v.length - k) 0 ⟨Nat.zero_le _, rfl⟩ rfl ⟨rfl, rfl, trivial⟩ fun k ⟨hk, hg⟩ => ?_
  (repeat (first | refine RO.Sv ?_ | refine RO.Yv ?_ | refine RO.no rfl (by decide) rfl ?_ | refine RO.nil ?_ | refine DW.region ?_ | refine DW.seq ?_ | refine DW.block ?_ | refine DW.skip ?_ | refine DW.exit ?_ | refine DW.condT rfl ?_ | refine DW.condF rfl ?_))
  refine DW.cond rfl (fun hb => ?_) (fun hb => ?_)
  · have hlt : k < v.length := by have := of_decide_eq_true hb; omega
    clear hb
    rw [empty_drop hlt] at hg
    (repeat (first | refine RO.Sv ?_ | refine RO.Yv ?_ | refine RO.no rfl (by decide) rfl ?_ | refine RO.nil ?_ | refine DW.region ?_ | refine DW.seq ?_ | refine DW.block ?_ | refine DW.skip ?_ | refine DW.exit ?_ | refine DW.condT rfl ?_ | refine DW.condF rfl ?_))
    rw [isEmpty_len]
    cases he : v[k].isEmpty
    case false =>
      rw [he, Bool.false_and] at hg
      rw [← hg]
      (repeat (first | refine RO.Sv ?_ | refine RO.Yv ?_ | refine RO.no rfl (by decide) rfl ?_ | refine RO.nil ?_ | refine DW.region ?_ | refine DW.seq ?_ | refine DW.block ?_ | refine DW.skip ?_ | refine DW.exit ?_ | refine DW.condT rfl ?_ | refine DW.condF rfl ?_))
      exact DW.ret ⟨.inl rfl, _, rfl, Over.refl _, .same _⟩
    rw [he, Bool.true_and] at hg
    (repeat (first | refine RO.Sv ?_ | refine RO.Yv ?_ | refine RO.no rfl (by decide) rfl ?_ | refine RO.nil ?_ | refine DW.region ?_ | refine DW.seq ?_ | refine DW.block ?_ | refine DW.skip ?_ | refine DW.exit ?_ | refine DW.condT rfl ?_ | refine DW.condF rfl ?_))
    exact ⟨k + 1, ⟨hlt, hg⟩, by dsimp only; omega, rfl, rfl, rfl, trivial⟩
  · have hge : k = v.length := by have := of_decide_eq_false hb; omega
    rw [hge, List.drop_length] at hg
    rw [← hg]
    (repeat (first | refine RO.Sv ?_ | refine RO.Yv ?_ | refine RO.no rfl (by decide) rfl ?_ | refine RO.nil ?_ | refine DW.region ?_ | refine DW.seq ?_ | refine DW.block ?_ | refine DW.skip ?_ | refine DW.exit ?_ | refine DW.condT rfl ?_ | refine DW.condF rfl ?_))
    exact DW.ret ⟨.inl rfl, _, rfl, Over.refl _, .same _⟩

theorem isBasis11_pure (f : Pl) (hl : f.length ≤ 4000000000000) (hm : ∀ t ∈ f, MOk t.e) : Pure Tryz.prog 16 [plD f] (.bool (big40 f)) := by
  intro H
  refine PureH.of_body Tryz.func16 rfl (by decide) (Nat.le_of_ble_eq_true rfl) fun w0 => ?_
  (repeat (first | refine RO.Sv ?_ | refine RO.Yv ?_ | refine RO.no rfl (by decide) rfl ?_ | refine RO.nil ?_ | refine DW.region ?_ | refine DW.seq ?_ | refine DW.block ?_ | refine DW.skip ?_ | refine DW.exit ?_ | refine DW.condT rfl ?_ | refine DW.condF rfl ?_))
  refine RO.sta (sta_call rfl rfl (top_pure f hl hm _)) rfl ?_
  (repeat (first | refine RO.Sv ?_ | refine RO.Yv ?_ | refine RO.no rfl (by decide) rfl ?_ | refine RO.nil ?_ | refine DW.region ?_ | refine DW.seq ?_ | refine DW.block ?_ | refine DW.skip ?_ | refine DW.exit ?_ | refine DW.condT rfl ?_ | refine DW.condF rfl ?_))
  exact DW.ret ⟨.inl rfl, _, rfl, Over.refl _, .same _⟩

theorem idx_any {α : Type} (g : α → Bool) (l : List α) : decide (0 ≤ idxD g l) = l.any g := by
  unfold idxD
  cases hx : l.findIdx? g with
  | none =>
    rw [List.findIdx?_eq_none_iff] at hx
    have : l.any g = false := by rw [List.any_eq_false]; intro x hm; simp [hx x hm]
    rw [this]; rfl
  | some i =>
    rw [List.findIdx?_eq_some_iff_getElem] at hx
    obtain ⟨h1, h2, _⟩ := hx
    have : l.any g = true := List.any_eq_true.2 ⟨_, List.getElem_mem h1, h2⟩
    rw [this]
    show decide (0 ≤ (i : Int)) = true
    exact decide_eq_true (by omega)

theorem indexFunc_vec {H : Heap} {f : FuncId} {caps : List D} (l : Vc) (g : Pl → Bool) (hl : l.length ≤ 4611686018427387904) (hg : ∀ x, x ∈ l → PureH Tryz.prog H f (plD x :: caps) (.bool (g x))) :
    PureH Tryz.prog H 45 [vcD l, .fn f caps] (I (idxD g l)) := by
  refine PureH.of_body Tryz.func45 rfl (by decide) (Nat.le_of_ble_eq_true rfl) fun w0 => ?_
  (repeat (first | refine RO.S ?_ | refine RO.Y ?_ | refine RO.no rfl (by decide) rfl ?_ | refine RO.nil ?_ | refine DW.region ?_ | refine DW.seq ?_ | refine DW.block ?_ | refine DW.skip ?_ | refine DW.exit ?_ | refine DW.condT rfl ?_ | refine DW.condF rfl ?_))
  refine DW.loopI (fun k : Nat => k ≤ l.length ∧ ∀ (j : Nat) (hj : j < l.length), j < k → g l[j] = false) (fun k => [(0, vcD l), (1, .fn f caps), (7, I l.length), (8, I k)]) (fun _ => H) (fun k => l.length - k) 0 ⟨Nat.zero_le _, fun j hj h => by omega⟩ rfl ⟨rfl, rfl, rfl, rfl, trivial⟩ fun k ⟨hk, hk2⟩ => ?_
  (repeat (first | refine RO.S ?_ | refine RO.Y ?_ | refine RO.no rfl (by decide) rfl ?_ | refine RO.nil ?_ | refine DW.region ?_ | refine DW.seq ?_ | refine DW.block ?_ | refine DW.skip ?_ | refine DW.exit ?_ | refine DW.condT rfl ?_ | refine DW.condF rfl ?_))
  refine DW.cond rfl (fun hb => ?_) (fun hb => ?_)
  · have hlt : k < l.length := by have := of_decide_eq_true hb; omega
    (repeat (first | refine RO.S ?_ | refine RO.Y ?_ | refine RO.no rfl (by decide) rfl ?_ | refine RO.nil ?_ | refine DW.region ?_ | refine DW.seq ?_ | refine DW.block ?_ | refine DW.skip ?_ | refine DW.exit ?_ | refine DW.condT rfl ?_ | refine DW.condF rfl ?_))
    refine RO.sta (sta_call rfl rfl (hg _ (List.getElem_mem hlt))) rfl ?_
    (repeat (first | refine RO.S ?_ | refine RO.Y ?_ | refine RO.no rfl (by decide) rfl ?_ | refine RO.nil ?_ | refine DW.region ?_ | refine DW.seq ?_ | refine DW.block ?_ | refine DW.skip ?_ | refine DW.exit ?_ | refine DW.condT rfl ?_ | refine DW.condF rfl ?_))
    refine DW.cond rfl (fun hb => ?_) (fun hb => ?_)
    · (repeat (first | refine RO.S ?_ | refine RO.Y ?_ | refine RO.no rfl (by decide) rfl ?_ | refine RO.nil ?_ | refine DW.region ?_ | refine DW.seq ?_ | refine DW.block ?_ | refine DW.skip ?_ | refine DW.exit ?_ | refine DW.condT rfl ?_ | refine DW.condF rfl ?_))
      rw [idxD_at hlt hk2 hb]
      exact DW.ret ⟨.inl rfl, _, rfl, Over.refl _, .same _⟩
    · (repeat (first | refine RO.S ?_ | refine RO.Y ?_ | refine RO.no rfl (by decide) rfl ?_ | refine RO.nil ?_ | refine DW.region ?_ | refine DW.seq ?_ | refine DW.block ?_ | refine DW.skip ?_ | refine DW.exit ?_ | refine DW.condT rfl ?_ | refine DW.condF rfl ?_))
      refine ⟨k + 1, ⟨by omega, fun j hj hjk => ?_⟩, by dsimp only; omega, rfl, rfl, rfl, rfl, rfl, trivial⟩
      by_cases h : j = k
      · subst h; exact hb
      · exact hk2 j hj (by omega)
  · (repeat (first | refine RO.S ?_ | refine RO.Y ?_ | refine RO.no rfl (by decide) rfl ?_ | refine RO.nil ?_ | refine DW.region ?_ | refine DW.seq ?_ | refine DW.block ?_ | refine DW.skip ?_ | refine DW.exit ?_ | refine DW.condT rfl ?_ | refine DW.condF rfl ?_))
    have hn : ¬ k < l.length := by have := of_decide_eq_false hb; omega
    rw [idxD_none fun j hj => hk2 j hj (by omega)]
    exact DW.ret ⟨.inl rfl, _, rfl, Over.refl _, .same _⟩

theorem indexFunc_vecs {H : Heap} {f : FuncId} {caps : List D} (l : List Vc) (g : Vc → Bool) (hl : l.length ≤ 4611686018427387904) (hg : ∀ x, x ∈ l → PureH Tryz.prog H f (vcD x :: caps) (.bool (g x))) :
    PureH Tryz.prog H 47 [vcsD l, .fn f caps] (I (idxD g l)) := by
  refine PureH.of_body Tryz.func47 rfl (by decide) (Nat.le_of_ble_eq_true rfl) fun w0 => ?_
  (repeat (first | refine RO.S ?_ | refine RO.Y ?_ | refine RO.no rfl (by decide) rfl ?_ | refine RO.nil ?_ | refine DW.region ?_ | refine DW.seq ?_ | refine DW.block ?_ | refine DW.skip ?_ | refine DW.exit ?_ | refine DW.condT rfl ?_ | refine DW.condF rfl ?_))
  refine DW.loopI (fun k : Nat => k ≤ l.length ∧ ∀ (j : Nat) (hj : j < l.length), j < k → g l[j] = false) (fun k => [(0, vcsD l), (1, .fn f caps), (7, I l.length), (8, I k)]) (fun _ => H) (fun k => l.length - k) 0 ⟨Nat.zero_le _, fun j hj h => by omega⟩ rfl ⟨rfl, rfl, rfl, rfl, trivial⟩ fun k ⟨hk, hk2⟩ => ?_
  (repeat (first | refine RO.S ?_ | refine RO.Y ?_ | refine RO.no rfl (by decide) rfl ?_ | refine RO.nil ?_ | refine DW.region ?_ | refine DW.seq ?_ | refine DW.block ?_ | refine DW.skip ?_ | refine DW.exit ?_ | refine DW.condT rfl ?_ | refine DW.condF rfl ?_))
  refine DW.cond rfl (fun hb => ?_) (fun hb => ?_)
  · have hlt : k < l.length := by have := of_decide_eq_true hb; omega
    (repeat (first | refine RO.S ?_ | refine RO.Y ?_ | refine RO.no rfl (by decide) rfl ?_ | refine RO.nil ?_ | refine DW.region ?_ | refine DW.seq ?_ | refine DW.block ?_ | refine DW.skip ?_ | refine DW.exit ?_ | refine DW.condT rfl ?_ | refine DW.condF rfl ?_))
    refine RO.sta (sta_call rfl rfl (hg _ (List.getElem_mem hlt))) rfl ?_
    (repeat (first | refine RO.S ?_ | refine RO.Y ?_ | refine RO.no rfl (by decide) rfl ?_ | refine RO.nil ?_ | refine DW.region ?_ | refine DW.seq ?_ | refine DW.block ?_ | refine DW.skip ?_ | refine DW.exit ?_ | refine DW.condT rfl ?_ | refine DW.condF rfl ?_))
    refine DW.cond rfl (fun hb => ?_) (fun hb => ?_)
    · (repeat (first | refine RO.S ?_ | refine RO.Y ?_ | refine RO.no rfl (by decide) rfl ?_ | refine RO.nil ?_ | refine DW.region ?_ | refine DW.seq ?_ | refine DW.block ?_ | refine DW.skip ?_ | refine DW.exit ?_ | refine DW.condT rfl ?_ | refine DW.condF rfl ?_))
      rw [idxD_at hlt hk2 hb]
      exact DW.ret ⟨.inl rfl, _, rfl, Over.refl _, .same _⟩
    · (repeat (first | refine RO.S ?_ | refine RO.Y ?_ | refine RO.no rfl (by decide) rfl ?_ | refine RO.nil ?_ | refine DW.region ?_ | refine DW.seq ?_ | refine DW.block ?_ | refine DW.skip ?_ | refine DW.exit ?_ | refine DW.condT rfl ?_ | refine DW.condF rfl ?_))
      refine ⟨k + 1, ⟨by omega, fun j hj hjk => ?_⟩, by dsimp only; omega, rfl, rfl, rfl, rfl, rfl, trivial⟩
      by_cases h : j = k
      · subst h; exact hb
      · exact hk2 j hj (by omega)
  · (repeat (first | refine RO.S ?_ | refine RO.Y ?_ | refine RO.no rfl (by decide) rfl ?_ | refine RO.nil ?_ | refine DW.region ?_ | refine DW.seq ?_ | refine DW.block ?_ | refine DW.skip ?_ | refine DW.exit ?_ | refine DW.condT rfl ?_ | refine DW.condF rfl ?_))
    have hn : ¬ k < l.length := by have := of_decide_eq_false hb; omega
    rw [idxD_none fun j hj => hk2 j hj (by omega)]
    exact DW.ret ⟨.inl rfl, _, rfl, Over.refl _, .same _⟩

theorem containsFunc_vec {H : Heap} {f : FuncId} {caps : List D} (l : Vc) (g : Pl → Bool) (hl : l.length ≤ 4611686018427387904) (hg : ∀ x, x ∈ l → PureH Tryz.prog H f (plD x :: caps) (.bool (g x))) :
    PureH Tryz.prog H 15 [vcD l, .fn f caps] (.bool (l.any g)) := by
  refine PureH.of_body Tryz.func15 rfl (by decide) (Nat.le_of_ble_eq_true rfl) fun w0 => ?_
  (repeat (first | refine RO.S ?_ | refine RO.Y ?_ | refine RO.no rfl (by decide) rfl ?_ | refine RO.nil ?_ | refine DW.region ?_ | refine DW.seq ?_ | refine DW.block ?_ | refine DW.skip ?_ | refine DW.exit ?_ | refine DW.condT rfl ?_ | refine DW.condF rfl ?_))
  refine RO.sta (sta_call rfl rfl (indexFunc_vec l g hl hg)) rfl ?_
  (repeat (first | refine RO.S ?_ | refine RO.Y ?_ | refine RO.no rfl (by decide) rfl ?_ | refine RO.nil ?_ | refine DW.region ?_ | refine DW.seq ?_ | refine DW.block ?_ | refine DW.skip ?_ | refine DW.exit ?_ | refine DW.condT rfl ?_ | refine DW.condF rfl ?_))
  rw [← idx_any]
  exact DW.ret ⟨.inl rfl, _, rfl, Over.refl _, .same _⟩

theorem containsFunc_vecs {H : Heap} {f : FuncId} {caps : List D} (l : List Vc) (g : Vc → Bool) (hl : l.length ≤ 4611686018427387904) (hg : ∀ x, x ∈ l → PureH Tryz.prog H f (vcD x :: caps) (.bool (g x))) :
    PureH Tryz.prog H 18 [vcsD l, .fn f caps] (.bool (l.any g)) := by
  refine PureH.of_body Tryz.func18 rfl (by decide) (Nat.le_of_ble_eq_true rfl) fun w0 => ?_
  (repeat (first | refine RO.S ?_ | refine RO.Y ?_ | refine RO.no rfl (by decide) rfl ?_ | refine RO.nil ?_ | refine DW.region ?_ | refine DW.seq ?_ | refine DW.block ?_ | refine DW.skip ?_ | refine DW.exit ?_ | refine DW.condT rfl ?_ | refine DW.condF rfl ?_))
  refine RO.sta (sta_call rfl rfl (indexFunc_vecs l g hl hg)) rfl ?_
  (repeat (first | refine RO.S ?_ | refine RO.Y ?_ | refine RO.no rfl (by decide) rfl ?_ | refine RO.nil ?_ | refine DW.region ?_ | refine DW.seq ?_ | refine DW.block ?_ | refine DW.skip ?_ | refine DW.exit ?_ | refine DW.condT rfl ?_ | refine DW.condF rfl ?_))
  rw [← idx_any]
  exact DW.ret ⟨.inl rfl, _, rfl, Over.refl _, .same _⟩

theorem isBasis1_pure (v : Vc) (hl : v.length ≤ 1000000) (hm : ∀ f ∈ v, f.length ≤ 4000000000000 ∧ ∀ t ∈ f, MOk t.e) : Pure Tryz.prog 14 [vcD v] (.bool (v.any big40)) := by
  intro H
  refine PureH.of_body Tryz.func14 rfl (by decide) (Nat.le_of_ble_eq_true rfl) fun w0 => ?_
  (repeat (first | refine RO.Sv ?_ | refine RO.Yv ?_ | refine RO.no rfl (by decide) rfl ?_ | refine RO.nil ?_ | refine DW.region ?_ | refine DW.seq ?_ | refine DW.block ?_ | refine DW.skip ?_ | refine DW.exit ?_ | refine DW.condT rfl ?_ | refine DW.condF rfl ?_))
  refine RO.sta (sta_call rfl rfl (containsFunc_vec v big40 (by omega) fun x hx => isBasis11_pure x (hm x hx).1 (hm x hx).2 H)) rfl ?_
  (repeat (first | refine RO.Sv ?_ | refine RO.Yv ?_ | refine RO.no rfl (by decide) rfl ?_ | refine RO.nil ?_ | refine DW.region ?_ | refine DW.seq ?_ | refine DW.block ?_ | refine DW.skip ?_ | refine DW.exit ?_ | refine DW.condT rfl ?_ | refine DW.condF rfl ?_))
  exact DW.ret ⟨.inl rfl, _, rfl, Over.refl _, .same _⟩

theorem Up_pure (r : Rg) (v : Vc) (e : List Int) (hp : 2 ≤ r.p ∧ r.p ≤ 101) (hc : 0 ≤ (tmOf (topV r v)).c ∧ (tmOf (topV r v)).c < r.p) (he : MOk e) (hw : MOk (tmOf (topV r v)).e) (hl : e.length = (tmOf (topV r v)).e.length) :
    Pure Tryz.prog 51 [rgD r, dvD r v, intsD e] (tmD (upT r (tmOf (topV r v)) e)) := by
  intro H
  refine PureH.of_bodyCell (r := 6) (t := 50) (T0 := 50) (cells := tmCl (upT r (tmOf (topV r v)) e)) Tryz.func51 rfl (by decide) (Nat.le_of_ble_eq_true rfl) rfl fun w0 => ?_
  (repeat (first | refine RO.Sv ?_ | refine RO.Yv ?_ | refine RO.no rfl (by decide) rfl ?_ | refine RO.nil ?_ | refine DW.region ?_ | refine DW.seq ?_ | refine DW.block ?_ | refine DW.skip ?_ | refine DW.exit ?_ | refine DW.condT rfl ?_ | refine DW.condF rfl ?_))
  refine RO.dyn rfl (d_alloc fun b hb => ?_)
  refine RO.nil ?_
  (repeat (first | refine RO.Sv ?_ | refine RO.Yv ?_ | refine RO.no rfl (by decide) rfl ?_ | refine RO.nil ?_ | refine DW.region ?_ | refine DW.seq ?_ | refine DW.block ?_ | refine DW.skip ?_ | refine DW.exit ?_ | refine DW.condT rfl ?_ | refine DW.condF rfl ?_))
  refine DW.drawS 12 Tryz.mixed (by kernel_rfl) (by decide) ?_
  dsimp only [List.take, List.drop]
  (repeat (first | refine RS.Sv ?_ | refine RS.Yv ?_ | refine RS.no rfl (by decide) rfl ?_ | refine RS.nil ?_))
  refine RS.sta (fun H' hov => sta_call rfl rfl (turn_pure r.p (tmOf (topV r v)).c hp.1 hp.2 hc.1 hc.2 _)) rfl ?_
  (repeat (first | refine RS.Sv ?_ | refine RS.Yv ?_ | refine RS.no rfl (by decide) rfl ?_ | refine RS.nil ?_))
  refine RS.sta (fun H' hov => sta_call rfl rfl (Quotient_pure he hw hl _)) rfl ?_
  refine RS.sta (fun H' hov => s_buildT (out := tmCl (upT r (tmOf (topV r v)) e)) rfl rfl) rfl ?_
  (repeat (first | refine RS.Sv ?_ | refine RS.Yv ?_ | refine RS.no rfl (by decide) rfl ?_ | refine RS.nil ?_))
  refine RO.dyn rfl (d_store (k := 2) rfl rfl rfl (Heap.set_self _ _ _) (by show 0 + 2 ≤ 2; omega) (by simp [cellsOf, D.isCell, intsD]) ?_)
  rw [Heap.set_set]
  (repeat (first | refine RO.Sv ?_ | refine RO.Yv ?_ | refine RO.no rfl (by decide) rfl ?_ | refine RO.nil ?_ | refine DW.region ?_ | refine DW.seq ?_ | refine DW.block ?_ | refine DW.skip ?_ | refine DW.exit ?_ | refine DW.condT rfl ?_ | refine DW.condF rfl ?_))
  exact DW.ret ⟨.inl rfl, b, rfl, Heap.set_self _ _ _, (Over.refl _).set hb, hb⟩

theorem lessen_pure (r : Rg) (v w : Vc) (a b : Tm) {n : Nat} {B C : Int} {L : Nat} (hn : n ≤ 3) (hB : B + C ≤ 1000000) (hB0 : 0 ≤ B) (hC0 : 0 ≤ C) (hr : ckP r.p = 0) (hpr : Prm r.p) (hl : v.length ≤ 1000000) (hvw : v.length = w.length) (hL : L ≤ 1000000000000) (hv : VB r n B L v) (hw : VB r n B L w) (ha : TB 1 r.p n C a) (hb : TB 1 r.p n C b) :
    Pure Tryz.prog 50 [rgD r, vcD v, vcD w, tmD a, tmD b] (vcD (lessT r v w a b)) := by
  intro H
  have hp := ckP_ok hr
  have hnb : TB 1 r.p n C (negT r b) := ⟨by have := hb.hi; show 1 ≤ r.p - b.c; omega, by have := hb.lo; show r.p - b.c < r.p; omega, hb.len, hb.mem⟩
  have hva := VB.by (by omega) hpr hv (ha.mono (by omega) (Int.le_refl _))
  have hwb := VB.by (by omega) hpr hw (hnb.mono (by omega) (Int.le_refl _))
  have hb0 := hb.lo
  have hb1 := hb.hi
  refine PureH.of_body Tryz.func50 rfl (by decide) (Nat.le_of_ble_eq_true rfl) fun w0 => ?_
  (repeat (first | refine RO.Sv ?_ | refine RO.Yv ?_ | refine RO.no rfl (by decide) rfl ?_ | refine RO.nil ?_ | refine DW.region ?_ | refine DW.seq ?_ | refine DW.block ?_ | refine DW.skip ?_ | refine DW.exit ?_ | refine DW.condT rfl ?_ | refine DW.condF rfl ?_))
  refine DW.drawS 17 Tryz.mixed (by kernel_rfl) (by decide) ?_
  dsimp only [List.take, List.drop]
  (repeat (first | refine RS.Sv ?_ | refine RS.Yv ?_ | refine RS.no rfl (by decide) rfl ?_ | refine RS.nil ?_))
  refine RS.sta (fun H' hov => sta_call rfl rfl (vBy_pure r v a hn (B := B) (C := C) (L := L) (by omega) (by omega) hp hl (by omega) hv (ha.mono (by omega) (Int.le_refl _)) _)) rfl ?_
  (repeat (first | refine RS.Sv ?_ | refine RS.Yv ?_ | refine RS.no rfl (by decide) rfl ?_ | refine RS.nil ?_))
  refine RS.sta (fun H' hov => s_buildT (out := tmCl (negT r b)) rfl rfl) rfl ?_
  refine RS.sta (fun H' hov => sta_call rfl rfl (vBy_pure r w (negT r b) hn (B := B) (C := C) (L := L) (by omega) (by omega) hp (by omega) (by omega) hw (hnb.mono (by omega) (Int.le_refl _)) _)) rfl ?_
  refine RS.sta (fun H' hov => sta_call rfl rfl (vSum_pure r (vbyT r v a) (vbyT r w (negT r b)) hn (B := B + C) (L := L) (M := L) (by omega) hp (by simp [vbyT]; omega) (by simp [vbyT]; omega) (by omega) hva hwb _)) rfl ?_
  (repeat (first | refine RS.Sv ?_ | refine RS.Yv ?_ | refine RS.no rfl (by decide) rfl ?_ | refine RS.nil ?_))
  (repeat (first | refine RO.Sv ?_ | refine RO.Yv ?_ | refine RO.no rfl (by decide) rfl ?_ | refine RO.nil ?_ | refine DW.region ?_ | refine DW.seq ?_ | refine DW.block ?_ | refine DW.skip ?_ | refine DW.exit ?_ | refine DW.condT rfl ?_ | refine DW.condF rfl ?_))
  exact DW.ret ⟨.inl rfl, _, rfl, Over.refl _, .same _⟩

theorem isNo_call {r : Rg} {l : List Vc} {H : Heap} : Told r l H (fun _ => False) 53 [] (fun _ _ => True) :=
  ⟨fun c h => h.elim, trivial, fun _ _ _ _ _ => trivial, fun σ H i t _ _ hi ht hm => by
    refine CallD.of_body Tryz.func53 rfl (by decide) (Nat.le_of_ble_eq_true rfl) fun w0 => ?_
    (repeat (first | refine RO.Sv ?_ | refine RO.Yv ?_ | refine RO.no rfl (by decide) rfl ?_ | refine RO.nil ?_ | refine DW.region ?_ | refine DW.seq ?_ | refine DW.block ?_ | refine DW.skip ?_ | refine DW.exit ?_ | refine DW.condT rfl ?_ | refine DW.condF rfl ?_))
    exact ⟨.inr rfl, _, _, _, rfl, Heap.sub_refl _, .same _, trivial, fun _ h => h.elim, fun c z h _ => h⟩⟩

end Go.Proofs.YtcdihmhmoddppaaGreat

namespace Go.Proofs.YtcdihmhmoddppaaGreat
open Go.RowKit
set_option linter.unusedVariables false
set_option linter.unusedSimpArgs false
set_option maxHeartbeats 4000000

structure Stp where
  vs : List Vc
  ds : List Int
def stD (s : Stp) : D := .agg [vcsD s.vs, intsD s.ds]
def stsD (l : List Stp) : D := .list 2 (l.map stD)
structure Rsl where
  rank : Int
  ds : List Int
  steps : List Stp
def rslD (x : Rsl) : D := .agg [I x.rank, intsD x.ds, stsD x.steps]

def unitP (f : Pl) : Bool := f.any fun t => t.e.sum == 0
/-- Has a vector a term whose monomial has degree 0? -/
def unitsT (v : Vc) : Bool := v.any unitP

/-- Is it the last term? -/
def lastU (f : Pl) : Bool := if h : 0 < f.length then f[f.length - 1].e.sum == 0 else false

theorem POk.last {r : Rg} {f : Pl} (h : POk r f) : lastU f = unitP f := by
  unfold lastU unitP
  split
  · rename_i hl
    cases hx : (f[f.length - 1].e.sum == 0)
    · symm
      rw [List.any_eq_false]
      intro t ht h0
      obtain ⟨i, hi, rfl⟩ := List.getElem_of_mem ht
      have hs : f[f.length - 1].e.sum ≠ 0 := by simpa using hx
      have h0 : f[i].e.sum = 0 := by simpa using h0
      have hnn : ∀ {j : Nat} (hj : j < f.length), 0 ≤ f[j].e.sum := fun {j} hj => by
        have hb := (h.ok.all _ (List.getElem_mem hj)).mem
        have : ∀ l : List Int, (∀ x ∈ l, 0 ≤ x ∧ x ≤ 200) → 0 ≤ l.sum := fun l => by
          induction l with
          | nil => intro _; simp
          | cons a l ih => intro h; have := h a (by simp); have := ih fun x hx => h x (by simp [hx]); simp; omega
        exact this _ hb
      have h1 := hnn (j := f.length - 1) (by omega)
      by_cases he : i = f.length - 1
      · subst he; exact hs h0
      · have := cmpM_deg (List.pairwise_iff_getElem.1 h.ok.sorted i (f.length - 1) hi (by omega) (by omega))
        omega
    · symm
      rw [List.any_eq_true]
      exact ⟨_, List.getElem_mem (by omega), hx⟩
  · rename_i hl
    have : f = [] := List.length_eq_zero_iff.1 (by omega)
    subst this
    rfl

theorem VOk.units {r : Rg} {k : Nat} {v : Vc} (h : VOk r k v) : v.any lastU = unitsT v := by
  unfold unitsT
  have : ∀ l : Vc, (∀ f ∈ l, POk r f) → l.any lastU = l.any unitP := fun l => by
    induction l with
    | nil => intro _; rfl
    | cons f l ih => intro h; simp only [List.any_cons]; rw [(h f (by simp)).last, ih fun g hg => h g (by simp [hg])]
  exact this v h.all

/-- Is something wrong with the vector at i, by its degree? -/
def degBad (gs ds : List Int) (vs : List Vc) (i : Nat) : Bool :=
  ((((sameT gs (vs.getD i [])).2 != 0) || ((sameT gs (vs.getD i [])).1 != ds.getD i 0)) || (decide (0 < i) && decide ((sameT gs (vs.getD i [])).1 < ds.getD (i - 1) 0))) || unitsT (vs.getD i [])

theorem degBad_at {gs ds : List Int} {vs : List Vc} {i : Nat} (h1 : i < vs.length) (h2 : i < ds.length) :
    degBad gs ds vs i = (((((sameT gs vs[i]).2 != 0) || ((sameT gs vs[i]).1 != ds[i])) || (decide (0 < i) && decide ((sameT gs vs[i]).1 < ds.getD (i - 1) 0))) || unitsT vs[i]) := by
  unfold degBad
  simp only [List.getD_eq_getElem?_getD, List.getElem?_eq_getElem h1, List.getElem?_eq_getElem h2, Option.getD_some]

def stepBad (gs ds : List Int) (vs : List Vc) : Bool := (List.range vs.length).any (degBad gs ds vs)

theorem stepBad_false {gs ds : List Int} {vs : List Vc} (h : ∀ i < vs.length, degBad gs ds vs i = false) : stepBad gs ds vs = false := by
  unfold stepBad
  rw [List.any_eq_false]
  intro i hi
  rw [h i (List.mem_range.1 hi)]
  exact Bool.false_ne_true

theorem stepBad_true {gs ds : List Int} {vs : List Vc} {i : Nat} (hi : i < vs.length) (h : degBad gs ds vs i = true) : stepBad gs ds vs = true := by
  unfold stepBad
  rw [List.any_eq_true]
  exact ⟨i, List.mem_range.2 hi, h⟩

theorem stepBad_ok {gs ds : List Int} {vs : List Vc} (h : stepBad gs ds vs = false) : ∀ i < vs.length, degBad gs ds vs i = false := fun i hi => by
  cases hx : degBad gs ds vs i
  · rfl
  · rw [stepBad_true hi hx] at h; cases h

/-- What is wrong with a step by itself. -/
def stepCk (r : Rg) (gs : List Int) (s : Stp) : Int :=
  if s.vs.length = 0 then 5 else if ownCk r gs.length s.vs ≠ 0 then ownCk r gs.length s.vs else if s.ds.length ≠ s.vs.length then 1 else if stepBad gs s.ds s.vs = true then 4 else 0

/-- Does a vector make something of the step ahead? -/
def pb (r : Rg) (p : Option (List Vc)) (v : Vc) : Bool := match p with
  | none => false
  | some p => !(emptyT (combT r (p.getD 0 []).length v p))

def prevBad (r : Rg) (p : Option (List Vc)) (vs : List Vc) : Bool := vs.any (pb r p)

theorem prevBad_none (r : Rg) (vs : List Vc) : prevBad r none vs = false := by
  unfold prevBad
  rw [List.any_eq_false]
  intro v hv
  exact Bool.false_ne_true

def resGo (r : Rg) : Option (List Vc) → List Int → List Stp → Int
  | _, _, [] => 0
  | p, gs, s :: l => if stepCk r gs s ≠ 0 then stepCk r gs s else if prevBad r p s.vs = true then 4 else resGo r (some s.vs) s.ds l

/-- What is wrong with a resolution. -/
def resCk (r : Rg) (x : Rsl) : Int :=
  if ringCk r ≠ 0 then ringCk r else if x.rank < 1 ∨ 40 < x.rank ∨ r.n < (x.steps.length : Int) then 3 else if (x.ds.length : Int) ≠ x.rank then 1 else if x.ds.any badDeg = true then 3 else resGo r none x.ds x.steps

theorem resGo_drop {r : Rg} {p : Option (List Vc)} {gs : List Int} {l : List Stp} {k : Nat} (h : k < l.length) :
    resGo r p gs (l.drop k) = if stepCk r gs l[k] ≠ 0 then stepCk r gs l[k] else if prevBad r p l[k].vs = true then 4 else resGo r (some l[k].vs) l[k].ds (l.drop (k + 1)) := by
  rw [List.drop_eq_getElem_cons h]
  rfl

theorem rowDeg_le {g B : Int} (hg : g ≤ B) : ∀ {f : Pl} {d d' : Int}, (∀ t ∈ f, t.e.sum ≤ 200) → rowDeg g d f = some d' → d ≤ B + 200 → d' ≤ B + 200
  | [], d, d', _, h, hd => by cases h; exact hd
  | t :: f, d, d', hf, h, hd => by
    unfold rowDeg at h
    split at h
    · cases h
    · have := hf t (by simp)
      exact rowDeg_le hg (fun u hu => hf u (by simp [hu])) h (by omega)

theorem degGo_le {B : Int} : ∀ {gs : List Int} {v : Vc} {d d' : Int}, (∀ g ∈ gs, g ≤ B) → (∀ f ∈ v, ∀ t ∈ f, t.e.sum ≤ 200) → degGo gs d v = some d' → d ≤ B + 200 → d' ≤ B + 200
  | [], v, d, d', _, _, h, hd => by cases v <;> (cases h; exact hd)
  | g :: gs, [], d, d', _, _, h, hd => by cases h; exact hd
  | g :: gs, f :: v, d, d', hg, hv, h, hd => by
    unfold degGo at h
    cases hr : rowDeg g d f with
    | none => rw [hr] at h; cases h
    | some c =>
      rw [hr] at h
      exact degGo_le (fun x hx => hg x (by simp [hx])) (fun u hu => hv u (by simp [hu])) h (rowDeg_le (hg g (by simp)) (hv f (by simp)) hr hd)

theorem sameT_le {gs : List Int} {v : Vc} {B : Int} (hB : 0 ≤ B) (h : (sameT gs v).2 = 0) (hg : ∀ g ∈ gs, g ≤ B) (hv : ∀ f ∈ v, ∀ t ∈ f, t.e.sum ≤ 200) : 0 ≤ (sameT gs v).1 ∧ (sameT gs v).1 ≤ B + 200 := by
  unfold sameT at h ⊢
  cases hd : degGo gs (-1) v with
  | none => rw [hd] at h; simp at h
  | some d =>
    rw [hd] at h
    dsimp only at h ⊢
    split at h
    · simp at h
    · rename_i hn
      rw [if_neg hn]
      have := degGo_le hg hv hd (by omega)
      dsimp only
      omega

/-- What a step that is right is known to be. -/
structure StOk (r : Rg) (B : Int) (n : Nat) (s : Stp) : Prop where
  some' : 0 < s.vs.length
  len : s.vs.length ≤ 60
  rank1 : 1 ≤ n
  rank2 : n ≤ 40
  vecs : ∀ v ∈ s.vs, VOk r n v
  dlen : s.ds.length = s.vs.length
  degs : ∀ d ∈ s.ds, 0 ≤ d ∧ d ≤ B + 200

theorem stepCk_ok {r : Rg} {gs : List Int} {s : Stp} {B : Int} (hB : 0 ≤ B) (hr : ringCk r = 0) (hg : ∀ g ∈ gs, g ≤ B) (h : stepCk r gs s = 0) : StOk r B gs.length s := by
  unfold stepCk at h
  split at h
  · simp at h
  rename_i h1
  split at h
  · rename_i h2; exact absurd h h2
  rename_i h2
  split at h
  · simp at h
  rename_i h3
  split at h
  · simp at h
  rename_i h4
  obtain ⟨a, b, c, d⟩ := ownCk_ok hr (Classical.not_not.1 h2)
  have h3 := Classical.not_not.1 h3
  refine ⟨by omega, c, by omega, by omega, fun v hv => by simpa using d v hv, h3, fun x hx => ?_⟩
  obtain ⟨i, hi, rfl⟩ := List.getElem_of_mem hx
  have hiv : i < s.vs.length := by omega
  have hb := stepBad_ok (by simpa using h4) i hiv
  rw [degBad_at hiv hi] at hb
  simp only [Bool.or_eq_false_iff, bne_eq_false_iff_eq] at hb
  obtain ⟨⟨⟨e1, e2⟩, _⟩, _⟩ := hb
  have hvo := d _ (List.getElem_mem hiv)
  rw [← e2]
  exact sameT_le hB e1 hg fun f hf t ht => (hvo.all f hf).deg t ht

def prevT (x : Rsl) (i : Nat) : Option (List Vc) := if i = 0 then none else some (x.steps.getD (i - 1) ⟨[], []⟩).vs

theorem prevT_zero (x : Rsl) : prevT x 0 = none := rfl
theorem prevT_pos {x : Rsl} {i : Nat} (h : 0 < i) (hl : i - 1 < x.steps.length) : prevT x i = some x.steps[i - 1].vs := by
  unfold prevT
  rw [if_neg (by omega)]
  simp [List.getD_eq_getElem?_getD, hl]

/-- What stands when i steps have been looked at. -/
structure RInv (r : Rg) (x : Rsl) (i : Nat) (gs : List Int) : Prop where
  le : i ≤ x.steps.length
  go : resGo r (prevT x i) gs (x.steps.drop i) = resGo r none x.ds x.steps
  degs : ∀ g ∈ gs, 0 ≤ g ∧ g ≤ 200 * (i + 1)
  glen : gs.length ≤ 60
  prev : 0 < i → ∃ (h : i - 1 < x.steps.length) (B : Int) (n : Nat), StOk r B n x.steps[i - 1] ∧ gs = x.steps[i - 1].ds

theorem RInv.start {r : Rg} {x : Rsl} (h1 : x.ds.length ≤ 60) (h2 : x.ds.any badDeg = false) : RInv r x 0 x.ds := by
  refine ⟨Nat.zero_le _, rfl, fun g hg => ?_, h1, fun h => absurd h (Nat.lt_irrefl _)⟩
  rw [List.any_eq_false] at h2
  have := h2 g hg
  unfold badDeg at this
  simp at this
  omega

theorem RInv.st {r : Rg} {x : Rsl} {i : Nat} {gs : List Int} (hr : ringCk r = 0) (h : RInv r x i gs) (hlt : i < x.steps.length) (h1 : stepCk r gs x.steps[i] = 0) : StOk r (200 * (i + 1)) gs.length x.steps[i] :=
  stepCk_ok (by omega) hr (fun g hg => (h.degs g hg).2) h1

theorem RInv.next {r : Rg} {x : Rsl} {i : Nat} {gs : List Int} (hr : ringCk r = 0) (h : RInv r x i gs) (hlt : i < x.steps.length) (h1 : stepCk r gs x.steps[i] = 0) (h2 : prevBad r (prevT x i) x.steps[i].vs = false) : RInv r x (i + 1) x.steps[i].ds := by
  have hs := h.st hr hlt h1
  refine ⟨hlt, ?_, fun g hg => ?_, by have := hs.dlen; have := hs.len; omega, fun _ => ⟨by simpa using hlt, _, _, hs, rfl⟩⟩
  · rw [← h.go, resGo_drop hlt, if_neg (by simpa using h1), h2, if_neg Bool.false_ne_true]
    rw [prevT_pos (Nat.succ_pos i) (by simpa using hlt)]
    rfl
  · have := hs.degs g hg
    push_cast
    omega

theorem RInv.bad1 {r : Rg} {x : Rsl} {i : Nat} {gs : List Int} (h : RInv r x i gs) (hlt : i < x.steps.length) (h1 : stepCk r gs x.steps[i] ≠ 0) : resGo r none x.ds x.steps = stepCk r gs x.steps[i] := by
  rw [← h.go, resGo_drop hlt, if_pos h1]

theorem RInv.bad2 {r : Rg} {x : Rsl} {i : Nat} {gs : List Int} (h : RInv r x i gs) (hlt : i < x.steps.length) (h1 : stepCk r gs x.steps[i] = 0) (h2 : prevBad r (prevT x i) x.steps[i].vs = true) : resGo r none x.ds x.steps = 4 := by
  rw [← h.go, resGo_drop hlt, if_neg (by simpa using h1), h2, if_pos rfl]

theorem RInv.fin {r : Rg} {x : Rsl} {gs : List Int} (h : RInv r x x.steps.length gs) : resGo r none x.ds x.steps = 0 := by
  rw [← h.go, List.drop_length]
  cases prevT x x.steps.length <;> rfl

theorem RInv.comb {r : Rg} {x : Rsl} {i : Nat} {gs : List Int} (hr : ringCk r = 0) (h : RInv r x i gs) (hlt : i < x.steps.length) (h1 : stepCk r gs x.steps[i] = 0) (h0 : 0 < i) (hp : i - 1 < x.steps.length) {v : Vc} (hv : v ∈ x.steps[i].vs) :
    ∃ h0' : 0 < x.steps[i - 1].vs.length, CombOk r (x.steps[i - 1].vs[0].length : Int) v x.steps[i - 1].vs ∧ pb r (prevT x i) v = !(emptyT (combT r (x.steps[i - 1].vs[0].length : Int) v x.steps[i - 1].vs)) := by
  have hs := h.st hr hlt h1
  obtain ⟨_, B, n, hso, hgs⟩ := h.prev h0
  have hvo := hs.vecs v hv
  have h0' := hso.some'
  have hn := (hso.vecs _ (List.getElem_mem h0')).len
  have hr1 := hso.rank1
  have hr2 := hso.rank2
  refine ⟨h0', ⟨hr, by omega, by omega, hso.len, fun u hu => ?_, ?_, hvo.all⟩, ?_⟩
  · rw [show ((x.steps[i - 1].vs[0].length : Int)).toNat = n by omega]
    exact hso.vecs u hu
  · rw [hvo.len, hgs, hso.dlen]
  · rw [prevT_pos h0 hp]
    unfold pb
    dsimp only
    rw [show (x.steps[i - 1].vs).getD 0 [] = x.steps[i - 1].vs[0] by simp [List.getD_eq_getElem?_getD, h0']]

/-- How great a resolution may be that is handed in. -/
structure RslB (x : Rsl) : Prop where
  ds : x.ds.length ≤ 4611686018427387904
  len : x.steps.length ≤ 4611686018427387904
  steps : ∀ s ∈ x.steps, s.vs.length ≤ 4611686018427387904 ∧ s.ds.length ≤ 4611686018427387904 ∧ ∀ v ∈ s.vs, v.length ≤ 4611686018427387904 ∧ ∀ f ∈ v, f.length ≤ 4611686018427387904

end Go.Proofs.YtcdihmhmoddppaaGreat
