/-
  Vectors as what they do to functions on terms at places; what is made of some of them. No condition.
-/
import Derived.Test.YtfjmdhemlfafbaaGreatKHc10
import Derived.Test.YtfjmdhemlfafbaaGreatKHc9
import Derived.WalkKit
set_option linter.unusedVariables false
set_option linter.unusedSimpArgs false

namespace Go.Proofs.YtfjmdhemlfafbaaGreat
section
def VB (r : Rg) (n : Nat) (B : Int) (L : Nat) (v : Vc) : Prop := ∀ f ∈ v, PB 1 r.p r.order n B f ∧ f.length ≤ L

theorem VOk.vb {r : Rg} {k : Nat} {v : Vc} (h : VOk r k v) : VB r r.n.toNat 200 2000 v := fun f hf => ⟨(h.all f hf).ok, (h.all f hf).len⟩

def firstT (r : Rg) (i : Int) (a : List Int) (k : Int) (b : List Int) : Bool := if (r.over = 2 ∧ i ≠ k) ∨ cmpM r.order a b = 0 then decide (i < k) else decide (0 < cmpM r.order a b)

def topStep (r : Rg) (x : Option (Nat × Tm)) (i : Nat) : Pl → Option (Nat × Tm)
 | [] => x
 | t :: _ => match x with
  | none => some (i, t)
  | some (a, u) => if firstT r i t.e a u.e = true then some (i, t) else some (a, u)

def topAt (r : Rg) (v : Vc) : Nat → Option (Nat × Tm)
 | 0 => none
 | k + 1 => topStep r (topAt r v k) k (v.getD k [])

def topV (r : Rg) (v : Vc) : Option (Nat × Tm) := topAt r v v.length

def atOf : Option (Nat × Tm) → Int
 | none => -1
 | some x => x.1

def tmOf : Option (Nat × Tm) → Tm
 | none => ⟨0, []⟩
 | some x => x.2

theorem topAt_succ {r : Rg} {v : Vc} {k : Nat} (h : k < v.length) : topAt r v (k + 1) = topStep r (topAt r v k) k v[k] := by
 show topStep r (topAt r v k) k (v.getD k []) = _
 rw [List.getD_eq_getElem?_getD, List.getElem?_eq_getElem h]
 rfl

theorem topAt_ok {r : Rg} {v : Vc} : ∀ {k : Nat}, k ≤ v.length → ∀ {a : Nat} {u : Tm}, topAt r v k = some (a, u) → a < k ∧ ∃ (h : a < v.length) (h2 : 0 < v[a].length), v[a][0] = u
 | 0, _, a, u, h => by cases h
 | k + 1, hk, a, u, h => by
  rw [topAt_succ hk] at h
  have old : ∀ {a u}, topAt r v k = some (a, u) → a < k + 1 ∧ ∃ (h : a < v.length) (h2 : 0 < v[a].length), v[a][0] = u := fun hx => by
   obtain ⟨h1, h2⟩ := topAt_ok (by omega) hx
   exact ⟨by omega, h2⟩
  unfold topStep at h
  split at h
  ·exact old h
  ·rename_i t g hv
   have new : k < k + 1 ∧ ∃ (h : k < v.length) (h2 : 0 < v[k].length), v[k][0] = t := ⟨by omega, hk, by rw [hv]; simp, by simp [hv]⟩
   split at h
   ·cases h; exact new
   ·rename_i a' u' hx
    split at h
    ·cases h; exact new
    ·cases h; exact old hx
end
section

end
section
open Go.RowKit

theorem sumT_mem {p o : Int} : ∀ (f g : Pl), ∀ s ∈ sumT p o f g, (∃ t ∈ f, t.e = s.e) ∨ ∃ t ∈ g, t.e = s.e :=
 sumT_ind (p := p) (o := o) (M := fun f g => ∀ s ∈ sumT p o f g, (∃ t ∈ f, t.e = s.e) ∨ ∃ t ∈ g, t.e = s.e)
  (fun g s hs => .inr ⟨s, by rwa [sumT_nil] at hs, rfl⟩)
  (fun a f s hs => .inl ⟨s, by rwa [sumT_nil'] at hs, rfl⟩)
  fun a b f g h1 h2 h3 s hs => by
   have w1 : ((∃ t ∈ f, t.e = s.e) ∨ ∃ t ∈ b :: g, t.e = s.e) → (∃ t ∈ a :: f, t.e = s.e) ∨ ∃ t ∈ b :: g, t.e = s.e := fun h => h.imp (fun ⟨t, ht, he⟩ => ⟨t, by simp [ht], he⟩) id
   have w2 : ((∃ t ∈ a :: f, t.e = s.e) ∨ ∃ t ∈ g, t.e = s.e) → (∃ t ∈ a :: f, t.e = s.e) ∨ ∃ t ∈ b :: g, t.e = s.e := fun h => h.imp id fun ⟨t, ht, he⟩ => ⟨t, by simp [ht], he⟩
   have w3 : ((∃ t ∈ f, t.e = s.e) ∨ ∃ t ∈ g, t.e = s.e) → (∃ t ∈ a :: f, t.e = s.e) ∨ ∃ t ∈ b :: g, t.e = s.e := fun h => h.imp (fun ⟨t, ht, he⟩ => ⟨t, by simp [ht], he⟩) fun ⟨t, ht, he⟩ => ⟨t, by simp [ht], he⟩
   rw [sumT_cons] at hs
   split at hs
   ·rcases List.mem_cons.1 hs with rfl | hs
    ·exact .inl ⟨s, by simp, rfl⟩
    ·exact w1 (h1 s hs)
   ·split at hs
    ·rcases List.mem_cons.1 hs with rfl | hs
     ·exact .inr ⟨s, by simp, rfl⟩
     ·exact w2 (h2 s hs)
    ·split at hs
     ·rcases List.mem_cons.1 hs with rfl | hs
      ·exact .inl ⟨a, by simp, rfl⟩
      ·exact w3 (h3 s hs)
     ·exact w3 (h3 s hs)

theorem byT_mem {p : Int} {f : Pl} {t : Tm} : ∀ s ∈ byT p f t, ∃ u ∈ f, s.e = zipE (· + ·) u.e t.e := fun s hs => by
 unfold byT at hs
 split at hs
 ·cases hs
 ·obtain ⟨u, hu, rfl⟩ := List.mem_map.1 hs
  exact ⟨u, hu, rfl⟩

def DB (d : Int) (f : Pl) : Prop := ∀ t ∈ f, t.e.sum ≤ d

theorem vsumT_len' {r : Rg} {v w : Vc} (h : v.length = w.length) : (vsumT r v w).length = v.length := by unfold vsumT; rw [List.length_zipWith]; omega
end
section
open Go.RowKit

theorem mem_le_sum : ∀ {e : List Int}, (∀ x ∈ e, 0 ≤ x) → ∀ x ∈ e, x ≤ e.sum
 | y :: e, h, x, hx => by
  have h0 : 0 ≤ e.sum := by
   have : ∀ {l : List Int}, (∀ x ∈ l, 0 ≤ x) → 0 ≤ l.sum := fun {l} => by
    induction l with
    | nil => intro _; exact Int.le_refl _
    | cons a l ih => intro h; rw [List.sum_cons]; have := h a (by simp); have := ih fun x hx => h x (by simp [hx]); omega
   exact this fun x hx => h x (by simp [hx])
  rw [List.sum_cons]
  rcases List.mem_cons.1 hx with rfl | hx
  ·omega
  ·have := mem_le_sum (fun x hx => h x (by simp [hx])) x hx
   have := h y (by simp)
   omega

structure ME (n : Nat) (e : List Int) : Prop where
 len : e.length = n
 n3 : n ≤ 3
 pos : ∀ x ∈ e, 0 ≤ x
 deg : e.sum ≤ 8000

def codeM (o : Int) (e : List Int) : Int := if o = 2 then (e.sum * 8001 + e.getD 0 0) * 8001 + e.getD 1 0 else (e.sum * 8001 + (8000 - e.reverse.getD 0 0)) * 8001 + (8000 - e.reverse.getD 1 0)

theorem ME.cases {n : Nat} {e : List Int} (h : ME n e) : (n = 0 ∧ e = []) ∨ (∃ x, n = 1 ∧ e = [x] ∧ 0 ≤ x ∧ x ≤ 8000) ∨ (∃ x y, n = 2 ∧ e = [x, y] ∧ 0 ≤ x ∧ 0 ≤ y ∧ x + y ≤ 8000) ∨ (∃ x y z, n = 3 ∧ e = [x, y, z] ∧ 0 ≤ x ∧ 0 ≤ y ∧ 0 ≤ z ∧ x + y + z ≤ 8000) := by
 obtain ⟨h1, h2, h3, h4⟩ := h
 match e, h1, h3, h4 with
 | [], h1, _, _ => exact .inl ⟨h1.symm, rfl⟩
 | [x], h1, h3, h4 =>
  have := h3 x (by simp)
  exact .inr (.inl ⟨x, h1.symm, rfl, by omega, by simpa using h4⟩)
 | [x, y], h1, h3, h4 =>
  have := h3 x (by simp)
  have := h3 y (by simp)
  simp at h4
  exact .inr (.inr (.inl ⟨x, y, h1.symm, rfl, by omega, by omega, by omega⟩))
 | [x, y, z], h1, h3, h4 =>
  have := h3 x (by simp)
  have := h3 y (by simp)
  have := h3 z (by simp)
  simp at h4
  exact .inr (.inr (.inr ⟨x, y, z, h1.symm, rfl, by omega, by omega, by omega, by omega⟩))
 | x :: y :: z :: w :: e, h1, _, _ => simp at h1; omega

theorem codeM_range {n : Nat} {o : Int} {e : List Int} (h : ME n e) : 0 ≤ codeM o e ∧ codeM o e < 512192024001 := by
 unfold codeM
 rcases h.cases with ⟨_, rfl⟩ | ⟨x, _, rfl, h1, h2⟩ | ⟨x, y, _, rfl, h1, h2, h3⟩ | ⟨x, y, z, _, rfl, h1, h2, h3, h4⟩ <;> simp <;> split <;> omega

theorem codeM_lt {n : Nat} {o : Int} {a b : List Int} (ha : ME n a) (hb : ME n b) (h : 0 < cmpM o a b) : codeM o b < codeM o a := by
 unfold codeM
 unfold cmpM at h
 rcases ha.cases with ⟨h0, rfl⟩ | ⟨x, h0, rfl, h1, h2⟩ | ⟨x, y, h0, rfl, h1, h2, h3⟩ | ⟨x, y, z, h0, rfl, h1, h2, h3, h4⟩ <;>
 rcases hb.cases with ⟨h0', rfl⟩ | ⟨x', h0', rfl, h1', h2'⟩ | ⟨x', y', h0', rfl, h1', h2', h3'⟩ | ⟨x', y', z', h0', rfl, h1', h2', h3', h4'⟩ <;>
 first
 | omega
 | (simp [lexC, sgn] at h ⊢ <;> (repeat' split at h) <;> (repeat' split) <;> omega)

theorem codeM_cmp {n : Nat} {o : Int} {a b : List Int} (ha : ME n a) (hb : ME n b) : (0 < cmpM o a b ↔ codeM o b < codeM o a) ∧ (cmpM o a b = 0 ↔ codeM o a = codeM o b) := by
 have hl : a.length = b.length := by rw [ha.len, hb.len]
 have h2 := cmpM_anti o a b
 rcases Int.lt_trichotomy (cmpM o a b) 0 with h | h | h
 ·have := codeM_lt hb ha (o := o) (by omega)
  exact ⟨⟨fun h => by omega, fun h => by omega⟩, ⟨fun h => by omega, fun h => by omega⟩⟩
 ·have := cmpM_zero hl h
  subst this
  exact ⟨⟨fun h => by omega, fun h => by omega⟩, ⟨fun _ => rfl, fun _ => h⟩⟩
 ·have := codeM_lt ha hb h
  exact ⟨⟨fun _ => this, fun _ => h⟩, ⟨fun h => by omega, fun h => by omega⟩⟩

theorem codeM_inj {n : Nat} {o : Int} {a b : List Int} (ha : ME n a) (hb : ME n b) (h : codeM o a = codeM o b) : a = b :=
 cmpM_zero (by rw [ha.len, hb.len]) ((codeM_cmp ha hb).2.2 h)

def code2 (r : Rg) (i : Nat) (e : List Int) : Int := if r.over = 2 then (40 - i) * 512192024001 + codeM r.order e else codeM r.order e * 41 + (40 - i)

theorem code2_range {r : Rg} {n i : Nat} {e : List Int} (h : ME n e) (hi : i ≤ 40) : 0 ≤ code2 r i e := by
 have := codeM_range (o := r.order) h
 unfold code2
 split <;> omega

theorem code2_first {r : Rg} {n i k : Nat} {a b : List Int} (ha : ME n a) (hb : ME n b) (hi : i ≤ 40) (hk : k ≤ 40) : firstT r i a k b = true ↔ code2 r k b < code2 r i a := by
 have h1 := codeM_range (o := r.order) ha
 have h2 := codeM_range (o := r.order) hb
 obtain ⟨c1, c2⟩ := codeM_cmp (o := r.order) ha hb
 unfold firstT code2
 by_cases ho : r.over = 2
 ·rw [if_pos ho, if_pos ho]
  by_cases hik : (i : Int) = k
  ·by_cases hc : cmpM r.order a b = 0
   ·rw [if_pos (.inr hc)]
    have := c2.1 hc
    simp only [decide_eq_true_eq]
    omega
   ·rw [if_neg (fun h => h.elim (fun h => h.2 hik) hc)]
    simp only [decide_eq_true_eq]
    rw [c1]
    omega
  ·rw [if_pos (.inl ⟨ho, hik⟩)]
   simp only [decide_eq_true_eq]
   omega
 ·rw [if_neg ho, if_neg ho]
  by_cases hc : cmpM r.order a b = 0
  ·rw [if_pos (.inr hc)]
   have := c2.1 hc
   simp only [decide_eq_true_eq]
   omega
  ·rw [if_neg (fun h => h.elim (fun h => ho h.1) hc)]
   have : codeM r.order a ≠ codeM r.order b := fun h => hc (c2.2 h)
   simp only [decide_eq_true_eq]
   rw [c1]
   omega

theorem code2_inj {r : Rg} {n i k : Nat} {a b : List Int} (ha : ME n a) (hb : ME n b) (hi : i ≤ 40) (hk : k ≤ 40) (h : code2 r i a = code2 r k b) : i = k ∧ a = b := by
 have h1 := codeM_range (o := r.order) ha
 have h2 := codeM_range (o := r.order) hb
 unfold code2 at h
 split at h
 ·have : i = k := by omega
  subst this
  exact ⟨rfl, codeM_inj (o := r.order) ha hb (by omega)⟩
 ·have : i = k := by omega
  subst this
  exact ⟨rfl, codeM_inj (o := r.order) ha hb (by omega)⟩

theorem code2_same {r : Rg} {n i : Nat} {a b : List Int} (ha : ME n a) (hb : ME n b) (h : code2 r i b < code2 r i a) : 0 < cmpM r.order a b := by
 refine (codeM_cmp ha hb).1.2 ?_
 unfold code2 at h
 split at h <;> omega

theorem code2_same' {r : Rg} {n i : Nat} {a b : List Int} (ha : ME n a) (hb : ME n b) (h : 0 < cmpM r.order a b) : code2 r i b < code2 r i a := by
 have := (codeM_cmp ha hb).1.1 h
 unfold code2
 split <;> omega

theorem firstT_add {r : Rg} {i k : Nat} {a b m : List Int} (h1 : a.length = b.length) (h2 : b.length = m.length) : firstT r i (zipE (· + ·) a m) k (zipE (· + ·) b m) = firstT r i a k b := by
 unfold firstT
 rw [cmpM_add h1 h2]

theorem me_of {lo p o : Int} {n : Nat} {B d : Int} {f : Pl} (h : PB lo p o n B f) (hd : DB d f) (hn : n ≤ 3) (h8 : d ≤ 8000) : ∀ t ∈ f, ME n t.e := fun t ht =>
 ⟨(h.all t ht).len, hn, fun x hx => ((h.all t ht).mem x hx).1, by have := hd t ht; omega⟩

theorem PB.tight {lo p o : Int} {n : Nat} {B d : Int} {f : Pl} (h : PB lo p o n B f) (hd : DB d f) : PB lo p o n d f := ⟨fun t ht => by
 have := h.all t ht
 exact ⟨this.lo, this.hi, this.len, fun x hx => ⟨(this.mem x hx).1, by have := mem_le_sum (fun x hx => (this.mem x hx).1) x hx; have := hd t ht; omega⟩⟩, h.sorted⟩

theorem long_le {lo p o : Int} {n : Nat} {B d : Int} (hn : n ≤ 3) (h8 : d ≤ 8000) : ∀ {f : Pl}, PB lo p o n B f → DB d f → ∀ t, f.head? = some t → (f.length : Int) ≤ codeM o t.e + 1
 | [u], h, hd, t, ht => by
  cases ht
  have := codeM_range (o := o) (me_of h hd hn h8 u (by simp))
  simp; omega
 | u :: w :: f, h, hd, t, ht => by
  cases ht
  have hm := me_of h hd hn h8
  have ih := long_le hn h8 h.tail (fun x hx => hd x (by simp [hx])) w rfl
  have := codeM_lt (o := o) (hm u (by simp)) (hm w (by simp)) (h.below w (by simp))
  simp at ih ⊢; omega

theorem len_le8 {lo p o : Int} {n : Nat} {B d : Int} {f : Pl} (h : PB lo p o n B f) (hd : DB d f) (hn : n ≤ 3) (h8 : d ≤ 8000) : f.length ≤ 512192024001 := by
 cases f with
 | nil => simp
 | cons u f =>
  have := long_le hn h8 h hd u rfl
  have := codeM_range (o := o) (me_of h hd hn h8 u (by simp))
  omega
end
section
theorem turn_all' : ((List.range 102).all fun p => ckP (p : Int) != 0 || ((List.range p).all fun a => a == 0 || ((a : Int) * turnP p a % p == 1))) = true := by decide +kernel

theorem turnP_inv' {p : Int} (hp : ckP p = 0) : InvOk (turnP p) p := by
 intro a h0 h1
 have h2 := ckP_ok hp
 obtain ⟨q, rfl⟩ := Int.eq_ofNat_of_zero_le (show 0 ≤ p by omega)
 obtain ⟨b, rfl⟩ := Int.eq_ofNat_of_zero_le (show 0 ≤ a by omega)
 have h3 := List.all_eq_true.1 turn_all' q (List.mem_range.2 (by omega))
 rw [hp] at h3
 have h4 : ((List.range q).all fun a => a == 0 || ((a : Int) * turnP q a % q == 1)) = true := h3
 have h5 := List.all_eq_true.1 h4 b (List.mem_range.2 (by omega))
 simp only [Bool.or_eq_true, beq_iff_eq] at h5
 exact h5.resolve_left (by omega)

theorem turnGo_in {p : Int} (hp : 0 < p) : ∀ (f : Nat) (n a out : Int), 0 ≤ out → out < p → 0 ≤ turnGo p f n a out ∧ turnGo p f n a out < p
 | 0, _, _, out, h0, h1 => ⟨h0, h1⟩
 | f + 1, n, a, out, h0, h1 => by
  simp only [turnGo]
  split
  ·exact ⟨h0, h1⟩
  ·refine turnGo_in hp f _ _ _ ?_ ?_
   ·split
    ·exact Int.emod_nonneg _ (by omega)
    ·exact h0
   ·split
    ·exact Int.emod_lt_of_pos _ hp
    ·exact h1

theorem turnP_in {p : Int} (hp : 2 ≤ p) (a : Int) : 0 ≤ turnP p a ∧ turnP p a < p := turnGo_in (by omega) _ _ _ _ (by omega) (by omega)

theorem ckP_prm {p : Int} (hp : ckP p = 0) : Prm p := Prm.of (by have := ckP_ok hp; omega) (turnP_inv' hp)
end
section
open Go.RowKit

structure TopIs (r : Rg) (n : Nat) (v : Vc) (a : Nat) (u : Tm) : Prop where
 lt : a < v.length
 at_ : ∃ f, v[a] = u :: f
 me : ME n u.e
 max : ∀ (i : Nat) (h : i < v.length), ∀ s ∈ v[i], code2 r i s.e ≤ code2 r a u.e

def goesIn (r : Rg) (a : Nat) (m : List Int) (d : Vc) : Bool := match topV r d with
 | none => false
 | some (b, w) => b == a && goesM m w.e

def goesT (r : Rg) (l : List Vc) (a : Nat) (m : List Int) : Option Nat := l.findIdx? (goesIn r a m)

def byOf (r : Rg) (u w : Tm) : Tm := ⟨u.c * turnP r.p w.c % r.p, zipE (· - ·) u.e w.e⟩
def negT (r : Rg) (t : Tm) : Tm := ⟨r.p - t.c, t.e⟩

structure DS where
 v : Vc
 q : Vc
 left : Vc

def stepA (s : DS) (a : Nat) (u : Tm) : DS := ⟨s.v.set a (s.v.getD a []).tail, s.q, s.left.set a (s.left.getD a [] ++ [u])⟩
def byAt (r : Rg) (l : List Vc) (u : Tm) (i : Nat) : Tm := byOf r u (tmOf (topV r (l.getD i [])))
def stepB (r : Rg) (l : List Vc) (s : DS) (u : Tm) (i : Nat) : DS :=
 ⟨vsumT r s.v (vbyT r (l.getD i []) (negT r (byAt r l u i))), s.q.set i (sumT r.p r.order (s.q.getD i []) [byAt r l u i]), s.left⟩

def muT (r : Rg) (v : Vc) : Nat := match topV r v with
 | none => 0
 | some (a, u) => (code2 r a u.e).toNat + 1

theorem goesM_sub : ∀ {a b : List Int}, a.length = b.length → goesM a b = true → zipE (· + ·) b (zipE (· - ·) a b) = a ∧ (∀ x ∈ zipE (· - ·) a b, 0 ≤ x) ∧ (zipE (· - ·) a b).sum = a.sum - b.sum
 | [], [], _, _ => ⟨rfl, (fun x h => by cases h), rfl⟩
 | x :: a, y :: b, h, hg => by
  unfold goesM at hg
  split at hg
  ·cases hg
  ·obtain ⟨h1, h2, h3⟩ := goesM_sub (by simpa using h) hg
   have e1 : zipE (· - ·) (x :: a) (y :: b) = (x - y) :: zipE (· - ·) a b := rfl
   rw [e1]
   refine ⟨?_, fun z hz => ?_, ?_⟩
   ·show (y + (x - y)) :: zipE (· + ·) b (zipE (· - ·) a b) = x :: a
    rw [h1, show y + (x - y) = x by omega]
   ·rcases List.mem_cons.1 hz with rfl | hz
    ·omega
    ·exact h2 z hz
   ·rw [List.sum_cons, List.sum_cons, List.sum_cons, h3]; omega

theorem inv_facts {p u w : Int} (hp : ckP p = 0) (hu : 1 ≤ u ∧ u < p) (hw : 1 ≤ w ∧ w < p) : 1 ≤ u * turnP p w % p ∧ u * turnP p w % p < p ∧ p ∣ w * (u * turnP p w % p) - u := by
 have hp2 := ckP_ok hp
 have h1 := turnP_inv' hp w (by omega) hw.2
 have hlt := Int.emod_lt_of_pos (u * turnP p w) (show 0 < p by omega)
 have h0 := Int.emod_nonneg (u * turnP p w) (show p ≠ 0 by omega)
 have hd : p ∣ w * (u * turnP p w % p) - u := by
  have e1 : p ∣ u * turnP p w % p - u * turnP p w := emod_dvd _ _
  have e2 : p ∣ w * turnP p w - 1 := by
   have := emod_dvd p (w * turnP p w)
   rw [h1] at this
   have := Int.dvd_neg.2 this
   rwa [show -(1 - w * turnP p w) = w * turnP p w - 1 by omega] at this
  obtain ⟨k1, e1⟩ := e1
  obtain ⟨k2, e2⟩ := e2
  exact ⟨w * k1 + u * k2, by grind⟩
 refine ⟨?_, hlt, hd⟩
 refine Classical.byContradiction fun hn => ?_
 have hz : u * turnP p w % p = 0 := by omega
 rw [hz] at hd
 have : p ∣ u := by
  have := Int.dvd_neg.2 hd
  rwa [show -(w * 0 - u) = u by simp] at this
 have := Int.le_of_dvd (by omega) this
 omega
end
section
open Go.RowKit

theorem goesT_some {r : Rg} {l : List Vc} {a i : Nat} {m : List Int} (h : goesT r l a m = some i) : ∃ (hi : i < l.length) (w : Tm), topV r l[i] = some (a, w) ∧ goesM m w.e = true := by
 unfold goesT at h
 obtain ⟨hi, h1, _⟩ := List.findIdx?_eq_some_iff_getElem.1 h
 refine ⟨hi, ?_⟩
 unfold goesIn at h1
 cases hx : topV r l[i] with
 | none => rw [hx] at h1; cases h1
 | some x =>
  obtain ⟨b, w⟩ := x
  rw [hx] at h1
  simp only [Bool.and_eq_true, beq_iff_eq] at h1
  exact ⟨w, by rw [h1.1], h1.2⟩

theorem zipE_same_len {g : Int → Int → Int} {a b : List Int} {n : Nat} (h1 : a.length = n) (h2 : b.length = n) : (zipE g a b).length = n := by rw [zipE_len (by omega)]; exact h1

theorem byOf_ok {r : Rg} {n : Nat} {u w : Tm} (hp : ckP r.p = 0) (hu : TB 1 r.p n 8000 u) (hue : ME n u.e) (hw : TB 1 r.p n 8000 w) (hwe : ME n w.e) (hg : goesM u.e w.e = true) :
  TB 1 r.p n 8000 (byOf r u w) ∧ ME n (byOf r u w).e ∧ zipE (· + ·) w.e (byOf r u w).e = u.e ∧ (byOf r u w).e.sum = u.e.sum - w.e.sum ∧ r.p ∣ w.c * (byOf r u w).c - u.c := by
 have hl : u.e.length = w.e.length := by rw [hue.len, hwe.len]
 obtain ⟨g1, g2, g3⟩ := goesM_sub hl hg
 obtain ⟨i1, i2, i3⟩ := inv_facts hp ⟨hu.lo, hu.hi⟩ ⟨hw.lo, hw.hi⟩
 have hsum : 0 ≤ w.e.sum := by
  cases hc : w.e with
  | nil => exact Int.le_refl _
  | cons x e =>
   have := mem_le_sum hwe.pos x (by rw [hc]; simp)
   have := hwe.pos x (by rw [hc]; simp)
   rw [hc] at *
   omega
 have hme : ME n (byOf r u w).e := ⟨zipE_same_len hue.len hwe.len, hue.n3, g2, by
  show (zipE (· - ·) u.e w.e).sum ≤ 8000
  have := hue.deg
  omega⟩
 exact ⟨⟨i1, i2, hme.len, fun x hx => ⟨hme.pos x hx, by have := mem_le_sum hme.pos x hx; have := hme.deg; omega⟩⟩, hme, g1, g3, i3⟩

theorem negT_ok {r : Rg} {n : Nat} {t : Tm} (h : TB 1 r.p n 8000 t) : TB 1 r.p n 8000 (negT r t) := ⟨by have := h.hi; show 1 ≤ r.p - t.c; omega, by have := h.lo; show r.p - t.c < r.p; omega, h.len, h.mem⟩

theorem TB.zero {p : Int} {n : Nat} {B : Int} {t : Tm} (h : TB 1 p n B t) : TB 0 p n B t := h.mono (by omega) (Int.le_refl _)

theorem sumT_cancel {p o : Int} {u v : Tm} {f g : Pl} (he : v.e = u.e) (hc : (u.c + v.c) % p = 0) : sumT p o (u :: f) (v :: g) = sumT p o f g := by
 rw [sumT_cons, he, cmpM_self, if_neg (by omega), if_neg (by omega), hc, if_neg (by omega)]

theorem PB.snoc {lo p o : Int} {n : Nat} {B : Int} {f : Pl} {u : Tm} (hf : PB lo p o n B f) (hu : TB lo p n B u) (h : ∀ t ∈ f, 0 < cmpM o t.e u.e) : PB lo p o n B (f ++ [u]) :=
 ⟨fun t ht => by
  rcases List.mem_append.1 ht with ht | ht
  ·exact hf.all t ht
  ·rw [List.mem_singleton.1 ht]; exact hu, List.pairwise_append.2 ⟨hf.sorted, by simp, fun t ht s hs => by rw [List.mem_singleton.1 hs]; exact h t ht⟩⟩

theorem PB.one {lo p o : Int} {n : Nat} {B : Int} {u : Tm} (hu : TB lo p n B u) : PB lo p o n B [u] := ⟨fun t ht => by rw [List.mem_singleton.1 ht]; exact hu, by simp⟩
end
section
def cnt : Nat → (Nat → Bool) → Nat
 | 0, _ => 0
 | n + 1, f => cnt n f + (if f n = true then 1 else 0)

def sumN : Nat → (Nat → Nat) → Nat
 | 0, _ => 0
 | n + 1, f => sumN n f + f n

theorem cnt_le (n : Nat) (f : Nat → Bool) : cnt n f ≤ n := by
 induction n with
 | zero => exact Nat.le_refl _
 | succ n ih => unfold cnt; split <;> omega

theorem cnt_mono {n : Nat} {f g : Nat → Bool} (h : ∀ j, j < n → f j = true → g j = true) : cnt n f ≤ cnt n g := by
 induction n with
 | zero => exact Nat.le_refl _
 | succ n ih =>
  have := ih fun j hj => h j (by omega)
  unfold cnt
  by_cases hf : f n = true
  ·rw [if_pos hf, if_pos (h n (by omega) hf)]; omega
  ·rw [if_neg hf]; split <;> omega

theorem cnt_congr {n : Nat} {f g : Nat → Bool} (h : ∀ j, j < n → f j = g j) : cnt n f = cnt n g :=
 Nat.le_antisymm (cnt_mono fun j hj hf => by rw [← h j hj]; exact hf) (cnt_mono fun j hj hf => by rw [h j hj]; exact hf)

theorem cnt_add (m k : Nat) (f : Nat → Bool) : cnt (m + k) f = cnt m f + cnt k fun j => f (m + j) := by
 induction k with
 | zero => rfl
 | succ k ih =>
  show cnt (m + k) f + (if f (m + k) = true then 1 else 0) = cnt m f + (cnt k (fun j => f (m + j)) + (if f (m + k) = true then 1 else 0))
  rw [ih, Nat.add_assoc]

theorem cnt_lt {n : Nat} {f g : Nat → Bool} (h : ∀ j, j < n → f j = true → g j = true) {i : Nat} (hi : i < n) (hf : f i = false) (hg : g i = true) : cnt n f < cnt n g := by
 induction n with
 | zero => omega
 | succ n ih =>
  unfold cnt
  by_cases hin : i = n
  ·subst hin
   have := cnt_mono (n := i) (f := f) (g := g) fun j hj => h j (by omega)
   rw [hf, hg, if_neg (by simp), if_pos rfl]
   omega
  ·have h1 := ih (fun j hj => h j (by omega)) (by omega)
   by_cases hfn : f n = true
   ·rw [if_pos hfn, if_pos (h n (by omega) hfn)]; omega
   ·rw [if_neg hfn]; split <;> omega

theorem cnt_true (n : Nat) : cnt n (fun _ => true) = n := by
 induction n with
 | zero => rfl
 | succ n ih => unfold cnt; rw [ih]; simp

theorem cnt_full {n : Nat} {f : Nat → Bool} (h : ∀ j, j < n → f j = true) : cnt n f = n :=
 Nat.le_antisymm (cnt_le n f) (by
  have := cnt_mono (n := n) (f := fun _ => true) (g := f) fun j hj _ => h j hj
  rwa [cnt_true] at this)

theorem sumN_le {n : Nat} {f g : Nat → Nat} (h : ∀ i, i < n → f i ≤ g i) : sumN n f ≤ sumN n g := by
 induction n with
 | zero => exact Nat.le_refl _
 | succ n ih =>
  have := ih fun i hi => h i (by omega)
  have := h n (by omega)
  unfold sumN
  omega

theorem sumN_congr {n : Nat} {f g : Nat → Nat} (h : ∀ i, i < n → f i = g i) : sumN n f = sumN n g :=
 Nat.le_antisymm (sumN_le fun i hi => by rw [h i hi]; exact Nat.le_refl _) (sumN_le fun i hi => by rw [h i hi]; exact Nat.le_refl _)

theorem sumN_lt {n : Nat} {f g : Nat → Nat} (h : ∀ i, i < n → f i ≤ g i) {k : Nat} (hk : k < n) (hl : f k < g k) : sumN n f < sumN n g := by
 induction n with
 | zero => omega
 | succ n ih =>
  unfold sumN
  by_cases hkn : k = n
  ·subst hkn
   have := sumN_le (n := k) (f := f) (g := g) fun i hi => h i (by omega)
   omega
  ·have := ih (fun i hi => h i (by omega)) (by omega)
   have := h n (by omega)
   omega

theorem sumN_add (m k : Nat) (f : Nat → Nat) : sumN (m + k) f = sumN m f + sumN k fun j => f (m + j) := by
 induction k with
 | zero => rfl
 | succ k ih =>
  show sumN (m + k) f + f (m + k) = sumN m f + (sumN k (fun j => f (m + j)) + f (m + k))
  rw [ih, Nat.add_assoc]

theorem sumN_plus (n : Nat) (f g : Nat → Nat) : sumN n (fun i => f i + g i) = sumN n f + sumN n g := by
 induction n with
 | zero => rfl
 | succ n ih => show sumN n (fun i => f i + g i) + (f n + g n) = sumN n f + f n + (sumN n g + g n); rw [ih]; omega

theorem sumN_first (n : Nat) (f : Nat → Nat) : sumN (n + 1) f = f 0 + sumN n fun i => f (i + 1) := by
 induction n with
 | zero => show 0 + f 0 = f 0 + 0; omega
 | succ n ih =>
  rw [show sumN (n + 1 + 1) f = sumN (n + 1) f + f (n + 1) from rfl, ih]
  show f 0 + sumN n (fun i => f (i + 1)) + f (n + 1) = f 0 + (sumN n (fun i => f (i + 1)) + f (n + 1))
  omega

theorem two_up (n : Nat) (f : Nat → Bool) : cnt (n + 2) (fun j => (j == 0 || f (j - 1)) && (j == n + 1 || f j)) ≤ cnt (n + 1) f + (if cnt (n + 1) f = n + 1 then 1 else 0) := by
 by_cases hfull : cnt (n + 1) f = n + 1
 ·rw [if_pos hfull, hfull]; exact cnt_le _ _
 ·rw [if_neg hfull]
  have hex : ∃ i, i < n + 1 ∧ f i = false := Classical.byContradiction fun hn => hfull (cnt_full fun j hj => by
   cases hx : f j
   ·exact absurd ⟨j, hj, hx⟩ hn
   ·rfl)
  obtain ⟨i, hi, hfi⟩ := hex
  have e1 : n + 2 = i + 1 + (n + 1 - i) := by omega
  have e2 : n + 1 = i + (n + 1 - i) := by omega
  have h1 : cnt (n + 2) (fun j => (j == 0 || f (j - 1)) && (j == n + 1 || f j)) = cnt (i + 1) (fun j => (j == 0 || f (j - 1)) && (j == n + 1 || f j)) + cnt (n + 1 - i) (fun j => ((i + 1 + j) == 0 || f (i + 1 + j - 1)) && ((i + 1 + j) == n + 1 || f (i + 1 + j))) := by
   rw [e1, cnt_add]
  have h2 : cnt (n + 1) f = cnt i f + cnt (n + 1 - i) (fun j => f (i + j)) := by
   conv => lhs; rw [e2]
   rw [cnt_add]
  have h3 : cnt (i + 1) (fun j => (j == 0 || f (j - 1)) && (j == n + 1 || f j)) ≤ cnt i f := by
   have : cnt (i + 1) (fun j => (j == 0 || f (j - 1)) && (j == n + 1 || f j)) ≤ cnt (i + 1) f := cnt_mono fun j hj h => by
    simp only [Bool.and_eq_true, Bool.or_eq_true, beq_iff_eq] at h
    rcases h.2 with h | h
    ·omega
    ·exact h
   rw [show cnt (i + 1) f = cnt i f + (if f i = true then 1 else 0) from rfl, hfi] at this
   simpa using this
  have h4 : cnt (n + 1 - i) (fun j => ((i + 1 + j) == 0 || f (i + 1 + j - 1)) && ((i + 1 + j) == n + 1 || f (i + 1 + j))) ≤ cnt (n + 1 - i) (fun j => f (i + j)) := cnt_mono fun j hj h => by
   simp only [Bool.and_eq_true, Bool.or_eq_true, beq_iff_eq] at h
   rcases h.1 with h | h
   ·omega
   ·rwa [show i + 1 + j - 1 = i + j by omega] at h
  omega

abbrev M3 := Nat → Nat → Nat → Bool

def rowc (a : M3) (t i : Nat) : Nat := cnt (t + 1 - i) fun j => a i j (t - i - j)

def hil (a : M3) (t : Nat) : Nat := sumN (t + 1) (rowc a t)

def upb (a : M3) : M3 := fun i j k => (i == 0 || a (i - 1) j k) && ((j == 0 || a i (j - 1) k) && (k == 0 || a i j (k - 1)))

theorem row_up (a : M3) {t i : Nat} (hi : i ≤ t) : rowc (upb a) (t + 1) i ≤ rowc a t i + (if rowc a t i = t + 1 - i then 1 else 0) := by
 obtain ⟨n, rfl⟩ : ∃ n, t = i + n := ⟨t - i, by omega⟩
 have h := two_up n fun j => a i j (n - j)
 have e1 : rowc a (i + n) i = cnt (n + 1) fun j => a i j (n - j) := by
  unfold rowc
  rw [show i + n + 1 - i = n + 1 by omega]
  exact cnt_congr fun j hj => by rw [show i + n - i - j = n - j by omega]
 have e2 : rowc (upb a) (i + n + 1) i ≤ cnt (n + 2) (fun j => (j == 0 || a i (j - 1) (n - (j - 1))) && (j == n + 1 || a i j (n - j))) := by
  unfold rowc
  rw [show i + n + 1 + 1 - i = n + 2 by omega]
  refine cnt_mono fun j hj h => ?_
  rw [show i + n + 1 - i - j = n + 1 - j by omega] at h
  unfold upb at h
  simp only [Bool.and_eq_true, Bool.or_eq_true, beq_iff_eq] at h ⊢
  obtain ⟨_, h2, h3⟩ := h
  refine ⟨?_, ?_⟩
  ·rcases h2 with h2 | h2
   ·exact .inl h2
   ·by_cases hj0 : j = 0
    ·exact .inl hj0
    ·exact .inr (by rwa [show n + 1 - j = n - (j - 1) by omega] at h2)
  ·rcases h3 with h3 | h3
   ·exact .inl (by omega)
   ·by_cases hjn : j = n + 1
    ·exact .inl hjn
    ·exact .inr (by rwa [show n + 1 - j - 1 = n - j by omega] at h3)
 rw [e1, show i + n + 1 - i = n + 1 by omega]
 exact Nat.le_trans e2 h

theorem row_side (a : M3) {t i : Nat} (hi : i ≤ t) : rowc (upb a) (t + 1) (i + 1) ≤ rowc a t i := by
 unfold rowc
 rw [show t + 1 + 1 - (i + 1) = t + 1 - i by omega]
 refine cnt_mono fun j hj h => ?_
 unfold upb at h
 simp only [Bool.and_eq_true, Bool.or_eq_true, beq_iff_eq] at h
 rcases h.1 with h | h
 ·omega
 ·rwa [show i + 1 - 1 = i by omega, show t + 1 - (i + 1) - j = t - i - j by omega] at h

theorem row_last (a : M3) (t : Nat) : rowc a t t ≤ 1 := by
 unfold rowc
 rw [show t + 1 - t = 1 by omega]
 exact cnt_le _ _

theorem tri : ∀ (n : Nat) (A e : Nat → Nat) (s : Nat), (∀ i, e i ≤ 1) → (∀ i, i < n → e i = 1 → A i + i + 1 = n) → (∀ m, m < n → s ≤ A m + sumN (m + 1) e) → 2 * (s * n) ≤ 2 * sumN n A + s * (s + 1)
 | 0, A, e, s, _, _, _ => by simp
 | n + 1, A, e, s, he, hf, hs => by
  have hA : sumN (n + 1) A = A 0 + sumN n (fun i => A (i + 1)) := sumN_first n A
  have h0 := hs 0 (by omega)
  have h0' : sumN 1 e = e 0 := by show 0 + e 0 = e 0; omega
  rw [h0'] at h0
  by_cases h1 : e 0 = 1
  ·have hA0 := hf 0 (by omega) h1
   cases s with
   | zero => simp
   | succ s =>
    have ih := tri n (fun i => A (i + 1)) (fun i => e (i + 1)) s (fun i => he _) (fun i hi h => by have := hf (i + 1) (by omega) h; omega) fun m hm => by
     have := hs (m + 1) (by omega)
     rw [sumN_first, h1] at this
     omega
    rw [hA]
    have e1 : 2 * ((s + 1) * (n + 1)) = 2 * (s * n) + 2 * s + 2 * n + 2 := by
     simp only [Nat.add_mul, Nat.mul_add, Nat.one_mul, Nat.mul_one]; omega
    have e2 : (s + 1) * (s + 1 + 1) = s * (s + 1) + 2 * s + 2 := by
     simp only [Nat.add_mul, Nat.mul_add, Nat.one_mul, Nat.mul_one]; omega
    rw [e1, e2]
    omega
  ·have h2 : e 0 = 0 := by have := he 0; omega
   have ih := tri n (fun i => A (i + 1)) (fun i => e (i + 1)) s (fun i => he _) (fun i hi h => by have := hf (i + 1) (by omega) h; omega) fun m hm => by
    have := hs (m + 1) (by omega)
    rw [sumN_first, h2] at this
    omega
   rw [hA]
   have e1 : 2 * (s * (n + 1)) = 2 * (s * n) + 2 * s := by rw [Nat.mul_add, Nat.mul_one]; omega
   rw [e1]
   omega

theorem rows_grow : ∀ (n : Nat) (A B e : Nat → Nat) (s m : Nat), m ≤ n → (∀ i, i ≤ n → B i ≤ A i + e i) → (∀ i, i < n → B (i + 1) ≤ A i) → A n = 0 → sumN (n + 1) A + s ≤ sumN (n + 1) B → s ≤ A m + sumN (m + 1) e := by
 intro n A B e s m hm h1 h2 h0 hs
 have e1 : n + 1 = (m + 1) + (n - m) := by omega
 have b1 : sumN (n + 1) B = sumN (m + 1) B + sumN (n - m) fun j => B (m + 1 + j) := by rw [e1, sumN_add]
 have b2 : sumN (m + 1) B ≤ sumN (m + 1) A + sumN (m + 1) e := by
  rw [← sumN_plus]
  exact sumN_le fun i hi => h1 i (by omega)
 have b3 : (sumN (n - m) fun j => B (m + 1 + j)) ≤ sumN (n - m) fun j => A (m + j) := sumN_le fun j hj => by
  have := h2 (m + j) (by omega)
  rwa [show m + j + 1 = m + 1 + j by omega] at this
 have a1 : sumN (n + 1) A = sumN m A + sumN (n - m + 1) fun j => A (m + j) := by
  rw [show n + 1 = m + (n - m + 1) by omega, sumN_add]
 have a2 : (sumN (n - m + 1) fun j => A (m + j)) = (sumN (n - m) fun j => A (m + j)) + A n := by
  show _ + A (m + (n - m)) = _
  rw [show m + (n - m) = n by omega]
 have a3 : sumN (m + 1) A = sumN m A + A m := rfl
 omega

theorem grow3 (a : M3) (t s : Nat) (h : hil a t + s ≤ hil (upb a) (t + 1)) : 2 * (s * (t + 2)) ≤ 2 * hil a t + s * (s + 1) ∧ s ≤ t + 2 := by
 let A : Nat → Nat := fun i => if i ≤ t then rowc a t i else 0
 let e : Nat → Nat := fun i => if i ≤ t then (if rowc a t i = t + 1 - i then 1 else 0) else 1
 have he : ∀ i, e i ≤ 1 := fun i => by
  show (if i ≤ t then (if rowc a t i = t + 1 - i then 1 else 0) else 1) ≤ 1
  split
  ·split <;> omega
  ·omega
 have hA : hil a t = sumN (t + 2) A := by
  show sumN (t + 1) (rowc a t) = sumN (t + 1) A + (if t + 1 ≤ t then rowc a t (t + 1) else 0)
  rw [if_neg (by omega), Nat.add_zero]
  exact sumN_congr fun i hi => by show _ = if i ≤ t then _ else _; rw [if_pos (by omega)]
 have key : ∀ m, m < t + 2 → s ≤ A m + sumN (m + 1) e := fun m hm => by
  refine rows_grow (t + 1) A (rowc (upb a) (t + 1)) e s m (by omega) (fun i hi => ?_) (fun i hi => ?_) (if_neg (by omega)) (by rw [← hA]; exact h)
  ·show _ ≤ (if i ≤ t then rowc a t i else 0) + (if i ≤ t then (if rowc a t i = t + 1 - i then 1 else 0) else 1)
   by_cases hit : i ≤ t
   ·rw [if_pos hit, if_pos hit]
    exact row_up a hit
   ·rw [if_neg hit, if_neg hit]
    have : i = t + 1 := by omega
    subst this
    have := row_last (upb a) (t + 1)
    omega
  ·show _ ≤ if i ≤ t then rowc a t i else 0
   rw [if_pos (by omega)]
   exact row_side a (by omega)
 refine ⟨?_, ?_⟩
 ·rw [hA]
  refine tri (t + 2) A e s he (fun i hi h1 => ?_) key
  by_cases hit : i ≤ t
  ·have h2 : (if i ≤ t then (if rowc a t i = t + 1 - i then 1 else 0) else 1) = 1 := h1
   rw [if_pos hit] at h2
   have h3 : rowc a t i = t + 1 - i := Classical.byContradiction fun hn => by rw [if_neg hn] at h2; omega
   show (if i ≤ t then rowc a t i else 0) + i + 1 = t + 2
   rw [if_pos hit]; omega
  ·show (if i ≤ t then rowc a t i else 0) + i + 1 = t + 2
   rw [if_neg hit]; omega
 ·have := key (t + 1) (by omega)
  have h0 : A (t + 1) = 0 := if_neg (by omega)
  rw [h0] at this
  have h1 : sumN (t + 1 + 1) e ≤ sumN (t + 1 + 1) fun _ => 1 := sumN_le fun i _ => he i
  have h2 : ∀ n, (sumN n fun _ => 1) = n := fun n => by
   induction n with
   | zero => rfl
   | succ n ih => show sumN n (fun _ => 1) + 1 = n + 1; rw [ih]
  rw [h2] at h1
  omega

theorem wsplit (U : Int) (hU : 0 ≤ U) : ∀ (W : List Int), (∀ w ∈ W, 0 ≤ w ∧ w ≤ U) → ∃ k zb zs qb qs : Int, (0 ≤ zb ∧ 0 ≤ zs ∧ 0 ≤ k) ∧ W.sum + zb = k * U + zs ∧ (W.map fun w => w * w - w).sum = k * (U * U - U) - (2 * U - 1) * zb - zs + qb + qs ∧ qb ≤ zb * zb ∧ qs ≤ zs * zs ∧ 2 * (qb + qs) ≤ U * (zb + zs)
 | [], _ => ⟨0, 0, 0, 0, 0, by omega, by simp, by simp, by simp, by simp, by simp⟩
 | w :: W, h => by
  obtain ⟨k, zb, zs, qb, qs, ⟨h1, h2, h0⟩, h3, h4, h5, h6, h7⟩ := wsplit U hU W fun x hx => h x (by simp [hx])
  obtain ⟨w0, w1⟩ := h w (by simp)
  rw [List.sum_cons, List.map_cons, List.sum_cons]
  by_cases hb : U < 2 * w
  ·have a1 : 0 ≤ zb * (U - w) := Int.mul_nonneg h1 (by omega)
   have a2 : 0 ≤ (2 * w - U) * (U - w) := Int.mul_nonneg (by omega) (by omega)
   refine ⟨k + 1, zb + (U - w), zs, qb + (U - w) * (U - w), qs, by omega, by grind, by grind, by grind, by grind, by grind⟩
  ·have a1 : 0 ≤ zs * w := Int.mul_nonneg h2 w0
   have a2 : 0 ≤ (U - 2 * w) * w := Int.mul_nonneg (by omega) w0
   refine ⟨k, zb, zs + w, qb, qs + w * w, by omega, by grind, by grind, by grind, by grind, by grind⟩

theorem no_numbers {U m D : Int} {W : List Int} (hU : 509 ≤ U) (hD0 : 0 ≤ D) (hD : D ≤ 30) (hW : ∀ w ∈ W, 0 ≤ w ∧ w ≤ U) (ha : W.sum + D + 1 ≤ m * U) (hb : m * (U * U - U) ≤ (W.map fun w => w * w - w).sum + D * (2 * U - 1)) : False := by
 obtain ⟨k, zb, zs, qb, qs, ⟨h1, h2, h0⟩, h3, h4, h5, h6, h7⟩ := wsplit U (by omega) W hW
 rw [h4] at hb
 have ha' : k * U - zb + zs + D + 1 ≤ m * U := by omega
 -- how much is not near
 have e1 : (k * U - zb + zs + D + 1) * (U - 1) ≤ m * U * (U - 1) := Int.mul_le_mul_of_nonneg_right ha' (by omega)
 have e2 : U * (zb + zs) ≤ qb + qs + (D - 1) * U + 1 := by grind
 have e3 : U * (zb + zs) ≤ 2 * (D - 1) * U + 2 := by grind
 have hz : zb + zs ≤ 2 * (D - 1) := by
  refine Classical.byContradiction fun hn => ?_
  have : (2 * (D - 1) + 1) * U ≤ (zb + zs) * U := Int.mul_le_mul_of_nonneg_right (by omega) (by omega)
  grind
 rcases Int.lt_trichotomy k m with hk | hk | hk
 ·have e4 : 1 * (U * U - U) ≤ (m - k) * (U * U - U) := Int.mul_le_mul_of_nonneg_right (by omega) (by
   have : 0 ≤ U * (U - 1) := Int.mul_nonneg (by omega) (by omega)
   grind)
  have e5 : 0 ≤ (2 * U - 1) * zb := Int.mul_nonneg (by omega) h1
  have e6 : U * (zb + zs) ≤ U * 58 := Int.mul_le_mul_of_nonneg_left (by omega) (by omega)
  have e7 : D * (2 * U - 1) ≤ 30 * (2 * U - 1) := Int.mul_le_mul_of_nonneg_right hD (by omega)
  have e8 : 508 * U ≤ (U - 1) * U := Int.mul_le_mul_of_nonneg_right (by omega) (by omega)
  grind
 ·subst hk
  have hy : 1 + zs ≤ zb - D := by omega
  have e4 : (zb - D) * (2 * U - 1) ≤ zb * zb + zs * zs := by grind
  have e5 : (zb - D) * 1017 ≤ (zb - D) * (2 * U - 1) := Int.mul_le_mul_of_nonneg_left (by omega) (by omega)
  generalize hyy : zb - D = y at *
  have hzb : zb = D + y := by omega
  subst hzb
  have e6 : D * D ≤ 30 * 30 := Int.mul_le_mul hD hD hD0 (by omega)
  have e7 : D * y ≤ 30 * y := Int.mul_le_mul_of_nonneg_right hD (by omega)
  have e8 : y * y ≤ 28 * y := Int.mul_le_mul_of_nonneg_right (by omega) (by omega)
  have e9 : zs * zs ≤ (y - 1) * (y - 1) := Int.mul_le_mul (by omega) (by omega) h2 (by omega)
  grind
 ·have e4 : (m + 1) * U ≤ k * U := Int.mul_le_mul_of_nonneg_right (by omega) (by omega)
  grind
theorem hil_mono {a b : M3} {t : Nat} (h : ∀ i j k, i + j + k = t → a i j k = true → b i j k = true) : hil a t ≤ hil b t :=
 sumN_le fun i hi => cnt_mono fun j hj hf => h _ _ _ (by omega) hf

theorem hil_lt {a b : M3} {t : Nat} (h : ∀ i j k, i + j + k = t → a i j k = true → b i j k = true) {i j k : Nat} (hs : i + j + k = t) (ha : a i j k = false) (hb : b i j k = true) : hil a t < hil b t :=
 sumN_lt (fun i hi => cnt_mono fun j hj hf => h _ _ _ (by omega) hf) (k := i) (by omega) (by
  refine cnt_lt (fun j hj hf => h _ _ _ (by omega) hf) (i := j) (by omega) ?_ ?_
  ·rw [show t - i - j = k by omega]; exact ha
  ·rw [show t - i - j = k by omega]; exact hb)

def full (t : Nat) : Nat := sumN (t + 1) fun i => t + 1 - i

theorem full_succ (t : Nat) : full (t + 1) = full t + (t + 2) := by
 unfold full
 rw [sumN_first, Nat.add_comm]
 congr 1
 exact sumN_congr fun i hi => by omega

theorem full_two (t : Nat) : 2 * full t = (t + 1) * (t + 2) := by
 induction t with
 | zero => rfl
 | succ t ih => rw [full_succ, Nat.mul_add, ih]; grind

theorem hil_full {a : M3} {t : Nat} (h : ∀ i j k, i + j + k = t → a i j k = true) : hil a t = full t :=
 sumN_congr fun i hi => cnt_full fun j hj => h _ _ _ (by omega)

abbrev Fm := Nat × M3

def hilS (τ : Nat) (f : Fm) : Nat := if f.1 ≤ τ then hil f.2 (τ - f.1) else 0
def fullS (τ : Nat) (f : Fm) : Nat := if f.1 ≤ τ then full (τ - f.1) else 0

theorem sum_le {α : Type} {f g : α → Int} : ∀ {l : List α}, (∀ x ∈ l, f x ≤ g x) → (l.map f).sum ≤ (l.map g).sum
 | [], _ => Int.le_refl _
 | x :: l, h => by
  have := sum_le (l := l) fun y hy => h y (by simp [hy])
  have := h x (by simp)
  simp only [List.map_cons, List.sum_cons]
  omega

theorem sum_lt {α : Type} {f g : α → Int} : ∀ {l : List α}, (∀ x ∈ l, f x ≤ g x) → (∃ x ∈ l, f x < g x) → (l.map f).sum + 1 ≤ (l.map g).sum
 | [], _, ⟨x, hx, _⟩ => by cases hx
 | x :: l, h, ⟨y, hy, hlt⟩ => by
  have h1 := h x (by simp)
  simp only [List.map_cons, List.sum_cons]
  rcases List.mem_cons.1 hy with rfl | hy
  ·have := sum_le (l := l) fun y hy => h y (by simp [hy])
   omega
  ·have := sum_lt (l := l) (fun y hy => h y (by simp [hy])) ⟨y, hy, hlt⟩
   omega

theorem sum_plus {α : Type} (f g : α → Int) : ∀ (l : List α), (l.map fun x => f x + g x).sum = (l.map f).sum + (l.map g).sum
 | [] => rfl
 | x :: l => by simp only [List.map_cons, List.sum_cons, sum_plus f g l]; omega

theorem sum_times {α : Type} (c : Int) (f : α → Int) : ∀ (l : List α), (l.map fun x => c * f x).sum = c * (l.map f).sum
 | [] => by simp
 | x :: l => by simp only [List.map_cons, List.sum_cons, sum_times c f l, Int.mul_add]

theorem sum_eq {α : Type} {f g : α → Int} {l : List α} (h : ∀ x ∈ l, f x = g x) : (l.map f).sum = (l.map g).sum := by rw [List.map_congr_left h]

structure Fams (P V : List Fm) (c : Nat) : Prop where
 closed : ∀ f ∈ P ++ V, ∀ i j k, i + j + k + f.1 ≤ 8000 → f.2 i j k = true → upb f.2 i j k = true
 whole : ∀ τ, τ ≤ 8000 → ((P ++ V).map fun f => (hilS τ f : Int)).sum = (P.map fun f => (fullS τ f : Int)).sum
 small : ∀ f ∈ P ++ V, f.1 ≤ 9
 low : ∀ f ∈ P, c ≤ f.1 ∨ ∀ i j k, f.2 i j k = true
 lowV : ∀ f ∈ V, c ≤ f.1
 sums : (V.map fun f => (f.1 : Int) - c).sum ≤ 30
 c6 : c ≤ 6

def gr (τ : Nat) (f : Fm) : Nat := hil (upb f.2) (τ + 1 - f.1) - hil f.2 (τ - f.1)

theorem gr_ok {τ : Nat} {f : Fm} (h : f.1 ≤ τ) : 2 * (gr τ f * (τ - f.1 + 2)) ≤ 2 * hil f.2 (τ - f.1) + gr τ f * (gr τ f + 1) ∧ gr τ f ≤ τ - f.1 + 2 := by
 by_cases hx : hil f.2 (τ - f.1) ≤ hil (upb f.2) (τ + 1 - f.1)
 ·have e : τ + 1 - f.1 = τ - f.1 + 1 := by omega
  have := grow3 f.2 (τ - f.1) (gr τ f) (by rw [e] at hx; unfold gr; rw [e]; omega)
  exact this
 ·have : gr τ f = 0 := by unfold gr; omega
  rw [this]; simp

theorem gr_full {τ : Nat} {f : Fm} (h : f.1 ≤ τ) (hf : ∀ i j k, f.2 i j k = true) : gr τ f = τ - f.1 + 2 := by
 unfold gr
 rw [hil_full (a := f.2) fun i j k _ => hf i j k, hil_full (a := upb f.2) fun i j k _ => by unfold upb; simp [hf], show τ + 1 - f.1 = τ - f.1 + 1 by omega, full_succ]
 omega

theorem Fams.done {P V : List Fm} {c : Nat} (h : Fams P V c) {τ : Nat} (hτ : 513 ≤ τ) (hτ8 : τ + 1 ≤ 8000) {f : Fm} (hf : f ∈ P) {i j k : Nat} (hs : i + j + k + f.1 = τ + 1) (hu : upb f.2 i j k = true) : f.2 i j k = true := by
 refine Classical.byContradiction fun hn => ?_
 have hn' : f.2 i j k = false := by simpa using hn
 have hc6 := h.c6
 have hle : ∀ g ∈ P ++ V, g.1 ≤ τ := fun g hg => by have := h.small g hg; omega
 -- growth
 have s1 : ((P ++ V).map fun g => (hilS (τ + 1) g : Int)).sum + 1 ≤ ((P ++ V).map fun g => (hilS τ g : Int) + (gr τ g : Int)).sum := by
  have e1 : ∀ g ∈ P ++ V, hilS (τ + 1) g ≤ hil (upb g.2) (τ + 1 - g.1) := fun g hg => by
   have := hle g hg
   unfold hilS
   rw [if_pos (by omega)]
   exact hil_mono fun i j k hs hx => h.closed g hg i j k (by omega) hx
  refine sum_lt (fun g hg => ?_) ⟨f, by simp [hf], ?_⟩
  ·have h1 := e1 g hg
   have := hle g hg
   have h2 : hilS τ g = hil g.2 (τ - g.1) := if_pos this
   unfold gr
   omega
  ·have hfm : f ∈ P ++ V := by simp [hf]
   have hfl := hle f hfm
   have h2 : hilS τ f = hil f.2 (τ - f.1) := if_pos hfl
   have h3 : hilS (τ + 1) f < hil (upb f.2) (τ + 1 - f.1) := by
    unfold hilS
    rw [if_pos (by omega)]
    exact hil_lt (fun i j k hs hx => h.closed f hfm i j k (by omega) hx) (i := i) (j := j) (k := k) (by omega) hn' hu
   unfold gr
   omega
 rw [h.whole _ hτ8, sum_plus, h.whole _ (by omega)] at s1
 have s2 : (P.map fun g => (fullS (τ + 1) g : Int)).sum = (P.map fun g => (fullS τ g : Int)).sum + (P.map fun g => ((τ : Int) - g.1 + 2)).sum := by
  rw [← sum_plus]
  refine sum_eq fun g hg => ?_
  have := hle g (by simp [hg])
  unfold fullS
  rw [if_pos (by omega), if_pos this, show τ + 1 - g.1 = τ - g.1 + 1 by omega, full_succ]
  omega
 -- w
 let w : Fm → Int := fun g => (τ : Int) - g.1 + 2 - gr τ g
 have hsum : ((P ++ V).map fun g => (gr τ g : Int)).sum + ((P ++ V).map w).sum = ((P ++ V).map fun g => ((τ : Int) - g.1 + 2)).sum := by
  rw [← sum_plus]
  exact sum_eq fun g hg => by show (gr τ g : Int) + ((τ : Int) - g.1 + 2 - gr τ g) = _; omega
 have hPV : ((P ++ V).map fun g => ((τ : Int) - g.1 + 2)).sum = (P.map fun g => ((τ : Int) - g.1 + 2)).sum + (V.map fun g => ((τ : Int) - g.1 + 2)).sum := by rw [List.map_append, List.sum_append]
 have hV : (V.map fun g => ((τ : Int) - g.1 + 2)).sum = (V.length : Int) * ((τ : Int) + 2 - c) - (V.map fun g => (g.1 : Int) - c).sum := by
  have : ∀ l : List Fm, (l.map fun g => ((τ : Int) - g.1 + 2)).sum = (l.length : Int) * ((τ : Int) + 2 - c) - (l.map fun g => (g.1 : Int) - c).sum := fun l => by
   induction l with
   | nil => simp
   | cons x l ih => simp only [List.map_cons, List.sum_cons, ih, List.length_cons]; grind
  exact this V
 have hD0 : 0 ≤ (V.map fun g => (g.1 : Int) - c).sum := by
  have := sum_le (f := fun _ : Fm => (0 : Int)) (g := fun g : Fm => (g.1 : Int) - c) (l := V) fun g hg => by have := h.lowV g hg; omega
  have z : ∀ l : List Fm, (l.map fun _ => (0 : Int)).sum = 0 := fun l => by
   induction l with
   | nil => rfl
   | cons x l ih => simp [ih]
  rwa [z] at this
 refine no_numbers (U := (τ : Int) + 2 - c) (m := V.length) (D := (V.map fun g => (g.1 : Int) - c).sum) (W := (P ++ V).map w) (by omega) hD0 h.sums (fun x hx => ?_) (by omega) ?_
 ·obtain ⟨g, hg, rfl⟩ := List.mem_map.1 hx
  have h1 := hle g hg
  have h2 := (gr_ok h1).2
  show 0 ≤ (τ : Int) - g.1 + 2 - gr τ g ∧ (τ : Int) - g.1 + 2 - gr τ g ≤ (τ : Int) + 2 - c
  refine ⟨by omega, ?_⟩
  rcases List.mem_append.1 hg with hg | hg
  ·rcases h.low g hg with h3 | h3
   ·omega
   ·rw [gr_full h1 h3]; omega
  ·have := h.lowV g hg; omega
 ·-- squares
  have q1 : ((P ++ V).map fun g => ((τ : Int) - g.1 + 2) * ((τ : Int) - g.1 + 2) - ((τ : Int) - g.1 + 2)).sum ≤ ((P ++ V).map fun g => 2 * (hilS τ g : Int) + (w g * w g - w g)).sum := sum_le fun g hg => by
   have h1 := hle g hg
   have h2 := (gr_ok h1).1
   have h3 : hilS τ g = hil g.2 (τ - g.1) := if_pos h1
   have h4 : (2 : Int) * ((gr τ g : Int) * ((τ : Int) - g.1 + 2)) ≤ 2 * (hil g.2 (τ - g.1) : Int) + (gr τ g : Int) * ((gr τ g : Int) + 1) := by
    have h5 : ((τ - g.1 + 2 : Nat) : Int) = (τ : Int) - g.1 + 2 := by omega
    rw [← h5]
    exact_mod_cast h2
   rw [h3]
   show _ ≤ 2 * (hil g.2 (τ - g.1) : Int) + (((τ : Int) - g.1 + 2 - gr τ g) * ((τ : Int) - g.1 + 2 - gr τ g) - ((τ : Int) - g.1 + 2 - gr τ g))
   generalize (τ : Int) - g.1 + 2 = u at *
   generalize (gr τ g : Int) = s at *
   grind
  rw [sum_plus, sum_times, h.whole _ (by omega)] at q1
  have q2 : 2 * (P.map fun g => (fullS τ g : Int)).sum = (P.map fun g => ((τ : Int) - g.1 + 2) * ((τ : Int) - g.1 + 2) - ((τ : Int) - g.1 + 2)).sum := by
   rw [← sum_times]
   refine sum_eq fun g hg => ?_
   have h1 := hle g (by simp [hg])
   unfold fullS
   rw [if_pos h1]
   have h2 := full_two (τ - g.1)
   have h3 : (2 : Int) * (full (τ - g.1) : Int) = (((τ - g.1 : Nat) : Int) + 1) * (((τ - g.1 : Nat) : Int) + 2) := by exact_mod_cast h2
   rw [h3, show ((τ - g.1 : Nat) : Int) = (τ : Int) - g.1 by omega]
   grind
  rw [q2, List.map_append, List.sum_append] at q1
  have q3 : (V.length : Int) * (((τ : Int) + 2 - c) * ((τ : Int) + 2 - c) - ((τ : Int) + 2 - c)) ≤ (V.map fun g => ((τ : Int) - g.1 + 2) * ((τ : Int) - g.1 + 2) - ((τ : Int) - g.1 + 2)).sum + (V.map fun g => (g.1 : Int) - c).sum * (2 * ((τ : Int) + 2 - c) - 1) := by
   have : ∀ l : List Fm, (l.length : Int) * (((τ : Int) + 2 - c) * ((τ : Int) + 2 - c) - ((τ : Int) + 2 - c)) ≤ (l.map fun g => ((τ : Int) - g.1 + 2) * ((τ : Int) - g.1 + 2) - ((τ : Int) - g.1 + 2)).sum + (l.map fun g => (g.1 : Int) - c).sum * (2 * ((τ : Int) + 2 - c) - 1) := fun l => by
    induction l with
    | nil => simp
    | cons x l ih =>
     simp only [List.map_cons, List.sum_cons, List.length_cons]
     have : 0 ≤ ((x.1 : Int) - c) * ((x.1 : Int) - c) := by
      rcases Int.le_total 0 ((x.1 : Int) - c) with h | h
      ·exact Int.mul_nonneg h h
      ·exact Int.mul_nonneg_of_nonpos_of_nonpos h h
     grind
   exact this V
  rw [List.map_map]
  show _ ≤ ((P ++ V).map fun g => w g * w g - w g).sum + _
  omega
end
section
open Go.RowKit

abbrev Ps := Nat → List Int → Int
abbrev Fu := Ps → Int

def LvGo (ψ : Ps) : Nat → Vc → Int
 | _, [] => 0
 | j, f :: v => Lf (ψ j) f + LvGo ψ (j + 1) v

def ev (v : Vc) : Fu := fun ψ => LvGo ψ 0 v

def shv (m : List Int) (ψ : Ps) : Ps := fun j => shift (ψ j) m

def mulF (m : List Int) (X : Fu) : Fu := fun ψ => X (shv m ψ)

theorem zipE_assoc : ∀ (a b c : List Int), zipE (· + ·) (zipE (· + ·) a b) c = zipE (· + ·) a (zipE (· + ·) b c)
 | [], _, _ => by simp [zipE]
 | _ :: _, [], _ => by simp [zipE]
 | _ :: _, _ :: _, [] => by simp [zipE]
 | x :: a, y :: b, z :: c => by
  have := zipE_assoc a b c
  simp only [zipE, List.zipWith_cons_cons] at this ⊢
  rw [this, Int.add_assoc]

theorem mulF_mulF (m u : List Int) (X : Fu) : mulF u (mulF m X) = mulF (zipE (· + ·) m u) X := by
 funext ψ
 unfold mulF
 congr 1
 funext j e
 unfold shv shift
 rw [zipE_assoc]

inductive Sp (p : Int) (P : Fu → Prop) : Fu → Prop
 | zero {u : Fu} (h : ∀ ψ, p ∣ u ψ) : Sp p P u
 | step {u e : Fu} (c : Int) (he : P e) (h : Sp p P fun ψ => u ψ - c * e ψ) : Sp p P u

def CongF (p : Int) (u v : Fu) : Prop := ∀ ψ, p ∣ u ψ - v ψ

theorem CongF.refl (p : Int) (u : Fu) : CongF p u u := fun ψ => by rw [Int.sub_self]; exact Int.dvd_zero p
theorem CongF.symm {p : Int} {u v : Fu} (h : CongF p u v) : CongF p v u := fun ψ => by
 have := Int.dvd_neg.2 (h ψ)
 rwa [Int.neg_sub] at this
theorem CongF.trans {p : Int} {u v w : Fu} (h : CongF p u v) (k : CongF p v w) : CongF p u w := fun ψ => by
 have := Int.dvd_add (h ψ) (k ψ)
 rwa [show u ψ - v ψ + (v ψ - w ψ) = u ψ - w ψ by omega] at this
theorem CongF.mul {p : Int} {u v : Fu} (m : List Int) (h : CongF p u v) : CongF p (mulF m u) (mulF m v) := fun ψ => h _

theorem dz {p a : Int} (h : a = 0) : p ∣ a := by rw [h]; exact Int.dvd_zero p
theorem dv {p a b : Int} (h : p ∣ a) (e : a = b) : p ∣ b := e ▸ h

theorem Sp.congr {p : Int} {P : Fu → Prop} {u v : Fu} (h : Sp p P u) : CongF p u v → Sp p P v := by
 induction h generalizing v with
 | zero h =>
  exact fun hc => .zero fun ψ => dv (Int.dvd_sub (h ψ) (hc ψ)) (by omega)
 | step c he h ih =>
  exact fun hc => .step c he (ih fun ψ => dv (hc ψ) (by dsimp only; omega))

theorem Sp.add {p : Int} {P : Fu → Prop} {u v : Fu} (h : Sp p P u) (k : Sp p P v) : Sp p P fun ψ => u ψ + v ψ := by
 induction h with
 | zero h =>
  exact k.congr fun ψ => dv (Int.dvd_neg.2 (h ψ)) (by omega)
 | step c he h ih =>
  exact .step c he (ih.congr fun ψ => dz (by dsimp only; omega))

theorem Sp.smul {p : Int} {P : Fu → Prop} (k : Int) {u : Fu} (h : Sp p P u) : Sp p P fun ψ => k * u ψ := by
 induction h with
 | zero h => exact .zero fun ψ => Int.dvd_trans (h ψ) (Int.dvd_mul_left _ _)
 | step c he h ih =>
  exact .step (k * c) he (ih.congr fun ψ => dz (by dsimp only; rw [Int.mul_sub, Int.mul_assoc, Int.sub_self]))

theorem Sp.mem {p : Int} {P : Fu → Prop} {u : Fu} (h : P u) : Sp p P u := .step 1 h (.zero fun ψ => dz (by omega))

theorem Sp.trans {p : Int} {P Q : Fu → Prop} {u : Fu} (h : Sp p P u) (hq : ∀ e, P e → Sp p Q e) : Sp p Q u := by
 induction h with
 | zero h => exact .zero h
 | step c he h ih =>
  exact (ih.add ((hq _ he).smul c)).congr fun ψ => dz (by dsimp only; omega)

theorem Sp.mono {p : Int} {P Q : Fu → Prop} {u : Fu} (h : Sp p P u) (hq : ∀ e, P e → Q e) : Sp p Q u := h.trans fun e he => .mem (hq e he)

theorem Sp.sub {p : Int} {P : Fu → Prop} {u v : Fu} (h : Sp p P u) (k : Sp p P v) : Sp p P fun ψ => u ψ - v ψ :=
 (h.add (k.smul (-1))).congr fun ψ => dz (by dsimp only; omega)

theorem Sp.mul {p : Int} {P Q : Fu → Prop} {u : Fu} (m : List Int) (h : Sp p P u) (hq : ∀ e, P e → Q (mulF m e)) : Sp p Q (mulF m u) := by
 induction h with
 | zero h => exact .zero fun ψ => h _
 | step c he h ih => exact .step c (hq _ he) ih

theorem Sp.spn {p : Int} {P : Fu → Prop} {u : Fu} (h : Sp p P u) (σ : Nat → Ps) (E : List Fv) (hE : ∀ e, P e → Spn p E fun c => e (σ c)) : Spn p E fun c => u (σ c) := by
 induction h with
 | zero h => exact Spn.zero fun c => h _
 | step c he h ih =>
  exact Spn.congr (fun j => dz (by dsimp only; omega)) (Spn.add ih (Spn.smul c (hE _ he)))

theorem LvGo_sum {r : Rg} {n : Nat} {B : Int} (hp : 0 < r.p) (ψ : Ps) : ∀ (v w : Vc) (j : Nat), v.length = w.length → (∀ f ∈ v, PB 1 r.p r.order n B f) → (∀ f ∈ w, PB 1 r.p r.order n B f) → r.p ∣ LvGo ψ j (vsumT r v w) - (LvGo ψ j v + LvGo ψ j w)
 | [], [], j, _, _, _ => by simp [vsumT, LvGo]
 | [], _ :: _, j, h, _, _ => by simp at h
 | _ :: _, [], j, h, _, _ => by simp at h
 | f :: v, g :: w, j, h, hv, hw => by
  have ih := LvGo_sum hp ψ v w (j + 1) (by simpa using h) (fun x hx => hv x (by simp [hx])) (fun x hx => hw x (by simp [hx]))
  have h1 := sumT_L (o := r.order) hp (ψ j) f g (hv f (by simp)) (hw g (by simp))
  have e : vsumT r (f :: v) (g :: w) = sumT r.p r.order f g :: vsumT r v w := rfl
  rw [e]
  show r.p ∣ Lf (ψ j) (sumT r.p r.order f g) + LvGo ψ (j + 1) (vsumT r v w) - (Lf (ψ j) f + LvGo ψ (j + 1) v + (Lf (ψ j) g + LvGo ψ (j + 1) w))
  have := Int.dvd_add h1 ih
  rwa [show ∀ a b c d x y : Int, a - (b + c) + (d - (x + y)) = a + d - (b + x + (c + y)) by omega] at this

theorem LvGo_by {r : Rg} (ψ : Ps) (t : Tm) : ∀ (v : Vc) (j : Nat), r.p ∣ LvGo ψ j (vbyT r v t) - t.c * LvGo (shv t.e ψ) j v
 | [], j => by simp [vbyT, LvGo]
 | f :: v, j => by
  have ih := LvGo_by (r := r) ψ t v (j + 1)
  have h1 := byT_L (p := r.p) (ψ j) t f
  have e : vbyT r (f :: v) t = byT r.p f t :: vbyT r v t := rfl
  rw [e]
  show r.p ∣ Lf (ψ j) (byT r.p f t) + LvGo ψ (j + 1) (vbyT r v t) - t.c * (Lf (shift (ψ j) t.e) f + LvGo (shv t.e ψ) (j + 1) v)
  have := Int.dvd_add h1 ih
  rw [Int.mul_add]
  rwa [show ∀ a b c d : Int, a - b + (c - d) = a + c - (b + d) by omega] at this

theorem ev_sum {r : Rg} {n : Nat} {B : Int} (hp : 0 < r.p) {v w : Vc} (h : v.length = w.length) (hv : ∀ f ∈ v, PB 1 r.p r.order n B f) (hw : ∀ f ∈ w, PB 1 r.p r.order n B f) : CongF r.p (ev (vsumT r v w)) fun ψ => ev v ψ + ev w ψ :=
 fun ψ => LvGo_sum hp ψ v w 0 h hv hw

theorem ev_by {r : Rg} (v : Vc) (t : Tm) : CongF r.p (ev (vbyT r v t)) fun ψ => t.c * mulF t.e (ev v) ψ := fun ψ => LvGo_by ψ t v 0

theorem LvGo_zero {ψ : Ps} : ∀ {v : Vc} {j : Nat}, (∀ (i : Nat) (h : i < v.length), ∀ t ∈ v[i], ψ (j + i) t.e = 0) → LvGo ψ j v = 0
 | [], j, _ => rfl
 | f :: v, j, h => by
  have h1 : Lf (ψ j) f = 0 := by
   have h0 := h 0 (by simp)
   have : ∀ g : Pl, (∀ t ∈ g, ψ j t.e = 0) → Lf (ψ j) g = 0 := fun g => by
    induction g with
    | nil => intro _; rfl
    | cons t g ih => intro hg; rw [Lf_cons, hg t (by simp), ih fun x hx => hg x (by simp [hx])]; simp
   exact this f h0
  have h2 : LvGo ψ (j + 1) v = 0 := LvGo_zero fun i hi t ht => by
   have := h (i + 1) (by simp; omega) t (by simpa using ht)
   rwa [show j + (i + 1) = j + 1 + i by omega] at this
  show Lf (ψ j) f + LvGo ψ (j + 1) v = 0
  rw [h1, h2]; rfl

theorem LvGo_set {ψ : Ps} : ∀ {v : Vc} {j a : Nat} {u : Tm} {f : Pl} (h : a < v.length), v[a] = u :: f → LvGo ψ j v = u.c * ψ (j + a) u.e + LvGo ψ j (v.set a f)
 | g :: v, j, 0, u, f, _, hg => by
  have hg' : g = u :: f := hg
  show Lf (ψ j) g + LvGo ψ (j + 1) v = u.c * ψ (j + 0) u.e + (Lf (ψ j) f + LvGo ψ (j + 1) v)
  rw [hg', Lf_cons]; show _ = u.c * ψ j u.e + _; omega
 | g :: v, j, a + 1, u, f, h, hg => by
  have := LvGo_set (ψ := ψ) (v := v) (j := j + 1) (a := a) (u := u) (f := f) (by simpa using h) (by simpa using hg)
  show Lf (ψ j) g + LvGo ψ (j + 1) v = u.c * ψ (j + (a + 1)) u.e + (Lf (ψ j) g + LvGo ψ (j + 1) (v.set a f))
  rw [this, show j + 1 + a = j + (a + 1) by omega]; omega
end
end Go.Proofs.YtfjmdhemlfafbaaGreat
