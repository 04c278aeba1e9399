/-
  Dividing a vector by a list, step by step, in plain Lean. No condition.
-/
import Derived.Test.YtfjmdhemlfafbaaGreatKHs10
import Derived.Test.YtfjmdhemlfafbaaGreatKHs4
set_option linter.unusedVariables false
set_option linter.unusedSimpArgs false

namespace Go.Proofs.YtfjmdhemlfafbaaGreat

structure TB (lo p : Int) (n : Nat) (B : Int) (t : Tm) : Prop where
  lo : lo ≤ t.c
  hi : t.c < p
  len : t.e.length = n
  mem : ∀ x ∈ t.e, 0 ≤ x ∧ x ≤ B

structure PB (lo p o : Int) (n : Nat) (B : Int) (f : Pl) : Prop where
  all : ∀ t ∈ f, TB lo p n B t
  sorted : f.Pairwise fun a b => 0 < cmpM o a.e b.e

theorem TB.mono {lo lo' p : Int} {n : Nat} {B B' : Int} {t : Tm} (h : TB lo p n B t) (hl : lo' ≤ lo) (hB : B ≤ B') : TB lo' p n B' t := ⟨by have := h.lo; omega, h.hi, h.len, fun x hx => by have := h.mem x hx; omega⟩
theorem PB.mono {lo lo' p o : Int} {n : Nat} {B B' : Int} {f : Pl} (h : PB lo p o n B f) (hl : lo' ≤ lo) (hB : B ≤ B') : PB lo' p o n B' f := ⟨fun t ht => (h.all t ht).mono hl hB, h.sorted⟩
theorem PB.nil (lo p o : Int) (n : Nat) (B : Int) : PB lo p o n B [] := ⟨fun t h => (by cases h), by simp⟩
theorem PB.tail {lo p o : Int} {n : Nat} {B : Int} {t : Tm} {f : Pl} (h : PB lo p o n B (t :: f)) : PB lo p o n B f := ⟨fun x hx => h.all x (by simp [hx]), (List.pairwise_cons.1 h.sorted).2⟩
theorem PB.head {lo p o : Int} {n : Nat} {B : Int} {t : Tm} {f : Pl} (h : PB lo p o n B (t :: f)) : TB lo p n B t := h.all t (by simp)

theorem TB.mok {lo p : Int} {n : Nat} {B : Int} {t : Tm} (h : TB lo p n B t) (hn : n ≤ 3) (hB : B ≤ 1000000) : MOk t.e := ⟨by have := h.len; omega, fun x hx => by have := h.mem x hx; omega⟩

def Below (o : Int) (m : List Int) (f : Pl) : Prop := ∀ t ∈ f, 0 < cmpM o m t.e

theorem PB.below {lo p o : Int} {n : Nat} {B : Int} {t : Tm} {f : Pl} (h : PB lo p o n B (t :: f)) : Below o t.e f := (List.pairwise_cons.1 h.sorted).1
theorem PB.cons {lo p o : Int} {n : Nat} {B : Int} {t : Tm} {f : Pl} (h1 : TB lo p n B t) (h2 : Below o t.e f) (h3 : PB lo p o n B f) : PB lo p o n B (t :: f) :=
  ⟨fun x hx => by rcases List.mem_cons.1 hx with rfl | hx; exact h1; exact h3.all x hx, List.pairwise_cons.2 ⟨h2, h3.sorted⟩⟩

theorem cmpM_lt_trans {o : Int} {a b c : List Int} (h1 : a.length = b.length) (h2 : b.length = c.length) (h3 : 0 < cmpM o a b) (h4 : 0 < cmpM o b c) : 0 < cmpM o a c := (cmpM_trans h1 h2 (by omega) (by omega)).2 (.inl h3)

theorem Below.trans {lo p o : Int} {n : Nat} {B : Int} {m : List Int} {t : Tm} {f : Pl} (hm : m.length = n) (h : PB lo p o n B (t :: f)) (h1 : 0 < cmpM o m t.e) : Below o m (t :: f) := fun x hx => by
  rcases List.mem_cons.1 hx with rfl | hx
  · exact h1
  · exact cmpM_lt_trans (by rw [hm, h.head.len]) (by rw [h.head.len, (h.all x (by simp [hx])).len]) h1 (h.below x hx)

def Lf (φ : List Int → Int) (f : Pl) : Int := (f.map fun t => t.c * φ t.e).sum

theorem Lf_nil (φ : List Int → Int) : Lf φ [] = 0 := rfl
theorem Lf_cons (φ : List Int → Int) (t : Tm) (f : Pl) : Lf φ (t :: f) = t.c * φ t.e + Lf φ f := rfl
theorem Lf_append (φ : List Int → Int) (f g : Pl) : Lf φ (f ++ g) = Lf φ f + Lf φ g := by simp [Lf]

def Lk (p : Int) (f g : Pl) : Prop := ∀ φ, p ∣ Lf φ f - Lf φ g

theorem Lk.symm {p : Int} {f g : Pl} (h : Lk p f g) : Lk p g f := fun φ => by
  have := Int.dvd_neg.2 (h φ)
  rwa [Int.neg_sub] at this
theorem Lk.trans {p : Int} {f g h : Pl} (h1 : Lk p f g) (h2 : Lk p g h) : Lk p f h := fun φ => by
  have := Int.dvd_add (h1 φ) (h2 φ)
  rwa [show Lf φ f - Lf φ g + (Lf φ g - Lf φ h) = Lf φ f - Lf φ h by omega] at this
theorem Lk.refl (p : Int) (f : Pl) : Lk p f f := fun φ => by rw [Int.sub_self]; exact Int.dvd_zero p

def delta (m : List Int) (e : List Int) : Int := if e = m then 1 else 0

theorem Lf_delta_below {o : Int} {m : List Int} : ∀ {f : Pl}, Below o m f → Lf (delta m) f = 0
  | [], _ => rfl
  | t :: f, h => by
    have h1 := h t (by simp)
    have hne : t.e ≠ m := fun e => by rw [e, cmpM_self] at h1; omega
    rw [Lf_cons, Lf_delta_below fun x hx => h x (by simp [hx])]
    simp [delta, hne]

theorem small_eq {p a b : Int} (h : p ∣ a - b) (ha : 0 ≤ a) (ha2 : a < p) (hb : 0 ≤ b) (hb2 : b < p) : a = b := by
  obtain ⟨k, hk⟩ := h
  have hk0 : k = 0 := by
    rcases Int.lt_trichotomy k 0 with h1 | h1 | h1
    · have : p * k ≤ p * (-1) := Int.mul_le_mul_of_nonneg_left (by omega) (by omega)
      omega
    · exact h1
    · have : p * 1 ≤ p * k := Int.mul_le_mul_of_nonneg_left (by omega) (by omega)
      omega
  subst hk0
  omega

theorem PB.uniq {p o : Int} {n : Nat} {B B' : Int} (hp : 0 < p) : ∀ {f g : Pl}, PB 1 p o n B f → PB 1 p o n B' g → Lk p f g → f = g
  | [], [], _, _, _ => rfl
  | [], b :: g, _, hg, h => by
    have h1 := h (delta b.e)
    rw [Lf_cons, Lf_delta_below hg.below, Lf_nil] at h1
    have := hg.head.lo
    have := hg.head.hi
    have h2 : p ∣ b.c - 0 := by
      have := Int.dvd_neg.2 h1
      simpa [delta] using this
    have := small_eq h2 (by omega) (by omega) (by omega) hp
    omega
  | a :: f, [], hf, _, h => by
    have h1 := h (delta a.e)
    rw [Lf_cons, Lf_delta_below hf.below, Lf_nil] at h1
    have := hf.head.lo
    have := hf.head.hi
    have h2 : p ∣ a.c - 0 := by simpa [delta] using h1
    have := small_eq h2 (by omega) (by omega) (by omega) hp
    omega
  | a :: f, b :: g, hf, hg, h => by
    have la := hf.head.len
    have lb := hg.head.len
    have a1 := hf.head.lo
    have a2 := hf.head.hi
    have b1 := hg.head.lo
    have b2 := hg.head.hi
    rcases cmpM_range o a.e b.e with h0 | h0 | h0
    · have he : a.e = b.e := cmpM_zero (by omega) h0
      have h1 := h (delta a.e)
      rw [Lf_cons, Lf_cons, Lf_delta_below hf.below, he, Lf_delta_below hg.below] at h1
      have h2 : p ∣ a.c - b.c := by simpa [delta, he] using h1
      have hc := small_eq h2 (by omega) a2 (by omega) b2
      have hab : a = b := by cases a; cases b; simp_all
      subst hab
      congr 1
      refine PB.uniq hp hf.tail hg.tail fun φ => ?_
      have := h φ
      rw [Lf_cons, Lf_cons] at this
      rwa [show a.c * φ a.e + Lf φ f - (a.c * φ a.e + Lf φ g) = Lf φ f - Lf φ g by omega] at this
    · have hb := Below.trans (m := a.e) la hg (by omega)
      have h1 := h (delta a.e)
      rw [Lf_cons, Lf_delta_below hf.below, Lf_delta_below hb] at h1
      have h2 : p ∣ a.c - 0 := by simpa [delta] using h1
      have := small_eq h2 (by omega) (by omega) (by omega) hp
      omega
    · have hba : 0 < cmpM o b.e a.e := by have := cmpM_anti o b.e a.e; omega
      have hb := Below.trans (m := b.e) lb hf hba
      have h1 := h (delta b.e)
      rw [Lf_cons (delta b.e) b g, Lf_delta_below hg.below, Lf_delta_below hb] at h1
      have h2 : p ∣ b.c - 0 := by
        have := Int.dvd_neg.2 h1
        simpa [delta] using this
      have := small_eq h2 (by omega) (by omega) (by omega) hp
      omega

def sumGo (p o : Int) (a : Tm) (f : Pl) (rec : Pl → Pl) : Pl → Pl
  | [] => a :: f
  | b :: g => if cmpM o a.e b.e = 1 then a :: rec (b :: g) else if cmpM o a.e b.e = -1 then b :: sumGo p o a f rec g else if 0 < (a.c + b.c) % p then ⟨(a.c + b.c) % p, a.e⟩ :: rec g else rec g

def sumT (p o : Int) : Pl → Pl → Pl
  | [] => fun g => g
  | a :: f => sumGo p o a f (sumT p o f)

theorem sumT_nil (p o : Int) (g : Pl) : sumT p o [] g = g := rfl
theorem sumT_nil' (p o : Int) : ∀ (f : Pl), sumT p o f [] = f
  | [] => rfl
  | a :: f => rfl
theorem sumT_cons (p o : Int) (a b : Tm) (f g : Pl) : sumT p o (a :: f) (b :: g) =
    if cmpM o a.e b.e = 1 then a :: sumT p o f (b :: g) else if cmpM o a.e b.e = -1 then b :: sumT p o (a :: f) g else if 0 < (a.c + b.c) % p then ⟨(a.c + b.c) % p, a.e⟩ :: sumT p o f g else sumT p o f g := rfl

theorem sumT_ind {p o : Int} {M : Pl → Pl → Prop} (h1 : ∀ g, M [] g) (h2 : ∀ a f, M (a :: f) []) (h3 : ∀ a b f g, M f (b :: g) → M (a :: f) g → M f g → M (a :: f) (b :: g)) : ∀ f g, M f g
  | [], g => h1 g
  | a :: f, [] => h2 a f
  | a :: f, b :: g => h3 a b f g (sumT_ind (p := p) (o := o) h1 h2 h3 f (b :: g)) (sumT_ind (p := p) (o := o) h1 h2 h3 (a :: f) g) (sumT_ind (p := p) (o := o) h1 h2 h3 f g)
termination_by f g => f.length + g.length

theorem sumT_length {p o : Int} : ∀ f g, (sumT p o f g).length ≤ f.length + g.length :=
  sumT_ind (p := p) (o := o) (fun g => by simp [sumT_nil]) (fun a f => by simp [sumT_nil']) fun a b f g i1 i2 i3 => by
    rw [sumT_cons]
    simp only [List.length_cons] at *
    split
    · simp only [List.length_cons]; omega
    · split
      · simp only [List.length_cons]; omega
      · split
        · simp only [List.length_cons]; omega
        · omega

theorem sumT_below {p o : Int} {m : List Int} : ∀ f g, Below o m f → Below o m g → Below o m (sumT p o f g) :=
  sumT_ind (p := p) (o := o) (fun g _ h => h) (fun a f h _ => by rw [sumT_nil']; exact h) fun a b f g i1 i2 i3 ha hb => by
    have hf : Below o m f := fun x hx => ha x (by simp [hx])
    have hg : Below o m g := fun x hx => hb x (by simp [hx])
    rw [sumT_cons]
    split
    · intro x hx
      rcases List.mem_cons.1 hx with rfl | hx
      · exact ha x (by simp)
      · exact i1 hf hb x hx
    · split
      · intro x hx
        rcases List.mem_cons.1 hx with rfl | hx
        · exact hb x (by simp)
        · exact i2 ha hg x hx
      · split
        · intro x hx
          rcases List.mem_cons.1 hx with rfl | hx
          · exact ha a (by simp)
          · exact i3 hf hg x hx
        · exact i3 hf hg

theorem sumT_ok {p o : Int} {n : Nat} {B : Int} (hp : 0 < p) : ∀ f g, PB 1 p o n B f → PB 1 p o n B g → PB 1 p o n B (sumT p o f g) :=
  sumT_ind (p := p) (o := o) (fun g _ h => h) (fun a f h _ => by rw [sumT_nil']; exact h) fun a b f g i1 i2 i3 ha hb => by
    rw [sumT_cons]
    split
    · rename_i h
      exact .cons ha.head (sumT_below _ _ ha.below (Below.trans ha.head.len hb (by omega))) (i1 ha.tail hb)
    · split
      · rename_i h
        have : 0 < cmpM o b.e a.e := by have := cmpM_anti o b.e a.e; omega
        exact .cons hb.head (sumT_below _ _ (Below.trans hb.head.len ha this) hb.below) (i2 ha hb.tail)
      · have h0 : cmpM o a.e b.e = 0 := by have := cmpM_range o a.e b.e; omega
        have he : a.e = b.e := cmpM_zero (by rw [ha.head.len, hb.head.len]) h0
        split
        · rename_i hc
          refine .cons ⟨hc, Int.emod_lt_of_pos _ hp, ha.head.len, ha.head.mem⟩ (sumT_below _ _ ha.below (by show Below o a.e g; rw [he]; exact hb.below)) (i3 ha.tail hb.tail)
        · exact i3 ha.tail hb.tail

theorem emod_dvd (p x : Int) : p ∣ x % p - x := by
  rw [Int.emod_def]
  exact ⟨-(x / p), by rw [Int.mul_neg]; omega⟩

theorem sumT_L {p o : Int} {n : Nat} {B : Int} (hp : 0 < p) (φ : List Int → Int) : ∀ f g, PB 1 p o n B f → PB 1 p o n B g → p ∣ Lf φ (sumT p o f g) - (Lf φ f + Lf φ g) :=
  sumT_ind (p := p) (o := o) (fun g _ h => by rw [sumT_nil, Lf_nil]; simp) (fun a f h _ => by rw [sumT_nil', Lf_nil]; simp) fun a b f g i1 i2 i3 ha hb => by
    rw [sumT_cons]
    split
    · have := i1 ha.tail hb
      rw [Lf_cons, Lf_cons φ a f]
      rwa [show a.c * φ a.e + Lf φ (sumT p o f (b :: g)) - (a.c * φ a.e + Lf φ f + Lf φ (b :: g)) = Lf φ (sumT p o f (b :: g)) - (Lf φ f + Lf φ (b :: g)) by omega]
    · split
      · have := i2 ha hb.tail
        rw [Lf_cons, Lf_cons φ b g]
        rwa [show b.c * φ b.e + Lf φ (sumT p o (a :: f) g) - (Lf φ (a :: f) + (b.c * φ b.e + Lf φ g)) = Lf φ (sumT p o (a :: f) g) - (Lf φ (a :: f) + Lf φ g) by omega]
      · have h0 : cmpM o a.e b.e = 0 := by have := cmpM_range o a.e b.e; omega
        have he : a.e = b.e := cmpM_zero (by rw [ha.head.len, hb.head.len]) h0
        have ih := i3 ha.tail hb.tail
        have hd := Int.dvd_trans (emod_dvd p (a.c + b.c)) (Int.dvd_mul_right _ (φ a.e))
        rw [Int.sub_mul, Int.add_mul] at hd
        split
        · rw [Lf_cons, Lf_cons, Lf_cons, ← he]
          have := Int.dvd_add hd ih
          rwa [show (a.c + b.c) % p * φ a.e - (a.c * φ a.e + b.c * φ a.e) + (Lf φ (sumT p o f g) - (Lf φ f + Lf φ g)) = (a.c + b.c) % p * φ a.e + Lf φ (sumT p o f g) - (a.c * φ a.e + Lf φ f + (b.c * φ a.e + Lf φ g)) by omega] at this
        · rename_i hc
          have hz : (a.c + b.c) % p = 0 := by have := Int.emod_nonneg (a.c + b.c) (show p ≠ 0 by omega); omega
          rw [hz] at hd
          rw [Lf_cons, Lf_cons, ← he]
          have := Int.dvd_add hd ih
          rwa [show 0 * φ a.e - (a.c * φ a.e + b.c * φ a.e) + (Lf φ (sumT p o f g) - (Lf φ f + Lf φ g)) = Lf φ (sumT p o f g) - (a.c * φ a.e + Lf φ f + (b.c * φ a.e + Lf φ g)) by rw [Int.zero_mul]; omega] at this

def byT (p : Int) (f : Pl) (t : Tm) : Pl := if t.c = 0 then [] else f.map fun x => ⟨x.c * t.c % p, zipE (· + ·) x.e t.e⟩

def prodT (p o : Int) (f g : Pl) : Pl := f.foldl (fun out t => sumT p o out (byT p g t)) []

def shift (φ : List Int → Int) (m : List Int) : List Int → Int := fun e => φ (zipE (· + ·) e m)

theorem byT_ok {p o : Int} {n : Nat} {B C : Int} (hp : 1 < p) (hpr : Prm p) {f : Pl} (hf : PB 1 p o n B f) {t : Tm} (ht : TB 0 p n C t) : PB 1 p o n (B + C) (byT p f t) := by
  unfold byT
  split
  · exact PB.nil _ _ _ _ _
  · rename_i hc
    refine ⟨fun x hx => ?_, ?_⟩
    · obtain ⟨y, hy, rfl⟩ := List.mem_map.1 hx
      have h1 := hf.all y hy
      have hne : y.c * t.c % p ≠ 0 := fun h => by
        rcases hpr _ _ (Int.dvd_of_emod_eq_zero h) with h | h
        · have := small_eq (p := p) (a := y.c) (b := 0) (by simpa using h) (by have := h1.lo; omega) h1.hi (by omega) (by omega)
          have := h1.lo; omega
        · have := small_eq (p := p) (a := t.c) (b := 0) (by simpa using h) ht.lo ht.hi (by omega) (by omega)
          exact hc this
      have h0 := Int.emod_nonneg (y.c * t.c) (show p ≠ 0 by omega)
      refine ⟨by show 1 ≤ y.c * t.c % p; omega, Int.emod_lt_of_pos _ (by omega), ?_, fun z hz => ?_⟩
      · show (zipE (· + ·) y.e t.e).length = n
        rw [zipE_len (by rw [h1.len, ht.len]), h1.len]
      · obtain ⟨i, hi, rfl⟩ := List.mem_iff_getElem.1 hz
        have e1 := h1.len
        have e2 := ht.len
        have hi' : i < n := by
          have : (zipE (· + ·) y.e t.e).length = n := by rw [zipE_len (by rw [h1.len, ht.len]), h1.len]
          have hi2 : i < (zipE (· + ·) y.e t.e).length := hi
          omega
        show 0 ≤ (zipE (· + ·) y.e t.e)[i] ∧ (zipE (· + ·) y.e t.e)[i] ≤ B + C
        rw [zipE_get]
        have g1 := h1.mem _ (List.getElem_mem (show i < y.e.length by omega))
        have g2 := ht.mem _ (List.getElem_mem (show i < t.e.length by omega))
        omega
    · rw [List.pairwise_map]
      refine List.Pairwise.imp_of_mem (fun {a b} ha hb h => ?_) hf.sorted
      show 0 < cmpM o (zipE (· + ·) a.e t.e) (zipE (· + ·) b.e t.e)
      rw [cmpM_add (by rw [(hf.all a ha).len, (hf.all b hb).len]) (by rw [(hf.all b hb).len, ht.len])]
      exact h

theorem byT_L {p : Int} (φ : List Int → Int) (t : Tm) : ∀ (f : Pl), p ∣ Lf φ (byT p f t) - t.c * Lf (shift φ t.e) f := by
  intro f
  unfold byT
  split
  · rename_i h; rw [h, Lf_nil]; simp
  · induction f with
    | nil => simp [Lf]
    | cons x f ih =>
      rw [List.map_cons, Lf_cons, Lf_cons, Int.mul_add]
      have hd := Int.dvd_trans (emod_dvd p (x.c * t.c)) (Int.dvd_mul_right _ (φ (zipE (· + ·) x.e t.e)))
      rw [Int.sub_mul] at hd
      have := Int.dvd_add hd ih
      have e : t.c * (x.c * shift φ t.e x.e) = x.c * t.c * φ (zipE (· + ·) x.e t.e) := by
        show t.c * (x.c * φ (zipE (· + ·) x.e t.e)) = _
        rw [← Int.mul_assoc, Int.mul_comm t.c x.c]
      rw [e]
      show p ∣ x.c * t.c % p * φ (zipE (· + ·) x.e t.e) + _ - (x.c * t.c * φ (zipE (· + ·) x.e t.e) + _)
      rwa [show x.c * t.c % p * φ (zipE (· + ·) x.e t.e) - x.c * t.c * φ (zipE (· + ·) x.e t.e) + (Lf φ (f.map fun x => ⟨x.c * t.c % p, zipE (· + ·) x.e t.e⟩) - t.c * Lf (shift φ t.e) f) = x.c * t.c % p * φ (zipE (· + ·) x.e t.e) + Lf φ (f.map fun x => ⟨x.c * t.c % p, zipE (· + ·) x.e t.e⟩) - (x.c * t.c * φ (zipE (· + ·) x.e t.e) + t.c * Lf (shift φ t.e) f) by omega] at this

theorem byT_length (p : Int) (f : Pl) (t : Tm) : (byT p f t).length ≤ f.length := by
  unfold byT
  split <;> simp

def LfP (φ : List Int → Int) (f g : Pl) : Int := (f.map fun t => t.c * Lf (shift φ t.e) g).sum

theorem cmpM_deg {o : Int} {a b : List Int} (h : 0 < cmpM o a b) : b.sum ≤ a.sum := by
  unfold cmpM at h
  split at h
  · omega
  · unfold sgn at h; omega

def topT : Pl → Int
  | [] => -1
  | t :: _ => t.e.sum

theorem topT_ge {lo p o : Int} {n : Nat} {B : Int} : ∀ {f : Pl}, PB lo p o n B f → ∀ t ∈ f, t.e.sum ≤ topT f
  | t :: f, h, x, hx => by
    rcases List.mem_cons.1 hx with rfl | hx
    · exact Int.le_refl _
    · exact cmpM_deg (h.below x hx)

end Go.Proofs.YtfjmdhemlfafbaaGreat

namespace Go.Proofs.YtfjmdhemlfafbaaGreat

def behind (o : Int) (prev : Option Tm) (t : Tm) : Bool := match prev with
  | none => false
  | some u => decide (0 ≤ cmpM o t.e u.e)

def polyGo (r : Rg) : Option Tm → Pl → Int
  | _, [] => 0
  | prev, t :: f => if t.c < 1 ∨ r.p ≤ t.c then 3 else if monoCk r t.e ≠ 0 then monoCk r t.e else if behind r.order prev t = true then 4 else polyGo r (some t) f

def polyCk (r : Rg) (f : Pl) : Int := if 2000 < f.length then 2 else polyGo r none f

def polysGo (r : Rg) : Vc → Int
  | [] => 0
  | f :: l => if polyCk r f = 0 then polysGo r l else polyCk r f

def prevAt (f : Pl) (k : Nat) : Option Tm := if k = 0 then none else f[k - 1]?

theorem polyGo_drop {r : Rg} {f : Pl} {k : Nat} (h : k < f.length) : polyGo r (prevAt f k) (f.drop k) = if f[k].c < 1 ∨ r.p ≤ f[k].c then 3 else if monoCk r f[k].e ≠ 0 then monoCk r f[k].e else if behind r.order (prevAt f k) f[k] = true then 4 else polyGo r (prevAt f (k + 1)) (f.drop (k + 1)) := by
  rw [List.drop_eq_getElem_cons h]
  have : prevAt f (k + 1) = some f[k] := by simp [prevAt, h]
  rw [this]
  rfl

structure POk (r : Rg) (f : Pl) : Prop where
  ok : PB 1 r.p r.order r.n.toNat 200 f
  deg : ∀ t ∈ f, t.e.sum ≤ 200
  len : f.length ≤ 2000

theorem POk.nil (r : Rg) : POk r [] := ⟨PB.nil _ _ _ _ _, fun t h => (by cases h), by simp⟩

theorem polyGo_ok {r : Rg} (hr : r.n ≤ 3) (hr0 : 0 ≤ r.n) : ∀ {f : Pl} {prev : Option Tm}, polyGo r prev f = 0 → (∀ u, prev = some u → (u.e.length : Int) = r.n) →
    PB 1 r.p r.order r.n.toNat 200 f ∧ (∀ t ∈ f, t.e.sum ≤ 200) ∧ ∀ u, prev = some u → Below r.order u.e f
  | [], prev, _, _ => ⟨PB.nil _ _ _ _ _, fun t h => (by cases h), fun u _ t h => (by cases h)⟩
  | t :: f, prev, h, hu => by
    unfold polyGo at h
    split at h
    · cases h
    · rename_i h1
      split at h
      · rename_i h2; exact absurd h h2
      · rename_i h2
        split at h
        · cases h
        · rename_i h3
          have h2' : monoCk r t.e = 0 := Classical.byContradiction fun h => h2 h
          obtain ⟨m1, m2, m3, m4⟩ := MOk.of hr h2'
          obtain ⟨i1, i2, i3⟩ := polyGo_ok hr hr0 h fun u hu => by cases hu; exact m2
          have ht : TB 1 r.p r.n.toNat 200 t := ⟨by omega, by omega, by omega, fun x hx => inE_iff.1 (List.all_eq_true.1 m3 x hx)⟩
          have hb := i3 t rfl
          refine ⟨.cons ht hb i1, fun x hx => ?_, fun u hpu => ?_⟩
          · rcases List.mem_cons.1 hx with rfl | hx
            · exact m4
            · exact i2 x hx
          · subst hpu
            have hlt : 0 < cmpM r.order u.e t.e := by
              have h4 : ¬ 0 ≤ cmpM r.order t.e u.e := by simpa [behind] using h3
              have := cmpM_anti r.order u.e t.e
              omega
            exact Below.trans (n := r.n.toNat) (by have := hu u rfl; omega) (PB.cons ht hb i1) hlt

theorem polyCk_ok {r : Rg} (hr : ringCk r = 0) {f : Pl} (h : polyCk r f = 0) : POk r f := by
  have hr2 := (ringCk_ok hr).2.1
  unfold polyCk at h
  split at h
  · cases h
  · rename_i hl
    obtain ⟨h1, h2, _⟩ := polyGo_ok hr2.2 (by omega) h fun u hu => by cases hu
    exact ⟨h1, h2, by omega⟩

theorem polysGo_mem {r : Rg} : ∀ {l : Vc}, polysGo r l = 0 → ∀ f ∈ l, polyCk r f = 0
  | f :: l, h, g, hg => by
    unfold polysGo at h
    split at h
    · rename_i h1
      rcases List.mem_cons.1 hg with rfl | hg
      · exact h1
      · exact polysGo_mem h g hg
    · rename_i h1; exact absurd h h1

theorem polysGo_drop {r : Rg} {l : Vc} {k : Nat} (h : k < l.length) : polysGo r (l.drop k) = if polyCk r l[k] = 0 then polysGo r (l.drop (k + 1)) else polyCk r l[k] := by
  rw [List.drop_eq_getElem_cons h]
  rfl

def greatT (f : Pl) : Bool := decide (200 < topT f) || decide (2000 < f.length)

end Go.Proofs.YtfjmdhemlfafbaaGreat

namespace Go.Proofs.YtfjmdhemlfafbaaGreat

def vecsGo (r : Rg) (rank : Int) : List Vc → Int
  | [] => 0
  | v :: l => if (v.length : Int) ≠ rank then 1 else if polysGo r v = 0 then vecsGo r rank l else polysGo r v

def ownCk (r : Rg) (rank : Int) (l : List Vc) : Int := if rank < 1 ∨ 40 < rank then 3 else if 60 < l.length then 2 else vecsGo r rank l

def vecsCk (r : Rg) (rank : Int) (l : List Vc) : Int := if ringCk r = 0 then ownCk r rank l else ringCk r

theorem vecsGo_drop {r : Rg} {rank : Int} {l : List Vc} {k : Nat} (h : k < l.length) : vecsGo r rank (l.drop k) = if (l[k].length : Int) ≠ rank then 1 else if polysGo r l[k] = 0 then vecsGo r rank (l.drop (k + 1)) else polysGo r l[k] := by
  rw [List.drop_eq_getElem_cons h]
  rfl

structure VOk (r : Rg) (k : Nat) (v : Vc) : Prop where
  len : v.length = k
  all : ∀ f ∈ v, POk r f

theorem vecsGo_mem {r : Rg} {rank : Int} : ∀ {l : List Vc}, vecsGo r rank l = 0 → ∀ v ∈ l, (v.length : Int) = rank ∧ polysGo r v = 0
  | u :: l, h, v, hv => by
    unfold vecsGo at h
    split at h
    · cases h
    · rename_i h0
      split at h
      · rename_i h1
        rcases List.mem_cons.1 hv with rfl | hv
        · exact ⟨Classical.byContradiction fun hn => h0 hn, h1⟩
        · exact vecsGo_mem h v hv
      · rename_i h1; exact absurd h h1

theorem polysGo_ok {r : Rg} (hr : ringCk r = 0) {v : Vc} (h : polysGo r v = 0) : ∀ f ∈ v, POk r f := fun f hf => polyCk_ok hr (polysGo_mem h f hf)

theorem ownCk_ok {r : Rg} {rank : Int} {l : List Vc} (hr : ringCk r = 0) (h : ownCk r rank l = 0) : 1 ≤ rank ∧ rank ≤ 40 ∧ l.length ≤ 60 ∧ ∀ v ∈ l, VOk r rank.toNat v := by
  unfold ownCk at h
  split at h
  · cases h
  · rename_i h1
    split at h
    · cases h
    · rename_i h2
      refine ⟨by omega, by omega, by omega, fun v hv => ?_⟩
      obtain ⟨h3, h4⟩ := vecsGo_mem h v hv
      exact ⟨by omega, polysGo_ok hr h4⟩

theorem vecsCk_ok {r : Rg} {rank : Int} {l : List Vc} (h : vecsCk r rank l = 0) : ringCk r = 0 ∧ 1 ≤ rank ∧ rank ≤ 40 ∧ l.length ≤ 60 ∧ ∀ v ∈ l, VOk r rank.toNat v := by
  unfold vecsCk at h
  split at h
  · rename_i hr; exact ⟨hr, ownCk_ok hr h⟩
  · rename_i hr; exact absurd h hr

def vsumT (r : Rg) (v w : Vc) : Vc := List.zipWith (sumT r.p r.order) v w
def vtimesT (r : Rg) (f : Pl) (v : Vc) : Vc := v.map (prodT r.p r.order f)
def vbyT (r : Rg) (v : Vc) (t : Tm) : Vc := v.map fun f => byT r.p f t
def vgreatT (v : Vc) : Bool := v.any greatT
def vdoneT (v : Vc) : Vc × Int := if vgreatT v = true then ([], 2) else (v, 0)

end Go.Proofs.YtfjmdhemlfafbaaGreat

namespace Go.Proofs.YtfjmdhemlfafbaaGreat

def VB (r : Rg) (n : Nat) (B : Int) (L : Nat) (v : Vc) : Prop := ∀ f ∈ v, PB 1 r.p r.order n B f ∧ f.length ≤ L

theorem VOk.vb {r : Rg} {k : Nat} {v : Vc} (h : VOk r k v) : VB r r.n.toNat 200 2000 v := fun f hf => ⟨(h.all f hf).ok, (h.all f hf).len⟩

def firstT (r : Rg) (i : Int) (a : List Int) (k : Int) (b : List Int) : Bool := if (r.over = 2 ∧ i ≠ k) ∨ cmpM r.order a b = 0 then decide (i < k) else decide (0 < cmpM r.order a b)

def topStep (r : Rg) (x : Option (Nat × Tm)) (i : Nat) : Pl → Option (Nat × Tm)
  | [] => x
  | t :: _ => match x with
    | none => some (i, t)
    | some (a, u) => if firstT r i t.e a u.e = true then some (i, t) else some (a, u)

def topAt (r : Rg) (v : Vc) : Nat → Option (Nat × Tm)
  | 0 => none
  | k + 1 => topStep r (topAt r v k) k (v.getD k [])

def topV (r : Rg) (v : Vc) : Option (Nat × Tm) := topAt r v v.length

def atOf : Option (Nat × Tm) → Int
  | none => -1
  | some x => x.1

def tmOf : Option (Nat × Tm) → Tm
  | none => ⟨0, []⟩
  | some x => x.2

theorem topAt_succ {r : Rg} {v : Vc} {k : Nat} (h : k < v.length) : topAt r v (k + 1) = topStep r (topAt r v k) k v[k] := by
  show topStep r (topAt r v k) k (v.getD k []) = _
  rw [List.getD_eq_getElem?_getD, List.getElem?_eq_getElem h]
  rfl

theorem topAt_ok {r : Rg} {v : Vc} : ∀ {k : Nat}, k ≤ v.length → ∀ {a : Nat} {u : Tm}, topAt r v k = some (a, u) → a < k ∧ ∃ (h : a < v.length) (h2 : 0 < v[a].length), v[a][0] = u
  | 0, _, a, u, h => by cases h
  | k + 1, hk, a, u, h => by
    rw [topAt_succ hk] at h
    have old : ∀ {a u}, topAt r v k = some (a, u) → a < k + 1 ∧ ∃ (h : a < v.length) (h2 : 0 < v[a].length), v[a][0] = u := fun hx => by
      obtain ⟨h1, h2⟩ := topAt_ok (by omega) hx
      exact ⟨by omega, h2⟩
    unfold topStep at h
    split at h
    · exact old h
    · rename_i t g hv
      have new : k < k + 1 ∧ ∃ (h : k < v.length) (h2 : 0 < v[k].length), v[k][0] = t := ⟨by omega, hk, by rw [hv]; simp, by simp [hv]⟩
      split at h
      · cases h; exact new
      · rename_i a' u' hx
        split at h
        · cases h; exact new
        · cases h; exact old hx

end Go.Proofs.YtfjmdhemlfafbaaGreat

namespace Go.Proofs.YtfjmdhemlfafbaaGreat

end Go.Proofs.YtfjmdhemlfafbaaGreat

namespace Go.Proofs.YtfjmdhemlfafbaaGreat
open Go.RowKit

theorem sumT_mem {p o : Int} : ∀ (f g : Pl), ∀ s ∈ sumT p o f g, (∃ t ∈ f, t.e = s.e) ∨ ∃ t ∈ g, t.e = s.e :=
  sumT_ind (p := p) (o := o) (M := fun f g => ∀ s ∈ sumT p o f g, (∃ t ∈ f, t.e = s.e) ∨ ∃ t ∈ g, t.e = s.e)
    (fun g s hs => .inr ⟨s, by rwa [sumT_nil] at hs, rfl⟩)
    (fun a f s hs => .inl ⟨s, by rwa [sumT_nil'] at hs, rfl⟩)
    fun a b f g h1 h2 h3 s hs => by
      have w1 : ((∃ t ∈ f, t.e = s.e) ∨ ∃ t ∈ b :: g, t.e = s.e) → (∃ t ∈ a :: f, t.e = s.e) ∨ ∃ t ∈ b :: g, t.e = s.e := fun h => h.imp (fun ⟨t, ht, he⟩ => ⟨t, by simp [ht], he⟩) id
      have w2 : ((∃ t ∈ a :: f, t.e = s.e) ∨ ∃ t ∈ g, t.e = s.e) → (∃ t ∈ a :: f, t.e = s.e) ∨ ∃ t ∈ b :: g, t.e = s.e := fun h => h.imp id fun ⟨t, ht, he⟩ => ⟨t, by simp [ht], he⟩
      have w3 : ((∃ t ∈ f, t.e = s.e) ∨ ∃ t ∈ g, t.e = s.e) → (∃ t ∈ a :: f, t.e = s.e) ∨ ∃ t ∈ b :: g, t.e = s.e := fun h => h.imp (fun ⟨t, ht, he⟩ => ⟨t, by simp [ht], he⟩) fun ⟨t, ht, he⟩ => ⟨t, by simp [ht], he⟩
      rw [sumT_cons] at hs
      split at hs
      · rcases List.mem_cons.1 hs with rfl | hs
        · exact .inl ⟨s, by simp, rfl⟩
        · exact w1 (h1 s hs)
      · split at hs
        · rcases List.mem_cons.1 hs with rfl | hs
          · exact .inr ⟨s, by simp, rfl⟩
          · exact w2 (h2 s hs)
        · split at hs
          · rcases List.mem_cons.1 hs with rfl | hs
            · exact .inl ⟨a, by simp, rfl⟩
            · exact w3 (h3 s hs)
          · exact w3 (h3 s hs)

theorem byT_mem {p : Int} {f : Pl} {t : Tm} : ∀ s ∈ byT p f t, ∃ u ∈ f, s.e = zipE (· + ·) u.e t.e := fun s hs => by
  unfold byT at hs
  split at hs
  · cases hs
  · obtain ⟨u, hu, rfl⟩ := List.mem_map.1 hs
    exact ⟨u, hu, rfl⟩

def DB (d : Int) (f : Pl) : Prop := ∀ t ∈ f, t.e.sum ≤ d

theorem DB.mono {d d' : Int} {f : Pl} (h : DB d f) (hd : d ≤ d') : DB d' f := fun t ht => by have := h t ht; omega

theorem DB.sum {p o d : Int} {f g : Pl} (hf : DB d f) (hg : DB d g) : DB d (sumT p o f g) := fun s hs => by
  rcases sumT_mem f g s hs with ⟨t, ht, he⟩ | ⟨t, ht, he⟩
  · rw [← he]; exact hf t ht
  · rw [← he]; exact hg t ht

theorem DB.byT {p d : Int} {f : Pl} {t : Tm} (hf : DB d f) (hl : ∀ u ∈ f, u.e.length = t.e.length) : DB (d + t.e.sum) (byT p f t) := fun s hs => by
  obtain ⟨u, hu, he⟩ := byT_mem s hs
  rw [he, zipE_sum (hl u hu)]
  have := hf u hu
  omega

theorem vsumT_len' {r : Rg} {v w : Vc} (h : v.length = w.length) : (vsumT r v w).length = v.length := by unfold vsumT; rw [List.length_zipWith]; omega

theorem VB.nils {r : Rg} {n : Nat} {B : Int} {L k : Nat} : VB r n B L (List.replicate k []) := fun f hf => by
  rw [List.eq_of_mem_replicate hf]; exact ⟨PB.nil _ _ _ _ _, Nat.zero_le _⟩

end Go.Proofs.YtfjmdhemlfafbaaGreat

namespace Go.Proofs.YtfjmdhemlfafbaaGreat
open Go.RowKit

theorem mem_le_sum : ∀ {e : List Int}, (∀ x ∈ e, 0 ≤ x) → ∀ x ∈ e, x ≤ e.sum
  | y :: e, h, x, hx => by
    have h0 : 0 ≤ e.sum := by
      have : ∀ {l : List Int}, (∀ x ∈ l, 0 ≤ x) → 0 ≤ l.sum := fun {l} => by
        induction l with
        | nil => intro _; exact Int.le_refl _
        | cons a l ih => intro h; rw [List.sum_cons]; have := h a (by simp); have := ih fun x hx => h x (by simp [hx]); omega
      exact this fun x hx => h x (by simp [hx])
    rw [List.sum_cons]
    rcases List.mem_cons.1 hx with rfl | hx
    · omega
    · have := mem_le_sum (fun x hx => h x (by simp [hx])) x hx
      have := h y (by simp)
      omega

structure ME (n : Nat) (e : List Int) : Prop where
  len : e.length = n
  n3 : n ≤ 3
  pos : ∀ x ∈ e, 0 ≤ x
  deg : e.sum ≤ 8000

def codeM (o : Int) (e : List Int) : Int := if o = 2 then (e.sum * 8001 + e.getD 0 0) * 8001 + e.getD 1 0 else (e.sum * 8001 + (8000 - e.reverse.getD 0 0)) * 8001 + (8000 - e.reverse.getD 1 0)

theorem ME.cases {n : Nat} {e : List Int} (h : ME n e) : (n = 0 ∧ e = []) ∨ (∃ x, n = 1 ∧ e = [x] ∧ 0 ≤ x ∧ x ≤ 8000) ∨ (∃ x y, n = 2 ∧ e = [x, y] ∧ 0 ≤ x ∧ 0 ≤ y ∧ x + y ≤ 8000) ∨ (∃ x y z, n = 3 ∧ e = [x, y, z] ∧ 0 ≤ x ∧ 0 ≤ y ∧ 0 ≤ z ∧ x + y + z ≤ 8000) := by
  obtain ⟨h1, h2, h3, h4⟩ := h
  match e, h1, h3, h4 with
  | [], h1, _, _ => exact .inl ⟨h1.symm, rfl⟩
  | [x], h1, h3, h4 =>
    have := h3 x (by simp)
    exact .inr (.inl ⟨x, h1.symm, rfl, by omega, by simpa using h4⟩)
  | [x, y], h1, h3, h4 =>
    have := h3 x (by simp)
    have := h3 y (by simp)
    simp at h4
    exact .inr (.inr (.inl ⟨x, y, h1.symm, rfl, by omega, by omega, by omega⟩))
  | [x, y, z], h1, h3, h4 =>
    have := h3 x (by simp)
    have := h3 y (by simp)
    have := h3 z (by simp)
    simp at h4
    exact .inr (.inr (.inr ⟨x, y, z, h1.symm, rfl, by omega, by omega, by omega, by omega⟩))
  | x :: y :: z :: w :: e, h1, _, _ => simp at h1; omega

theorem codeM_range {n : Nat} {o : Int} {e : List Int} (h : ME n e) : 0 ≤ codeM o e ∧ codeM o e < 512192024001 := by
  unfold codeM
  rcases h.cases with ⟨_, rfl⟩ | ⟨x, _, rfl, h1, h2⟩ | ⟨x, y, _, rfl, h1, h2, h3⟩ | ⟨x, y, z, _, rfl, h1, h2, h3, h4⟩ <;> simp <;> split <;> omega

theorem codeM_lt {n : Nat} {o : Int} {a b : List Int} (ha : ME n a) (hb : ME n b) (h : 0 < cmpM o a b) : codeM o b < codeM o a := by
  unfold codeM
  unfold cmpM at h
  rcases ha.cases with ⟨h0, rfl⟩ | ⟨x, h0, rfl, h1, h2⟩ | ⟨x, y, h0, rfl, h1, h2, h3⟩ | ⟨x, y, z, h0, rfl, h1, h2, h3, h4⟩ <;>
  rcases hb.cases with ⟨h0', rfl⟩ | ⟨x', h0', rfl, h1', h2'⟩ | ⟨x', y', h0', rfl, h1', h2', h3'⟩ | ⟨x', y', z', h0', rfl, h1', h2', h3', h4'⟩ <;>
  first
  | omega
  | (simp [lexC, sgn] at h ⊢ <;> (repeat' split at h) <;> (repeat' split) <;> omega)

theorem codeM_cmp {n : Nat} {o : Int} {a b : List Int} (ha : ME n a) (hb : ME n b) : (0 < cmpM o a b ↔ codeM o b < codeM o a) ∧ (cmpM o a b = 0 ↔ codeM o a = codeM o b) := by
  have hl : a.length = b.length := by rw [ha.len, hb.len]
  have h2 := cmpM_anti o a b
  rcases Int.lt_trichotomy (cmpM o a b) 0 with h | h | h
  · have := codeM_lt hb ha (o := o) (by omega)
    exact ⟨⟨fun h => by omega, fun h => by omega⟩, ⟨fun h => by omega, fun h => by omega⟩⟩
  · have := cmpM_zero hl h
    subst this
    exact ⟨⟨fun h => by omega, fun h => by omega⟩, ⟨fun _ => rfl, fun _ => h⟩⟩
  · have := codeM_lt ha hb h
    exact ⟨⟨fun _ => this, fun _ => h⟩, ⟨fun h => by omega, fun h => by omega⟩⟩

theorem codeM_inj {n : Nat} {o : Int} {a b : List Int} (ha : ME n a) (hb : ME n b) (h : codeM o a = codeM o b) : a = b :=
  cmpM_zero (by rw [ha.len, hb.len]) ((codeM_cmp ha hb).2.2 h)

def code2 (r : Rg) (i : Nat) (e : List Int) : Int := if r.over = 2 then (40 - i) * 512192024001 + codeM r.order e else codeM r.order e * 41 + (40 - i)

theorem code2_range {r : Rg} {n i : Nat} {e : List Int} (h : ME n e) (hi : i ≤ 40) : 0 ≤ code2 r i e := by
  have := codeM_range (o := r.order) h
  unfold code2
  split <;> omega

theorem code2_first {r : Rg} {n i k : Nat} {a b : List Int} (ha : ME n a) (hb : ME n b) (hi : i ≤ 40) (hk : k ≤ 40) : firstT r i a k b = true ↔ code2 r k b < code2 r i a := by
  have h1 := codeM_range (o := r.order) ha
  have h2 := codeM_range (o := r.order) hb
  obtain ⟨c1, c2⟩ := codeM_cmp (o := r.order) ha hb
  unfold firstT code2
  by_cases ho : r.over = 2
  · rw [if_pos ho, if_pos ho]
    by_cases hik : (i : Int) = k
    · by_cases hc : cmpM r.order a b = 0
      · rw [if_pos (.inr hc)]
        have := c2.1 hc
        simp only [decide_eq_true_eq]
        omega
      · rw [if_neg (fun h => h.elim (fun h => h.2 hik) hc)]
        simp only [decide_eq_true_eq]
        rw [c1]
        omega
    · rw [if_pos (.inl ⟨ho, hik⟩)]
      simp only [decide_eq_true_eq]
      omega
  · rw [if_neg ho, if_neg ho]
    by_cases hc : cmpM r.order a b = 0
    · rw [if_pos (.inr hc)]
      have := c2.1 hc
      simp only [decide_eq_true_eq]
      omega
    · rw [if_neg (fun h => h.elim (fun h => ho h.1) hc)]
      have : codeM r.order a ≠ codeM r.order b := fun h => hc (c2.2 h)
      simp only [decide_eq_true_eq]
      rw [c1]
      omega

theorem code2_inj {r : Rg} {n i k : Nat} {a b : List Int} (ha : ME n a) (hb : ME n b) (hi : i ≤ 40) (hk : k ≤ 40) (h : code2 r i a = code2 r k b) : i = k ∧ a = b := by
  have h1 := codeM_range (o := r.order) ha
  have h2 := codeM_range (o := r.order) hb
  unfold code2 at h
  split at h
  · have : i = k := by omega
    subst this
    exact ⟨rfl, codeM_inj (o := r.order) ha hb (by omega)⟩
  · have : i = k := by omega
    subst this
    exact ⟨rfl, codeM_inj (o := r.order) ha hb (by omega)⟩

theorem code2_same {r : Rg} {n i : Nat} {a b : List Int} (ha : ME n a) (hb : ME n b) (h : code2 r i b < code2 r i a) : 0 < cmpM r.order a b := by
  refine (codeM_cmp ha hb).1.2 ?_
  unfold code2 at h
  split at h <;> omega

theorem code2_same' {r : Rg} {n i : Nat} {a b : List Int} (ha : ME n a) (hb : ME n b) (h : 0 < cmpM r.order a b) : code2 r i b < code2 r i a := by
  have := (codeM_cmp ha hb).1.1 h
  unfold code2
  split <;> omega

theorem firstT_add {r : Rg} {i k : Nat} {a b m : List Int} (h1 : a.length = b.length) (h2 : b.length = m.length) : firstT r i (zipE (· + ·) a m) k (zipE (· + ·) b m) = firstT r i a k b := by
  unfold firstT
  rw [cmpM_add h1 h2]

theorem me_of {lo p o : Int} {n : Nat} {B d : Int} {f : Pl} (h : PB lo p o n B f) (hd : DB d f) (hn : n ≤ 3) (h8 : d ≤ 8000) : ∀ t ∈ f, ME n t.e := fun t ht =>
  ⟨(h.all t ht).len, hn, fun x hx => ((h.all t ht).mem x hx).1, by have := hd t ht; omega⟩

theorem PB.tight {lo p o : Int} {n : Nat} {B d : Int} {f : Pl} (h : PB lo p o n B f) (hd : DB d f) : PB lo p o n d f := ⟨fun t ht => by
  have := h.all t ht
  exact ⟨this.lo, this.hi, this.len, fun x hx => ⟨(this.mem x hx).1, by have := mem_le_sum (fun x hx => (this.mem x hx).1) x hx; have := hd t ht; omega⟩⟩, h.sorted⟩

theorem long_le {lo p o : Int} {n : Nat} {B d : Int} (hn : n ≤ 3) (h8 : d ≤ 8000) : ∀ {f : Pl}, PB lo p o n B f → DB d f → ∀ t, f.head? = some t → (f.length : Int) ≤ codeM o t.e + 1
  | [u], h, hd, t, ht => by
    cases ht
    have := codeM_range (o := o) (me_of h hd hn h8 u (by simp))
    simp; omega
  | u :: w :: f, h, hd, t, ht => by
    cases ht
    have hm := me_of h hd hn h8
    have ih := long_le hn h8 h.tail (fun x hx => hd x (by simp [hx])) w rfl
    have := codeM_lt (o := o) (hm u (by simp)) (hm w (by simp)) (h.below w (by simp))
    simp at ih ⊢; omega

theorem len_le8 {lo p o : Int} {n : Nat} {B d : Int} {f : Pl} (h : PB lo p o n B f) (hd : DB d f) (hn : n ≤ 3) (h8 : d ≤ 8000) : f.length ≤ 512192024001 := by
  cases f with
  | nil => simp
  | cons u f =>
    have := long_le hn h8 h hd u rfl
    have := codeM_range (o := o) (me_of h hd hn h8 u (by simp))
    omega

end Go.Proofs.YtfjmdhemlfafbaaGreat

namespace Go.Proofs.YtfjmdhemlfafbaaGreat

theorem turn_all' : ((List.range 102).all fun p => ckP (p : Int) != 0 || ((List.range p).all fun a => a == 0 || ((a : Int) * turnP p a % p == 1))) = true := by decide +kernel

theorem turnP_inv' {p : Int} (hp : ckP p = 0) : InvOk (turnP p) p := by
  intro a h0 h1
  have h2 := ckP_ok hp
  obtain ⟨q, rfl⟩ := Int.eq_ofNat_of_zero_le (show 0 ≤ p by omega)
  obtain ⟨b, rfl⟩ := Int.eq_ofNat_of_zero_le (show 0 ≤ a by omega)
  have h3 := List.all_eq_true.1 turn_all' q (List.mem_range.2 (by omega))
  rw [hp] at h3
  have h4 : ((List.range q).all fun a => a == 0 || ((a : Int) * turnP q a % q == 1)) = true := h3
  have h5 := List.all_eq_true.1 h4 b (List.mem_range.2 (by omega))
  simp only [Bool.or_eq_true, beq_iff_eq] at h5
  exact h5.resolve_left (by omega)

theorem turnGo_in {p : Int} (hp : 0 < p) : ∀ (f : Nat) (n a out : Int), 0 ≤ out → out < p → 0 ≤ turnGo p f n a out ∧ turnGo p f n a out < p
  | 0, _, _, out, h0, h1 => ⟨h0, h1⟩
  | f + 1, n, a, out, h0, h1 => by
    simp only [turnGo]
    split
    · exact ⟨h0, h1⟩
    · refine turnGo_in hp f _ _ _ ?_ ?_
      · split
        · exact Int.emod_nonneg _ (by omega)
        · exact h0
      · split
        · exact Int.emod_lt_of_pos _ hp
        · exact h1

theorem turnP_in {p : Int} (hp : 2 ≤ p) (a : Int) : 0 ≤ turnP p a ∧ turnP p a < p := turnGo_in (by omega) _ _ _ _ (by omega) (by omega)

theorem ckP_prm {p : Int} (hp : ckP p = 0) : Prm p := Prm.of (by have := ckP_ok hp; omega) (turnP_inv' hp)

end Go.Proofs.YtfjmdhemlfafbaaGreat

namespace Go.Proofs.YtfjmdhemlfafbaaGreat
open Go.RowKit

def degB (r : Rg) (j : Nat) : Int := if r.over = 2 then 200 * (j + 1) else 200

theorem degB_range (r : Rg) {j : Nat} (h : j < 40) : 200 ≤ degB r j ∧ degB r j ≤ 8000 := by unfold degB; split <;> omega

structure VD (r : Rg) (n : Nat) (v : Vc) : Prop where
  n3 : n ≤ 3
  len : v.length ≤ 40
  all : ∀ (i : Nat) (h : i < v.length), PB 1 r.p r.order n 8000 v[i]
  deg : ∀ (i : Nat) (h : i < v.length), DB (degB r i) v[i]

theorem VD.me {r : Rg} {n : Nat} {v : Vc} (h : VD r n v) {i : Nat} (hi : i < v.length) : ∀ t ∈ v[i], ME n t.e :=
  me_of (h.all i hi) (h.deg i hi) h.n3 (degB_range r (by have := h.len; omega)).2

theorem VD.long {r : Rg} {n : Nat} {v : Vc} (h : VD r n v) {i : Nat} (hi : i < v.length) : v[i].length ≤ 512192024001 :=
  len_le8 (h.all i hi) (h.deg i hi) h.n3 (degB_range r (by have := h.len; omega)).2

theorem VD.vb {r : Rg} {n : Nat} {v : Vc} (h : VD r n v) : VB r n 8000 512192024001 v := fun f hf => by
  obtain ⟨i, hi, rfl⟩ := List.getElem_of_mem hf
  exact ⟨h.all i hi, h.long hi⟩

theorem VOk.vd {r : Rg} {k : Nat} {v : Vc} (h : VOk r k v) (hn : r.n.toNat ≤ 3) (hk : k ≤ 40) : VD r r.n.toNat v := by
  have hl := h.len
  exact ⟨hn, by omega, fun i hi => (h.all _ (List.getElem_mem hi)).ok.mono (by omega) (by omega), fun i hi => DB.mono (h.all _ (List.getElem_mem hi)).deg (degB_range r (by omega)).1⟩

theorem topAt_max {r : Rg} {n : Nat} {v : Vc} (hv : VD r n v) : ∀ (k : Nat), k ≤ v.length →
    (topAt r v k = none → ∀ (i : Nat) (h : i < v.length), i < k → v[i] = []) ∧ ∀ a u, topAt r v k = some (a, u) → ∀ (i : Nat) (h : i < v.length), i < k → ∀ s ∈ v[i], code2 r i s.e ≤ code2 r a u.e
  | 0, _ => ⟨fun _ i _ h => by omega, fun a u h => by cases h⟩
  | k + 1, hk => by
    have hk2 : k < v.length := by omega
    have hlen := hv.len
    obtain ⟨i1, i2⟩ := topAt_max hv k (by omega)
    have hs := topAt_succ (r := r) hk2
    rw [hs]
    cases hf : v[k] with
    | nil =>
      refine ⟨fun h i hi hik => ?_, fun a u h i hi hik s hsm => ?_⟩
      · by_cases hik2 : i = k
        · subst hik2; exact hf
        · exact i1 h i hi (by omega)
      · by_cases hik2 : i = k
        · subst hik2; rw [hf] at hsm; cases hsm
        · exact i2 a u h i hi (by omega) s hsm
    | cons t f =>
      have hme := hv.me hk2
      have hpb := hv.all k hk2
      rw [hf] at hme hpb
      have hrow : ∀ s ∈ t :: f, code2 r k s.e ≤ code2 r k t.e := fun s hsm => by
        rcases List.mem_cons.1 hsm with rfl | hsm
        · exact Int.le_refl _
        · exact Int.le_of_lt (code2_same' (hme t (by simp)) (hme s (by simp [hsm])) (hpb.below s hsm))
      cases hx : topAt r v k with
      | none =>
        refine ⟨(fun h => by cases h), fun a u h i hi hik s hsm => ?_⟩
        cases h
        by_cases hik2 : i = k
        · subst hik2; rw [hf] at hsm; exact hrow s hsm
        · rw [i1 hx i hi (by omega)] at hsm; cases hsm
      | some x =>
        obtain ⟨b, w⟩ := x
        obtain ⟨hb1, hb2, hb3, hb4⟩ := topAt_ok (by omega) hx
        have hwm := hv.me hb2 w (by rw [← hb4]; exact List.getElem_mem hb3)
        have hfc := code2_first (r := r) (i := k) (k := b) (hme t (by simp)) hwm (by omega) (by omega)
        show ((if firstT r k t.e b w.e = true then some (k, t) else some (b, w)) = none → _) ∧ ∀ a u, (if firstT r k t.e b w.e = true then some (k, t) else some (b, w)) = some (a, u) → _
        cases hft : firstT r k t.e b w.e
        · rw [if_neg (by simp)]
          refine ⟨(fun h => by cases h), fun a u h i hi hik s hsm => ?_⟩
          cases h
          by_cases hik2 : i = k
          · subst hik2
            rw [hf] at hsm
            have := hrow s hsm
            have hn : ¬ code2 r b w.e < code2 r i t.e := fun h => by rw [hfc.2 h] at hft; cases hft
            omega
          · exact i2 b w hx i hi (by omega) s hsm
        · rw [if_pos rfl]
          refine ⟨(fun h => by cases h), fun a u h i hi hik s hsm => ?_⟩
          cases h
          by_cases hik2 : i = k
          · subst hik2; rw [hf] at hsm; exact hrow s hsm
          · have := i2 b w hx i hi (by omega) s hsm
            have := hfc.1 hft
            omega

structure TopIs (r : Rg) (n : Nat) (v : Vc) (a : Nat) (u : Tm) : Prop where
  lt : a < v.length
  at_ : ∃ f, v[a] = u :: f
  me : ME n u.e
  max : ∀ (i : Nat) (h : i < v.length), ∀ s ∈ v[i], code2 r i s.e ≤ code2 r a u.e

theorem topV_is {r : Rg} {n : Nat} {v : Vc} (hv : VD r n v) {a : Nat} {u : Tm} (h : topV r v = some (a, u)) : TopIs r n v a u := by
  obtain ⟨h1, h2, h3, h4⟩ := topAt_ok (Nat.le_refl _) h
  refine ⟨h2, ?_, hv.me h2 u (by rw [← h4]; exact List.getElem_mem h3), fun i hi => (topAt_max hv v.length (Nat.le_refl _)).2 a u h i hi hi⟩
  revert h3 h4
  generalize v[a] = g
  cases g with
  | nil => intro h3; simp at h3
  | cons t f => intro _ h4; exact ⟨f, by rw [← h4]; rfl⟩

def goesIn (r : Rg) (a : Nat) (m : List Int) (d : Vc) : Bool := match topV r d with
  | none => false
  | some (b, w) => b == a && goesM m w.e

def goesT (r : Rg) (l : List Vc) (a : Nat) (m : List Int) : Option Nat := l.findIdx? (goesIn r a m)

def byOf (r : Rg) (u w : Tm) : Tm := ⟨u.c * turnP r.p w.c % r.p, zipE (· - ·) u.e w.e⟩
def negT (r : Rg) (t : Tm) : Tm := ⟨r.p - t.c, t.e⟩

structure DS where
  v : Vc
  q : Vc
  left : Vc

def stepA (s : DS) (a : Nat) (u : Tm) : DS := ⟨s.v.set a (s.v.getD a []).tail, s.q, s.left.set a (s.left.getD a [] ++ [u])⟩
def byAt (r : Rg) (l : List Vc) (u : Tm) (i : Nat) : Tm := byOf r u (tmOf (topV r (l.getD i [])))
def stepB (r : Rg) (l : List Vc) (s : DS) (u : Tm) (i : Nat) : DS :=
  ⟨vsumT r s.v (vbyT r (l.getD i []) (negT r (byAt r l u i))), s.q.set i (sumT r.p r.order (s.q.getD i []) [byAt r l u i]), s.left⟩

def stepT (r : Rg) (l : List Vc) (s : DS) : Option DS := match topV r s.v with
  | none => none
  | some (a, u) => match goesT r l a u.e with
    | none => some (stepA s a u)
    | some i => some (stepB r l s u i)

def muT (r : Rg) (v : Vc) : Nat := match topV r v with
  | none => 0
  | some (a, u) => (code2 r a u.e).toNat + 1

structure DInv (r : Rg) (rank : Nat) (l : List Vc) (s : DS) : Prop where
  vd : VD r r.n.toNat s.v
  vlen : s.v.length = rank
  qlen : s.q.length = l.length
  q : ∀ f ∈ s.q, PB 1 r.p r.order r.n.toNat 8000 f ∧ DB 8000 f
  llen : s.left.length = rank
  left : ∀ (j : Nat) (h : j < s.left.length), PB 1 r.p r.order r.n.toNat 8000 s.left[j] ∧ DB (degB r j) s.left[j]
  above : ∀ (j : Nat) (h : j < s.left.length), ∀ t ∈ s.left[j], (muT r s.v : Int) ≤ code2 r j t.e
  normal : ∀ (j : Nat) (h : j < s.left.length), ∀ t ∈ s.left[j], goesT r l j t.e = none

structure DL (r : Rg) (rank : Nat) (l : List Vc) : Prop where
  ring : ringCk r = 0
  rank1 : 1 ≤ rank
  rank2 : rank ≤ 40
  len : l.length ≤ 60
  vecs : ∀ d ∈ l, VOk r rank d

theorem DL.rg {r : Rg} {rank : Nat} {l : List Vc} (h : DL r rank l) : (2 ≤ r.p ∧ r.p ≤ 101) ∧ r.n.toNat ≤ 3 ∧ 1 ≤ r.n ∧ Prm r.p ∧ ckP r.p = 0 := by
  have hr2 := ringCk_ok h.ring
  exact ⟨ckP_ok hr2.1, by omega, by omega, ckP_prm hr2.1, hr2.1⟩

theorem muT_lt {r : Rg} {n : Nat} {v v' : Vc} {a : Nat} {u : Tm} (hv : VD r n v) (ht : topV r v = some (a, u)) (hv' : VD r n v') (h : ∀ (i : Nat) (hi : i < v'.length), ∀ s ∈ v'[i], code2 r i s.e < code2 r a u.e) : muT r v' < muT r v := by
  unfold muT
  rw [ht]
  cases hx : topV r v' with
  | none => exact Nat.succ_pos _
  | some x =>
    obtain ⟨b, w⟩ := x
    have hi := topV_is hv' hx
    obtain ⟨f, hf⟩ := hi.at_
    have := h b hi.lt w (by rw [hf]; simp)
    have := code2_range (r := r) (i := b) hi.me (by have := hi.lt; have := hv'.len; omega)
    dsimp only
    omega

theorem goesM_sub : ∀ {a b : List Int}, a.length = b.length → goesM a b = true → zipE (· + ·) b (zipE (· - ·) a b) = a ∧ (∀ x ∈ zipE (· - ·) a b, 0 ≤ x) ∧ (zipE (· - ·) a b).sum = a.sum - b.sum
  | [], [], _, _ => ⟨rfl, (fun x h => by cases h), rfl⟩
  | x :: a, y :: b, h, hg => by
    unfold goesM at hg
    split at hg
    · cases hg
    · obtain ⟨h1, h2, h3⟩ := goesM_sub (by simpa using h) hg
      have e1 : zipE (· - ·) (x :: a) (y :: b) = (x - y) :: zipE (· - ·) a b := rfl
      rw [e1]
      refine ⟨?_, fun z hz => ?_, ?_⟩
      · show (y + (x - y)) :: zipE (· + ·) b (zipE (· - ·) a b) = x :: a
        rw [h1, show y + (x - y) = x by omega]
      · rcases List.mem_cons.1 hz with rfl | hz
        · omega
        · exact h2 z hz
      · rw [List.sum_cons, List.sum_cons, List.sum_cons, h3]; omega

theorem codeM_sum {n : Nat} {o : Int} {a b : List Int} (ha : ME n a) (hb : ME n b) (h : codeM o b ≤ codeM o a) : b.sum ≤ a.sum := by
  unfold codeM at h
  rcases ha.cases with ⟨h0, rfl⟩ | ⟨x, h0, rfl, h1, h2⟩ | ⟨x, y, h0, rfl, h1, h2, h3⟩ | ⟨x, y, z, h0, rfl, h1, h2, h3, h4⟩ <;>
  rcases hb.cases with ⟨h0', rfl⟩ | ⟨x', h0', rfl, h1', h2'⟩ | ⟨x', y', h0', rfl, h1', h2', h3'⟩ | ⟨x', y', z', h0', rfl, h1', h2', h3', h4'⟩ <;>
  first
  | omega
  | (simp at h ⊢ <;> split at h <;> omega)

theorem inv_facts {p u w : Int} (hp : ckP p = 0) (hu : 1 ≤ u ∧ u < p) (hw : 1 ≤ w ∧ w < p) : 1 ≤ u * turnP p w % p ∧ u * turnP p w % p < p ∧ p ∣ w * (u * turnP p w % p) - u := by
  have hp2 := ckP_ok hp
  have h1 := turnP_inv' hp w (by omega) hw.2
  have hlt := Int.emod_lt_of_pos (u * turnP p w) (show 0 < p by omega)
  have h0 := Int.emod_nonneg (u * turnP p w) (show p ≠ 0 by omega)
  have hd : p ∣ w * (u * turnP p w % p) - u := by
    have e1 : p ∣ u * turnP p w % p - u * turnP p w := emod_dvd _ _
    have e2 : p ∣ w * turnP p w - 1 := by
      have := emod_dvd p (w * turnP p w)
      rw [h1] at this
      have := Int.dvd_neg.2 this
      rwa [show -(1 - w * turnP p w) = w * turnP p w - 1 by omega] at this
    obtain ⟨k1, e1⟩ := e1
    obtain ⟨k2, e2⟩ := e2
    exact ⟨w * k1 + u * k2, by grind⟩
  refine ⟨?_, hlt, hd⟩
  refine Classical.byContradiction fun hn => ?_
  have hz : u * turnP p w % p = 0 := by omega
  rw [hz] at hd
  have : p ∣ u := by
    have := Int.dvd_neg.2 hd
    rwa [show -(w * 0 - u) = u by simp] at this
  have := Int.le_of_dvd (by omega) this
  omega

end Go.Proofs.YtfjmdhemlfafbaaGreat
