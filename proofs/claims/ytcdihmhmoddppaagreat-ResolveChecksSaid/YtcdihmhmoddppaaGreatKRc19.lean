/-
  Package poly and the document's polynomials: what is wrong with one. No condition.
-/
import Derived.Test.YtcdihmhmoddppaaGreatKRc16
import Derived.Test.YtcdihmhmoddppaaGreatKRc18
import Derived.Test.YtcdihmhmoddppaaGreatKRc5
import Derived.Test.YtcdihmhmoddppaaGreatKRc17
import Derived.Test.YtcdihmhmoddppaaGreatKRc9

namespace Go.Proofs.YtcdihmhmoddppaaGreat
set_option linter.unusedVariables false
set_option linter.unusedSimpArgs false

/-- A term: its coefficient from lo on, each exponent at most B. -/
structure TB (lo p : Int) (n : Nat) (B : Int) (t : Tm) : Prop where
  lo : lo ≤ t.c
  hi : t.c < p
  len : t.e.length = n
  mem : ∀ x ∈ t.e, 0 ≤ x ∧ x ≤ B

/-- A polynomial: terms that are right, the greatest one first. -/
structure PB (lo p o : Int) (n : Nat) (B : Int) (f : Pl) : Prop where
  all : ∀ t ∈ f, TB lo p n B t
  sorted : f.Pairwise fun a b => 0 < cmpM o a.e b.e

theorem TB.mono {lo lo' p : Int} {n : Nat} {B B' : Int} {t : Tm} (h : TB lo p n B t) (hl : lo' ≤ lo) (hB : B ≤ B') : TB lo' p n B' t := ⟨by have := h.lo; omega, h.hi, h.len, fun x hx => by have := h.mem x hx; omega⟩
theorem PB.mono {lo lo' p o : Int} {n : Nat} {B B' : Int} {f : Pl} (h : PB lo p o n B f) (hl : lo' ≤ lo) (hB : B ≤ B') : PB lo' p o n B' f := ⟨fun t ht => (h.all t ht).mono hl hB, h.sorted⟩
theorem PB.nil (lo p o : Int) (n : Nat) (B : Int) : PB lo p o n B [] := ⟨fun t h => (by cases h), by simp⟩
theorem PB.tail {lo p o : Int} {n : Nat} {B : Int} {t : Tm} {f : Pl} (h : PB lo p o n B (t :: f)) : PB lo p o n B f := ⟨fun x hx => h.all x (by simp [hx]), (List.pairwise_cons.1 h.sorted).2⟩
theorem PB.head {lo p o : Int} {n : Nat} {B : Int} {t : Tm} {f : Pl} (h : PB lo p o n B (t :: f)) : TB lo p n B t := h.all t (by simp)

theorem TB.mok {lo p : Int} {n : Nat} {B : Int} {t : Tm} (h : TB lo p n B t) (hn : n ≤ 3) (hB : B ≤ 1000000) : MOk t.e := ⟨by have := h.len; omega, fun x hx => by have := h.mem x hx; omega⟩

/-- All terms stand behind a monomial. -/
def Below (o : Int) (m : List Int) (f : Pl) : Prop := ∀ t ∈ f, 0 < cmpM o m t.e

theorem PB.below {lo p o : Int} {n : Nat} {B : Int} {t : Tm} {f : Pl} (h : PB lo p o n B (t :: f)) : Below o t.e f := (List.pairwise_cons.1 h.sorted).1
theorem PB.cons {lo p o : Int} {n : Nat} {B : Int} {t : Tm} {f : Pl} (h1 : TB lo p n B t) (h2 : Below o t.e f) (h3 : PB lo p o n B f) : PB lo p o n B (t :: f) :=
  ⟨fun x hx => by rcases List.mem_cons.1 hx with rfl | hx; exact h1; exact h3.all x hx, List.pairwise_cons.2 ⟨h2, h3.sorted⟩⟩

theorem cmpM_lt_trans {o : Int} {a b c : List Int} (h1 : a.length = b.length) (h2 : b.length = c.length) (h3 : 0 < cmpM o a b) (h4 : 0 < cmpM o b c) : 0 < cmpM o a c := (cmpM_trans h1 h2 (by omega) (by omega)).2 (.inl h3)

theorem Below.trans {lo p o : Int} {n : Nat} {B : Int} {m : List Int} {t : Tm} {f : Pl} (hm : m.length = n) (h : PB lo p o n B (t :: f)) (h1 : 0 < cmpM o m t.e) : Below o m (t :: f) := fun x hx => by
  rcases List.mem_cons.1 hx with rfl | hx
  · exact h1
  · exact cmpM_lt_trans (by rw [hm, h.head.len]) (by rw [h.head.len, (h.all x (by simp [hx])).len]) h1 (h.below x hx)

/-! ### What hangs on coefficients alone -/

def Lf (φ : List Int → Int) (f : Pl) : Int := (f.map fun t => t.c * φ t.e).sum

theorem Lf_nil (φ : List Int → Int) : Lf φ [] = 0 := rfl
theorem Lf_cons (φ : List Int → Int) (t : Tm) (f : Pl) : Lf φ (t :: f) = t.c * φ t.e + Lf φ f := rfl
theorem Lf_append (φ : List Int → Int) (f g : Pl) : Lf φ (f ++ g) = Lf φ f + Lf φ g := by simp [Lf]

/-- As good as one another. -/
def Lk (p : Int) (f g : Pl) : Prop := ∀ φ, p ∣ Lf φ f - Lf φ g

theorem Lk.symm {p : Int} {f g : Pl} (h : Lk p f g) : Lk p g f := fun φ => by
  have := Int.dvd_neg.2 (h φ)
  rwa [Int.neg_sub] at this
theorem Lk.trans {p : Int} {f g h : Pl} (h1 : Lk p f g) (h2 : Lk p g h) : Lk p f h := fun φ => by
  have := Int.dvd_add (h1 φ) (h2 φ)
  rwa [show Lf φ f - Lf φ g + (Lf φ g - Lf φ h) = Lf φ f - Lf φ h by omega] at this
theorem Lk.refl (p : Int) (f : Pl) : Lk p f f := fun φ => by rw [Int.sub_self]; exact Int.dvd_zero p

def delta (m : List Int) (e : List Int) : Int := if e = m then 1 else 0

theorem Lf_delta_below {o : Int} {m : List Int} : ∀ {f : Pl}, Below o m f → Lf (delta m) f = 0
  | [], _ => rfl
  | t :: f, h => by
    have h1 := h t (by simp)
    have hne : t.e ≠ m := fun e => by rw [e, cmpM_self] at h1; omega
    rw [Lf_cons, Lf_delta_below fun x hx => h x (by simp [hx])]
    simp [delta, hne]

theorem small_eq {p a b : Int} (h : p ∣ a - b) (ha : 0 ≤ a) (ha2 : a < p) (hb : 0 ≤ b) (hb2 : b < p) : a = b := by
  obtain ⟨k, hk⟩ := h
  have hk0 : k = 0 := by
    rcases Int.lt_trichotomy k 0 with h1 | h1 | h1
    · have : p * k ≤ p * (-1) := Int.mul_le_mul_of_nonneg_left (by omega) (by omega)
      omega
    · exact h1
    · have : p * 1 ≤ p * k := Int.mul_le_mul_of_nonneg_left (by omega) (by omega)
      omega
  subst hk0
  omega

/-- Polynomials that are as good as one another are one. -/
theorem PB.uniq {p o : Int} {n : Nat} {B B' : Int} (hp : 0 < p) : ∀ {f g : Pl}, PB 1 p o n B f → PB 1 p o n B' g → Lk p f g → f = g
  | [], [], _, _, _ => rfl
  | [], b :: g, _, hg, h => by
    have h1 := h (delta b.e)
    rw [Lf_cons, Lf_delta_below hg.below, Lf_nil] at h1
    have := hg.head.lo
    have := hg.head.hi
    have h2 : p ∣ b.c - 0 := by
      have := Int.dvd_neg.2 h1
      simpa [delta] using this
    have := small_eq h2 (by omega) (by omega) (by omega) hp
    omega
  | a :: f, [], hf, _, h => by
    have h1 := h (delta a.e)
    rw [Lf_cons, Lf_delta_below hf.below, Lf_nil] at h1
    have := hf.head.lo
    have := hf.head.hi
    have h2 : p ∣ a.c - 0 := by simpa [delta] using h1
    have := small_eq h2 (by omega) (by omega) (by omega) hp
    omega
  | a :: f, b :: g, hf, hg, h => by
    have la := hf.head.len
    have lb := hg.head.len
    have a1 := hf.head.lo
    have a2 := hf.head.hi
    have b1 := hg.head.lo
    have b2 := hg.head.hi
    rcases cmpM_range o a.e b.e with h0 | h0 | h0
    · have he : a.e = b.e := cmpM_zero (by omega) h0
      have h1 := h (delta a.e)
      rw [Lf_cons, Lf_cons, Lf_delta_below hf.below, he, Lf_delta_below hg.below] at h1
      have h2 : p ∣ a.c - b.c := by simpa [delta, he] using h1
      have hc := small_eq h2 (by omega) a2 (by omega) b2
      have hab : a = b := by cases a; cases b; simp_all
      subst hab
      congr 1
      refine PB.uniq hp hf.tail hg.tail fun φ => ?_
      have := h φ
      rw [Lf_cons, Lf_cons] at this
      rwa [show a.c * φ a.e + Lf φ f - (a.c * φ a.e + Lf φ g) = Lf φ f - Lf φ g by omega] at this
    · have hb := Below.trans (m := a.e) la hg (by omega)
      have h1 := h (delta a.e)
      rw [Lf_cons, Lf_delta_below hf.below, Lf_delta_below hb] at h1
      have h2 : p ∣ a.c - 0 := by simpa [delta] using h1
      have := small_eq h2 (by omega) (by omega) (by omega) hp
      omega
    · have hba : 0 < cmpM o b.e a.e := by have := cmpM_anti o b.e a.e; omega
      have hb := Below.trans (m := b.e) lb hf hba
      have h1 := h (delta b.e)
      rw [Lf_cons (delta b.e) b g, Lf_delta_below hg.below, Lf_delta_below hb] at h1
      have h2 : p ∣ b.c - 0 := by
        have := Int.dvd_neg.2 h1
        simpa [delta] using this
      have := small_eq h2 (by omega) (by omega) (by omega) hp
      omega

/-! ### The program's sum -/

def sumGo (p o : Int) (a : Tm) (f : Pl) (rec : Pl → Pl) : Pl → Pl
  | [] => a :: f
  | b :: g => if cmpM o a.e b.e = 1 then a :: rec (b :: g) else if cmpM o a.e b.e = -1 then b :: sumGo p o a f rec g else if 0 < (a.c + b.c) % p then ⟨(a.c + b.c) % p, a.e⟩ :: rec g else rec g

def sumT (p o : Int) : Pl → Pl → Pl
  | [] => fun g => g
  | a :: f => sumGo p o a f (sumT p o f)

theorem sumT_nil (p o : Int) (g : Pl) : sumT p o [] g = g := rfl
theorem sumT_nil' (p o : Int) : ∀ (f : Pl), sumT p o f [] = f
  | [] => rfl
  | a :: f => rfl
theorem sumT_cons (p o : Int) (a b : Tm) (f g : Pl) : sumT p o (a :: f) (b :: g) =
    if cmpM o a.e b.e = 1 then a :: sumT p o f (b :: g) else if cmpM o a.e b.e = -1 then b :: sumT p o (a :: f) g else if 0 < (a.c + b.c) % p then ⟨(a.c + b.c) % p, a.e⟩ :: sumT p o f g else sumT p o f g := rfl

theorem sumT_ind {p o : Int} {M : Pl → Pl → Prop} (h1 : ∀ g, M [] g) (h2 : ∀ a f, M (a :: f) []) (h3 : ∀ a b f g, M f (b :: g) → M (a :: f) g → M f g → M (a :: f) (b :: g)) : ∀ f g, M f g
  | [], g => h1 g
  | a :: f, [] => h2 a f
  | a :: f, b :: g => h3 a b f g (sumT_ind (p := p) (o := o) h1 h2 h3 f (b :: g)) (sumT_ind (p := p) (o := o) h1 h2 h3 (a :: f) g) (sumT_ind (p := p) (o := o) h1 h2 h3 f g)
termination_by f g => f.length + g.length

theorem sumT_length {p o : Int} : ∀ f g, (sumT p o f g).length ≤ f.length + g.length :=
  sumT_ind (p := p) (o := o) (fun g => by simp [sumT_nil]) (fun a f => by simp [sumT_nil']) fun a b f g i1 i2 i3 => by
    rw [sumT_cons]
    simp only [List.length_cons] at *
    split
    · simp only [List.length_cons]; omega
    · split
      · simp only [List.length_cons]; omega
      · split
        · simp only [List.length_cons]; omega
        · omega

theorem sumT_below {p o : Int} {m : List Int} : ∀ f g, Below o m f → Below o m g → Below o m (sumT p o f g) :=
  sumT_ind (p := p) (o := o) (fun g _ h => h) (fun a f h _ => by rw [sumT_nil']; exact h) fun a b f g i1 i2 i3 ha hb => by
    have hf : Below o m f := fun x hx => ha x (by simp [hx])
    have hg : Below o m g := fun x hx => hb x (by simp [hx])
    rw [sumT_cons]
    split
    · intro x hx
      rcases List.mem_cons.1 hx with rfl | hx
      · exact ha x (by simp)
      · exact i1 hf hb x hx
    · split
      · intro x hx
        rcases List.mem_cons.1 hx with rfl | hx
        · exact hb x (by simp)
        · exact i2 ha hg x hx
      · split
        · intro x hx
          rcases List.mem_cons.1 hx with rfl | hx
          · exact ha a (by simp)
          · exact i3 hf hg x hx
        · exact i3 hf hg

theorem sumT_ok {p o : Int} {n : Nat} {B : Int} (hp : 0 < p) : ∀ f g, PB 1 p o n B f → PB 1 p o n B g → PB 1 p o n B (sumT p o f g) :=
  sumT_ind (p := p) (o := o) (fun g _ h => h) (fun a f h _ => by rw [sumT_nil']; exact h) fun a b f g i1 i2 i3 ha hb => by
    rw [sumT_cons]
    split
    · rename_i h
      exact .cons ha.head (sumT_below _ _ ha.below (Below.trans ha.head.len hb (by omega))) (i1 ha.tail hb)
    · split
      · rename_i h
        have : 0 < cmpM o b.e a.e := by have := cmpM_anti o b.e a.e; omega
        exact .cons hb.head (sumT_below _ _ (Below.trans hb.head.len ha this) hb.below) (i2 ha hb.tail)
      · have h0 : cmpM o a.e b.e = 0 := by have := cmpM_range o a.e b.e; omega
        have he : a.e = b.e := cmpM_zero (by rw [ha.head.len, hb.head.len]) h0
        split
        · rename_i hc
          refine .cons ⟨hc, Int.emod_lt_of_pos _ hp, ha.head.len, ha.head.mem⟩ (sumT_below _ _ ha.below (by show Below o a.e g; rw [he]; exact hb.below)) (i3 ha.tail hb.tail)
        · exact i3 ha.tail hb.tail

theorem emod_dvd (p x : Int) : p ∣ x % p - x := by
  rw [Int.emod_def]
  exact ⟨-(x / p), by rw [Int.mul_neg]; omega⟩

theorem sumT_L {p o : Int} {n : Nat} {B : Int} (hp : 0 < p) (φ : List Int → Int) : ∀ f g, PB 1 p o n B f → PB 1 p o n B g → p ∣ Lf φ (sumT p o f g) - (Lf φ f + Lf φ g) :=
  sumT_ind (p := p) (o := o) (fun g _ h => by rw [sumT_nil, Lf_nil]; simp) (fun a f h _ => by rw [sumT_nil', Lf_nil]; simp) fun a b f g i1 i2 i3 ha hb => by
    rw [sumT_cons]
    split
    · have := i1 ha.tail hb
      rw [Lf_cons, Lf_cons φ a f]
      rwa [show a.c * φ a.e + Lf φ (sumT p o f (b :: g)) - (a.c * φ a.e + Lf φ f + Lf φ (b :: g)) = Lf φ (sumT p o f (b :: g)) - (Lf φ f + Lf φ (b :: g)) by omega]
    · split
      · have := i2 ha hb.tail
        rw [Lf_cons, Lf_cons φ b g]
        rwa [show b.c * φ b.e + Lf φ (sumT p o (a :: f) g) - (Lf φ (a :: f) + (b.c * φ b.e + Lf φ g)) = Lf φ (sumT p o (a :: f) g) - (Lf φ (a :: f) + Lf φ g) by omega]
      · have h0 : cmpM o a.e b.e = 0 := by have := cmpM_range o a.e b.e; omega
        have he : a.e = b.e := cmpM_zero (by rw [ha.head.len, hb.head.len]) h0
        have ih := i3 ha.tail hb.tail
        have hd := Int.dvd_trans (emod_dvd p (a.c + b.c)) (Int.dvd_mul_right _ (φ a.e))
        rw [Int.sub_mul, Int.add_mul] at hd
        split
        · rw [Lf_cons, Lf_cons, Lf_cons, ← he]
          have := Int.dvd_add hd ih
          rwa [show (a.c + b.c) % p * φ a.e - (a.c * φ a.e + b.c * φ a.e) + (Lf φ (sumT p o f g) - (Lf φ f + Lf φ g)) = (a.c + b.c) % p * φ a.e + Lf φ (sumT p o f g) - (a.c * φ a.e + Lf φ f + (b.c * φ a.e + Lf φ g)) by omega] at this
        · rename_i hc
          have hz : (a.c + b.c) % p = 0 := by have := Int.emod_nonneg (a.c + b.c) (show p ≠ 0 by omega); omega
          rw [hz] at hd
          rw [Lf_cons, Lf_cons, ← he]
          have := Int.dvd_add hd ih
          rwa [show 0 * φ a.e - (a.c * φ a.e + b.c * φ a.e) + (Lf φ (sumT p o f g) - (Lf φ f + Lf φ g)) = Lf φ (sumT p o f g) - (a.c * φ a.e + Lf φ f + (b.c * φ a.e + Lf φ g)) by rw [Int.zero_mul]; omega] at this

/-! ### What the document collects -/

def insT (p o : Int) (t : Tm) : Pl → Pl
  | [] => [t]
  | x :: l => if 0 < cmpM o x.e t.e then x :: insT p o t l else if x.e = t.e then ⟨(x.c + t.c) % p, x.e⟩ :: l else t :: x :: l

def collectT (p o : Int) (l : Pl) : Pl := (l.foldl (fun out t => insT p o t out) []).filter fun t => t.c % p != 0

theorem insT_below {p o : Int} {m : List Int} {t : Tm} (ht : 0 < cmpM o m t.e) : ∀ {f : Pl}, Below o m f → Below o m (insT p o t f)
  | [], _ => fun x hx => by simp [insT] at hx; subst hx; exact ht
  | y :: f, h => by
    have hf : Below o m f := fun x hx => h x (by simp [hx])
    unfold insT
    split
    · intro x hx
      rcases List.mem_cons.1 hx with rfl | hx
      · exact h x (by simp)
      · exact insT_below ht hf x hx
    · split
      · intro x hx
        rcases List.mem_cons.1 hx with rfl | hx
        · exact h y (by simp)
        · exact hf x hx
      · intro x hx
        rcases List.mem_cons.1 hx with rfl | hx
        · exact ht
        · exact h x hx

theorem insT_ok {p o : Int} {n : Nat} {B : Int} (hp : 0 < p) {t : Tm} (ht : TB 0 p n B t) : ∀ {f : Pl}, PB 0 p o n B f → PB 0 p o n B (insT p o t f)
  | [], _ => .cons ht (fun x h => (by cases h)) (PB.nil _ _ _ _ _)
  | y :: f, h => by
    unfold insT
    split
    · rename_i hc
      exact .cons h.head (insT_below hc h.below) (insT_ok hp ht h.tail)
    · split
      · exact .cons ⟨Int.emod_nonneg _ (by omega), Int.emod_lt_of_pos _ hp, h.head.len, h.head.mem⟩ h.below h.tail
      · rename_i hc hne
        have h0 : cmpM o y.e t.e ≠ 0 := fun h0 => hne (cmpM_zero (by rw [h.head.len, ht.len]) h0)
        have hgt : 0 < cmpM o t.e y.e := by
          have := cmpM_range o y.e t.e
          have := cmpM_anti o t.e y.e
          omega
        exact .cons ht (Below.trans ht.len h hgt) h

theorem insT_L {p o : Int} {t : Tm} (φ : List Int → Int) : ∀ (f : Pl), p ∣ Lf φ (insT p o t f) - (Lf φ f + t.c * φ t.e)
  | [] => by simp [insT, Lf]
  | y :: f => by
    unfold insT
    split
    · have := insT_L (p := p) (o := o) (t := t) φ f
      rw [Lf_cons, Lf_cons]
      rwa [show y.c * φ y.e + Lf φ (insT p o t f) - (y.c * φ y.e + Lf φ f + t.c * φ t.e) = Lf φ (insT p o t f) - (Lf φ f + t.c * φ t.e) by omega]
    · split
      · rename_i he
        have hd := Int.dvd_trans (emod_dvd p (y.c + t.c)) (Int.dvd_mul_right _ (φ y.e))
        rw [Int.sub_mul, Int.add_mul] at hd
        rw [Lf_cons, Lf_cons, ← he]
        rwa [show (y.c + t.c) % p * φ y.e + Lf φ f - (y.c * φ y.e + Lf φ f + t.c * φ y.e) = (y.c + t.c) % p * φ y.e - (y.c * φ y.e + t.c * φ y.e) by omega]
      · rw [Lf_cons]
        rw [show t.c * φ t.e + Lf φ (y :: f) - (Lf φ (y :: f) + t.c * φ t.e) = 0 by omega]
        exact Int.dvd_zero p

theorem insT_length {p o : Int} {t : Tm} : ∀ (f : Pl), (insT p o t f).length ≤ f.length + 1
  | [] => by simp [insT]
  | y :: f => by
    have := insT_length (p := p) (o := o) (t := t) f
    unfold insT
    split
    · simp only [List.length_cons]; omega
    · split
      · simp
      · simp

theorem foldIns_ok {p o : Int} {n : Nat} {B : Int} (hp : 0 < p) : ∀ {l : Pl} {out : Pl}, (∀ t ∈ l, TB 0 p n B t) → PB 0 p o n B out → PB 0 p o n B (l.foldl (fun out t => insT p o t out) out)
  | [], out, _, h => h
  | t :: l, out, hl, h => by
    rw [List.foldl_cons]
    exact foldIns_ok hp (fun x hx => hl x (by simp [hx])) (insT_ok hp (hl t (by simp)) h)

theorem foldIns_L {p o : Int} (φ : List Int → Int) : ∀ (l out : Pl), p ∣ Lf φ (l.foldl (fun out t => insT p o t out) out) - (Lf φ out + Lf φ l)
  | [], out => by simp [Lf]
  | t :: l, out => by
    have h1 := foldIns_L (p := p) (o := o) φ l (insT p o t out)
    have h2 := insT_L (p := p) (o := o) (t := t) φ out
    simp only [List.foldl_cons]
    rw [Lf_cons]
    have := Int.dvd_add h1 h2
    rwa [show Lf φ (l.foldl (fun out t => insT p o t out) (insT p o t out)) - (Lf φ (insT p o t out) + Lf φ l) + (Lf φ (insT p o t out) - (Lf φ out + t.c * φ t.e)) = Lf φ (l.foldl (fun out t => insT p o t out) (insT p o t out)) - (Lf φ out + (t.c * φ t.e + Lf φ l)) by omega] at this

theorem foldIns_length {p o : Int} : ∀ (l out : Pl), (l.foldl (fun out t => insT p o t out) out).length ≤ out.length + l.length
  | [], out => by simp
  | t :: l, out => by
    have h1 := foldIns_length (p := p) (o := o) l (insT p o t out)
    have h2 := insT_length (p := p) (o := o) (t := t) out
    simp only [List.foldl_cons, List.length_cons]
    omega

theorem filter_L {p : Int} (φ : List Int → Int) : ∀ (f : Pl), p ∣ Lf φ (f.filter fun t => t.c % p != 0) - Lf φ f
  | [] => by simp [Lf]
  | t :: f => by
    have ih := filter_L (p := p) φ f
    rw [List.filter_cons]
    split
    · rw [Lf_cons, Lf_cons]
      rwa [show t.c * φ t.e + Lf φ (f.filter fun t => t.c % p != 0) - (t.c * φ t.e + Lf φ f) = Lf φ (f.filter fun t => t.c % p != 0) - Lf φ f by omega]
    · rename_i h
      have hz : t.c % p = 0 := by simpa using h
      have hd : p ∣ t.c * φ t.e := Int.dvd_trans (Int.dvd_of_emod_eq_zero hz) (Int.dvd_mul_right _ _)
      rw [Lf_cons]
      have := Int.dvd_sub ih hd
      rwa [show Lf φ (f.filter fun t => t.c % p != 0) - Lf φ f - t.c * φ t.e = Lf φ (f.filter fun t => t.c % p != 0) - (t.c * φ t.e + Lf φ f) by omega] at this

theorem collectT_ok {p o : Int} {n : Nat} {B : Int} (hp : 0 < p) {l : Pl} (hl : ∀ t ∈ l, TB 0 p n B t) : PB 1 p o n B (collectT p o l) := by
  have h := foldIns_ok (o := o) hp hl (PB.nil 0 p o n B)
  refine ⟨fun t ht => ?_, h.sorted.filter _⟩
  obtain ⟨h1, h2⟩ := List.mem_filter.1 ht
  have h3 := h.all t h1
  have h4 : t.c % p ≠ 0 := by simpa using h2
  have h5 : t.c ≠ 0 := fun e => by rw [e] at h4; simp at h4
  exact ⟨by have := h3.lo; omega, h3.hi, h3.len, h3.mem⟩

theorem collectT_L {p o : Int} (l : Pl) : Lk p (collectT p o l) l := fun φ => by
  have h1 := foldIns_L (p := p) (o := o) φ l []
  have h2 := filter_L (p := p) φ (l.foldl (fun out t => insT p o t out) [])
  have := Int.dvd_add h1 h2
  rw [Lf_nil] at this
  rwa [show Lf φ (l.foldl (fun out t => insT p o t out) []) - (0 + Lf φ l) + (Lf φ ((l.foldl (fun out t => insT p o t out) []).filter fun t => t.c % p != 0) - Lf φ (l.foldl (fun out t => insT p o t out) [])) = Lf φ (collectT p o l) - Lf φ l by unfold collectT; omega] at this

/-- The document's sum is the program's. -/
theorem collect_sum {p o : Int} {n : Nat} {B : Int} (hp : 0 < p) {f g : Pl} (hf : PB 1 p o n B f) (hg : PB 1 p o n B g) : collectT p o (f ++ g) = sumT p o f g := by
  refine PB.uniq hp (collectT_ok (n := n) (B := B) hp fun t ht => ?_) (sumT_ok hp f g hf hg) ((collectT_L _).trans fun φ => ?_)
  · rcases List.mem_append.1 ht with h | h
    · exact (hf.all t h).mono (by omega) (by omega)
    · exact (hg.all t h).mono (by omega) (by omega)
  · have := Int.dvd_neg.2 (sumT_L hp φ f g hf hg)
    rw [Int.neg_sub] at this
    rw [Lf_append]
    exact this

/-! ### Products -/

def byT (p : Int) (f : Pl) (t : Tm) : Pl := if t.c = 0 then [] else f.map fun x => ⟨x.c * t.c % p, zipE (· + ·) x.e t.e⟩

def prodT (p o : Int) (f g : Pl) : Pl := f.foldl (fun out t => sumT p o out (byT p g t)) []

def shift (φ : List Int → Int) (m : List Int) : List Int → Int := fun e => φ (zipE (· + ·) e m)

theorem byT_ok {p o : Int} {n : Nat} {B C : Int} (hp : 1 < p) (hpr : Prm p) {f : Pl} (hf : PB 1 p o n B f) {t : Tm} (ht : TB 0 p n C t) : PB 1 p o n (B + C) (byT p f t) := by
  unfold byT
  split
  · exact PB.nil _ _ _ _ _
  · rename_i hc
    refine ⟨fun x hx => ?_, ?_⟩
    · obtain ⟨y, hy, rfl⟩ := List.mem_map.1 hx
      have h1 := hf.all y hy
      have hne : y.c * t.c % p ≠ 0 := fun h => by
        rcases hpr _ _ (Int.dvd_of_emod_eq_zero h) with h | h
        · have := small_eq (p := p) (a := y.c) (b := 0) (by simpa using h) (by have := h1.lo; omega) h1.hi (by omega) (by omega)
          have := h1.lo; omega
        · have := small_eq (p := p) (a := t.c) (b := 0) (by simpa using h) ht.lo ht.hi (by omega) (by omega)
          exact hc this
      have h0 := Int.emod_nonneg (y.c * t.c) (show p ≠ 0 by omega)
      refine ⟨by show 1 ≤ y.c * t.c % p; omega, Int.emod_lt_of_pos _ (by omega), ?_, fun z hz => ?_⟩
      · show (zipE (· + ·) y.e t.e).length = n
        rw [zipE_len (by rw [h1.len, ht.len]), h1.len]
      · obtain ⟨i, hi, rfl⟩ := List.mem_iff_getElem.1 hz
        have e1 := h1.len
        have e2 := ht.len
        have hi' : i < n := by
          have : (zipE (· + ·) y.e t.e).length = n := by rw [zipE_len (by rw [h1.len, ht.len]), h1.len]
          have hi2 : i < (zipE (· + ·) y.e t.e).length := hi
          omega
        show 0 ≤ (zipE (· + ·) y.e t.e)[i] ∧ (zipE (· + ·) y.e t.e)[i] ≤ B + C
        rw [zipE_get]
        have g1 := h1.mem _ (List.getElem_mem (show i < y.e.length by omega))
        have g2 := ht.mem _ (List.getElem_mem (show i < t.e.length by omega))
        omega
    · rw [List.pairwise_map]
      refine List.Pairwise.imp_of_mem (fun {a b} ha hb h => ?_) hf.sorted
      show 0 < cmpM o (zipE (· + ·) a.e t.e) (zipE (· + ·) b.e t.e)
      rw [cmpM_add (by rw [(hf.all a ha).len, (hf.all b hb).len]) (by rw [(hf.all b hb).len, ht.len])]
      exact h

theorem byT_L {p : Int} (φ : List Int → Int) (t : Tm) : ∀ (f : Pl), p ∣ Lf φ (byT p f t) - t.c * Lf (shift φ t.e) f := by
  intro f
  unfold byT
  split
  · rename_i h; rw [h, Lf_nil]; simp
  · induction f with
    | nil => simp [Lf]
    | cons x f ih =>
      rw [List.map_cons, Lf_cons, Lf_cons, Int.mul_add]
      have hd := Int.dvd_trans (emod_dvd p (x.c * t.c)) (Int.dvd_mul_right _ (φ (zipE (· + ·) x.e t.e)))
      rw [Int.sub_mul] at hd
      have := Int.dvd_add hd ih
      have e : t.c * (x.c * shift φ t.e x.e) = x.c * t.c * φ (zipE (· + ·) x.e t.e) := by
        show t.c * (x.c * φ (zipE (· + ·) x.e t.e)) = _
        rw [← Int.mul_assoc, Int.mul_comm t.c x.c]
      rw [e]
      show p ∣ x.c * t.c % p * φ (zipE (· + ·) x.e t.e) + _ - (x.c * t.c * φ (zipE (· + ·) x.e t.e) + _)
      rwa [show x.c * t.c % p * φ (zipE (· + ·) x.e t.e) - x.c * t.c * φ (zipE (· + ·) x.e t.e) + (Lf φ (f.map fun x => ⟨x.c * t.c % p, zipE (· + ·) x.e t.e⟩) - t.c * Lf (shift φ t.e) f) = x.c * t.c % p * φ (zipE (· + ·) x.e t.e) + Lf φ (f.map fun x => ⟨x.c * t.c % p, zipE (· + ·) x.e t.e⟩) - (x.c * t.c * φ (zipE (· + ·) x.e t.e) + t.c * Lf (shift φ t.e) f) by omega] at this

theorem byT_length (p : Int) (f : Pl) (t : Tm) : (byT p f t).length ≤ f.length := by
  unfold byT
  split <;> simp

/-- How a product is told. -/
def LfP (φ : List Int → Int) (f g : Pl) : Int := (f.map fun t => t.c * Lf (shift φ t.e) g).sum

theorem prodGo {p o : Int} {n : Nat} {B C : Int} (hp : 1 < p) (hpr : Prm p) {g : Pl} (hg : PB 1 p o n B g) (hC : 0 ≤ C) : ∀ (f out : Pl), (∀ t ∈ f, TB 0 p n C t) → PB 1 p o n (B + C) out →
    PB 1 p o n (B + C) (f.foldl (fun out t => sumT p o out (byT p g t)) out) ∧ (∀ φ, p ∣ Lf φ (f.foldl (fun out t => sumT p o out (byT p g t)) out) - (Lf φ out + LfP φ f g)) ∧ (f.foldl (fun out t => sumT p o out (byT p g t)) out).length ≤ out.length + f.length * g.length
  | [], out, _, h => ⟨h, fun φ => by simp [LfP], by simp⟩
  | t :: f, out, hf, h => by
    have hb := byT_ok (o := o) hp hpr hg (hf t (by simp))
    have h1 := sumT_ok (p := p) (o := o) (by omega) out _ h hb
    obtain ⟨i1, i2, i3⟩ := prodGo hp hpr hg hC f _ (fun x hx => hf x (by simp [hx])) h1
    refine ⟨i1, fun φ => ?_, ?_⟩
    · have a1 := i2 φ
      have a2 := sumT_L (p := p) (o := o) (by omega) φ out _ h hb
      have a3 := byT_L (p := p) φ t g
      have := Int.dvd_add (Int.dvd_add a1 a2) a3
      simp only [List.foldl_cons]
      have e : LfP φ (t :: f) g = t.c * Lf (shift φ t.e) g + LfP φ f g := rfl
      rw [e]
      rwa [show Lf φ (f.foldl (fun out t => sumT p o out (byT p g t)) (sumT p o out (byT p g t))) - (Lf φ (sumT p o out (byT p g t)) + LfP φ f g) + (Lf φ (sumT p o out (byT p g t)) - (Lf φ out + Lf φ (byT p g t))) + (Lf φ (byT p g t) - t.c * Lf (shift φ t.e) g) = Lf φ (f.foldl (fun out t => sumT p o out (byT p g t)) (sumT p o out (byT p g t))) - (Lf φ out + (t.c * Lf (shift φ t.e) g + LfP φ f g)) by omega] at this
    · have a1 := sumT_length (p := p) (o := o) out (byT p g t)
      have a2 := byT_length p g t
      simp only [List.foldl_cons, List.length_cons, Nat.add_mul]
      omega

theorem prodT_ok {p o : Int} {n : Nat} {B C : Int} (hp : 1 < p) (hpr : Prm p) {f g : Pl} (hg : PB 1 p o n B g) (hC : 0 ≤ C) (hf : ∀ t ∈ f, TB 0 p n C t) : PB 1 p o n (B + C) (prodT p o f g) := (prodGo hp hpr hg hC f [] hf (PB.nil _ _ _ _ _)).1

theorem prodT_L {p o : Int} {n : Nat} {B C : Int} (hp : 1 < p) (hpr : Prm p) {f g : Pl} (hg : PB 1 p o n B g) (hC : 0 ≤ C) (hf : ∀ t ∈ f, TB 0 p n C t) (φ : List Int → Int) : p ∣ Lf φ (prodT p o f g) - LfP φ f g := by
  have := (prodGo hp hpr hg hC f [] hf (PB.nil _ _ _ _ _)).2.1 φ
  rwa [Lf_nil, Int.zero_add] at this

theorem prodT_length {p o : Int} {n : Nat} {B C : Int} (hp : 1 < p) (hpr : Prm p) {f g : Pl} (hg : PB 1 p o n B g) (hC : 0 ≤ C) (hf : ∀ t ∈ f, TB 0 p n C t) : (prodT p o f g).length ≤ f.length * g.length := by
  simpa [prodT] using (prodGo hp hpr hg hC f [] hf (PB.nil _ _ _ _ _)).2.2

/-- The document's pairs. -/
def pairsT (p : Int) (f g : Pl) : Pl := f.flatMap fun t => g.map fun u => ⟨t.c * u.c % p, zipE (· + ·) t.e u.e⟩

theorem zipE_comm {a b : List Int} : zipE (· + ·) a b = zipE (· + ·) b a := by
  unfold zipE
  rw [List.zipWith_comm]
  congr 1
  funext x y
  exact Int.add_comm _ _

theorem pairsT_L {p : Int} (φ : List Int → Int) (g : Pl) : ∀ (f : Pl), p ∣ Lf φ (pairsT p f g) - LfP φ f g
  | [] => by simp [pairsT, Lf, LfP]
  | t :: f => by
    have ih := pairsT_L (p := p) φ g f
    have e1 : pairsT p (t :: f) g = (g.map fun u => ⟨t.c * u.c % p, zipE (· + ·) t.e u.e⟩) ++ pairsT p f g := rfl
    have e2 : LfP φ (t :: f) g = t.c * Lf (shift φ t.e) g + LfP φ f g := rfl
    rw [e1, e2, Lf_append]
    have key : ∀ g : Pl, p ∣ Lf φ (g.map fun u => ⟨t.c * u.c % p, zipE (· + ·) t.e u.e⟩) - t.c * Lf (shift φ t.e) g := by
      intro g
      induction g with
      | nil => simp [Lf]
      | cons u g ig =>
        rw [List.map_cons, Lf_cons, Lf_cons, Int.mul_add]
        have hd := Int.dvd_trans (emod_dvd p (t.c * u.c)) (Int.dvd_mul_right _ (φ (zipE (· + ·) t.e u.e)))
        rw [Int.sub_mul] at hd
        have := Int.dvd_add hd ig
        have e : t.c * (u.c * shift φ t.e u.e) = t.c * u.c * φ (zipE (· + ·) t.e u.e) := by
          show t.c * (u.c * φ (zipE (· + ·) u.e t.e)) = _
          rw [← Int.mul_assoc, zipE_comm]
        rw [e]
        show p ∣ t.c * u.c % p * φ (zipE (· + ·) t.e u.e) + _ - (t.c * u.c * φ (zipE (· + ·) t.e u.e) + _)
        rwa [show t.c * u.c % p * φ (zipE (· + ·) t.e u.e) - t.c * u.c * φ (zipE (· + ·) t.e u.e) + (Lf φ (g.map fun u => ⟨t.c * u.c % p, zipE (· + ·) t.e u.e⟩) - t.c * Lf (shift φ t.e) g) = t.c * u.c % p * φ (zipE (· + ·) t.e u.e) + Lf φ (g.map fun u => ⟨t.c * u.c % p, zipE (· + ·) t.e u.e⟩) - (t.c * u.c * φ (zipE (· + ·) t.e u.e) + t.c * Lf (shift φ t.e) g) by omega] at this
    have := Int.dvd_add (key g) ih
    rwa [show Lf φ (g.map fun u => ⟨t.c * u.c % p, zipE (· + ·) t.e u.e⟩) - t.c * Lf (shift φ t.e) g + (Lf φ (pairsT p f g) - LfP φ f g) = Lf φ (g.map fun u => ⟨t.c * u.c % p, zipE (· + ·) t.e u.e⟩) + Lf φ (pairsT p f g) - (t.c * Lf (shift φ t.e) g + LfP φ f g) by omega] at this

theorem pairsT_mem {p : Int} {n : Nat} {B C : Int} (hp : 0 < p) {f g : Pl} (hf : ∀ t ∈ f, TB 0 p n C t) (hg : ∀ t ∈ g, TB 0 p n B t) : ∀ t ∈ pairsT p f g, TB 0 p n (B + C) t := by
  intro x hx
  obtain ⟨t, ht, hx⟩ := List.mem_flatMap.1 hx
  obtain ⟨u, hu, rfl⟩ := List.mem_map.1 hx
  have h1 := hf t ht
  have h2 := hg u hu
  have e1 := h1.len
  have e2 := h2.len
  have hl : (zipE (· + ·) t.e u.e).length = n := by rw [zipE_len (by omega), e1]
  refine ⟨Int.emod_nonneg _ (by omega), Int.emod_lt_of_pos _ hp, hl, fun z hz => ?_⟩
  obtain ⟨i, hi, rfl⟩ := List.mem_iff_getElem.1 hz
  have hi2 : i < (zipE (· + ·) t.e u.e).length := hi
  show 0 ≤ (zipE (· + ·) t.e u.e)[i] ∧ (zipE (· + ·) t.e u.e)[i] ≤ B + C
  rw [zipE_get]
  have g1 := h1.mem _ (List.getElem_mem (show i < t.e.length by omega))
  have g2 := h2.mem _ (List.getElem_mem (show i < u.e.length by omega))
  omega

/-- The document's product is the program's. -/
theorem collect_prod {p o : Int} {n : Nat} {B C : Int} (hp : 1 < p) (hpr : Prm p) (hC : 0 ≤ C) {f g : Pl} (hf : PB 1 p o n C f) (hg : PB 1 p o n B g) : collectT p o (pairsT p f g) = prodT p o f g := by
  have hf0 : ∀ t ∈ f, TB 0 p n C t := fun t ht => (hf.all t ht).mono (by omega) (by omega)
  have hg0 : ∀ t ∈ g, TB 0 p n B t := fun t ht => (hg.all t ht).mono (by omega) (by omega)
  refine PB.uniq (by omega) (collectT_ok (n := n) (B := B + C) (by omega) (pairsT_mem (by omega) hf0 hg0)) (prodT_ok hp hpr hg hC hf0) ((collectT_L _).trans fun φ => ?_)
  have h1 := pairsT_L (p := p) φ g f
  have h2 := Int.dvd_neg.2 (prodT_L (o := o) hp hpr hg hC hf0 φ)
  rw [Int.neg_sub] at h2
  have := Int.dvd_add h1 h2
  rwa [show Lf φ (pairsT p f g) - LfP φ f g + (LfP φ f g - Lf φ (prodT p o f g)) = Lf φ (pairsT p f g) - Lf φ (prodT p o f g) by omega] at this

/-! ### Degrees -/

theorem cmpM_deg {o : Int} {a b : List Int} (h : 0 < cmpM o a b) : b.sum ≤ a.sum := by
  unfold cmpM at h
  split at h
  · omega
  · unfold sgn at h; omega

/-- The greatest degree; -1: of none. -/
def topT : Pl → Int
  | [] => -1
  | t :: _ => t.e.sum

theorem topT_ge {lo p o : Int} {n : Nat} {B : Int} : ∀ {f : Pl}, PB lo p o n B f → ∀ t ∈ f, t.e.sum ≤ topT f
  | t :: f, h, x, hx => by
    rcases List.mem_cons.1 hx with rfl | hx
    · exact Int.le_refl _
    · exact cmpM_deg (h.below x hx)

end Go.Proofs.YtcdihmhmoddppaaGreat

namespace Go.Proofs.YtcdihmhmoddppaaGreat
set_option linter.unusedVariables false
set_option linter.unusedSimpArgs false

def behind (o : Int) (prev : Option Tm) (t : Tm) : Bool := match prev with
  | none => false
  | some u => decide (0 ≤ cmpM o t.e u.e)

def polyGo (r : Rg) : Option Tm → Pl → Int
  | _, [] => 0
  | prev, t :: f => if t.c < 1 ∨ r.p ≤ t.c then 3 else if monoCk r t.e ≠ 0 then monoCk r t.e else if behind r.order prev t = true then 4 else polyGo r (some t) f

def polyCk (r : Rg) (f : Pl) : Int := if 2000 < f.length then 2 else polyGo r none f

def polysGo (r : Rg) : Vc → Int
  | [] => 0
  | f :: l => if polyCk r f = 0 then polysGo r l else polyCk r f

def polysCk (r : Rg) (l : Vc) : Int := if ringCk r = 0 then polysGo r l else ringCk r

def prevAt (f : Pl) (k : Nat) : Option Tm := if k = 0 then none else f[k - 1]?

theorem polyGo_drop {r : Rg} {f : Pl} {k : Nat} (h : k < f.length) : polyGo r (prevAt f k) (f.drop k) = if f[k].c < 1 ∨ r.p ≤ f[k].c then 3 else if monoCk r f[k].e ≠ 0 then monoCk r f[k].e else if behind r.order (prevAt f k) f[k] = true then 4 else polyGo r (prevAt f (k + 1)) (f.drop (k + 1)) := by
  rw [List.drop_eq_getElem_cons h]
  have : prevAt f (k + 1) = some f[k] := by simp [prevAt, h]
  rw [this]
  rfl

/-- A polynomial that is right: with its ring's numbers. -/
structure POk (r : Rg) (f : Pl) : Prop where
  ok : PB 1 r.p r.order r.n.toNat 200 f
  deg : ∀ t ∈ f, t.e.sum ≤ 200
  len : f.length ≤ 2000

theorem POk.nil (r : Rg) : POk r [] := ⟨PB.nil _ _ _ _ _, fun t h => (by cases h), by simp⟩

theorem polyGo_ok {r : Rg} (hr : r.n ≤ 3) (hr0 : 0 ≤ r.n) : ∀ {f : Pl} {prev : Option Tm}, polyGo r prev f = 0 → (∀ u, prev = some u → (u.e.length : Int) = r.n) →
    PB 1 r.p r.order r.n.toNat 200 f ∧ (∀ t ∈ f, t.e.sum ≤ 200) ∧ ∀ u, prev = some u → Below r.order u.e f
  | [], prev, _, _ => ⟨PB.nil _ _ _ _ _, fun t h => (by cases h), fun u _ t h => (by cases h)⟩
  | t :: f, prev, h, hu => by
    unfold polyGo at h
    split at h
    · cases h
    · rename_i h1
      split at h
      · rename_i h2; exact absurd h h2
      · rename_i h2
        split at h
        · cases h
        · rename_i h3
          have h2' : monoCk r t.e = 0 := Classical.byContradiction fun h => h2 h
          obtain ⟨m1, m2, m3, m4⟩ := MOk.of hr h2'
          obtain ⟨i1, i2, i3⟩ := polyGo_ok hr hr0 h fun u hu => by cases hu; exact m2
          have ht : TB 1 r.p r.n.toNat 200 t := ⟨by omega, by omega, by omega, fun x hx => inE_iff.1 (List.all_eq_true.1 m3 x hx)⟩
          have hb := i3 t rfl
          refine ⟨.cons ht hb i1, fun x hx => ?_, fun u hpu => ?_⟩
          · rcases List.mem_cons.1 hx with rfl | hx
            · exact m4
            · exact i2 x hx
          · subst hpu
            have hlt : 0 < cmpM r.order u.e t.e := by
              have h4 : ¬ 0 ≤ cmpM r.order t.e u.e := by simpa [behind] using h3
              have := cmpM_anti r.order u.e t.e
              omega
            exact Below.trans (n := r.n.toNat) (by have := hu u rfl; omega) (PB.cons ht hb i1) hlt

theorem polyCk_ok {r : Rg} (hr : ringCk r = 0) {f : Pl} (h : polyCk r f = 0) : POk r f := by
  have hr2 := (ringCk_ok hr).2.1
  unfold polyCk at h
  split at h
  · cases h
  · rename_i hl
    obtain ⟨h1, h2, _⟩ := polyGo_ok hr2.2 (by omega) h fun u hu => by cases hu
    exact ⟨h1, h2, by omega⟩

theorem polysGo_mem {r : Rg} : ∀ {l : Vc}, polysGo r l = 0 → ∀ f ∈ l, polyCk r f = 0
  | f :: l, h, g, hg => by
    unfold polysGo at h
    split at h
    · rename_i h1
      rcases List.mem_cons.1 hg with rfl | hg
      · exact h1
      · exact polysGo_mem h g hg
    · rename_i h1; exact absurd h h1

theorem polysGo_drop {r : Rg} {l : Vc} {k : Nat} (h : k < l.length) : polysGo r (l.drop k) = if polyCk r l[k] = 0 then polysGo r (l.drop (k + 1)) else polyCk r l[k] := by
  rw [List.drop_eq_getElem_cons h]
  rfl

theorem polysCk_ok {r : Rg} {l : Vc} (h : polysCk r l = 0) : ringCk r = 0 ∧ ∀ f ∈ l, POk r f := by
  unfold polysCk at h
  split at h
  · rename_i hr
    exact ⟨hr, fun f hf => polyCk_ok hr (polysGo_mem h f hf)⟩
  · rename_i hr; exact absurd h hr

/-- Too great? -/
def greatT (f : Pl) : Bool := decide (200 < topT f) || decide (2000 < f.length)

/-- What comes, if it is not too great. -/
def doneT (f : Pl) : Pl × Int := if greatT f = true then ([], 2) else (f, 0)

end Go.Proofs.YtcdihmhmoddppaaGreat

namespace Go.Proofs.YtcdihmhmoddppaaGreat
open Go.RowKit
set_option linter.unusedVariables false
set_option linter.unusedSimpArgs false
set_option maxHeartbeats 8000000

theorem pOwn_pure (r : Rg) (f : Pl) (hr : ringCk r = 0) (hl : f.length ≤ 4611686018427387904) : Pure Tryz.prog 110 [rgD r, plD f] (I (polyCk r f)) := by
  have hr2 := ringCk_ok hr
  intro H
  refine PureH.of_body Tryz.func110 rfl (by decide) (Nat.le_of_ble_eq_true rfl) fun w0 => ?_
  (repeat (first | refine RO.Sv ?_ | refine RO.Yv ?_ | refine RO.no rfl (by decide) rfl ?_ | refine RO.nil ?_ | refine DW.region ?_ | refine DW.seq ?_ | refine DW.block ?_ | refine DW.skip ?_ | refine DW.exit ?_ | refine DW.condT rfl ?_ | refine DW.condF rfl ?_))
  refine DW.cond rfl (fun hb => ?_) (fun hb => ?_)
  · have h : polyCk r f = 2 := by unfold polyCk; rw [if_pos (by have := of_decide_eq_true hb; omega)]
    rw [h]
    (repeat (first | refine RO.Sv ?_ | refine RO.Yv ?_ | refine RO.no rfl (by decide) rfl ?_ | refine RO.nil ?_ | refine DW.region ?_ | refine DW.seq ?_ | refine DW.block ?_ | refine DW.skip ?_ | refine DW.exit ?_ | refine DW.condT rfl ?_ | refine DW.condF rfl ?_))
    exact DW.ret ⟨.inl rfl, _, rfl, Over.refl _, .same _⟩
  have hck : polyCk r f = polyGo r none f := by unfold polyCk; rw [if_neg (by have := of_decide_eq_false hb; omega)]
  rw [hck]
  clear hb
  (repeat (first | refine RO.Sv ?_ | refine RO.Yv ?_ | refine RO.no rfl (by decide) rfl ?_ | refine RO.nil ?_ | refine DW.region ?_ | refine DW.seq ?_ | refine DW.block ?_ | refine DW.skip ?_ | refine DW.exit ?_ | refine DW.condT rfl ?_ | refine DW.condF rfl ?_))
  refine DW.loopG (fun k : Nat => k ≤ f.length ∧ polyGo r (prevAt f k) (f.drop k) = polyGo r none f ∧ ∀ (j : Nat) (hj : j < f.length), j < k → monoCk r f[j].e = 0) (fun k => [(1, plD f), (2, .ipt 4 [rgD r] 0 0), (11, plD f), (12, I f.length), (13, I k)]) (fun _ => H) (fun k => f.length - k) 0
    ⟨Nat.zero_le _, rfl, fun j hj h => absurd h (Nat.not_lt_zero _)⟩ (Heap.sub_refl _) (.one rfl (.one rfl (.one rfl (.one rfl (.one rfl trivial))))) fun k ⟨hk, hg, hm⟩ => ?_
  (repeat (first | refine RO.Sv ?_ | refine RO.Yv ?_ | refine RO.no rfl (by decide) rfl ?_ | refine RO.nil ?_ | refine DW.region ?_ | refine DW.seq ?_ | refine DW.block ?_ | refine DW.skip ?_ | refine DW.exit ?_ | refine DW.condT rfl ?_ | refine DW.condF rfl ?_))
  refine DW.cond rfl (fun hb => ?_) (fun hb => ?_)
  · have hlt : k < f.length := by have := of_decide_eq_true hb; omega
    rw [polyGo_drop hlt] at hg
    clear hb
    (repeat (first | refine RO.Sv ?_ | refine RO.Yv ?_ | refine RO.no rfl (by decide) rfl ?_ | refine RO.nil ?_ | refine DW.region ?_ | refine DW.seq ?_ | refine DW.block ?_ | refine DW.skip ?_ | refine DW.exit ?_ | refine DW.condT rfl ?_ | refine DW.condF rfl ?_))
    (refine RO.dyn rfl (d_alloc fun bv hbv => ?_); (repeat (first | refine RO.Sv ?_ | refine RO.Yv ?_ | refine RO.no rfl (by decide) rfl ?_)); refine RO.dyn rfl (d_storeTm rfl rfl (Heap.set_self _ _ _) rfl ?_); rw [Heap.set_set])
    (repeat (first | refine RO.Sv ?_ | refine RO.Yv ?_ | refine RO.no rfl (by decide) rfl ?_ | refine RO.nil ?_ | refine DW.region ?_ | refine DW.seq ?_ | refine DW.block ?_ | refine DW.skip ?_ | refine DW.exit ?_ | refine DW.condT rfl ?_ | refine DW.condF rfl ?_))
    cases h1 : decide (f[k].c < 1)
    case true =>
      rw [if_pos (.inl (of_decide_eq_true h1))] at hg
      rw [← hg]
      (repeat (first | refine RO.Sv ?_ | refine RO.Yv ?_ | refine RO.no rfl (by decide) rfl ?_ | refine RO.nil ?_ | refine DW.region ?_ | refine DW.seq ?_ | refine DW.block ?_ | refine DW.skip ?_ | refine DW.exit ?_ | refine DW.condT rfl ?_ | refine DW.condF rfl ?_))
      exact DW.ret ⟨.inl rfl, _, rfl, (Over.refl _).set hbv, .same _⟩
    have g1 := of_decide_eq_false h1
    (repeat (first | refine RO.Sv ?_ | refine RO.Yv ?_ | refine RO.no rfl (by decide) rfl ?_ | refine RO.nil ?_ | refine DW.region ?_ | refine DW.seq ?_ | refine DW.block ?_ | refine DW.skip ?_ | refine DW.exit ?_ | refine DW.condT rfl ?_ | refine DW.condF rfl ?_))
    cases h2 : decide (r.p ≤ f[k].c)
    case true =>
      rw [if_pos (.inr (of_decide_eq_true h2))] at hg
      rw [← hg]
      (repeat (first | refine RO.Sv ?_ | refine RO.Yv ?_ | refine RO.no rfl (by decide) rfl ?_ | refine RO.nil ?_ | refine DW.region ?_ | refine DW.seq ?_ | refine DW.block ?_ | refine DW.skip ?_ | refine DW.exit ?_ | refine DW.condT rfl ?_ | refine DW.condF rfl ?_))
      exact DW.ret ⟨.inl rfl, _, rfl, (Over.refl _).set hbv, .same _⟩
    have g2 := of_decide_eq_false h2
    rw [if_neg (by omega)] at hg
    (repeat (first | refine RO.Sv ?_ | refine RO.Yv ?_ | refine RO.no rfl (by decide) rfl ?_ | refine RO.nil ?_ | refine DW.region ?_ | refine DW.seq ?_ | refine DW.block ?_ | refine DW.skip ?_ | refine DW.exit ?_ | refine DW.condT rfl ?_ | refine DW.condF rfl ?_))
    refine RO.sta (sta_call rfl rfl (Own_pure r f[k].e hr2.2.1.2 _)) rfl ?_
    (repeat (first | refine RO.Sv ?_ | refine RO.Yv ?_ | refine RO.no rfl (by decide) rfl ?_ | refine RO.nil ?_ | refine DW.region ?_ | refine DW.seq ?_ | refine DW.block ?_ | refine DW.skip ?_ | refine DW.exit ?_ | refine DW.condT rfl ?_ | refine DW.condF rfl ?_))
    by_cases hmk : monoCk r f[k].e = 0
    case neg =>
      rw [if_pos hmk] at hg
      rw [← hg, show (monoCk r f[k].e != 0) = true by simpa using hmk]
      (repeat (first | refine RO.Sv ?_ | refine RO.Yv ?_ | refine RO.no rfl (by decide) rfl ?_ | refine RO.nil ?_ | refine DW.region ?_ | refine DW.seq ?_ | refine DW.block ?_ | refine DW.skip ?_ | refine DW.exit ?_ | refine DW.condT rfl ?_ | refine DW.condF rfl ?_))
      exact DW.ret ⟨.inl rfl, _, rfl, (Over.refl _).set hbv, .same _⟩
    rw [if_neg (by simpa using hmk)] at hg
    rw [show (monoCk r f[k].e != 0) = false by simpa using hmk]
    (repeat (first | refine RO.Sv ?_ | refine RO.Yv ?_ | refine RO.no rfl (by decide) rfl ?_ | refine RO.nil ?_ | refine DW.region ?_ | refine DW.seq ?_ | refine DW.block ?_ | refine DW.skip ?_ | refine DW.exit ?_ | refine DW.condT rfl ?_ | refine DW.condF rfl ?_))
    refine DW.drawS 15 Tryz.mixed (by kernel_rfl) (by decide) ?_
    dsimp only [List.take, List.drop]
    (repeat (first | refine RS.Sv ?_ | refine RS.Yv ?_ | refine RS.no rfl (by decide) rfl ?_ | refine RS.nil ?_))
    have next : behind r.order (prevAt f k) f[k] = false → polyGo r (prevAt f (k + 1)) (f.drop (k + 1)) = polyGo r none f ∧ ∀ (j : Nat) (hj : j < f.length), j < k + 1 → monoCk r f[j].e = 0 := fun h => by
      rw [if_neg (by rw [h]; simp)] at hg
      refine ⟨hg, fun j hj hjk => ?_⟩
      by_cases hjk2 : j = k
      · subst hjk2; exact hmk
      · exact hm j hj (by omega)
    cases h3 : decide ((0 : Int) < (k : Int))
    case false =>
      have hk0 : k = 0 := by have := of_decide_eq_false h3; omega
      have hbf : behind r.order (prevAt f k) f[k] = false := by rw [show prevAt f k = none by simp [prevAt, hk0]]; rfl
      obtain ⟨n1, n2⟩ := next hbf
      (repeat (first | refine RS.Sv ?_ | refine RS.Yv ?_ | refine RS.no rfl (by decide) rfl ?_ | refine RS.nil ?_))
      (repeat (first | refine RO.Sv ?_ | refine RO.Yv ?_ | refine RO.no rfl (by decide) rfl ?_ | refine RO.nil ?_ | refine DW.region ?_ | refine DW.seq ?_ | refine DW.block ?_ | refine DW.skip ?_ | refine DW.exit ?_ | refine DW.condT rfl ?_ | refine DW.condF rfl ?_))
      exact ⟨k + 1, ⟨hlt, n1, n2⟩, by dsimp only; omega, Heap.sub_set _ hbv, .one rfl (.one rfl (.one rfl (.one rfl (.one rfl trivial))))⟩
    have hk0 : 0 < k := by have := of_decide_eq_true h3; omega
    have hpv : prevAt f k = some (f[k - 1]'(by omega)) := by
      unfold prevAt
      rw [if_neg (by omega), List.getElem?_eq_getElem (by omega)]
    obtain ⟨m1, m2, _, _⟩ := MOk.of hr2.2.1.2 hmk
    obtain ⟨p1, p2, _, _⟩ := MOk.of hr2.2.1.2 (hm (k - 1) (by omega) (by omega))
    (repeat (first | refine RS.Sv ?_ | refine RS.Yv ?_ | refine RS.no rfl (by decide) rfl ?_ | refine RS.nil ?_))
    refine RS.yes rfl (fun H' hov => s_indexI (i := k - 1) rfl rfl (by omega) (by omega)) rfl ?_
    (repeat (first | refine RS.Sv ?_ | refine RS.Yv ?_ | refine RS.no rfl (by decide) rfl ?_ | refine RS.nil ?_))
    refine RS.yes rfl (fun H' hov => sta_call rfl rfl (Compare_pure r m1 p1 (by omega) _)) rfl ?_
    (repeat (first | refine RS.Sv ?_ | refine RS.Yv ?_ | refine RS.no rfl (by decide) rfl ?_ | refine RS.nil ?_))
    cases h4 : decide (0 ≤ cmpM r.order f[k].e (f[k - 1]'(by omega)).e)
    case true =>
      have hbt : behind r.order (prevAt f k) f[k] = true := by rw [hpv]; exact h4
      rw [if_pos hbt] at hg
      rw [← hg]
      (repeat (first | refine RO.Sv ?_ | refine RO.Yv ?_ | refine RO.no rfl (by decide) rfl ?_ | refine RO.nil ?_ | refine DW.region ?_ | refine DW.seq ?_ | refine DW.block ?_ | refine DW.skip ?_ | refine DW.exit ?_ | refine DW.condT rfl ?_ | refine DW.condF rfl ?_))
      exact DW.ret ⟨.inl rfl, _, rfl, (Over.refl _).set hbv, .same _⟩
    have hbf : behind r.order (prevAt f k) f[k] = false := by rw [hpv]; exact h4
    obtain ⟨n1, n2⟩ := next hbf
    (repeat (first | refine RO.Sv ?_ | refine RO.Yv ?_ | refine RO.no rfl (by decide) rfl ?_ | refine RO.nil ?_ | refine DW.region ?_ | refine DW.seq ?_ | refine DW.block ?_ | refine DW.skip ?_ | refine DW.exit ?_ | refine DW.condT rfl ?_ | refine DW.condF rfl ?_))
    exact ⟨k + 1, ⟨hlt, n1, n2⟩, by dsimp only; omega, Heap.sub_set _ hbv, .one rfl (.one rfl (.one rfl (.one rfl (.one rfl trivial))))⟩
  · have hke : k = f.length := by have := of_decide_eq_false hb; omega
    have h0 : polyGo r none f = 0 := by rw [← hg, hke, List.drop_length]; rfl
    rw [h0]
    (repeat (first | refine RO.Sv ?_ | refine RO.Yv ?_ | refine RO.no rfl (by decide) rfl ?_ | refine RO.nil ?_ | refine DW.region ?_ | refine DW.seq ?_ | refine DW.block ?_ | refine DW.skip ?_ | refine DW.exit ?_ | refine DW.condT rfl ?_ | refine DW.condF rfl ?_))
    exact DW.ret ⟨.inl rfl, _, rfl, Over.refl _, .same _⟩

theorem CheckOne_pure (r : Rg) (f : Pl) (hr : ringCk r = 0) (hl : f.length ≤ 4611686018427387904) : Pure Tryz.prog 55 [rgD r, plD f] (I (polyCk r f)) := by
  have hr2 := ringCk_ok hr
  have hp2 := ckP_ok hr2.1
  intro H
  refine PureH.of_body Tryz.func55 rfl (by decide) (Nat.le_of_ble_eq_true rfl) fun w0 => ?_
  (repeat (first | refine RO.Sv ?_ | refine RO.Yv ?_ | refine RO.no rfl (by decide) rfl ?_ | refine RO.nil ?_ | refine DW.region ?_ | refine DW.seq ?_ | refine DW.block ?_ | refine DW.skip ?_ | refine DW.exit ?_ | refine DW.condT rfl ?_ | refine DW.condF rfl ?_))
  refine DW.cond rfl (fun hb => ?_) (fun hb => ?_)
  · have h : polyCk r f = 2 := by unfold polyCk; rw [if_pos (by have := of_decide_eq_true hb; omega)]
    rw [h]
    (repeat (first | refine RO.Sv ?_ | refine RO.Yv ?_ | refine RO.no rfl (by decide) rfl ?_ | refine RO.nil ?_ | refine DW.region ?_ | refine DW.seq ?_ | refine DW.block ?_ | refine DW.skip ?_ | refine DW.exit ?_ | refine DW.condT rfl ?_ | refine DW.condF rfl ?_))
    exact DW.ret ⟨.inl rfl, _, rfl, Over.refl _, .same _⟩
  have hck : polyCk r f = polyGo r none f := by unfold polyCk; rw [if_neg (by have := of_decide_eq_false hb; omega)]
  rw [hck]
  clear hb
  (repeat (first | refine RO.Sv ?_ | refine RO.Yv ?_ | refine RO.no rfl (by decide) rfl ?_ | refine RO.nil ?_ | refine DW.region ?_ | refine DW.seq ?_ | refine DW.block ?_ | refine DW.skip ?_ | refine DW.exit ?_ | refine DW.condT rfl ?_ | refine DW.condF rfl ?_))
  refine DW.loopI (fun k : Nat => k ≤ f.length ∧ polyGo r (prevAt f k) (f.drop k) = polyGo r none f ∧ ∀ (j : Nat) (hj : j < f.length), j < k → monoCk r f[j].e = 0) (fun k => [(1, plD f), (2, .ipt 4 [rgD r] 0 0), (5, I k)]) (fun _ => H) (fun k => f.length - k) 0
    ⟨Nat.zero_le _, rfl, fun j hj h => absurd h (Nat.not_lt_zero _)⟩ rfl ⟨rfl, rfl, rfl, trivial⟩ fun k ⟨hk, hg, hm⟩ => ?_
  (repeat (first | refine RO.Sv ?_ | refine RO.Yv ?_ | refine RO.no rfl (by decide) rfl ?_ | refine RO.nil ?_ | refine DW.region ?_ | refine DW.seq ?_ | refine DW.block ?_ | refine DW.skip ?_ | refine DW.exit ?_ | refine DW.condT rfl ?_ | refine DW.condF rfl ?_))
  refine DW.cond rfl (fun hb => ?_) (fun hb => ?_)
  · have hlt : k < f.length := by have := of_decide_eq_true hb; omega
    rw [polyGo_drop hlt] at hg
    clear hb
    (repeat (first | refine RO.Sv ?_ | refine RO.Yv ?_ | refine RO.no rfl (by decide) rfl ?_ | refine RO.nil ?_ | refine DW.region ?_ | refine DW.seq ?_ | refine DW.block ?_ | refine DW.skip ?_ | refine DW.exit ?_ | refine DW.condT rfl ?_ | refine DW.condF rfl ?_))
    refine DW.drawS 10 Tryz.mixed (by kernel_rfl) (by decide) ?_
    dsimp only [List.take, List.drop]
    (repeat (first | refine RS.Sv ?_ | refine RS.Yv ?_ | refine RS.no rfl (by decide) rfl ?_ | refine RS.nil ?_))
    refine RS.sta (fun H' hov => sta_call rfl rfl (between_pure _ _ _ _)) rfl ?_
    (repeat (first | refine RS.Sv ?_ | refine RS.Yv ?_ | refine RS.no rfl (by decide) rfl ?_ | refine RS.nil ?_))
    cases h1 : (decide (1 ≤ f[k].c) && decide (f[k].c ≤ r.p - 1))
    case false =>
      have hbad : f[k].c < 1 ∨ r.p ≤ f[k].c := by
        simp only [Bool.and_eq_false_iff, decide_eq_false_iff_not] at h1
        omega
      rw [if_pos hbad] at hg
      rw [← hg]
      (repeat (first | refine RO.Sv ?_ | refine RO.Yv ?_ | refine RO.no rfl (by decide) rfl ?_ | refine RO.nil ?_ | refine DW.region ?_ | refine DW.seq ?_ | refine DW.block ?_ | refine DW.skip ?_ | refine DW.exit ?_ | refine DW.condT rfl ?_ | refine DW.condF rfl ?_))
      exact DW.ret ⟨.inl rfl, _, rfl, Over.refl _, .same _⟩
    have hgood : ¬ (f[k].c < 1 ∨ r.p ≤ f[k].c) := by
      simp only [Bool.and_eq_true, decide_eq_true_eq] at h1
      omega
    rw [if_neg hgood] at hg
    (repeat (first | refine RO.Sv ?_ | refine RO.Yv ?_ | refine RO.no rfl (by decide) rfl ?_ | refine RO.nil ?_ | refine DW.region ?_ | refine DW.seq ?_ | refine DW.block ?_ | refine DW.skip ?_ | refine DW.exit ?_ | refine DW.condT rfl ?_ | refine DW.condF rfl ?_))
    refine DW.drawS 8 Tryz.mixed (by kernel_rfl) (by decide) ?_
    dsimp only [List.take, List.drop]
    (repeat (first | refine RS.Sv ?_ | refine RS.Yv ?_ | refine RS.no rfl (by decide) rfl ?_ | refine RS.nil ?_))
    refine RS.sta (fun H' hov => sta_call rfl rfl (CheckMono_pure r f[k].e hr2.2.1.2 _)) rfl ?_
    (repeat (first | refine RS.Sv ?_ | refine RS.Yv ?_ | refine RS.no rfl (by decide) rfl ?_ | refine RS.nil ?_))
    (repeat (first | refine RO.Sv ?_ | refine RO.Yv ?_ | refine RO.no rfl (by decide) rfl ?_ | refine RO.nil ?_ | refine DW.region ?_ | refine DW.seq ?_ | refine DW.block ?_ | refine DW.skip ?_ | refine DW.exit ?_ | refine DW.condT rfl ?_ | refine DW.condF rfl ?_))
    by_cases hmk : monoCk r f[k].e = 0
    case neg =>
      rw [if_pos hmk] at hg
      rw [← hg, show (monoCk r f[k].e != 0) = true by simpa using hmk]
      (repeat (first | refine RO.Sv ?_ | refine RO.Yv ?_ | refine RO.no rfl (by decide) rfl ?_ | refine RO.nil ?_ | refine DW.region ?_ | refine DW.seq ?_ | refine DW.block ?_ | refine DW.skip ?_ | refine DW.exit ?_ | refine DW.condT rfl ?_ | refine DW.condF rfl ?_))
      exact DW.ret ⟨.inl rfl, _, rfl, Over.refl _, .same _⟩
    rw [if_neg (by simpa using hmk)] at hg
    rw [show (monoCk r f[k].e != 0) = false by simpa using hmk]
    (repeat (first | refine RO.Sv ?_ | refine RO.Yv ?_ | refine RO.no rfl (by decide) rfl ?_ | refine RO.nil ?_ | refine DW.region ?_ | refine DW.seq ?_ | refine DW.block ?_ | refine DW.skip ?_ | refine DW.exit ?_ | refine DW.condT rfl ?_ | refine DW.condF rfl ?_))
    refine DW.drawS 18 Tryz.mixed (by kernel_rfl) (by decide) ?_
    dsimp only [List.take, List.drop]
    (repeat (first | refine RS.Sv ?_ | refine RS.Yv ?_ | refine RS.no rfl (by decide) rfl ?_ | refine RS.nil ?_))
    have next : behind r.order (prevAt f k) f[k] = false → polyGo r (prevAt f (k + 1)) (f.drop (k + 1)) = polyGo r none f ∧ ∀ (j : Nat) (hj : j < f.length), j < k + 1 → monoCk r f[j].e = 0 := fun h => by
      rw [if_neg (by rw [h]; simp)] at hg
      refine ⟨hg, fun j hj hjk => ?_⟩
      by_cases hjk2 : j = k
      · subst hjk2; exact hmk
      · exact hm j hj (by omega)
    cases h3 : decide ((0 : Int) < (k : Int))
    case false =>
      have hk0 : k = 0 := by have := of_decide_eq_false h3; omega
      have hbf : behind r.order (prevAt f k) f[k] = false := by rw [show prevAt f k = none by simp [prevAt, hk0]]; rfl
      obtain ⟨n1, n2⟩ := next hbf
      (repeat (first | refine RS.Sv ?_ | refine RS.Yv ?_ | refine RS.no rfl (by decide) rfl ?_ | refine RS.nil ?_))
      (repeat (first | refine RO.Sv ?_ | refine RO.Yv ?_ | refine RO.no rfl (by decide) rfl ?_ | refine RO.nil ?_ | refine DW.region ?_ | refine DW.seq ?_ | refine DW.block ?_ | refine DW.skip ?_ | refine DW.exit ?_ | refine DW.condT rfl ?_ | refine DW.condF rfl ?_))
      exact ⟨k + 1, ⟨hlt, n1, n2⟩, by dsimp only; omega, rfl, rfl, rfl, rfl, trivial⟩
    have hk0 : 0 < k := by have := of_decide_eq_true h3; omega
    have hpv : prevAt f k = some (f[k - 1]'(by omega)) := by
      unfold prevAt
      rw [if_neg (by omega), List.getElem?_eq_getElem (by omega)]
    obtain ⟨m1, m2, _, _⟩ := MOk.of hr2.2.1.2 hmk
    obtain ⟨p1, p2, _, _⟩ := MOk.of hr2.2.1.2 (hm (k - 1) (by omega) (by omega))
    (repeat (first | refine RS.Sv ?_ | refine RS.Yv ?_ | refine RS.no rfl (by decide) rfl ?_ | refine RS.nil ?_))
    refine RS.yes rfl (fun H' hov => s_indexI (i := k - 1) rfl rfl (by omega) (by omega)) rfl ?_
    (repeat (first | refine RS.Sv ?_ | refine RS.Yv ?_ | refine RS.no rfl (by decide) rfl ?_ | refine RS.nil ?_))
    refine RS.yes rfl (fun H' hov => sta_call rfl rfl (More_pure r p1 m1 (by omega) _)) rfl ?_
    (repeat (first | refine RS.Sv ?_ | refine RS.Yv ?_ | refine RS.no rfl (by decide) rfl ?_ | refine RS.nil ?_))
    have hanti := cmpM_anti r.order (f[k - 1]'(by omega)).e f[k].e
    cases h4 : decide (0 < cmpM r.order (f[k - 1]'(by omega)).e f[k].e)
    case false =>
      have hbt : behind r.order (prevAt f k) f[k] = true := by rw [hpv]; exact decide_eq_true (by have := of_decide_eq_false h4; omega)
      rw [if_pos hbt] at hg
      rw [← hg]
      (repeat (first | refine RO.Sv ?_ | refine RO.Yv ?_ | refine RO.no rfl (by decide) rfl ?_ | refine RO.nil ?_ | refine DW.region ?_ | refine DW.seq ?_ | refine DW.block ?_ | refine DW.skip ?_ | refine DW.exit ?_ | refine DW.condT rfl ?_ | refine DW.condF rfl ?_))
      exact DW.ret ⟨.inl rfl, _, rfl, Over.refl _, .same _⟩
    have hbf : behind r.order (prevAt f k) f[k] = false := by rw [hpv]; exact decide_eq_false (by have := of_decide_eq_true h4; omega)
    obtain ⟨n1, n2⟩ := next hbf
    (repeat (first | refine RO.Sv ?_ | refine RO.Yv ?_ | refine RO.no rfl (by decide) rfl ?_ | refine RO.nil ?_ | refine DW.region ?_ | refine DW.seq ?_ | refine DW.block ?_ | refine DW.skip ?_ | refine DW.exit ?_ | refine DW.condT rfl ?_ | refine DW.condF rfl ?_))
    exact ⟨k + 1, ⟨hlt, n1, n2⟩, by dsimp only; omega, rfl, rfl, rfl, rfl, trivial⟩
  · have hke : k = f.length := by have := of_decide_eq_false hb; omega
    have h0 : polyGo r none f = 0 := by rw [← hg, hke, List.drop_length]; rfl
    rw [h0]
    (repeat (first | refine RO.Sv ?_ | refine RO.Yv ?_ | refine RO.no rfl (by decide) rfl ?_ | refine RO.nil ?_ | refine DW.region ?_ | refine DW.seq ?_ | refine DW.block ?_ | refine DW.skip ?_ | refine DW.exit ?_ | refine DW.condT rfl ?_ | refine DW.condF rfl ?_))
    exact DW.ret ⟨.inl rfl, _, rfl, Over.refl _, .same _⟩

end Go.Proofs.YtcdihmhmoddppaaGreat
