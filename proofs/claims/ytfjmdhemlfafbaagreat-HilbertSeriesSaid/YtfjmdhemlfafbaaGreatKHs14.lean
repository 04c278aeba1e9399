/-
  hilbert.monomials' iteration, on the world. No condition.
-/
import Derived.Test.YtfjmdhemlfafbaaGreatKHs13
import Derived.RangeFuncBox
import Derived.RangeFuncLeaves
import Derived.RangeFuncSeq
import Derived.WalkKit
import Derived.OwnWalkIn
import Derived.TacticsInMore
import Derived.LoopNIn
import Derived.LoopIn
import Derived.Test.YtfjmdhemlfafbaaGreatProg
import Derived.Test.YtfjmdhemlfafbaaGreatKHs3
import Derived.Test.YtfjmdhemlfafbaaGreatKHs8
set_option linter.unusedVariables false
set_option linter.unusedSimpArgs false

namespace Go.Proofs.YtfjmdhemlfafbaaGreat
open Go.RowKit

def monosT : Nat → Nat → List (List Int)
  | 0, t => if t = 0 then [[]] else []
  | 1, t => [[(t : Int)]]
  | n + 2, t => (List.range (t + 1)).flatMap fun i => (monosT (n + 1) (t - i)).map fun e => (i : Int) :: e

theorem monosT_mem : ∀ {n t : Nat} {e : List Int}, 0 < n → (e ∈ monosT n t ↔ Mn n e ∧ e.sum = t)
  | 0, t, e, h => by omega
  | 1, t, e, _ => by
    constructor
    · intro h
      have : e = [(t : Int)] := by simpa [monosT] using h
      subst this
      exact ⟨⟨rfl, fun x hx => by have := List.mem_singleton.1 hx; omega⟩, by simp⟩
    · rintro ⟨⟨h1, h2⟩, h3⟩
      match e, h1 with
      | [x], _ =>
        have : x = t := by simpa using h3
        subst this
        simp [monosT]
  | n + 2, t, e, _ => by
    constructor
    · intro h
      obtain ⟨i, hi, h⟩ := List.mem_flatMap.1 h
      obtain ⟨f, hf, rfl⟩ := List.mem_map.1 h
      obtain ⟨⟨h1, h2⟩, h3⟩ := (monosT_mem (by omega)).1 hf
      have := List.mem_range.1 hi
      refine ⟨⟨by simp [h1], fun x hx => ?_⟩, by rw [List.sum_cons, h3]; omega⟩
      rcases List.mem_cons.1 hx with rfl | hx
      · omega
      · exact h2 x hx
    · rintro ⟨⟨h1, h2⟩, h3⟩
      match e, h1 with
      | x :: f, h1 =>
        have hx := h2 x (by simp)
        have hf : ∀ y ∈ f, 0 ≤ y := fun y hy => h2 y (by simp [hy])
        have hs := sum_nonneg hf
        rw [List.sum_cons] at h3
        refine List.mem_flatMap.2 ⟨x.toNat, List.mem_range.2 (by omega), List.mem_map.2 ⟨f, (monosT_mem (by omega)).2 ⟨⟨by simpa using h1, hf⟩, by omega⟩, ?_⟩⟩
        rw [show ((x.toNat : Nat) : Int) = x by omega]

theorem monosT_nodup : ∀ (n t : Nat), (monosT n t).Nodup
  | 0, t => by unfold monosT; split <;> simp
  | 1, t => by unfold monosT; simp
  | n + 2, t => by
    unfold monosT List.Nodup
    rw [List.pairwise_flatMap]
    refine ⟨fun i _ => ?_, ?_⟩
    · rw [List.pairwise_map]
      exact (monosT_nodup (n + 1) (t - i)).imp fun hne he => hne (List.cons.inj he).2
    · refine (List.nodup_range (n := t + 1)).imp fun {i j} hij x hx y hy he => ?_
      obtain ⟨f, _, rfl⟩ := List.mem_map.1 hx
      obtain ⟨g, _, rfl⟩ := List.mem_map.1 hy
      have := (List.cons.inj he).1
      omega

def keysT (n k : Nat) (δ : Nat → Int) (τ : Int) : List (Nat × List Int) :=
  (List.range k).flatMap fun a => (if δ a ≤ τ then monosT n (τ - δ a).toNat else []).map fun e => (a, e)

theorem keysT_mem {n k : Nat} {δ : Nat → Int} {τ : Int} (hn : 0 < n) {a : Nat} {e : List Int} : (a, e) ∈ keysT n k δ τ ↔ a < k ∧ Mn n e ∧ e.sum + δ a = τ := by
  constructor
  · intro h
    obtain ⟨b, hb, h⟩ := List.mem_flatMap.1 h
    obtain ⟨f, hf, he⟩ := List.mem_map.1 h
    cases he
    split at hf
    · obtain ⟨h1, h2⟩ := (monosT_mem hn).1 hf
      exact ⟨List.mem_range.1 hb, h1, by omega⟩
    · cases hf
  · rintro ⟨h1, h2, h3⟩
    have hs := h2.sum0
    refine List.mem_flatMap.2 ⟨a, List.mem_range.2 h1, List.mem_map.2 ⟨e, ?_, rfl⟩⟩
    rw [if_pos (by omega)]
    exact (monosT_mem hn).2 ⟨h2, by omega⟩

theorem keysT_nodup (n k : Nat) (δ : Nat → Int) (τ : Int) : (keysT n k δ τ).Nodup := by
  unfold keysT List.Nodup
  rw [List.pairwise_flatMap]
  refine ⟨fun a _ => ?_, ?_⟩
  · rw [List.pairwise_map]
    have h : (if δ a ≤ τ then monosT n (τ - δ a).toNat else []).Nodup := by
      split
      · exact monosT_nodup _ _
      · simp
    exact h.imp fun hne he => hne (Prod.mk.inj he).2
  · refine (List.nodup_range (n := k)).imp fun {i j} hij x hx y hy he => ?_
    obtain ⟨f, _, rfl⟩ := List.mem_map.1 hx
    obtain ⟨g, _, rfl⟩ := List.mem_map.1 hy
    exact hij (Prod.mk.inj he).1

theorem goes_add : ∀ {u m : List Int}, u.length = m.length → (∀ x ∈ m, 0 ≤ x) → goesM (zipE (· + ·) u m) u = true
  | [], _, _, _ => by simp [zipE, goesM]
  | x :: u, y :: m, h, hp => by
    have := goes_add (u := u) (m := m) (by simpa using h) fun z hz => hp z (by simp [hz])
    have hy := hp y (by simp)
    show goesM ((x + y) :: zipE (· + ·) u m) (x :: u) = true
    unfold goesM
    rw [if_neg (by omega)]
    exact this

theorem add_sub_e : ∀ {u m : List Int}, u.length = m.length → zipE (· - ·) (zipE (· + ·) u m) u = m
  | [], [], _ => rfl
  | x :: u, y :: m, h => by
    have := add_sub_e (u := u) (m := m) (by simpa using h)
    show (x + y - x) :: zipE (· - ·) (zipE (· + ·) u m) u = y :: m
    rw [this, show x + y - x = y by omega]

theorem goes_max : ∀ {e a b : List Int}, a.length = b.length → goesM e a = true → goesM e b = true → goesM e (zipE max a b) = true
  | [], _, _, _, _, _ => by simp [goesM]
  | z :: e, [], [], _, _, _ => by simp [zipE, goesM]
  | z :: e, x :: a, y :: b, h, h1, h2 => by
    unfold goesM at h1 h2
    split at h1
    · cases h1
    · split at h2
      · cases h2
      · have := goes_max (e := e) (a := a) (b := b) (by simpa using h) h1 h2
        show goesM (z :: e) (max x y :: zipE max a b) = true
        unfold goesM
        rw [if_neg (by omega)]
        exact this

theorem goes_of_max : ∀ {a b : List Int}, a.length = b.length → goesM (zipE max a b) a = true ∧ goesM (zipE max a b) b = true
  | [], [], _ => by simp [zipE, goesM]
  | x :: a, y :: b, h => by
    obtain ⟨h1, h2⟩ := goes_of_max (a := a) (b := b) (by simpa using h)
    show goesM (max x y :: zipE max a b) (x :: a) = true ∧ goesM (max x y :: zipE max a b) (y :: b) = true
    unfold goesM
    rw [if_neg (by omega), if_neg (by omega)]
    exact ⟨h1, h2⟩

theorem goes_trans : ∀ {a b c : List Int}, a.length = b.length → b.length = c.length → goesM a b = true → goesM b c = true → goesM a c = true
  | [], [], [], _, _, _, _ => by simp [goesM]
  | x :: a, y :: b, z :: c, h1, h2, h3, h4 => by
    unfold goesM at h3 h4 ⊢
    split at h3
    · cases h3
    · split at h4
      · cases h4
      · rw [if_neg (by omega)]
        exact goes_trans (by simpa using h1) (by simpa using h2) h3 h4

theorem goes_self : ∀ (a : List Int), goesM a a = true
  | [] => rfl
  | x :: a => by unfold goesM; rw [if_neg (by omega)]; exact goes_self a

theorem goes_rest {n : Nat} {a b : List Int} (ha : Mn n a) (hb : Mn n b) (h : goesM a b = true) : Mn n (zipE (· - ·) a b) ∧ zipE (· + ·) b (zipE (· - ·) a b) = a ∧ (zipE (· - ·) a b).sum = a.sum - b.sum := by
  obtain ⟨h1, h2, h3⟩ := goesM_sub (by rw [ha.len, hb.len]) h
  exact ⟨⟨zipE_same_len ha.len hb.len, h2⟩, h1, h3⟩

theorem add_cancel {n : Nat} {u x y : List Int} (hu : u.length = n) (hx : x.length = n) (hy : y.length = n) (h : zipE (· + ·) u x = zipE (· + ·) u y) : x = y := by
  have h1 := add_sub_e (u := u) (m := x) (by omega)
  have h2 := add_sub_e (u := u) (m := y) (by omega)
  rw [h] at h1
  rw [← h1, h2]

structure Mb where
  v : Vc
  a : Nat
  u : Tm
  y : Vc

instance : Inhabited Mb := ⟨⟨[], 0, ⟨0, []⟩, []⟩⟩

def Mb.dg (δ : Nat → Int) (x : Mb) : Int := x.u.e.sum + δ x.a

structure MbOk (r : Rg) (k : Nat) (δ : Nat → Int) (x : Mb) : Prop where
  hv : HV r k δ (x.dg δ) x.v
  top : topV r x.v = some (x.a, x.u)

theorem MbOk.ld {r : Rg} {k : Nat} {δ : Nat → Int} {x : Mb} (hc : Cx r k δ) (h : MbOk r k δ x) : x.a < k ∧ TB 1 r.p r.n.toNat 8000 x.u ∧ ME r.n.toNat x.u.e := by
  have := h.hv.top hc h.top
  exact ⟨this.1, this.2.1, this.2.2.1⟩

def Row (r : Rg) (δ : Nat → Int) (G : List Mb) (τ : Int) (X : Fu) : Prop := ∃ x ∈ G, ∃ m, Mn r.n.toNat m ∧ m.sum + x.dg δ = τ ∧ X = mulF m (ev x.v)

def RowLt (r : Rg) (δ : Nat → Int) (G : List Mb) (τ : Int) (a : Nat) (L : List Int) (X : Fu) : Prop :=
  ∃ x ∈ G, ∃ m, Mn r.n.toNat m ∧ m.sum + x.dg δ = τ ∧ code2 r x.a (zipE (· + ·) x.u.e m) < code2 r a L ∧ X = mulF m (ev x.v)

def lcmE (x y : Mb) : List Int := zipE max x.u.e y.u.e

def GoodP (r : Rg) (δ : Nat → Int) (G : List Mb) (x y : Mb) : Prop :=
  ∃ c : Int, Sp r.p (RowLt r δ G ((lcmE x y).sum + δ x.a) x.a (lcmE x y)) fun ψ => c * mulF (zipE (· - ·) (lcmE x y) x.u.e) (ev x.v) ψ - mulF (zipE (· - ·) (lcmE x y) y.u.e) (ev y.v) ψ

def divs (a : Nat) (e : List Int) (x : Mb) : Bool := x.a == a && goesM e x.u.e

def ERow (r : Rg) (δ : Nat → Int) (G : List Mb) (τ : Int) (X : Fu) : Prop :=
  ∃ (a : Nat) (e : List Int) (x : Mb), Mn r.n.toNat e ∧ e.sum + δ a = τ ∧ G.find? (divs a e) = some x ∧ X = mulF (zipE (· - ·) e x.u.e) (ev x.v)

theorem find_idx {α : Type} {p : α → Bool} : ∀ {l : List α} {j : Nat} (hj : j < l.length), p l[j] = true → ∃ (i : Nat) (hi : i < l.length), i ≤ j ∧ l.find? p = some l[i] ∧ p l[i] = true
  | x :: l, 0, _, h => ⟨0, by simp, Nat.le_refl _, by
      have h' : p x = true := h
      rw [List.find?_cons, h']; rfl, h⟩
  | x :: l, j + 1, hj, h => by
    by_cases hx : p x = true
    · exact ⟨0, by simp, by omega, by rw [List.find?_cons, hx]; rfl, hx⟩
    · obtain ⟨i, hi, h1, h2, h3⟩ := find_idx (l := l) (j := j) (by simpa using hj) (by simpa using h)
      exact ⟨i + 1, by simpa using hi, by omega, by
        have hx' : p x = false := by simpa using hx
        rw [List.find?_cons, hx']
        simpa using h2, by simpa using h3⟩

theorem row_by_first {r : Rg} {k : Nat} {δ : Nat → Int} {G : List Mb} {τ : Int} (hc : Cx r k δ) (h8 : τ ≤ 8000) (hG : ∀ x ∈ G, MbOk r k δ x)
    (hp : ∀ (i j : Nat) (hi : i < G.length) (hj : j < G.length), i < j → G[i].a = G[j].a → (lcmE G[i] G[j]).sum + δ G[i].a ≤ τ → GoodP r δ G G[i] G[j]) :
    ∀ (N : Nat) (j : Nat) (hj : j < G.length) (m : List Int), Mn r.n.toNat m → m.sum + G[j].dg δ = τ → (code2 r G[j].a (zipE (· + ·) G[j].u.e m)).toNat < N → Sp r.p (ERow r δ G τ) (mulF m (ev G[j].v))
  | 0, _, _, _, _, _, h => by omega
  | N + 1, j, hj, m, hm, hd, hN => by
    obtain ⟨hp2, hn3, hn1, hpr, hck⟩ := hc.rg
    have hk := hc.k40
    have hxm : G[j] ∈ G := List.getElem_mem hj
    have hx := hG _ hxm
    obtain ⟨x1, x2, x3⟩ := hx.ld hc
    have hum := x3.mn
    have he : Mn r.n.toNat (zipE (· + ·) G[j].u.e m) := hum.add hm
    have hes : (zipE (· + ·) G[j].u.e m).sum + δ G[j].a = τ := by
      rw [hum.sum_add hm]
      unfold Mb.dg at hd
      omega
    have hpos := hc.pos G[j].a
    have hsub : zipE (· - ·) (zipE (· + ·) G[j].u.e m) G[j].u.e = m := add_sub_e (by rw [hum.len, hm.len])
    have hdj : divs G[j].a (zipE (· + ·) G[j].u.e m) G[j] = true := by
      unfold divs
      rw [goes_add (by rw [hum.len, hm.len]) hm.pos]
      simp
    generalize hE : zipE (· + ·) G[j].u.e m = e at *
    obtain ⟨i, hi, hij, hf, hdi⟩ := find_idx hj hdj
    have hee := he.me hn3 (by omega)
    have hmem : ERow r δ G τ (mulF (zipE (· - ·) e G[i].u.e) (ev G[i].v)) := ⟨G[j].a, e, G[i], he, hes, hf, rfl⟩
    by_cases heq : i = j
    · subst heq
      rw [hsub] at hmem
      exact .mem hmem
    · have h0 := hG _ (List.getElem_mem hi)
      obtain ⟨y1, y2, y3⟩ := h0.ld hc
      have h0m := y3.mn
      unfold divs at hdi hdj
      simp only [Bool.and_eq_true, beq_iff_eq] at hdi hdj
      obtain ⟨ha, hg⟩ := hdi
      have hgj := hdj.2
      have hll : G[i].u.e.length = G[j].u.e.length := by rw [h0m.len, hum.len]
      obtain ⟨l1, l2, l3, l4⟩ := max_sum hll h0m.pos hum.pos
      have hL : Mn r.n.toNat (lcmE G[i] G[j]) := ⟨zipE_same_len h0m.len hum.len, l4⟩
      have hgL : goesM e (lcmE G[i] G[j]) = true := goes_max hll hg hgj
      obtain ⟨q1, q2, q3⟩ := goes_rest he hL hgL
      have hq0 := q1.sum0
      obtain ⟨g1, g2⟩ := goes_of_max hll
      obtain ⟨s1, s2, s3⟩ := goes_rest hL h0m g1
      obtain ⟨t1, t2, t3⟩ := goes_rest hL hum g2
      obtain ⟨c, hsp⟩ := hp i j hi hj (by omega) ha (by rw [ha]; omega)
      generalize hq : zipE (· - ·) e (lcmE G[i] G[j]) = q at *
      have eI : zipE (· + ·) (zipE (· - ·) (lcmE G[i] G[j]) G[i].u.e) q = zipE (· - ·) e G[i].u.e := by
        have h1 := (s1.add q1)
        refine add_cancel (n := r.n.toNat) (u := G[i].u.e) h0m.len h1.len (zipE_same_len he.len h0m.len) ?_
        rw [← zipE_assoc, s2, q2, (goes_rest he h0m hg).2.1]
      have eJ : zipE (· + ·) (zipE (· - ·) (lcmE G[i] G[j]) G[j].u.e) q = m := by
        have h1 := (t1.add q1)
        refine add_cancel (n := r.n.toNat) (u := G[j].u.e) hum.len h1.len hm.len ?_
        rw [← zipE_assoc, t2, q2, hE]
      have hsp2 := hsp.mul q (Q := RowLt r δ G τ G[j].a e) fun X ⟨x, hxG, m', hm', hd', hlt, hX⟩ => by
        have hxo := hG x hxG
        obtain ⟨z1, z2, z3⟩ := hxo.ld hc
        have hmq := hm'.add q1
        have hzp := hc.pos x.a
        have hsm : (zipE (· + ·) m' q).sum + x.dg δ = τ := by
          rw [hm'.sum_add q1, q3]
          rw [ha] at hd'
          omega
        have b1 : ME r.n.toNat (zipE (· + ·) x.u.e m') := (z3.mn.add hm').me hn3 (by
          rw [z3.mn.sum_add hm']
          have := hm'.sum0
          unfold Mb.dg at hd'
          have := hc.pos G[i].a
          have := hes
          rw [ha] at hd'
          omega)
        have b2 : ME r.n.toNat (zipE (· + ·) (zipE (· + ·) x.u.e m') q) := (b1.mn.add q1).me hn3 (by
          rw [b1.mn.sum_add q1, z3.mn.sum_add hm']
          rw [hm'.sum_add q1] at hsm
          unfold Mb.dg at hsm
          omega)
        have b3 : ME r.n.toNat (lcmE G[i] G[j]) := hL.me hn3 (by omega)
        have b4 : ME r.n.toNat (zipE (· + ·) (lcmE G[i] G[j]) q) := by rw [q2]; exact hee
        refine ⟨x, hxG, zipE (· + ·) m' q, hmq, hsm, ?_, ?_⟩
        · rw [← zipE_assoc]
          have := (code2_add (r := r) (i := x.a) (k := G[j].a) b1 b3 q1 b2 b4 (by omega) (by omega)).2 (by rw [ha] at hlt; exact hlt)
          rwa [q2] at this
        · rw [hX, mulF_mulF]
      have hsp3 : Sp r.p (ERow r δ G τ) (mulF q fun ψ => c * mulF (zipE (· - ·) (lcmE G[i] G[j]) G[i].u.e) (ev G[i].v) ψ - mulF (zipE (· - ·) (lcmE G[i] G[j]) G[j].u.e) (ev G[j].v) ψ) := hsp2.trans fun X ⟨x, hxG, m', hm', hd', hlt, hX⟩ => by
        obtain ⟨j', hj', rfl⟩ := List.getElem_of_mem hxG
        rw [hX]
        have hz := (hG _ hxG).ld hc
        have hME : ME r.n.toNat (zipE (· + ·) G[j'].u.e m') := (hz.2.2.mn.add hm').me hn3 (by
          rw [hz.2.2.mn.sum_add hm']
          have := hc.pos G[j'].a
          unfold Mb.dg at hd'
          omega)
        have := code2_range (r := r) (i := G[j'].a) hME (by omega)
        exact row_by_first hc h8 hG hp N j' hj' m' hm' hd' (by omega)
      have e1 : (mulF q fun ψ => c * mulF (zipE (· - ·) (lcmE G[i] G[j]) G[i].u.e) (ev G[i].v) ψ - mulF (zipE (· - ·) (lcmE G[i] G[j]) G[j].u.e) (ev G[j].v) ψ) = fun ψ => c * mulF (zipE (· - ·) e G[i].u.e) (ev G[i].v) ψ - mulF m (ev G[j].v) ψ := by
        funext ψ
        have f1 := congrFun (mulF_mulF (zipE (· - ·) (lcmE G[i] G[j]) G[i].u.e) q (ev G[i].v)) ψ
        have f2 := congrFun (mulF_mulF (zipE (· - ·) (lcmE G[i] G[j]) G[j].u.e) q (ev G[j].v)) ψ
        rw [eI] at f1
        rw [eJ] at f2
        show c * mulF (zipE (· - ·) (lcmE G[i] G[j]) G[i].u.e) (ev G[i].v) (shv q ψ) - mulF (zipE (· - ·) (lcmE G[i] G[j]) G[j].u.e) (ev G[j].v) (shv q ψ) = _
        rw [← f1, ← f2]
        rfl
      rw [e1] at hsp3
      exact (((Sp.mem hmem).smul c).sub hsp3).congr fun ψ => dz (by dsimp only; omega)

def ordV (r : Rg) (k : Nat) (δ : Nat → Int) (G : List Mb) (τ : Int) : List Vc :=
  ((keysT r.n.toNat k δ τ).filter fun y => G.any (divs y.1 y.2)).map fun y => match G.find? (divs y.1 y.2) with
    | some x => vbyT r x.v ⟨1, zipE (· - ·) y.2 x.u.e⟩
    | none => []

theorem ordV_one {r : Rg} {k : Nat} {δ : Nat → Int} {G : List Mb} {τ : Int} (hc : Cx r k δ) (h8 : τ ≤ 8000) (hG : ∀ x ∈ G, MbOk r k δ x) {a : Nat} {e : List Int} (hy : (a, e) ∈ keysT r.n.toNat k δ τ) {x : Mb} (hx : G.find? (divs a e) = some x) :
    HV r k δ τ (vbyT r x.v ⟨1, zipE (· - ·) e x.u.e⟩) ∧ keyOf (topV r (vbyT r x.v ⟨1, zipE (· - ·) e x.u.e⟩)) = some (a, e) ∧ Mn r.n.toNat (zipE (· - ·) e x.u.e) ∧ (zipE (· - ·) e x.u.e).sum + x.dg δ = τ ∧ x ∈ G := by
  obtain ⟨hp2, hn3, hn1, hpr, hck⟩ := hc.rg
  obtain ⟨k1, k2, k3⟩ := (keysT_mem (by omega)).1 hy
  have hxG := List.mem_of_find?_eq_some hx
  have hd := List.find?_some hx
  unfold divs at hd
  simp only [Bool.and_eq_true, beq_iff_eq] at hd
  obtain ⟨ha, hg⟩ := hd
  have ho := hG x hxG
  obtain ⟨x1, x2, x3⟩ := ho.ld hc
  obtain ⟨g1, g2, g3⟩ := goes_rest k2 x3.mn hg
  have hs : (zipE (· - ·) e x.u.e).sum + x.dg δ = τ := by
    unfold Mb.dg
    rw [g3, ha]; omega
  have htm := tm_one hc g1
  have h1 := ho.hv.by hc htm (by show x.dg δ + (zipE (· - ·) e x.u.e).sum ≤ 8000; omega)
  have h2 := ho.hv.by_top hc htm (by show (1 : Int) ≠ 0; omega) (by show x.dg δ + (zipE (· - ·) e x.u.e).sum ≤ 8000; omega) ho.top
  refine ⟨?_, ?_, g1, hs, hxG⟩
  · have h3 : x.dg δ + (zipE (· - ·) e x.u.e).sum = τ := by omega
    rw [← h3]
    exact h1
  · rw [h2]
    simp only [keyOf, Option.map_some]
    rw [g2, ha]

theorem any_find {α : Type} {p : α → Bool} {l : List α} (h : l.any p = true) : ∃ x, l.find? p = some x := by
  cases hx : l.find? p with
  | some x => exact ⟨x, rfl⟩
  | none =>
    obtain ⟨y, hy, hpy⟩ := List.any_eq_true.1 h
    have := List.find?_eq_none.1 hx y hy
    rw [hpy] at this
    exact absurd rfl this

theorem ordV_els {r : Rg} {k : Nat} {δ : Nat → Int} {G : List Mb} {τ : Int} (hc : Cx r k δ) (h8 : τ ≤ 8000) (hG : ∀ x ∈ G, MbOk r k δ x) : Els r k δ τ (ordV r k δ G τ) := by
  have key : ∀ y ∈ (keysT r.n.toNat k δ τ).filter fun y => G.any (divs y.1 y.2), ∃ x, G.find? (divs y.1 y.2) = some x ∧ (y.1, y.2) ∈ keysT r.n.toNat k δ τ := fun y hy => by
    obtain ⟨h1, h2⟩ := List.mem_filter.1 hy
    obtain ⟨x, hx⟩ := any_find h2
    exact ⟨x, hx, h1⟩
  refine ⟨fun e he => ?_, fun e he => ?_, ?_⟩
  · obtain ⟨y, hy, rfl⟩ := List.mem_map.1 he
    obtain ⟨x, hx, h1⟩ := key y hy
    rw [hx]
    exact (ordV_one hc h8 hG h1 hx).1
  · obtain ⟨y, hy, rfl⟩ := List.mem_map.1 he
    obtain ⟨x, hx, h1⟩ := key y hy
    rw [hx]
    have := (ordV_one hc h8 hG h1 hx).2.1
    intro h0
    dsimp only at h0
    rw [h0] at this
    cases this
  · unfold ordV
    rw [List.map_map]
    unfold List.Nodup
    rw [List.pairwise_map]
    refine List.Pairwise.imp_of_mem (fun {y y'} hy hy' hne he => hne ?_) ((keysT_nodup r.n.toNat k δ τ).filter _)
    obtain ⟨x, hx, h1⟩ := key y hy
    obtain ⟨x', hx', h1'⟩ := key y' hy'
    simp only [Function.comp] at he
    rw [hx, hx'] at he
    dsimp only at he
    rw [(ordV_one hc h8 hG h1 hx).2.1, (ordV_one hc h8 hG h1' hx').2.1] at he
    exact Option.some.inj he

theorem erow_ord {r : Rg} {k : Nat} {δ : Nat → Int} {G : List Mb} {τ : Int} (hc : Cx r k δ) (h8 : τ ≤ 8000) (hG : ∀ x ∈ G, MbOk r k δ x) {X : Fu} (h : ERow r δ G τ X) : Sp r.p (fun X => ∃ e ∈ ordV r k δ G τ, X = ev e) X := by
  obtain ⟨a, e, x, he, hes, hf, rfl⟩ := h
  have hn1 := hc.rg.2.2.1
  have hd := List.find?_some hf
  have hxG := List.mem_of_find?_eq_some hf
  have hd' := hd
  unfold divs at hd'
  simp only [Bool.and_eq_true, beq_iff_eq] at hd'
  have hy : (a, e) ∈ keysT r.n.toNat k δ τ := (keysT_mem (by omega)).2 ⟨by rw [← hd'.1]; exact ((hG x hxG).ld hc).1, he, hes⟩
  refine (Sp.mem (P := fun X => ∃ e ∈ ordV r k δ G τ, X = ev e) ⟨vbyT r x.v ⟨1, zipE (· - ·) e x.u.e⟩, ?_, rfl⟩).congr (ev_one _ _)
  refine List.mem_map.2 ⟨(a, e), List.mem_filter.2 ⟨hy, List.any_eq_true.2 ⟨x, hxG, hd⟩⟩, ?_⟩
  rw [hf]

theorem buch {r : Rg} {k : Nat} {δ : Nat → Int} {G : List Mb} {τ : Int} (hc : Cx r k δ) (hG : ∀ x ∈ G, MbOk r k δ x)
    (hp : ∀ (i j : Nat) (hi : i < G.length) (hj : j < G.length), i < j → G[i].a = G[j].a → (lcmE G[i] G[j]).sum + δ G[i].a ≤ τ → GoodP r δ G G[i] G[j])
    {v : Vc} (hv : HV r k δ τ v) (hs : Sp r.p (Row r δ G τ) (ev v)) {a : Nat} {u : Tm} (ht : topV r v = some (a, u)) : G.any (divs a u.e) = true := by
  have h8 := hv.t8
  have h1 : Sp r.p (fun X => ∃ e ∈ ordV r k δ G τ, X = ev e) (ev v) := hs.trans fun X ⟨x, hxG, m, hm, hd, hX⟩ => by
    obtain ⟨j, hj, rfl⟩ := List.getElem_of_mem hxG
    rw [hX]
    exact (row_by_first hc h8 hG hp _ j hj m hm hd (Nat.lt_succ_self _)).trans fun Y hY => erow_ord hc h8 hG hY
  rcases (ordV_els hc h8 hG).lead hc hv h1 with h | ⟨e, he, hk⟩
  · rw [ht] at h; cases h
  · obtain ⟨y, hy, rfl⟩ := List.mem_map.1 he
    obtain ⟨g1, g2⟩ := List.mem_filter.1 hy
    obtain ⟨x, hx⟩ := any_find g2
    rw [hx] at hk
    dsimp only at hk
    rw [(ordV_one hc h8 hG g1 hx).2.1, ht] at hk
    simp only [keyOf, Option.map_some] at hk
    obtain ⟨e1, e2⟩ := Prod.mk.inj (Option.some.inj hk)
    rw [e1, e2]
    exact g2

end Go.Proofs.YtfjmdhemlfafbaaGreat

namespace Go.Proofs.YtfjmdhemlfafbaaGreat
open Go.RowKit Go.Maps

def hi_int : Value → Int
  | .int _ q => q
  | _ => 0

structure MoW (n l bn on be0 by0 bf be : Nat) (W : World) : Prop where
  hn : W.cell? ⟨bn, on, none⟩ = some (.int .i64 n)
  he : W.cell? ⟨be0, 0, none⟩ = some (.slice (some ⟨be, 0, none⟩) n n)
  hy : W.cell? ⟨by0, 0, none⟩ = some (.func (.yield l) #[] #[])
  hf : W.cell? ⟨bf, 0, none⟩ = some (.func (.func 34) #[] #[.pointer (some ⟨bn, on, none⟩), .pointer (some ⟨be0, 0, none⟩), .pointer (some ⟨by0, 0, none⟩), .pointer (some ⟨bf, 0, none⟩)])

theorem MoW.keep {n l bn on be0 by0 bf be : Nat} {W W' : World} (h : MoW n l bn on be0 by0 bf be W) (hk : ∀ b, b = bn ∨ b = be0 ∨ b = by0 ∨ b = bf → W'.heap[b]? = W.heap[b]?) : MoW n l bn on be0 by0 bf be W' :=
  ⟨(World.cell?_of_block (hk _ (by simp))).trans h.hn, (World.cell?_of_block (hk _ (by simp))).trans h.he, (World.cell?_of_block (hk _ (by simp))).trans h.hy, (World.cell?_of_block (hk _ (by simp))).trans h.hf⟩

theorem setCell_self {W : World} {b j : Nat} {v : Value} {cs : Array Value} {T : TypeId} {fr : Nat × Nat} (h : W.heap[b]? = some (.cells cs T fr)) : (W.setCell ⟨b, j, none⟩ v).heap[b]? = some (.cells (cs.setIfInBounds j v) T fr) := by
  unfold World.setCell
  dsimp only
  rw [Array.getElem?_modify, if_pos rfl, h]
  rfl

theorem setCell_other {W : World} {b c j : Nat} {v : Value} (h : c ≠ b) : (W.setCell ⟨b, j, none⟩ v).heap[c]? = W.heap[c]? := by
  unfold World.setCell
  dsimp only
  rw [Array.getElem?_modify, if_neg (fun e => h e.symm)]

def intsV (es : List Int) : Array Value := (es.map fun x => Value.int .i64 x).toArray

theorem intsV_get {es : List Int} {j : Nat} (h : j < es.length) : (intsV es)[j]? = some (.int .i64 es[j]) := by
  unfold intsV
  simp [h]

theorem intsV_set (p q : List Int) (x y : Int) : (intsV (p ++ y :: q)).setIfInBounds p.length (.int .i64 x) = intsV (p ++ x :: q) := by
  unfold intsV
  apply Array.ext_getElem?
  intro j
  simp

theorem fill_nums {i m n left k : Nat} (hi : i + (m + 1) + 1 = n) (hl : left ≤ 1000000) (hn : n ≤ 1000000) (hk : k < left + 1) :
    RowKit.wrap64 ((i : Int) + 1) = (i : Int) + 1 ∧ RowKit.wrap64 ((left : Int) - k) = (left : Int) - k ∧ RowKit.wrap64 ((k : Int) + 1) = (k : Int) + 1 ∧ i < n ∧ i + 1 + m + 1 = n ∧ left - k ≤ 1000000 ∧ ((i + 1 : Nat) : Int) = (i : Int) + 1 ∧ ((left - k : Nat) : Int) = (left : Int) - k ∧ (k + 1 ≤ left + 1 ∧ left + 1 - ((k : Int) + 1).toNat < left + 1 - (k : Int).toNat) := by
  refine ⟨?_, ?_, ?_, by omega, by omega, by omega, by omega, by omega, by omega, by omega⟩ <;> unfold RowKit.wrap64 <;> omega

set_option maxRecDepth 100000 in
set_option maxHeartbeats 8000000 in
theorem fill_calls (n l bn on be0 by0 bf be : Nat) (hn6 : n ≤ 1000000) (hap : be ≠ bn ∧ be ≠ be0 ∧ be ≠ by0 ∧ be ≠ bf) (J : List (List Int) → World → Prop)
    (hst : ∀ pre W j x, j < n → J pre W → J pre (W.setCell ⟨be, j, none⟩ (.int .i64 x)))
    (hY : ∀ pre W es, J pre W → es.length = n → MoW n l bn on be0 by0 bf be W → W.heap[be]? = some (.cells (intsV es) 3 (0, 0)) →
      YieldAt Fence.wide 0 Tryz.prog l #[.slice (some ⟨be, 0, none⟩) n n] W fun en W' => en = .returned (.bool true) ∧ J (pre ++ [es]) W' ∧ ∀ b, b = bn ∨ b = be0 ∨ b = by0 ∨ b = bf ∨ b = be → W'.heap[b]? = W.heap[b]?) :
    ∀ (m i left : Nat) (pre : List (List Int)) (W : World) (p q : List Int), i + m + 1 = n → left ≤ 1000000 → J pre W → MoW n l bn on be0 by0 bf be W → p.length = i → (p ++ q).length = n → W.heap[be]? = some (.cells (intsV (p ++ q)) 3 (0, 0)) →
      CallsIn Fence.wide 0 Tryz.prog 34 #[.int .i64 i, .int .i64 left, .pointer (some ⟨bn, on, none⟩), .pointer (some ⟨be0, 0, none⟩), .pointer (some ⟨by0, 0, none⟩), .pointer (some ⟨bf, 0, none⟩)] W
        fun en W' => en = .returned (.bool true) ∧ J (pre ++ (monosT (m + 1) left).map (p ++ ·)) W' ∧ MoW n l bn on be0 by0 bf be W' ∧ ∃ q' : List Int, (p ++ q').length = n ∧ W'.heap[be]? = some (.cells (intsV (p ++ q')) 3 (0, 0)) := by
  intro m
  induction m with
  | zero =>
    intro i left pre W p q hi hl6 hJ hM hp hpq hbe
    have hin : (n : Int) - 1 = i := by omega
    refine callsIn_of_wp Tryz.func34 rfl trivial ?_ rfl
    simp only [Tryz.ntmps34, List.size_toArray, List.length_cons, List.length_nil, Nat.reduceAdd, Nat.reduceSub, Array.replicate_succ, Array.replicate_zero, List.push_toArray, List.append_toArray, List.nil_append, List.cons_append]
    obtain ⟨y, rfl⟩ : ∃ y, q = [y] := by
      rw [List.length_append] at hpq
      exact List.length_eq_one_iff.1 (by omega)
    have hset := setCell_self (j := i) (v := .int .i64 left) hbe
    rw [← hp, intsV_set] at hset
    have hoth : ∀ b, b = bn ∨ b = be0 ∨ b = by0 ∨ b = bf → (W.setCell ⟨be, i, none⟩ (.int .i64 left)).heap[b]? = W.heap[b]? := fun b hb => setCell_other (by rcases hb with rfl | rfl | rfl | rfl; exact hap.1.symm; exact hap.2.1.symm; exact hap.2.2.1.symm; exact hap.2.2.2.symm)
    have hM1 := hM.keep hoth
    have hJ1 := hst pre W i left (by omega) hJ
    rw [hp] at hset
    have hc : W.cell? ⟨be, i, none⟩ = some (.int .i64 y) := by
      rw [cell_of_row W be i _ _ (0, 0) hbe, intsV_get (by rw [hpq]; omega)]
      simp [← hp]
    have hfz : W.frozen? ⟨be, i, none⟩ = false := by simp [World.frozen?, hbe]
    obtain ⟨hn, he, hy, hf⟩ := hM
    obtain ⟨fn', tmps', assign', body', hyl, hR⟩ := hY pre _ (p ++ [(left : Int)]) hJ1 (by simp; omega) hM1 hset
    have hwi : RowKit.wrap64 (i : Int) = i := by unfold RowKit.wrap64; omega
    obtain ⟨hn1, he1, hy1, hf1⟩ := hM1
    generalize hW1 : W.setCell ⟨be, i, none⟩ (.int .i64 left) = W1 at *
    gi_wp2
    refine ⟨rfl, hR.mono ?_⟩
    rintro en W2 ⟨rfl, hJ2, hk2⟩
    gi_wp2
    go_ret
    refine ⟨rfl, by simpa [monosT] using hJ2, (MoW.mk hn1 he1 hy1 hf1).keep fun b hb => hk2 b (by rcases hb with h | h | h | h <;> simp [h]), [(left : Int)], by simp; omega, (hk2 be (by simp)).trans hset⟩
  | succ m ih =>
    intro i left pre W p q hi hl6 hJ hM hp hpq hbe
    have hne : ¬ (n : Int) - 1 = i := by omega
    have hwl : RowKit.wrap64 ((left : Int) + 1) = ((left + 1 : Nat) : Int) := by unfold RowKit.wrap64; omega
    have hwn : RowKit.wrap64 ((n : Int) - 1) = ((n - 1 : Nat) : Int) := by unfold RowKit.wrap64; omega
    have hie : ((i : Int) == (n : Int) - 1) = false := by
      rw [beq_eq_false_iff_ne]
      omega
    have hii : ((i : Int) == ((n - 1 : Nat) : Int)) = false := by
      rw [beq_eq_false_iff_ne]
      omega
    have hM0 := hM
    obtain ⟨hn, he, hy, hf⟩ := hM
    refine callsIn_of_wp Tryz.func34 rfl trivial ?_ rfl
    simp only [Tryz.ntmps34, List.size_toArray, List.length_cons, List.length_nil, Nat.reduceAdd, Nat.reduceSub, Array.replicate_succ, Array.replicate_zero, List.push_toArray, List.append_toArray, List.nil_append, List.cons_append]
    gi_wp2
    gi_loopw [23] (fun x wr => ∃ k : Nat, k ≤ left + 1 ∧ x = .int .i64 k ∧ J (pre ++ (List.range k).flatMap fun x => (monosT (m + 1) (left - x)).map fun e => p ++ (x : Int) :: e) wr ∧ MoW n l bn on be0 by0 bf be wr ∧ ∃ q' : List Int, (p ++ q').length = n ∧ wr.heap[be]? = some (.cells (intsV (p ++ q')) 3 (0, 0)))
      (fun x _ => left + 1 - (hi_int x).toNat)
    case atStart => exact ⟨0, Nat.zero_le _, rfl, by simpa using hJ, hM0, q, hpq, hbe⟩
    case round =>
      obtain ⟨k, hk, rfl, hJr, hMr, q', hpq', hbr⟩ := hrel
      clear hn he hy hf
      by_cases hlt : k < left + 1
      · obtain ⟨y, q2, rfl⟩ : ∃ y q2, q' = y :: q2 := by
          cases q' with
          | nil => rw [List.length_append] at hpq'; simp at hpq'; omega
          | cons y q2 => exact ⟨y, q2, rfl⟩
        have hset := setCell_self (j := i) (v := .int .i64 k) hbr
        rw [← hp, intsV_set] at hset
        have hoth : ∀ b, b = bn ∨ b = be0 ∨ b = by0 ∨ b = bf → (wr.setCell ⟨be, i, none⟩ (.int .i64 k)).heap[b]? = wr.heap[b]? := fun b hb => setCell_other (by rcases hb with rfl | rfl | rfl | rfl; exact hap.1.symm; exact hap.2.1.symm; exact hap.2.2.1.symm; exact hap.2.2.2.symm)
        have hM1 := hMr.keep hoth
        have hJ1 := hst _ wr i k (by omega) hJr
        rw [hp] at hset
        have hc : wr.cell? ⟨be, i, none⟩ = some (.int .i64 y) := by
          rw [cell_of_row wr be i _ _ (0, 0) hbr, intsV_get (by rw [hpq']; omega)]
          simp [← hp]
        have hfz : wr.frozen? ⟨be, i, none⟩ = false := by simp [World.frozen?, hbr]
        obtain ⟨hn, he, hy, hf⟩ := hMr
        obtain ⟨hw1, hw2, hw3, hil, hi2, hl2, hz1, hz2, hz3⟩ := fill_nums hi hl6 hn6 hlt
        have ihc := ih (i + 1) (left - k) _ _ (p ++ [(k : Int)]) q2 hi2 hl2 hJ1 hM1 (by simp [hp]) (by simpa using hpq') (by simpa using hset)
        rw [hz1, hz2] at ihc
        clear ih hap hst hoth hz1 hz2
        have hltz : (k : Int) < (left : Int) + 1 := by omega
        obtain ⟨hn1, he1, hy1, hf1⟩ := hM1
        generalize hW1 : wr.setCell ⟨be, i, none⟩ (.int .i64 k) = W1 at *
        obtain ⟨PK, hPK⟩ : ∃ P : Prop, P = (k + 1 ≤ left + 1 ∧ left + 1 - ((k : Int) + 1).toNat < left + 1 - (k : Int).toNat) := ⟨_, rfl⟩
        have hPK1 : PK := by rw [hPK]; exact hz3
        clear hz3
        clear hY hJ hM0 hbe hne hwl hwn hii hJr hk hi hi2 hl2 hl6 hn6 hpq hpq' hbr hlt
        gi_wp2_with ((try refine ⟨trivial, rfl, ?_⟩); gi_at_call 34; refine ihc.mono ?_; clear ihc; rintro en W3 ⟨rfl, hJ3, hM3, q3, hpq3, hb3⟩)
        rw [hPK] at hPK1
        rw [hw3]
        go_roundw
        case rel =>
          have hpq4 : (p ++ (k : Int) :: q3).length = n := by simpa using hpq3
          have hb4 : W3.heap[be]? = some (.cells (intsV (p ++ (k : Int) :: q3)) 3 (0, 0)) := by simpa using hb3
          refine ⟨k + 1, hPK1.1, rfl, ?_, hM3, (k : Int) :: q3, hpq4, hb4⟩
          rw [List.range_succ, List.flatMap_append, ← List.append_assoc]
          simpa using hJ3
        case measure =>
          exact hPK1.2
      · obtain rfl : k = left + 1 := by omega
        have hltz : ¬ (((left + 1 : Nat) : Int) < (left : Int) + 1) := by omega
        gi_wp2
        go_ret
        refine ⟨rfl, ?_, hMr, q', by first | exact hpq' | simpa [hp] using hpq', hbr⟩
        simpa [monosT, List.map_flatMap, Function.comp_def] using hJr

end Go.Proofs.YtfjmdhemlfafbaaGreat

namespace Go.Proofs.YtfjmdhemlfafbaaGreat
open Go.RowKit

def monZ (n : Nat) (d : Int) : List (List Int) := if d < 0 then [] else monosT n d.toNat

theorem monZ_mem {n : Nat} {d : Int} {e : List Int} (hn : 0 < n) : e ∈ monZ n d ↔ Mn n e ∧ e.sum = d := by
  unfold monZ
  split
  · rename_i h
    constructor
    · intro h; cases h
    · rintro ⟨h1, h2⟩
      have := h1.sum0
      omega
  · rw [monosT_mem hn]
    constructor
    · rintro ⟨h1, h2⟩; exact ⟨h1, by omega⟩
    · rintro ⟨h1, h2⟩; exact ⟨h1, by omega⟩

theorem monZ_nodup (n : Nat) (d : Int) : (monZ n d).Nodup := by
  unfold monZ
  split
  · exact List.nodup_nil
  · exact monosT_nodup _ _

def outM (l : List (List Int)) (e : List Int) : Bool := !(l.any fun x => goesM e x)

def cntO (n : Nat) (l : List (List Int)) (d : Int) : Nat := ((monZ n d).filter (outM l)).length
def frN (n : Nat) (d : Int) : Nat := (monZ n d).length

theorem cntO_le (n : Nat) (l : List (List Int)) (d : Int) : cntO n l d ≤ frN n d := List.length_filter_le _ _

theorem cntO_nil (n : Nat) (d : Int) : cntO n [] d = frN n d := by
  unfold cntO frN
  rw [List.filter_eq_self.2 fun e _ => by simp [outM]]

theorem cntO_neg {n : Nat} {l : List (List Int)} {d : Int} (h : d < 0) : cntO n l d = 0 := by
  unfold cntO monZ
  rw [if_pos h]
  rfl

theorem cntO_congr {n : Nat} {l l' : List (List Int)} {d : Int} (h : ∀ e, outM l e = outM l' e) : cntO n l d = cntO n l' d := by
  unfold cntO
  rw [show outM l = outM l' from funext h]

theorem outM_rev (l : List (List Int)) (e : List Int) : outM l.reverse e = outM l e := by
  unfold outM
  rw [List.any_reverse]

def quoM (x e : List Int) : List Int := zipE (· - ·) (zipE max e x) x

theorem quo_goes : ∀ {x e m : List Int}, x.length = e.length → x.length = m.length → (∀ y ∈ m, 0 ≤ y) → goesM (zipE (· + ·) x m) e = goesM m (quoM x e)
  | [], [], [], _, _, _ => rfl
  | x :: xs, e :: es, m :: ms, h1, h2, h3 => by
    have ih := quo_goes (x := xs) (e := es) (m := ms) (by simpa using h1) (by simpa using h2) fun y hy => h3 y (by simp [hy])
    have hm := h3 m (by simp)
    show goesM ((x + m) :: zipE (· + ·) xs ms) (e :: es) = goesM (m :: ms) ((max e x - x) :: quoM xs es)
    unfold goesM
    by_cases h : e > x + m
    · rw [if_pos h, if_pos (by omega)]
    · rw [if_neg h, if_neg (by omega)]
      exact ih

theorem quo_ok {n : Nat} {x e : List Int} (hx : Mn n x) (he : Mn n e) : Mn n (quoM x e) ∧ (quoM x e).sum ≤ e.sum := by
  have hl := hx.len
  have hl2 := he.len
  have h1 : (zipE max e x).length = n := zipE_same_len hl2 hl
  have h0 : Mn n (zipE max e x) := ⟨h1, fun y hy => by
    unfold zipE at hy
    obtain ⟨i, hi, rfl⟩ := List.getElem_of_mem hy
    rw [List.length_zipWith] at hi
    rw [List.getElem_zipWith]
    have := he.pos _ (List.getElem_mem (show i < e.length by omega))
    omega⟩
  obtain ⟨g1, g2, g3⟩ := goes_rest h0 hx (goes_of_max (by omega)).2
  refine ⟨g1, ?_⟩
  unfold quoM
  rw [g3]
  have hsum : ∀ (a b : List Int), a.length = b.length → (∀ y ∈ a, 0 ≤ y) → (∀ y ∈ b, 0 ≤ y) → (zipE max a b).sum ≤ a.sum + b.sum := by
    intro a
    induction a with
    | nil => intro b hb _ _; cases b with
      | nil => simp [zipE]
      | cons y b => simp at hb
    | cons z a ih =>
      intro b hb p1 p2
      cases b with
      | nil => simp at hb
      | cons y b =>
        have := ih b (by simpa using hb) (fun w hw => p1 w (by simp [hw])) fun w hw => p2 w (by simp [hw])
        have q1 := p1 z (by simp)
        have q2 := p2 y (by simp)
        show (max z y :: zipE max a b).sum ≤ (z :: a).sum + (y :: b).sum
        simp only [List.sum_cons]
        omega
  have := hsum e x (by omega) he.pos hx.pos
  omega

theorem len_split {α : Type} (p q : α → Bool) : ∀ (l : List α), (l.filter p).length = (l.filter fun x => p x && q x).length + (l.filter fun x => p x && !q x).length
  | [] => rfl
  | x :: l => by
    have ih := len_split p q l
    simp only [List.filter_cons]
    cases p x <;> cases q x <;> simp <;> omega

theorem filter_part {n : Nat} (hn : 0 < n) {x : List Int} (hx : Mn n x) {l : List (List Int)} (hl : ∀ e ∈ l, Mn n e) (d : Int) :
    ((monZ n d).filter fun m => outM l m && goesM m x).length = cntO n (l.map (quoM x)) (d - x.sum) := by
  have hperm : ((monZ n d).filter fun m => outM l m && goesM m x).Perm (((monZ n (d - x.sum)).filter (outM (l.map (quoM x)))).map (zipE (· + ·) x)) := by
    rw [List.perm_ext_iff_of_nodup ((monZ_nodup n d).filter _)]
    · intro m
      simp only [List.mem_filter, List.mem_map, monZ_mem hn, Bool.and_eq_true]
      constructor
      · rintro ⟨⟨h1, h2⟩, h3, h4⟩
        obtain ⟨g1, g2, g3⟩ := goes_rest h1 hx h4
        refine ⟨zipE (· - ·) m x, ⟨⟨g1, by omega⟩, ?_⟩, g2⟩
        rw [← g2] at h3
        unfold outM at h3 ⊢
        rw [List.any_map]
        rw [Bool.not_eq_true', List.any_eq_false] at h3 ⊢
        intro e he
        have := h3 e he
        rw [quo_goes (by rw [hx.len, (hl e he).len]) (by rw [hx.len, g1.len]) g1.pos] at this
        exact this
      · rintro ⟨m', ⟨⟨h1, h2⟩, h3⟩, rfl⟩
        refine ⟨⟨hx.add h1, by rw [hx.sum_add h1]; omega⟩, ?_, goes_add (by rw [hx.len, h1.len]) h1.pos⟩
        unfold outM at h3 ⊢
        rw [List.any_map] at h3
        rw [Bool.not_eq_true', List.any_eq_false] at h3 ⊢
        intro e he
        rw [quo_goes (by rw [hx.len, (hl e he).len]) (by rw [hx.len, h1.len]) h1.pos]
        exact h3 e he
    · unfold List.Nodup
      rw [List.pairwise_map]
      refine List.Pairwise.imp_of_mem (fun {a b} ha hb hne he => hne ?_) ((monZ_nodup n (d - x.sum)).filter _)
      have h1 := ((monZ_mem hn).1 (List.mem_filter.1 ha).1).1
      have h2 := ((monZ_mem hn).1 (List.mem_filter.1 hb).1).1
      exact add_cancel hx.len h1.len h2.len he
  rw [hperm.length_eq, List.length_map]
  rfl

theorem cntO_cons {n : Nat} (hn : 0 < n) {x : List Int} (hx : Mn n x) {l : List (List Int)} (hl : ∀ e ∈ l, Mn n e) (d : Int) :
    cntO n l d = cntO n (x :: l) d + cntO n (l.map (quoM x)) (d - x.sum) := by
  have h := len_split (outM l) (fun m => goesM m x) (monZ n d)
  rw [filter_part hn hx hl] at h
  have e : ((monZ n d).filter fun m => outM l m && !goesM m x).length = cntO n (x :: l) d := by
    unfold cntO
    congr 1
    refine List.filter_congr fun m _ => ?_
    unfold outM
    rw [List.any_cons, Bool.not_or, Bool.and_comm]
  rw [e] at h
  unfold cntO at h ⊢
  omega

def Cg (x y : Int) : Prop := ∃ q, x = y + q * 18446744073709551616

theorem Cg.refl (x : Int) : Cg x x := ⟨0, by omega⟩
theorem Cg.of_eq {x y : Int} (h : x = y) : Cg x y := ⟨0, by omega⟩
theorem Cg.trans {x y z : Int} (h : Cg x y) (k : Cg y z) : Cg x z := by
  obtain ⟨q, h⟩ := h
  obtain ⟨p, k⟩ := k
  exact ⟨q + p, by omega⟩
theorem Cg.symm {x y : Int} (h : Cg x y) : Cg y x := by
  obtain ⟨q, h⟩ := h
  exact ⟨-q, by omega⟩
theorem Cg.add {x y a b : Int} (h : Cg x y) (k : Cg a b) : Cg (x + a) (y + b) := by
  obtain ⟨q, h⟩ := h
  obtain ⟨p, k⟩ := k
  exact ⟨q + p, by omega⟩
theorem Cg.sub {x y a b : Int} (h : Cg x y) (k : Cg a b) : Cg (x - a) (y - b) := by
  obtain ⟨q, h⟩ := h
  obtain ⟨p, k⟩ := k
  exact ⟨q - p, by omega⟩
theorem Cg.mul {x y : Int} (c : Int) (h : Cg x y) : Cg (x * c) (y * c) := by
  obtain ⟨q, rfl⟩ := h
  exact ⟨q * c, by rw [Int.add_mul, Int.mul_assoc q, Int.mul_assoc q, Int.mul_comm c]⟩
theorem cg_wrap (x : Int) : Cg (wrap64 x) x := ⟨-((x + 9223372036854775808) / 18446744073709551616), by unfold wrap64; omega⟩
theorem Cg.eq {x y : Int} (h : Cg x y) (h1 : -9223372036854775808 ≤ x ∧ x ≤ 9223372036854775807) (h2 : -9223372036854775808 ≤ y ∧ y ≤ 9223372036854775807) : x = y := by
  obtain ⟨q, h⟩ := h
  omega

def sumZ : Nat → (Nat → Int) → Int
  | 0, _ => 0
  | n + 1, f => sumZ n f + f n

theorem sumZ_congr {n : Nat} {f g : Nat → Int} (h : ∀ k, k < n → f k = g k) : sumZ n f = sumZ n g := by
  induction n with
  | zero => rfl
  | succ n ih => unfold sumZ; rw [ih fun k hk => h k (by omega), h n (by omega)]

theorem sumZ_cg {n : Nat} {f g : Nat → Int} (h : ∀ k, k < n → Cg (f k) (g k)) : Cg (sumZ n f) (sumZ n g) := by
  induction n with
  | zero => exact .refl _
  | succ n ih => exact (ih fun k hk => h k (by omega)).add (h n (by omega))

theorem sumZ_zero (n : Nat) : sumZ n (fun _ => 0) = 0 := by
  induction n with
  | zero => rfl
  | succ n ih => unfold sumZ; rw [ih]; rfl

theorem sumZ_plus (n : Nat) (f g : Nat → Int) : sumZ n (fun k => f k + g k) = sumZ n f + sumZ n g := by
  induction n with
  | zero => rfl
  | succ n ih =>
    show sumZ n (fun k => f k + g k) + (f n + g n) = (sumZ n f + f n) + (sumZ n g + g n)
    rw [ih]
    omega

theorem sumZ_times (n : Nat) (c : Int) (f : Nat → Int) : sumZ n (fun k => c * f k) = c * sumZ n f := by
  induction n with
  | zero => simp [sumZ]
  | succ n ih => unfold sumZ; rw [ih, Int.mul_add]

theorem sumZ_add (m k : Nat) (f : Nat → Int) : sumZ (m + k) f = sumZ m f + sumZ k fun j => f (m + j) := by
  induction k with
  | zero => simp [sumZ]
  | succ k ih =>
    show sumZ (m + k) f + f (m + k) = sumZ m f + (sumZ k (fun j => f (m + j)) + f (m + k))
    rw [ih]
    omega

def padT (o : List Int) (n : Nat) : List Int := o ++ List.replicate (n - o.length) 0

theorem padT_len (o : List Int) (n : Nat) : (padT o n).length = max o.length n := by
  unfold padT
  rw [List.length_append, List.length_replicate]
  omega

theorem padT_get (o : List Int) (n j : Nat) : (padT o n).getD j 0 = o.getD j 0 := by
  unfold padT
  rw [List.getD_eq_getElem?_getD, List.getD_eq_getElem?_getD, List.getElem?_append]
  split
  · rfl
  · rename_i h
    rw [List.getElem?_eq_none (l := o) (by omega), List.getElem?_replicate]
    split <;> rfl

def plusU (a b : List Int) (t : Int) (f : Nat) : Nat → List Int
  | 0 => a
  | i + 1 => (padT (plusU a b t f i) (i + f + 1)).set (i + f) (wrap64 ((plusU a b t f i).getD (i + f) 0 + wrap64 (t * b.getD i 0)))

def plusT (a b : List Int) (t : Int) (f : Nat) : List Int := plusU a b t f b.length

theorem plusU_len (a b : List Int) (t : Int) (f : Nat) : ∀ i, (plusU a b t f i).length = if i = 0 then a.length else max a.length (i + f)
  | 0 => rfl
  | i + 1 => by
    have ih := plusU_len a b t f i
    unfold plusU
    rw [List.length_set, padT_len, ih]
    split <;> split <;> omega

theorem plusU_get (a b : List Int) (t : Int) (f : Nat) : ∀ (i j : Nat), (plusU a b t f i).getD j 0 = if f ≤ j ∧ j < i + f then wrap64 (a.getD j 0 + wrap64 (t * b.getD (j - f) 0)) else a.getD j 0
  | 0, j => by
    rw [if_neg (by omega)]
    rfl
  | i + 1, j => by
    have hl := padT_len (plusU a b t f i) (i + f + 1)
    unfold plusU
    rw [List.getD_eq_getElem?_getD, List.getElem?_set]
    by_cases h : i + f = j
    · subst h
      rw [if_pos rfl, if_pos (by omega), if_pos (by omega), plusU_get a b t f i, if_neg (by omega), show i + f - f = i by omega]
      rfl
    · rw [if_neg h, ← List.getD_eq_getElem?_getD, padT_get, plusU_get a b t f i]
      by_cases h2 : f ≤ j ∧ j < i + f
      · rw [if_pos h2, if_pos (by omega)]
      · rw [if_neg h2, if_neg (by omega)]

theorem plusT_cg (a b : List Int) (t : Int) (f j : Nat) : Cg ((plusT a b t f).getD j 0) (a.getD j 0 + t * (if f ≤ j then b.getD (j - f) 0 else 0)) := by
  unfold plusT
  rw [plusU_get]
  by_cases h : f ≤ j
  · rw [if_pos h]
    by_cases h2 : j < b.length + f
    · rw [if_pos ⟨h, h2⟩]
      exact (cg_wrap _).trans ((Cg.refl _).add (cg_wrap _))
    · rw [if_neg (by omega)]
      refine Cg.of_eq ?_
      rw [show b.getD (j - f) 0 = 0 by rw [List.getD_eq_getElem?_getD, List.getElem?_eq_none (by omega)]; rfl]
      omega
  · rw [if_neg h, if_neg (by omega)]
    exact Cg.of_eq (by omega)

theorem plusT_len (a b : List Int) (t : Int) (f : Nat) : (plusT a b t f).length ≤ max a.length (b.length + f) := by
  unfold plusT
  rw [plusU_len]
  split <;> omega

theorem plusT_sum (a b : List Int) (t : Int) (f D : Nat) (F : Int → Int) :
    Cg (sumZ D fun k => (plusT a b t f).getD k 0 * F ((D : Int) - 1 - k)) (sumZ D (fun k => a.getD k 0 * F ((D : Int) - 1 - k)) + t * sumZ (D - f) fun k => b.getD k 0 * F (((D - f : Nat) : Int) - 1 - k)) := by
  refine (sumZ_cg (g := fun k => a.getD k 0 * F ((D : Int) - 1 - k) + t * ((if f ≤ k then b.getD (k - f) 0 else 0) * F ((D : Int) - 1 - k))) fun k hk => ?_).trans (Cg.of_eq ?_)
  · refine ((plusT_cg a b t f k).mul _).trans (Cg.of_eq ?_)
    rw [Int.add_mul, Int.mul_assoc]
  · rw [sumZ_plus, sumZ_times]
    congr 2
    by_cases h : f ≤ D
    · obtain ⟨E, rfl⟩ : ∃ E, D = f + E := ⟨D - f, by omega⟩
      rw [sumZ_add, sumZ_congr (g := fun _ => 0) (n := f) fun k hk => by rw [if_neg (by omega), Int.zero_mul], sumZ_zero, Int.zero_add, show f + E - f = E by omega]
      refine sumZ_congr fun k hk => ?_
      rw [if_pos (by omega), show f + k - f = k by omega, show ((f + E : Nat) : Int) - 1 - ((f + k : Nat) : Int) = (E : Int) - 1 - k by omega]
    · rw [show D - f = 0 by omega]
      rw [sumZ_congr (g := fun _ => 0) (n := D) fun k hk => by rw [if_neg (by omega), Int.zero_mul], sumZ_zero]
      rfl

def numF : Nat → List (List Int) → List Int
  | 0, _ => [1]
  | _ + 1, [] => [1]
  | L + 1, x :: l => plusT (numF L l) (numF L (l.map (quoM x))) (-1) x.sum.toNat

def numT (l : List (List Int)) : List Int := numF l.length l.reverse

theorem numT_snoc (l : List (List Int)) (x : List Int) : numT (l ++ [x]) = plusT (numT l) (numT (l.map (quoM x))) (-1) x.sum.toNat := by
  unfold numT
  rw [List.reverse_append, List.length_append]
  show plusT (numF l.length l.reverse) (numF l.length (l.reverse.map (quoM x))) (-1) x.sum.toNat = _
  rw [← List.map_reverse, List.length_map]

theorem numF_sum {n : Nat} (hn : 0 < n) : ∀ (L : Nat) (l : List (List Int)), l.length ≤ L → (∀ e ∈ l, Mn n e) → ∀ D : Nat, Cg (sumZ D fun k => (numF L l).getD k 0 * frN n ((D : Int) - 1 - k)) (cntO n l ((D : Int) - 1)) := by
  have base : ∀ D : Nat, Cg (sumZ D fun k => ([1] : List Int).getD k 0 * frN n ((D : Int) - 1 - k)) (cntO n [] ((D : Int) - 1)) := by
    intro D
    refine Cg.of_eq ?_
    rw [cntO_nil]
    cases D with
    | zero => unfold sumZ frN monZ; rw [if_pos (by omega)]; rfl
    | succ E =>
      rw [Nat.add_comm, sumZ_add, sumZ_congr (n := E) (g := fun _ => 0) fun k hk => by
        rw [show ([1] : List Int).getD (1 + k) 0 = 0 by rw [Nat.add_comm]; rfl, Int.zero_mul], sumZ_zero]
      simp [sumZ]
  intro L
  induction L with
  | zero =>
    intro l hl _ D
    obtain rfl : l = [] := List.length_eq_zero_iff.1 (by omega)
    exact base D
  | succ L ih =>
    intro l hl hm D
    cases l with
    | nil => exact base D
    | cons x l =>
      have hx := hm x (by simp)
      have hml : ∀ e ∈ l, Mn n e := fun e he => hm e (by simp [he])
      have hlen : l.length ≤ L := by simpa using hl
      have h0 := hx.sum0
      show Cg (sumZ D fun k => (plusT (numF L l) (numF L (l.map (quoM x))) (-1) x.sum.toNat).getD k 0 * frN n ((D : Int) - 1 - k)) _
      refine (plusT_sum _ _ _ _ D fun d => (frN n d : Int)).trans ?_
      have h1 := ih l hlen hml D
      have h2 := ih (l.map (quoM x)) (by simpa using hlen) (fun e he => by
        obtain ⟨y, hy, rfl⟩ := List.mem_map.1 he
        exact (quo_ok hx (hml y hy)).1) (D - x.sum.toNat)
      have h3 := cntO_cons hn hx hml ((D : Int) - 1)
      have h4 : (cntO n (l.map (quoM x)) (((D - x.sum.toNat : Nat) : Int) - 1) : Int) = cntO n (l.map (quoM x)) ((D : Int) - 1 - x.sum) := by
        by_cases h : x.sum.toNat ≤ D
        · rw [show (((D - x.sum.toNat : Nat) : Int) - 1) = (D : Int) - 1 - x.sum by omega]
        · rw [cntO_neg (by omega), cntO_neg (by omega)]
      rw [h4] at h2
      refine (h1.add (h2.mul (-1) |> fun h => (Cg.of_eq (by omega)).trans (h.trans (Cg.of_eq (y := -1 * ↑(cntO n (l.map (quoM x)) ((D : Int) - 1 - x.sum))) (by omega))))).trans (Cg.of_eq ?_)
      omega

theorem numT_sum {n : Nat} (hn : 0 < n) (l : List (List Int)) (hm : ∀ e ∈ l, Mn n e) (D : Nat) : Cg (sumZ D fun k => (numT l).getD k 0 * frN n ((D : Int) - 1 - k)) (cntO n l ((D : Int) - 1)) := by
  unfold numT
  have h := numF_sum hn l.length l.reverse (by simp) (fun e he => hm e (by simpa using he)) D
  rw [cntO_congr (outM_rev l)] at h
  exact h

theorem numF_len {n : Nat} : ∀ (L : Nat) (l : List (List Int)), (∀ e ∈ l, Mn n e) → ((numF L l).length : Int) ≤ 1 + (l.map List.sum).sum
  | 0, l, hm => by
    have : 0 ≤ (l.map List.sum).sum := sum_nonneg fun y hy => by
      obtain ⟨e, he, rfl⟩ := List.mem_map.1 hy
      exact (hm e he).sum0
    show (([1] : List Int).length : Int) ≤ _
    simp
    omega
  | L + 1, [], hm => by simp [numF]
  | L + 1, x :: l, hm => by
    have hx := hm x (by simp)
    have hml : ∀ e ∈ l, Mn n e := fun e he => hm e (by simp [he])
    have h0 := hx.sum0
    have h1 := numF_len L l hml
    have h2 := numF_len (n := n) L (l.map (quoM x)) fun e he => by
      obtain ⟨y, hy, rfl⟩ := List.mem_map.1 he
      exact (quo_ok hx (hml y hy)).1
    have h3 : ((l.map (quoM x)).map List.sum).sum ≤ (l.map List.sum).sum := by
      rw [List.map_map]
      exact sum_le fun e he => (quo_ok hx (hml e he)).2
    have h4 := plusT_len (numF L l) (numF L (l.map (quoM x))) (-1) x.sum.toNat
    show ((plusT (numF L l) (numF L (l.map (quoM x))) (-1) x.sum.toNat).length : Int) ≤ _
    rw [List.map_cons, List.sum_cons]
    omega

end Go.Proofs.YtfjmdhemlfafbaaGreat

namespace Go.Proofs.YtfjmdhemlfafbaaGreat
open Go.RowKit Go.Maps

theorem made_ints (n : Nat) (hn : n ≤ 3) (w : World) : (Instr.makeSlice 24 (.int .i64 n) (.int .i64 n)).run Tryz.prog w = .ok (.slice (some ⟨w.heap.size, 0, none⟩) n n) (w.alloc (.cells (intsV (List.replicate n 0)) 3)) := by
  obtain ⟨inf, z, hi, hz1, hz2, hz3⟩ := (ElT.z (P := Tryz.prog) (E := 3) (k := 1) (zd := [I 0]) (bytes := 8)).is
  have hb := ElT.b (P := Tryz.prog) (E := 3) (k := 1) (zd := [I 0]) (bytes := 8) inf hi
  have hr := run_make (P := Tryz.prog) w 24 3 inf z Tryz.underlying24 hi hz1 .i64 .i64 (n : Int) (n : Int) (by omega) (by omega) (bytes_int (by rw [hb]; omega)) (by omega)
  rw [Int.toNat_natCast, hz2, hz3] at hr
  rw [hr]
  have e : madeCells (([I 0] : List D).map litV).toArray (n * 1) = intsV (List.replicate n 0) := by
    unfold madeCells intsV
    apply Array.ext_getElem?
    intro j
    rw [Array.getElem?_map, Array.getElem?_range, List.getElem?_toArray, List.getElem?_map, List.getElem?_replicate, Nat.mul_one]
    by_cases h : j < n
    · rw [if_pos h, if_pos h]
      have : j % 1 = 0 := Nat.mod_one j
      simp [this, litV]
    · rw [if_neg h, if_neg h]
      rfl
  rw [e]

set_option maxRecDepth 100000 in
set_option maxHeartbeats 8000000 in
theorem mono1_calls (n : Nat) (d : Int) (l bn on bd od : Nat) (hn : 1 ≤ n ∧ n ≤ 3) (hd : d ≤ 1000000) (W0 : World) (hbn : W0.cell? ⟨bn, on, none⟩ = some (.int .i64 n)) (hbd : W0.cell? ⟨bd, od, none⟩ = some (.int .i64 d)) (J : List (List Int) → World → Prop)
    (h0 : ∀ W, RowKit.Below W0.heap.size W0 W → W.drawn = W0.drawn → W.heap.size = W0.heap.size + 4 → W.heap[W0.heap.size + 1]? = some (.cells (intsV (List.replicate n 0)) 3 (0, 0)) → J [] W)
    (hst : ∀ pre W j x, j < n → J pre W → J pre (W.setCell ⟨W0.heap.size + 1, j, none⟩ (.int .i64 x)))
    (hY : ∀ pre W es, J pre W → es.length = n → MoW n l bn on (W0.heap.size + 1 + 1) W0.heap.size (W0.heap.size + 1 + 1 + 1) (W0.heap.size + 1) W → W.heap[W0.heap.size + 1]? = some (.cells (intsV es) 3 (0, 0)) →
      YieldAt Fence.wide 0 Tryz.prog l #[.slice (some ⟨W0.heap.size + 1, 0, none⟩) n n] W fun en W' => en = .returned (.bool true) ∧ J (pre ++ [es]) W' ∧ ∀ b, b = bn ∨ b = W0.heap.size + 1 + 1 ∨ b = W0.heap.size ∨ b = W0.heap.size + 1 + 1 + 1 ∨ b = W0.heap.size + 1 → W'.heap[b]? = W.heap[b]?) :
    CallsIn Fence.wide 0 Tryz.prog 33 #[.func (.yield l) #[] #[], .pointer (some ⟨bn, on, none⟩), .pointer (some ⟨bd, od, none⟩)] W0 fun en W' => (∃ v, en = .returned v) ∧ J (monZ n d) W' := by
  have hbnl : bn < W0.heap.size := World.block_lt_of_cell? W0 ⟨bn, on, none⟩ hbn
  have hbdl : bd < W0.heap.size := World.block_lt_of_cell? W0 ⟨bd, od, none⟩ hbd
  have hmk := made_ints n hn.2
  refine callsIn_of_wp Tryz.func33 rfl trivial ?_ rfl
  simp only [Tryz.ntmps33, List.size_toArray, List.length_cons, List.length_nil, Nat.reduceAdd, Nat.reduceSub, Array.replicate_succ, Array.replicate_zero, List.push_toArray, List.append_toArray, List.nil_append, List.cons_append]
  obtain ⟨Wx, hWx⟩ : ∃ Wx, (((W0.alloc (Obj.cells #[Value.func (Fn.yield l) #[] #[]] 45)).alloc (Obj.cells (intsV (List.replicate n 0)) 3)).alloc (Obj.cells #[Value.slice (some { block := W0.heap.size + 1, off := 0 }) n n] 24)).alloc (Obj.cells #[Value.nilFunc] 69) = Wx := ⟨_, rfl⟩
  obtain ⟨fv, hfv⟩ : ∃ fv, fv = Value.func (Fn.func 34) #[] #[Value.pointer (some ⟨bn, on, none⟩), Value.pointer (some ⟨W0.heap.size + 1 + 1, 0, none⟩), Value.pointer (some ⟨W0.heap.size, 0, none⟩), Value.pointer (some ⟨W0.heap.size + 1 + 1 + 1, 0, none⟩)] := ⟨_, rfl⟩
  have hsx : Wx.heap.size = W0.heap.size + 4 := by rw [← hWx]; simp
  have hbx : RowKit.Below W0.heap.size W0 Wx := by
    rw [← hWx]
    exact ((((Below.refl _ W0).alloc (Nat.le_refl _) _).alloc (by simp) _).alloc (by simp <;> omega) _).alloc (by simp <;> omega) _
  have hdx : Wx.drawn = W0.drawn := by rw [← hWx]; rfl
  have g0 : Wx.heap[W0.heap.size]? = some (.cells #[Value.func (Fn.yield l) #[] #[]] 45 (0, 0)) := by
    rw [← hWx]
    exact (heap_push _ _ _ (by simp <;> omega)).trans ((heap_push _ _ _ (by simp <;> omega)).trans ((heap_push _ _ _ (by simp)).trans (World.alloc_heap_new _ _)))
  have g1 : Wx.heap[W0.heap.size + 1]? = some (.cells (intsV (List.replicate n 0)) 3 (0, 0)) := by
    rw [← hWx]
    refine (heap_push _ _ _ (by simp <;> omega)).trans ((heap_push _ _ _ (by simp)).trans ?_)
    have := World.alloc_heap_new (W0.alloc (Obj.cells #[Value.func (Fn.yield l) #[] #[]] 45)) (Obj.cells (intsV (List.replicate n 0)) 3)
    rwa [World.size_alloc] at this
  have g2 : Wx.heap[W0.heap.size + 1 + 1]? = some (.cells #[Value.slice (some { block := W0.heap.size + 1, off := 0 }) n n] 24 (0, 0)) := by
    rw [← hWx]
    refine (heap_push _ _ _ (by simp)).trans ?_
    have := World.alloc_heap_new ((W0.alloc (Obj.cells #[Value.func (Fn.yield l) #[] #[]] 45)).alloc (Obj.cells (intsV (List.replicate n 0)) 3)) (Obj.cells #[Value.slice (some { block := W0.heap.size + 1, off := 0 }) n n] 24)
    rwa [World.size_alloc, World.size_alloc] at this
  have g3 : Wx.heap[W0.heap.size + 1 + 1 + 1]? = some (.cells #[Value.nilFunc] 69 (0, 0)) := by
    rw [← hWx]
    have := World.alloc_heap_new (((W0.alloc (Obj.cells #[Value.func (Fn.yield l) #[] #[]] 45)).alloc (Obj.cells (intsV (List.replicate n 0)) 3)).alloc (Obj.cells #[Value.slice (some { block := W0.heap.size + 1, off := 0 }) n n] 24)) (Obj.cells #[Value.nilFunc] 69)
    rwa [World.size_alloc, World.size_alloc, World.size_alloc] at this
  have c3 : Wx.cell? ⟨W0.heap.size + 1 + 1 + 1, 0, none⟩ = some .nilFunc := by simp [World.cell?, g3]
  have f3 : Wx.frozen? ⟨W0.heap.size + 1 + 1 + 1, 0, none⟩ = false := by simp [World.frozen?, g3]
  obtain ⟨W4, hW4⟩ : ∃ W4, Wx.setCell ⟨W0.heap.size + 1 + 1 + 1, 0, none⟩ fv = W4 := ⟨_, rfl⟩
  have k3 : W4.heap[W0.heap.size + 1 + 1 + 1]? = some (.cells #[fv] 69 (0, 0)) := by rw [← hW4, setCell_self g3]; rfl
  have kb : ∀ b, b ≠ W0.heap.size + 1 + 1 + 1 → W4.heap[b]? = Wx.heap[b]? := fun b hb => by rw [← hW4]; exact setCell_other hb
  have hb4 : RowKit.Below W0.heap.size W0 W4 := by
    rw [← hW4]
    exact hbx.setCell (p := ⟨W0.heap.size + 1 + 1 + 1, 0, none⟩) (by show W0.heap.size ≤ W0.heap.size + 1 + 1 + 1; omega) _
  have hd4 : W4.drawn = W0.drawn := by rw [← hW4]; exact hdx
  have hst4 : (store ⟨W0.heap.size + 1 + 1 + 1, 0, none⟩ fv).run Tryz.prog Wx = .ok () W4 := by
    rw [hfv] at hW4 ⊢
    rw [run_store _ _ _ _ _ rfl]
    simp [stored, c3, f3, hW4]
  have q1 : W4.cell? ⟨bd, od, none⟩ = some (.int .i64 d) := (hb4.cell (p := ⟨bd, od, none⟩) hbdl).trans hbd
  have q2 : W4.cell? ⟨W0.heap.size + 1 + 1 + 1, 0, none⟩ = some fv := by simp [World.cell?, k3]
  have hM : MoW n l bn on (W0.heap.size + 1 + 1) W0.heap.size (W0.heap.size + 1 + 1 + 1) (W0.heap.size + 1) W4 := by
    refine ⟨(hb4.cell (p := ⟨bn, on, none⟩) hbnl).trans hbn, ?_, ?_, by rw [q2, hfv]⟩
    · simp [World.cell?, kb (W0.heap.size + 1 + 1) (by omega), g2]
    · simp [World.cell?, kb W0.heap.size (by omega), g0]
  have hJ4 := h0 W4 hb4 hd4 (by rw [← hW4]; simpa [World.setCell] using hsx) ((kb _ (by omega)).trans g1)
  have hbe4 : W4.heap[W0.heap.size + 1]? = some (.cells (intsV (List.replicate n 0)) 3 (0, 0)) := (kb _ (by omega)).trans g1
  have hfill : 0 ≤ d → CallsIn Fence.wide 0 Tryz.prog 34 #[.int .i64 0, .int .i64 d, .pointer (some ⟨bn, on, none⟩), .pointer (some ⟨W0.heap.size + 1 + 1, 0, none⟩), .pointer (some ⟨W0.heap.size, 0, none⟩), .pointer (some ⟨W0.heap.size + 1 + 1 + 1, 0, none⟩)] W4
      fun en W' => en = .returned (.bool true) ∧ J (monZ n d) W' := fun h => by
    have := fill_calls n l bn on (W0.heap.size + 1 + 1) W0.heap.size (W0.heap.size + 1 + 1 + 1) (W0.heap.size + 1) (by omega) ⟨by omega, by omega, by omega, by omega⟩ J hst hY (n - 1) 0 d.toNat [] W4 [] (List.replicate n 0) (by omega) (by omega) hJ4 hM rfl (by simp) hbe4
    rw [show ((d.toNat : Nat) : Int) = d by omega, show n - 1 + 1 = n by omega] at this
    refine CallsIn.mono this fun en W' ⟨h1, h2, _⟩ => ⟨h1, ?_⟩
    unfold monZ
    rw [if_neg (by omega)]
    simpa using h2
  have hneg : d < 0 → monZ n d = [] := fun h => by unfold monZ; rw [if_pos h]
  clear hst hY h0 hbx hsx hdx g0 g1 g2 g3 k3 kb hb4 hd4 hM hbe4 hn hd
  by_cases hd0 : 0 ≤ d
  · have hf := hfill hd0
    clear hfill hneg hJ4
    subst hfv
    gi_wp2_with ((try refine ⟨trivial, rfl, ?_⟩); gi_at_call 34; refine hf.mono ?_; clear hf; rintro en W5 ⟨rfl, hJ5⟩)
    go_end0
    exact ⟨⟨_, rfl⟩, hJ5⟩
  · rw [hneg (by omega)]
    clear hfill hneg
    subst hfv
    gi_wp2
    go_end0
    exact ⟨⟨_, rfl⟩, hJ4⟩

end Go.Proofs.YtfjmdhemlfafbaaGreat
