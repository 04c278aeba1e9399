/-
  Members that are needed, each lessened by the others: their leads stay. No condition.
-/
import Derived.Test.YtfjmdhemlfafbaaGreatKHc19
set_option linter.unusedVariables false
set_option linter.unusedSimpArgs false

namespace Go.Proofs.YtfjmdhemlfafbaaGreat
section
open Go.RowKit
set_option maxHeartbeats 2000000

structure NextOk (r : Rg) (k : Nat) (δ : Nat → Int) (s : GS) (p : Pr) : Prop where
 mem : p ∈ s.ps
 at_ : nextAt s.ps < s.ps.length
 is : s.ps.getD (nextAt s.ps) default = p
 pair : PairOk r k δ (s.m p.i) (s.m p.k)
 e : p.e = lcmE (s.m p.i) (s.m p.k)
 ik : p.i < p.k
 kl : p.k < s.ms.length
 least : ∀ q ∈ s.ps, p.e.sum ≤ q.e.sum
 deg : (lcmE (s.m p.i) (s.m p.k)).sum + δ (s.m p.i).a ≤ 1044

theorem GInv.next {r : Rg} {k : Nat} {δ : Nat → Int} {m : Nat} {d : Nat → Int} {G0 : List Mb} {s : GS} (h : GInv r k δ m d G0 s) (hne : s.ps ≠ []) : ∃ p, NextOk r k δ s p := by
 obtain ⟨h1, h2⟩ := nextAt_ok hne
 have hc := h.gens.cx
 refine ⟨s.ps.getD (nextAt s.ps) default, ?_⟩
 have hmem : s.ps.getD (nextAt s.ps) default ∈ s.ps := by rw [getD_lt h1]; exact List.getElem_mem h1
 obtain ⟨v1, v2, v3, v4⟩ := h.val _ hmem
 generalize hpe : s.ps.getD (nextAt s.ps) default = p at *
 have ox := h.ok _ (GS.m_mem (show p.i < s.ms.length by omega))
 have oy := h.ok _ (GS.m_mem v2)
 have dx := h.dgb _ (GS.m_mem (show p.i < s.ms.length by omega))
 have dy := h.dgb _ (GS.m_mem v2)
 obtain ⟨x1, x2, x3⟩ := ox.ld hc
 obtain ⟨y1, y2, y3⟩ := oy.ld hc
 obtain ⟨l1, l2, l3, l4⟩ := max_sum (a := (s.m p.i).u.e) (b := (s.m p.k).u.e) (by rw [x3.len, y3.len]) x3.pos y3.pos
 have hd6 := h.small.d6 _ x1
 have hp0 := hc.pos (s.m p.i).a
 have hdeg : (lcmE (s.m p.i) (s.m p.k)).sum + δ (s.m p.i).a ≤ 1044 := by
  unfold Mb.dg at dx dy
  rw [← v3] at dy
  unfold lcmE
  omega
 exact ⟨hmem, h1, hpe, ⟨hc, ox, oy, v3, by omega⟩, v4, v1, v2, h2, hdeg⟩

theorem GInv.hl {r : Rg} {k : Nat} {δ : Nat → Int} {m : Nat} {d : Nat → Int} {G0 : List Mb} {s : GS} (h : GInv r k δ m d G0 s) : HL r k δ (vsOf s.ms) :=
 ⟨h.gens.cx, fun v hv => by
  obtain ⟨x, hx, rfl⟩ := List.mem_map.1 hv
  exact ⟨_, (h.ok x hx).hv⟩⟩

structure StepOk (r : Rg) (k : Nat) (δ : Nat → Int) (m : Nat) (d : Nat → Int) (s : GS) (p : Pr) : Prop where
 v : HV r k δ ((lcmE (s.m p.i) (s.m p.k)).sum + δ (s.m p.i).a) (pairV2 r s p)
 y : HV r m d ((lcmE (s.m p.i) (s.m p.k)).sum + δ (s.m p.i).a) (pairY r s p)
 inv : HInv r k δ ((lcmE (s.m p.i) (s.m p.k)).sum + δ (s.m p.i).a) (code2 r (s.m p.i).a (lcmE (s.m p.i) (s.m p.k)) - 1) (vsOf s.ms) (pairV2 r s p) (hdiv r k (vsOf s.ms) (pairV2 r s p))
 fin : topV r (hdiv r k (vsOf s.ms) (pairV2 r s p)).v = none
 top : ∀ (j : Nat) (hj : j < (pairV2 r s p).length), ∀ t ∈ (pairV2 r s p)[j], code2 r j t.e ≤ code2 r (s.m p.i).a (lcmE (s.m p.i) (s.m p.k)) - 1

theorem lessY {r : Rg} {m : Nat} {d : Nat → Int} {τ τx τy : Int} {x y : Vc} {A B : Tm} (hc : Cx r m d) (hx : HV r m d τx x) (hy : HV r m d τy y) (hA : TM r A) (hB : TM r (negT r B)) (h8 : τ ≤ 8000) (h1 : τx + A.e.sum = τ) (h2 : τy + B.e.sum = τ) : HV r m d τ (lessT r x y A B) := by
 have a1 := hx.by hc hA (by omega)
 have a2 := hy.by hc hB (by show τy + B.e.sum ≤ 8000; omega)
 rw [h1] at a1
 have e : τy + (negT r B).e.sum = τ := h2
 rw [e] at a2
 exact a1.sum hc a2

theorem GInv.pair {r : Rg} {k : Nat} {δ : Nat → Int} {m : Nat} {d : Nat → Int} {G0 : List Mb} {s : GS} (h : GInv r k δ m d G0 s) {p : Pr} (hp : NextOk r k δ s p) : StepOk r k δ m d s p := by
 obtain ⟨k1, k2, k3⟩ := hp.pair.less
 have e1 : pairV2 r s p = lessT r (s.m p.i).v (s.m p.k).v (upT r (s.m p.i).u (lcmE (s.m p.i) (s.m p.k))) (upT r (s.m p.k).u (lcmE (s.m p.i) (s.m p.k))) := by unfold pairV2; rw [hp.e]
 have e2 : pairY r s p = lessT r (s.m p.i).y (s.m p.k).y (upT r (s.m p.i).u (lcmE (s.m p.i) (s.m p.k))) (upT r (s.m p.k).u (lcmE (s.m p.i) (s.m p.k))) := by unfold pairY; rw [hp.e]
 obtain ⟨hL, gx, gy, mx, my, tx, ty, xk, sx, sy⟩ := hp.pair.facts
 obtain ⟨hp2, hn3, hn1, hpr, hck⟩ := h.gens.cx.rg
 obtain ⟨⟨a1, a2⟩, a3, a4, a5, a6⟩ := upT_ok hck tx mx.mn hL gx
 obtain ⟨⟨b1, b2⟩, b3, b4, b5, b6⟩ := upT_ok hck ty my.mn hL gy
 have htop : ∀ (j : Nat) (hj : j < (pairV2 r s p).length), ∀ t ∈ (pairV2 r s p)[j], code2 r j t.e ≤ code2 r (s.m p.i).a (lcmE (s.m p.i) (s.m p.k)) - 1 := fun j hj t ht => by
  have : code2 r j t.e < code2 r (s.m p.i).a (lcmE (s.m p.i) (s.m p.k)) := by
   revert hj ht
   rw [e1]
   intro hj ht
   exact k2 j hj t ht
  omega
 have hv : HV r k δ ((lcmE (s.m p.i) (s.m p.k)).sum + δ (s.m p.i).a) (pairV2 r s p) := by rw [e1]; exact k1
 obtain ⟨i1, i2⟩ := hdiv_ok h.hl hv htop
 refine ⟨hv, ?_, i1, i2, htop⟩
 rw [e2]
 have hdx : (s.m p.i).dg δ = (s.m p.i).u.e.sum + δ (s.m p.i).a := rfl
 have hdy : (s.m p.k).dg δ = (s.m p.k).u.e.sum + δ (s.m p.k).a := rfl
 have hsame := hp.pair.same
 exact lessY h.cxY (h.ys _ (GS.m_mem (by have := hp.ik; have := hp.kl; omega))) (h.ys _ (GS.m_mem hp.kl)) ⟨by omega, a2, a3⟩
  ⟨by show 0 ≤ r.p - (upT r (s.m p.k).u (lcmE (s.m p.i) (s.m p.k))).c; omega, by show r.p - (upT r (s.m p.k).u (lcmE (s.m p.i) (s.m p.k))).c < r.p; omega, b3⟩ hp.pair.t8 (by rw [hdx, a5]; omega) (by rw [hdy, b5, ← hsame]; omega)

theorem GInv.tell {r : Rg} {k : Nat} {δ : Nat → Int} {m : Nat} {d : Nat → Int} {s : GS} {τ C : Int} (hcY : Cx r m d) (hok : ∀ x ∈ s.ms, MbOk r k δ x) (hys : ∀ x ∈ s.ms, HV r m d (x.dg δ) x.y) : ∀ (σ : List (Nat × Tm)) (y : Vc), HV r m d τ y → (∀ x ∈ σ, SigOk r k δ (vsOf s.ms) τ C x) → HV r m d τ (tellY r s.ms y σ)
 | [], y, hy, _ => hy
 | x :: σ, y, hy, hσ => by
  obtain ⟨h1, h2, h3, b, w, h4, h5, h6⟩ := hσ x (by simp)
  have hlt : x.1 < s.ms.length := by simpa [vsOf] using h1
  have e1 : (vsOf s.ms).getD x.1 [] = s.ms[x.1].v := by rw [getD_lt h1]; simp [vsOf]
  rw [e1] at h4
  have h7 := (hok _ (List.getElem_mem hlt)).top
  rw [h4] at h7
  obtain ⟨rfl, rfl⟩ := Prod.mk.inj (Option.some.inj h7)
  have hyy := hys _ (List.getElem_mem hlt)
  have htm : TM r (negT r x.2) := ⟨by have := (negT_ok h2).lo; omega, (negT_ok h2).hi, ⟨h3.len, h3.pos⟩⟩
  have he : (s.ms[x.1]).dg δ + (negT r x.2).e.sum = τ := by
   show (s.ms[x.1]).u.e.sum + δ (s.ms[x.1]).a + x.2.e.sum = τ
   omega
  have a1 := hyy.by hcY htm (by rw [he]; exact hy.t8)
  rw [he] at a1
  refine GInv.tell hcY hok hys σ _ ?_ fun z hz => hσ z (by simp [hz])
  show HV r m d τ (vsumT r y (vbyT r (s.ms.getD x.1 default).y (negT r x.2)))
  rw [getD_lt hlt]
  exact hy.sum hcY a1

theorem goes_none {r : Rg} {k : Nat} {δ : Nat → Int} {ms : List Mb} (hok : ∀ x ∈ ms, MbOk r k δ x) {a : Nat} {e : List Int} (h : goesT r (vsOf ms) a e = none) : ∀ x ∈ ms, divs a e x = false := fun x hx => by
 have := List.findIdx?_eq_none_iff.1 h x.v (List.mem_map.2 ⟨x, hx, rfl⟩)
 unfold goesIn at this
 rw [(hok x hx).top] at this
 exact this

theorem divs_trans {r : Rg} {n a : Nat} {e e' : List Int} {x : Mb} (he : e.length = n) (he' : e'.length = n) (hx : x.u.e.length = n) (hg : goesM e e' = true) (h : divs a e' x = true) : divs a e x = true := by
 unfold divs at h ⊢
 simp only [Bool.and_eq_true] at h ⊢
 exact ⟨h.1, goes_trans (by omega) (by omega) hg h.2⟩

theorem GInv.small_new {r : Rg} {k : Nat} {δ : Nat → Int} {m : Nat} {d : Nat → Int} {G0 : List Mb} {s : GS} (h : GInv r k δ m d G0 s) {p : Pr} (hp : NextOk r k δ s p) {τ : Int} {v : Vc} (hv : HV r k δ τ v) (hin : Sp r.p (Row r δ G0 τ) (ev v)) {b : Nat} {w : Tm} (ht : topV r v = some (b, w))
  (hn : ∀ x ∈ s.ms, divs b w.e x = false) : p.e.sum ≤ 513 := by
 refine Classical.byContradiction fun hbig => ?_
 have hc := h.gens.cx
 obtain ⟨t1, t2, t3, t4⟩ := hv.top hc ht
 have hInN : InN r k δ G0 (b, w.e) := ⟨v, by show HV r k δ (w.e.sum + δ b) v; rw [t4]; exact hv, by show Sp r.p (Row r δ G0 (w.e.sum + δ b)) (ev v); rw [t4]; exact hin, by rw [ht]; rfl⟩
 have ht0 : 0 ≤ w.e.sum := t3.mn.sum0
 have hb0 := hc.pos b
 obtain ⟨e', g1, g2, g3, v', w1, w2, w3⟩ := h.gens.low h.small t1 (w.e.sum + δ b).toNat t3.mn (by omega) (by rw [t4]; exact hv.t8) hInN
 obtain ⟨u', hu', hue⟩ := keyOf_some w3
 have w1' : HV r k δ (e'.sum + δ b) v' := w1
 obtain ⟨R, hR⟩ := h.rest
 have hrow : Sp r.p (Row r δ s.ms (e'.sum + δ b)) (ev v') := w2.mono fun X ⟨x, hx, hX⟩ => ⟨x, by rw [hR]; exact List.mem_append_left _ hx, hX⟩
 have := buch hc h.ok (τ := e'.sum + δ b) (fun i j hi hj hij ha hle => by
  have ei : s.ms[i] = s.m i := (GS.m_eq hi).symm
  have ej : s.ms[j] = s.m j := (GS.m_eq hj).symm
  rw [ei, ej] at ha hle ⊢
  rcases h.good i j hij hj ha with ⟨q, hq, q1, q2⟩ | hg
  ·have h1 := hp.least q hq
   obtain ⟨v1, v2, v3, v4⟩ := h.val q hq
   rw [q1, q2] at v4
   rw [v4] at h1
   have := hc.pos (s.m i).a
   omega
  ·exact hg) w1' hrow hu'
 obtain ⟨x, hx, hdx⟩ := List.any_eq_true.1 this
 rw [hue] at hdx
 have hxl := ((h.ok x hx).ld hc).2.2.len
 have h9 := divs_trans (r := r) (n := r.n.toNat) t3.len g1.len hxl g2 hdx
 rw [hn x hx] at h9
 cases h9

theorem growStep_eq (r : Rg) (k : Nat) (s : GS) : growStep r k s = if emptyT (hdiv r k (vsOf s.ms) (pairV2 r s (s.ps.getD (nextAt s.ps) default))).left = true then ⟨s.ms, s.ps.eraseIdx (nextAt s.ps)⟩ else addM ⟨s.ms, s.ps.eraseIdx (nextAt s.ps)⟩ (mkM r (hdiv r k (vsOf s.ms) (pairV2 r s (s.ps.getD (nextAt s.ps) default))).left (tellY r s.ms (pairY r s (s.ps.getD (nextAt s.ps) default)) (hdiv r k (vsOf s.ms) (pairV2 r s (s.ps.getD (nextAt s.ps) default))).σ)) := rfl

theorem emptyT_iff (v : Vc) : emptyT v = true ↔ ∀ (i : Nat) (hi : i < v.length), v[i] = [] := by
 unfold emptyT
 rw [List.all_eq_true]
 constructor
 ·intro h i hi
  exact List.isEmpty_iff.1 (h _ (List.getElem_mem hi))
 ·intro h f hf
  obtain ⟨i, hi, rfl⟩ := List.getElem_of_mem hf
  rw [h i hi]; rfl

theorem GInv.step {r : Rg} {k : Nat} {δ : Nat → Int} {m : Nat} {d : Nat → Int} {G0 : List Mb} {s : GS} (h : GInv r k δ m d G0 s) {p : Pr} (hp : NextOk r k δ s p) : GInv r k δ m d G0 (growStep r k s) ∧ muG (growStep r k s) < muG s := by
 have hc := h.gens.cx
 have hs := h.pair hp
 have hne : s.ps ≠ [] := fun h0 => by have := hp.mem; rw [h0] at this; cases this
 have hk40 := hc.k40
 rw [growStep_eq, hp.is]
 generalize hD : hdiv r k (vsOf s.ms) (pairV2 r s p) = D at *
 have hinv := hs.inv
 rw [hD] at hinv
 have hfin := hs.fin
 rw [hD] at hfin
 have hz := topV_noneM (hinv.v.vm hc) hfin
 have hat := hp.at_
 have hlen : (s.ps.eraseIdx (nextAt s.ps)).length = s.ps.length - 1 := by rw [List.length_eraseIdx, if_pos hat]
 have hsub : ∀ q ∈ s.ps.eraseIdx (nextAt s.ps), q ∈ s.ps := fun q hq => List.eraseIdx_subset hq
 have hpos : 0 < s.ps.length := by omega
 have hcov : ∀ q ∈ s.ps, q ∈ s.ps.eraseIdx (nextAt s.ps) ∨ q = p := fun q hq => by
  obtain ⟨j, hj, rfl⟩ := List.getElem_of_mem hq
  by_cases hje : j = nextAt s.ps
  ·right
   subst hje
   rw [← hp.is, getD_lt hat]
  ·exact .inl (List.mem_eraseIdx_iff_getElem.2 ⟨j, hj, hje, rfl⟩)
 obtain ⟨c, c1, c2⟩ := h.cst
 have hpi : p.i < s.ms.length := by have := hp.ik; have := hp.kl; omega
 have hxd6 := h.small.d6 _ ((hp.pair.ox.ld hc).1)
 have hδ0 := hc.pos (s.m p.i).a
 have hpt : p.e.sum + δ (s.m p.i).a = (lcmE (s.m p.i) (s.m p.k)).sum + δ (s.m p.i).a := by rw [hp.e]
 have hcp := c1 p hp.mem
 have hold : ∀ q ∈ s.ps, max c p.e.sum ≤ q.e.sum + δ (s.m q.i).a := fun q hq => by
  have h1 := c1 q hq
  have h2 := hp.least q hq
  have h3 := hc.pos (s.m q.i).a
  omega
 by_cases hemp : emptyT D.left = true
 ·rw [if_pos hemp]
  have hle := (emptyT_iff _).1 hemp
  have hgood : GoodP r δ s.ms (s.m p.i) (s.m p.k) := hp.pair.good h.ok (fun x hx => hx) (by unfold pairV2; rw [hp.e]) hinv hz (.inl hle)
  refine ⟨⟨h.k3, h.gens, h.small, h.cxY, h.rest, h.ok, h.ys, h.inn, h.dgb, fun q hq => h.val q (hsub q hq), fun i j hij hj ha => ?_, ⟨c, fun q hq => c1 q (hsub q hq), c2⟩, h.nd, h.dr, ?_⟩, ?_⟩
  ·rcases h.good i j hij hj ha with ⟨q, hq, q1, q2⟩ | hg
   ·rcases hcov q hq with hq | hq
    ·exact .inl ⟨q, hq, q1, q2⟩
    ·subst hq; subst q1; subst q2
     exact .inr hgood
   ·exact .inr hg
  ·show (s.ps.eraseIdx (nextAt s.ps)).length ≤ s.ms.length * 948224
   have := h.many
   omega
  ·unfold muG
   dsimp only
   omega
 ·rw [if_neg hemp]
  cases htop : topV r D.left with
  | none => exact absurd ((emptyT_iff _).2 (topV_noneM (hinv.left.vm hc) htop)) hemp
  | some y =>
   obtain ⟨b, w⟩ := y
   obtain ⟨t1, t2, t3, t4⟩ := hinv.left.top hc htop
   have hmk : mkM r D.left (tellY r s.ms (pairY r s p) D.σ) = ⟨D.left, b, w, tellY r s.ms (pairY r s p) D.σ⟩ := by
    unfold mkM
    rw [htop]
    rfl
   rw [hmk]
   generalize hz' : (⟨D.left, b, w, tellY r s.ms (pairY r s p) D.σ⟩ : Mb) = z at *
   have zv : z.v = D.left := by rw [← hz']
   have za : z.a = b := by rw [← hz']
   have zu : z.u = w := by rw [← hz']
   have zy : z.y = tellY r s.ms (pairY r s p) D.σ := by rw [← hz']
   have zd : z.dg δ = (lcmE (s.m p.i) (s.m p.k)).sum + δ (s.m p.i).a := by unfold Mb.dg; rw [za, zu]; exact t4
   have zok : MbOk r k δ z := ⟨by rw [zv, zd]; exact hinv.left, by rw [zv, za, zu]; exact htop⟩
   have iv := topV_isM (hinv.left.vm hc) htop
   obtain ⟨f, hf⟩ := iv.at_
   have hnone : goesT r (vsOf s.ms) b w.e = none := hinv.normal b iv.lt w (by rw [hf]; simp)
   have hnd := goes_none h.ok hnone
   -- what is left is in the module
   have hpinn : ∀ (x : Mb), x ∈ s.ms → ∀ mm, Mn r.n.toNat mm → mm.sum + x.dg δ = (lcmE (s.m p.i) (s.m p.k)).sum + δ (s.m p.i).a → Sp r.p (Row r δ G0 ((lcmE (s.m p.i) (s.m p.k)).sum + δ (s.m p.i).a)) (mulF mm (ev x.v)) := fun x hx mm hmm hd => (h.inn x hx).mul mm fun X ⟨g, hg, m', hm', hd', hX⟩ => ⟨g, hg, zipE (· + ·) m' mm, hm'.add hmm, by rw [hm'.sum_add hmm]; omega, by rw [hX, mulF_mulF]⟩
   have hinS : Sp r.p (Row r δ G0 ((lcmE (s.m p.i) (s.m p.k)).sum + δ (s.m p.i).a)) (ev (pairV2 r s p)) := by
    obtain ⟨_, _, k3⟩ := hp.pair.less
    obtain ⟨hL, gx, gy, mx, my, tx, ty, xk, sx, sy⟩ := hp.pair.facts
    obtain ⟨hp2, hn3, hn1, hpr, hck⟩ := hc.rg
    obtain ⟨⟨a1, a2⟩, a3, a4, a5, a6⟩ := upT_ok hck tx mx.mn hL gx
    obtain ⟨⟨b1, b2⟩, b3, b4, b5, b6⟩ := upT_ok hck ty my.mn hL gy
    have q1 := hpinn _ (GS.m_mem hpi) _ a3 (by unfold Mb.dg; rw [a5]; omega)
    have q2 := hpinn _ (GS.m_mem hp.kl) _ b3 (by unfold Mb.dg; rw [b5, ← hp.pair.same]; omega)
    have e1 : pairV2 r s p = lessT r (s.m p.i).v (s.m p.k).v (upT r (s.m p.i).u (lcmE (s.m p.i) (s.m p.k))) (upT r (s.m p.k).u (lcmE (s.m p.i) (s.m p.k))) := by unfold pairV2; rw [hp.e]
    rw [e1]
    exact ((q1.smul (upT r (s.m p.i).u (lcmE (s.m p.i) (s.m p.k))).c).sub (q2.smul (upT r (s.m p.k).u (lcmE (s.m p.i) (s.m p.k))).c)).congr k3.symm
   have hσin : ∀ σ : List (Nat × Tm), (∀ x ∈ σ, SigOk r k δ (vsOf s.ms) ((lcmE (s.m p.i) (s.m p.k)).sum + δ (s.m p.i).a) (code2 r (s.m p.i).a (lcmE (s.m p.i) (s.m p.k)) - 1) x) → Sp r.p (Row r δ G0 ((lcmE (s.m p.i) (s.m p.k)).sum + δ (s.m p.i).a)) (evS (vsOf s.ms) σ) := fun σ => by
    induction σ with
    | nil => exact fun _ => .zero fun ψ => dz rfl
    | cons x σ ih =>
     intro hσ
     obtain ⟨h1, h2, h3, b', w', h4, h5, h6⟩ := hσ x (by simp)
     have hlt : x.1 < s.ms.length := by simpa [vsOf] using h1
     have e1 : (vsOf s.ms).getD x.1 [] = s.ms[x.1].v := by rw [getD_lt h1]; simp [vsOf]
     rw [e1] at h4
     have h7 := (h.ok _ (List.getElem_mem hlt)).top
     rw [h4] at h7
     obtain ⟨rfl, rfl⟩ := Prod.mk.inj (Option.some.inj h7)
     have q1 := hpinn _ (List.getElem_mem hlt) x.2.e h3.mn (by unfold Mb.dg; omega)
     refine ((ih fun y hy => hσ y (by simp [hy])).add (q1.smul x.2.c)).congr fun ψ => dz ?_
     unfold evS
     rw [List.map_cons, List.sum_cons]
     dsimp only
     rw [e1]
     omega
   have hinZ : Sp r.p (Row r δ G0 (z.dg δ)) (ev z.v) := by
    rw [zd, zv]
    refine (hinS.sub (hσin D.σ hinv.sig)).congr fun ψ => ?_
    have q1 := hinv.sum ψ
    have q2 := ev_nil hz ψ
    refine dv q1 ?_
    dsimp only
    omega
   have h513 := h.small_new hp hinv.left (by rw [← zd, ← zv]; exact hinZ) htop hnd
   have hz519 : z.dg δ ≤ 519 := by rw [zd, ← hpt]; omega
   have hgood : GoodP r δ (s.ms ++ [z]) (s.m p.i) (s.m p.k) := hp.pair.good h.ok (fun x hx => List.mem_append_left _ hx) (by unfold pairV2; rw [hp.e]) hinv hz (.inr ⟨z, List.mem_append_right _ (by simp), zv, zok, zd⟩)
   have hmm : ∀ x ∈ s.ms, x ∈ s.ms ++ [z] := fun x hx => List.mem_append_left _ hx
   have hmnew : (addM ⟨s.ms, s.ps.eraseIdx (nextAt s.ps)⟩ z).m s.ms.length = z := addM_new (s := ⟨s.ms, s.ps.eraseIdx (nextAt s.ps)⟩)
   have hmold : ∀ i, i < s.ms.length → (addM ⟨s.ms, s.ps.eraseIdx (nextAt s.ps)⟩ z).m i = s.m i := fun i hi => addM_m (s := ⟨s.ms, s.ps.eraseIdx (nextAt s.ps)⟩) hi
   have hms : (addM ⟨s.ms, s.ps.eraseIdx (nextAt s.ps)⟩ z).ms = s.ms ++ [z] := rfl
   have hps : (addM ⟨s.ms, s.ps.eraseIdx (nextAt s.ps)⟩ z).ps = s.ps.eraseIdx (nextAt s.ps) ++ newPs s.ms z := rfl
   have hcnt := h.count z.a
   have hnl := newPs_len s z
   have htot := h.total
   generalize hS' : addM ⟨s.ms, s.ps.eraseIdx (nextAt s.ps)⟩ z = s' at *
   have hml : s'.ms.length = s.ms.length + 1 := by rw [hms, List.length_append]; rfl
   have hall : ∀ {P : Mb → Prop}, (∀ x ∈ s.ms, P x) → P z → ∀ x ∈ s'.ms, P x := fun {P} h1 h2 x hx => by
    rw [hms] at hx
    rcases List.mem_append.1 hx with hx | hx
    ·exact h1 x hx
    ·rw [List.mem_singleton.1 hx]; exact h2
   have hlast : ∀ j, j < s'.ms.length → j < s.ms.length ∨ j = s.ms.length := fun j hj => by omega
   refine ⟨⟨h.k3, h.gens, h.small, h.cxY, ?_, hall h.ok zok, hall h.ys ?_, hall h.inn hinZ, hall h.dgb hz519, fun q hq => ?_, fun i j hij hj ha => ?_, ⟨max c p.e.sum, fun q hq => ?_, fun i hi1 hi2 => ?_⟩, fun i j hij hj hG => ?_, fun i j hij hj hG => ?_, ?_⟩, ?_⟩
   ·obtain ⟨R, hR⟩ := h.rest
    exact ⟨R ++ [z], by rw [hms, hR, List.append_assoc]⟩
   ·rw [zy, zd]
    exact GInv.tell h.cxY h.ok h.ys _ _ hs.y hinv.sig
   ·rw [hps] at hq
    rcases List.mem_append.1 hq with hq | hq
    ·obtain ⟨v1, v2, v3, v4⟩ := h.val q (hsub q hq)
     rw [hmold _ (show q.i < s.ms.length by omega), hmold _ v2]
     exact ⟨v1, by omega, v3, v4⟩
    ·obtain ⟨n1, n2, n3, n4⟩ := newPs_mem hq
     rw [hmold _ n1, n2, hmnew]
     have n3' : z.a = (s.m q.i).a := n3
     have n4' : q.e = zipE max z.u.e (s.m q.i).u.e := n4
     exact ⟨n1, by omega, n3'.symm, by rw [n4', lcmE_comm]⟩
   ·rcases hlast j hj with hj2 | hj2
    ·rw [hmold _ hj2, hmold _ (show i < s.ms.length by omega)] at ha ⊢
     rcases h.good i j hij hj2 ha with ⟨q, hq, q1, q2⟩ | hg
     ·rcases hcov q hq with hq | hq
      ·exact .inl ⟨q, by rw [hps]; exact List.mem_append_left _ hq, q1, q2⟩
      ·subst hq; subst q1; subst q2
       right
       rw [hms]
       exact hgood
     ·right
      rw [hms]
      exact hg.mono hmm
    ·subst hj2
     rw [hmnew, hmold _ hij] at ha
     obtain ⟨q, hq, q1, q2⟩ := newPs_has (ms := s.ms) (x := z) hij ha.symm
     exact .inl ⟨q, by rw [hps]; exact List.mem_append_right _ hq, q1, q2⟩
   ·rw [hps] at hq
    rcases List.mem_append.1 hq with hq | hq
    ·obtain ⟨v1, v2, v3, v4⟩ := h.val q (hsub q hq)
     rw [hmold _ (show q.i < s.ms.length by omega)]
     exact hold q (hsub q hq)
    ·obtain ⟨n1, n2, n3, n4⟩ := newPs_mem hq
     rw [hmold _ n1]
     have n3' : z.a = (s.m q.i).a := n3
     have n4' : q.e = zipE max z.u.e (s.m q.i).u.e := n4
     obtain ⟨x1, x2, x3⟩ := (h.ok _ (GS.m_mem n1)).ld hc
     have zl := zok.ld hc
     obtain ⟨l1, l2, l3, l4⟩ := max_sum (a := z.u.e) (b := (s.m q.i).u.e) (by rw [x3.len, zl.2.2.len]) zl.2.2.pos x3.pos
     have : z.u.e.sum + δ z.a = z.dg δ := rfl
     rw [n4', ← n3']
     omega
   ·rcases hlast i hi2 with hi3 | hi3
    ·rw [hmold _ hi3]
     have := c2 i hi1 hi3
     omega
    ·rw [hi3, hmnew, zd, ← hpt]
     omega
   ·rcases hlast j hj with hj2 | hj2
    ·rw [hmold _ hj2, hmold _ (show i < s.ms.length by omega)]
     exact h.nd i j hij hj2 hG
    ·subst hj2
     rw [hmnew, hmold _ hij, za, zu]
     exact hnd _ (GS.m_mem hij)
   ·rcases hlast j hj with hj2 | hj2
    ·rw [hmold _ hj2, hmold _ (show i < s.ms.length by omega)]
     exact h.dr i j hij hj2 hG
    ·subst hj2
     rw [hmnew, hmold _ hij, zd, ← hpt]
     have := c2 i hG hij
     omega
   ·rw [hps, List.length_append, hml]
    have := h.many
    omega
   ·unfold muG
    rw [hps, List.length_append, hml, hlen]
    have e1 : (2844665 - s.ms.length) * 948225 = (2844665 - (s.ms.length + 1)) * 948225 + 948225 := by omega
    omega
end
section
open Go.RowKit

structure SInv (s : GS) : Prop where
 val : ∀ p ∈ s.ps, p.i < p.k ∧ p.k < s.ms.length ∧ (s.m p.i).a = (s.m p.k).a ∧ p.e = lcmE (s.m p.i) (s.m p.k)
 cov : ∀ i j, i < j → j < s.ms.length → (s.m i).a = (s.m j).a → ∃ p ∈ s.ps, p.i = i ∧ p.k = j
 cnt : s.ps.length ≤ s.ms.length * s.ms.length

theorem SInv.nil : SInv ⟨[], []⟩ := ⟨fun p h => (by cases h), fun i j h1 h2 => (by simp at h2), by simp⟩

theorem newPs_le (ms : List Mb) (x : Mb) : (newPs ms x).length ≤ ms.length := by
 unfold newPs
 have := List.length_filterMap_le (fun j => if x.a = (ms.getD j default).a then some (⟨j, ms.length, zipE max x.u.e (ms.getD j default).u.e⟩ : Pr) else none) (List.range ms.length)
 rwa [List.length_range] at this

theorem SInv.add {s : GS} (h : SInv s) (x : Mb) : SInv (addM s x) := by
 have hms : (addM s x).ms = s.ms ++ [x] := rfl
 have hps : (addM s x).ps = s.ps ++ newPs s.ms x := rfl
 have hml : (addM s x).ms.length = s.ms.length + 1 := by rw [hms, List.length_append]; rfl
 refine ⟨fun q hq => ?_, fun i j hij hj ha => ?_, ?_⟩
 ·rw [hps] at hq
  rcases List.mem_append.1 hq with hq | hq
  ·obtain ⟨v1, v2, v3, v4⟩ := h.val q hq
   rw [addM_m (show q.i < s.ms.length by omega), addM_m v2]
   exact ⟨v1, by omega, v3, v4⟩
  ·obtain ⟨n1, n2, n3, n4⟩ := newPs_mem hq
   rw [addM_m n1, n2, addM_new]
   have n3' : x.a = (s.m q.i).a := n3
   have n4' : q.e = zipE max x.u.e (s.m q.i).u.e := n4
   exact ⟨n1, by omega, n3'.symm, by rw [n4', lcmE_comm]⟩
 ·by_cases hj2 : j < s.ms.length
  ·rw [addM_m hj2, addM_m (show i < s.ms.length by omega)] at ha
   obtain ⟨q, hq, h1⟩ := h.cov i j hij hj2 ha
   exact ⟨q, by rw [hps]; exact List.mem_append_left _ hq, h1⟩
  ·have hje : j = s.ms.length := by omega
   subst hje
   rw [addM_new, addM_m hij] at ha
   obtain ⟨q, hq, h1⟩ := newPs_has (ms := s.ms) (x := x) hij ha.symm
   exact ⟨q, by rw [hps]; exact List.mem_append_right _ hq, h1⟩
 ·have h1 := h.cnt
  have h2 := newPs_le s.ms x
  rw [hps, hml, List.length_append]
  have : (s.ms.length + 1) * (s.ms.length + 1) = s.ms.length * s.ms.length + 2 * s.ms.length + 1 := by simp only [Nat.add_mul, Nat.mul_add, Nat.one_mul, Nat.mul_one]; omega
  omega

def unitT (r : Rg) (n i : Nat) : Vc := (List.replicate n ([] : Pl)).set i [⟨1, List.replicate r.n.toNat 0⟩]

def startG (r : Rg) (l : List Vc) : Nat → GS
 | 0 => ⟨[], []⟩
 | n + 1 => if emptyT (l.getD n []) = true then startG r l n else addM (startG r l n) (mkM r (l.getD n []) (unitT r l.length n))

structure Lst (r : Rg) (k : Nat) (δ : Nat → Int) (d : Nat → Int) (l : List Vc) : Prop where
 ring : ringCk r = 0
 k3 : k ≤ 3
 l4 : l.length ≤ 4
 δ0 : ∀ i, 0 ≤ δ i
 δ6 : ∀ i, i < k → δ i ≤ 6
 d0 : ∀ i, 0 ≤ d i
 d9 : ∀ i, i < l.length → d i ≤ 9
 hv : ∀ (i : Nat) (h : i < l.length), HV r k δ (d i) l[i]
 deg : ∀ (i : Nat) (h : i < l.length), ∀ f ∈ l[i], ∀ t ∈ f, t.e.sum ≤ 3

theorem Lst.cx {r : Rg} {k : Nat} {δ d : Nat → Int} {l : List Vc} (h : Lst r k δ d l) : Cx r k δ := ⟨h.ring, by have := h.k3; omega, h.δ0⟩
theorem Lst.cxY {r : Rg} {k : Nat} {δ d : Nat → Int} {l : List Vc} (h : Lst r k δ d l) : Cx r l.length d := ⟨h.ring, by have := h.l4; omega, h.d0⟩

theorem mkM_ok {r : Rg} {k : Nat} {δ : Nat → Int} {τ : Int} {v y : Vc} (hc : Cx r k δ) (hv : HV r k δ τ v) (hne : emptyT v ≠ true) : MbOk r k δ (mkM r v y) ∧ (mkM r v y).dg δ = τ ∧ (mkM r v y).v = v ∧ (mkM r v y).y = y ∧ topV r v = some ((mkM r v y).a, (mkM r v y).u) := by
 cases hx : topV r v with
 | none => exact absurd ((emptyT_iff _).2 (topV_noneM (hv.vm hc) hx)) hne
 | some x =>
  obtain ⟨a, u⟩ := x
  have hmk : mkM r v y = ⟨v, a, u, y⟩ := by unfold mkM; rw [hx]; rfl
  have ht := hv.top hc hx
  have hd : (mkM r v y).dg δ = τ := by rw [hmk]; exact ht.2.2.2
  refine ⟨⟨?_, ?_⟩, hd, by rw [hmk], by rw [hmk], by rw [hmk]⟩
  ·rw [hd, hmk]; exact hv
  ·rw [hmk]; exact hx

theorem unitT_get {r : Rg} {m i j : Nat} (hj : j < (unitT r m i).length) : (unitT r m i)[j] = if i = j then [⟨1, List.replicate r.n.toNat 0⟩] else [] := by
 simp only [unitT, List.getElem_set, List.getElem_replicate]

theorem unitT_hv {r : Rg} {m : Nat} {d : Nat → Int} (hc : Cx r m d) {i : Nat} (hi : i < m) (h9 : d i ≤ 9) : HV r m d (d i) (unitT r m i) := by
 have hn := hc.rg
 have hsum : (List.replicate r.n.toNat (0 : Int)).sum = 0 := by simp
 refine ⟨by omega, by simp [unitT], fun j hj => ?_, fun j hj t ht => ?_⟩
 ·rw [unitT_get]
  split
  ·refine PB.one ⟨Int.le_refl _, by show (1 : Int) < r.p; omega, by simp, fun x hx => ?_⟩
   have : x = 0 := List.eq_of_mem_replicate hx
   omega
  ·exact PB.nil _ _ _ _ _
 ·rw [unitT_get] at ht
  split at ht
  ·rename_i hij
   subst hij
   rw [List.mem_singleton.1 ht]
   show (List.replicate r.n.toNat (0 : Int)).sum + d i = d i
   rw [hsum]; omega
  ·cases ht

structure StartOk (r : Rg) (k : Nat) (δ d : Nat → Int) (l : List Vc) (n : Nat) : Prop where
 sinv : SInv (startG r l n)
 len : (startG r l n).ms.length ≤ n
 mem : ∀ x ∈ (startG r l n).ms, ∃ (i : Nat) (h : i < l.length), emptyT l[i] ≠ true ∧ x = mkM r l[i] (unitT r l.length i)
 all : ∀ (i : Nat) (h : i < l.length), i < n → emptyT l[i] ≠ true → mkM r l[i] (unitT r l.length i) ∈ (startG r l n).ms

theorem Lst.start {r : Rg} {k : Nat} {δ d : Nat → Int} {l : List Vc} (h : Lst r k δ d l) : ∀ n, n ≤ l.length → StartOk r k δ d l n
 | 0, _ => ⟨SInv.nil, Nat.le_refl _, fun x hx => (by cases hx), fun i h1 h2 => by omega⟩
 | n + 1, hn => by
  have ih := h.start n (by omega)
  have e : l.getD n [] = l[n] := getD_lt (by omega)
  by_cases hemp : emptyT l[n] = true
  ·have hst : startG r l (n + 1) = startG r l n := by
    show (if emptyT (l.getD n []) = true then startG r l n else _) = _
    rw [e, if_pos hemp]
   refine ⟨by rw [hst]; exact ih.sinv, by rw [hst]; have := ih.len; omega, by rw [hst]; exact ih.mem, fun i h1 h2 h3 => ?_⟩
   rw [hst]
   by_cases hin : i = n
   ·subst hin; exact absurd hemp h3
   ·exact ih.all i h1 (by omega) h3
  ·have hst : startG r l (n + 1) = addM (startG r l n) (mkM r l[n] (unitT r l.length n)) := by
    show (if emptyT (l.getD n []) = true then startG r l n else addM (startG r l n) (mkM r (l.getD n []) (unitT r l.length n))) = _
    rw [e, if_neg hemp]
   have hms : (addM (startG r l n) (mkM r l[n] (unitT r l.length n))).ms = (startG r l n).ms ++ [mkM r l[n] (unitT r l.length n)] := rfl
   refine ⟨by rw [hst]; exact ih.sinv.add _, by rw [hst, hms, List.length_append]; have := ih.len; simp; omega, fun x hx => ?_, fun i h1 h2 h3 => ?_⟩
   ·rw [hst, hms] at hx
    rcases List.mem_append.1 hx with hx | hx
    ·exact ih.mem x hx
    ·exact ⟨n, by omega, hemp, List.mem_singleton.1 hx⟩
   ·rw [hst, hms]
    by_cases hin : i = n
    ·subst hin; exact List.mem_append_right _ (by simp)
    ·exact List.mem_append_left _ (ih.all i h1 (by omega) h3)

theorem Lst.ginv {r : Rg} {k : Nat} {δ d : Nat → Int} {l : List Vc} (h : Lst r k δ d l) : GInv r k δ l.length d (startG r l l.length).ms (startG r l l.length) := by
 have hs := h.start l.length (Nat.le_refl _)
 have hc := h.cx
 have hmem : ∀ x ∈ (startG r l l.length).ms, ∃ (i : Nat) (hi : i < l.length), MbOk r k δ x ∧ x.dg δ = d i ∧ x.v = l[i] ∧ x.y = unitT r l.length i := fun x hx => by
  obtain ⟨i, hi, hne, rfl⟩ := hs.mem x hx
  obtain ⟨m1, m2, m3, m4, m5⟩ := mkM_ok (y := unitT r l.length i) hc (h.hv i hi) hne
  exact ⟨i, hi, m1, m2, m3, m4⟩
 have hok : ∀ x ∈ (startG r l l.length).ms, MbOk r k δ x := fun x hx => by obtain ⟨i, hi, h1, _⟩ := hmem x hx; exact h1
 refine ⟨h.k3, ⟨hc, hok⟩, ⟨h.δ6, fun x hx => ?_, ?_, fun x hx a ha hne => ?_⟩, h.cxY, ⟨[], by simp⟩, hok, fun x hx => ?_, fun x hx => ?_, fun x hx => ?_, hs.sinv.val, fun i j hij hj ha => .inl (hs.sinv.cov i j hij hj ha), ⟨0, fun p hp => ?_, fun i h1 h2 => by omega⟩, fun i j h1 h2 h3 => by omega, fun i j h1 h2 h3 => by omega, ?_⟩
 ·obtain ⟨i, hi, h1, h2, h3, h4⟩ := hmem x hx
  rw [h2]; exact h.d9 i hi
 ·have := hs.len; have := h.l4; omega
 ·obtain ⟨i, hi, h1, h2, h3, h4⟩ := hmem x hx
  rw [h2]
  obtain ⟨t, ht⟩ : ∃ t, t ∈ x.v[a] := List.exists_mem_of_ne_nil _ hne
  have hxv : x.v[a] ∈ l[i] := by rw [← h3]; exact List.getElem_mem ha
  have q1 := h.deg i hi _ hxv t ht
  have q2 := h1.hv.hom a ha t ht
  rw [h2] at q2
  omega
 ·obtain ⟨i, hi, h1, h2, h3, h4⟩ := hmem x hx
  rw [h2, h4]
  exact unitT_hv h.cxY hi (h.d9 i hi)
 ·have hz0 : Mn r.n.toNat (List.replicate r.n.toNat (0 : Int)) := ⟨by simp, fun x hx => by rw [List.eq_of_mem_replicate hx]; omega⟩
  have hsum : (List.replicate r.n.toNat (0 : Int)).sum = 0 := by simp
  refine .mem ⟨x, hx, List.replicate r.n.toNat 0, hz0, by rw [hsum]; omega, ?_⟩
  rw [mul_zero_ev (hok x hx).hv (by simp) fun y hy => List.eq_of_mem_replicate hy]
 ·obtain ⟨i, hi, h1, h2, h3, h4⟩ := hmem x hx
  have := h.d9 i hi
  omega
 ·obtain ⟨v1, v2, v3, v4⟩ := hs.sinv.val p hp
  obtain ⟨x1, x2, x3⟩ := (hok _ (GS.m_mem (show p.i < (startG r l l.length).ms.length by omega))).ld hc
  obtain ⟨y1, y2, y3⟩ := (hok _ (GS.m_mem v2)).ld hc
  obtain ⟨l1, l2, l3, l4⟩ := max_sum (a := ((startG r l l.length).m p.i).u.e) (b := ((startG r l l.length).m p.k).u.e) (by rw [x3.len, y3.len]) x3.pos y3.pos
  have := hc.pos ((startG r l l.length).m p.i).a
  have := x3.mn.sum0
  rw [v4]
  unfold lcmE
  omega
 ·have h1 := hs.sinv.cnt
  have h2 := hs.len
  have h3 := h.l4
  have h4 : (startG r l l.length).ms.length * (startG r l l.length).ms.length ≤ (startG r l l.length).ms.length * 948224 := Nat.mul_le_mul_left _ (by omega)
  omega

def growRun (r : Rg) (k : Nat) : Nat → GS → GS
 | 0, s => s
 | n + 1, s => if s.ps.isEmpty = true then s else growRun r k n (growStep r k s)

def growEnd (r : Rg) (k : Nat) (s : GS) : GS := growRun r k (muG s) s

theorem muG_ps (s : GS) : s.ps.length ≤ muG s := Nat.le_add_left _ _

theorem growRun_ok {r : Rg} {k : Nat} {δ : Nat → Int} {m : Nat} {d : Nat → Int} {G0 : List Mb} (n : Nat) : ∀ (s : GS), GInv r k δ m d G0 s → muG s ≤ n → GInv r k δ m d G0 (growRun r k n s) ∧ (growRun r k n s).ps = [] := by
 induction n with
 | zero =>
  intro s h hn
  have := muG_ps s
  exact ⟨h, List.length_eq_zero_iff.1 (by show s.ps.length = 0; omega)⟩
 | succ n ih =>
  intro s h hn
  unfold growRun
  by_cases he : s.ps.isEmpty = true
  ·rw [if_pos he]
   exact ⟨h, List.isEmpty_iff.1 he⟩
  ·rw [if_neg he]
   obtain ⟨p, hp⟩ := h.next (fun h0 => he (by rw [h0]; rfl))
   obtain ⟨h1, h2⟩ := h.step hp
   exact ih _ h1 (by omega)

theorem growRun_stop {r : Rg} {k : Nat} {s : GS} (he : s.ps.isEmpty = true) (n : Nat) : growRun r k n s = s := by
 cases n with
 | zero => rfl
 | succ n => unfold growRun; rw [if_pos he]

theorem growRun_more {r : Rg} {k : Nat} {δ : Nat → Int} {m : Nat} {d : Nat → Int} {G0 : List Mb} (n : Nat) : ∀ (n' : Nat) (s : GS), GInv r k δ m d G0 s → muG s ≤ n → muG s ≤ n' → growRun r k n s = growRun r k n' s := by
 induction n with
 | zero =>
  intro n' s h hn hn'
  have := muG_ps s
  have he : s.ps.isEmpty = true := by rw [List.length_eq_zero_iff.1 (show s.ps.length = 0 by omega)]; rfl
  rw [growRun_stop he, growRun_stop he]
 | succ n ih =>
  intro n' s h hn hn'
  by_cases he : s.ps.isEmpty = true
  ·rw [growRun_stop he, growRun_stop he]
  ·have := muG_ps s
   have hpos : s.ps.length ≠ 0 := fun h0 => he (by rw [List.length_eq_zero_iff.1 h0]; rfl)
   obtain ⟨n2, rfl⟩ : ∃ n2, n' = n2 + 1 := ⟨n' - 1, by omega⟩
   obtain ⟨p, hp⟩ := h.next (fun h0 => he (by rw [h0]; rfl))
   obtain ⟨h1, h2⟩ := h.step hp
   unfold growRun
   rw [if_neg he, if_neg he]
   exact ih n2 _ h1 (by omega) (by omega)

structure GAt (r : Rg) (k : Nat) (δ : Nat → Int) (m : Nat) (d : Nat → Int) (G0 : List Mb) (s0 s : GS) : Prop where
 inv : GInv r k δ m d G0 s
 fin : growEnd r k s = growEnd r k s0

theorem GAt.step {r : Rg} {k : Nat} {δ : Nat → Int} {m : Nat} {d : Nat → Int} {G0 : List Mb} {s0 s : GS} (h : GAt r k δ m d G0 s0 s) (hne : s.ps ≠ []) : GAt r k δ m d G0 s0 (growStep r k s) ∧ muG (growStep r k s) < muG s := by
 obtain ⟨p, hp⟩ := h.inv.next hne
 obtain ⟨h1, h2⟩ := h.inv.step hp
 refine ⟨⟨h1, ?_⟩, h2⟩
 rw [← h.fin]
 have he : s.ps.isEmpty ≠ true := fun h0 => hne (List.isEmpty_iff.1 h0)
 obtain ⟨n, hn⟩ : ∃ n, muG s = n + 1 := ⟨muG s - 1, by omega⟩
 have : growEnd r k s = growRun r k n (growStep r k s) := by
  unfold growEnd
  rw [hn]
  show (if s.ps.isEmpty = true then s else growRun r k n (growStep r k s)) = _
  rw [if_neg he]
 rw [this]
 exact growRun_more _ _ _ h1 (Nat.le_refl _) (by omega)

theorem GAt.done {r : Rg} {k : Nat} {δ : Nat → Int} {m : Nat} {d : Nat → Int} {G0 : List Mb} {s0 s : GS} (h : GAt r k δ m d G0 s0 s) (he : s.ps = []) : growEnd r k s0 = s := by
 rw [← h.fin]
 unfold growEnd
 cases muG s with
 | zero => rfl
 | succ n => unfold growRun; rw [he]; rfl

theorem GInv.leads {r : Rg} {k : Nat} {δ : Nat → Int} {m : Nat} {d : Nat → Int} {G0 : List Mb} {s : GS} (h : GInv r k δ m d G0 s) (he : s.ps = []) {a : Nat} {e : List Int} (ha : a < k) (hm : Mn r.n.toNat e) (h8 : e.sum + δ a ≤ 8000) : s.ms.any (divs a e) = true ↔ InN r k δ G0 (a, e) := by
 have hc := h.gens.cx
 constructor
 ·intro hany
  obtain ⟨x, hx, hd⟩ := List.any_eq_true.1 hany
  unfold divs at hd
  simp only [Bool.and_eq_true, beq_iff_eq] at hd
  obtain ⟨hxa, hg⟩ := hd
  have ho := h.ok x hx
  have hl := ho.ld hc
  obtain ⟨q1, q2, q3⟩ := goes_rest hm hl.2.2.mn hg
  have hin : InN r k δ G0 (x.a, x.u.e) := ⟨x.v, ho.hv, h.inn x hx, by rw [ho.top]; rfl⟩
  have := h.gens.inN_mul q1 (by rw [q3, hxa]; omega) hin
  rwa [q2, hxa] at this
 ·rintro ⟨v, w1, w2, w3⟩
  obtain ⟨u, hu, hue⟩ := keyOf_some w3
  have w1' : HV r k δ (e.sum + δ a) v := w1
  obtain ⟨R, hR⟩ := h.rest
  have hrow : Sp r.p (Row r δ s.ms (e.sum + δ a)) (ev v) := w2.mono fun X ⟨x, hx, hX⟩ => ⟨x, by rw [hR]; exact List.mem_append_left _ hx, hX⟩
  have := buch hc h.ok (τ := e.sum + δ a) (fun i j hi hj hij ha hle => by
   have ei : s.ms[i] = s.m i := (GS.m_eq hi).symm
   have ej : s.ms[j] = s.m j := (GS.m_eq hj).symm
   rw [ei, ej] at ha ⊢
   rcases h.good i j hij hj ha with ⟨q, hq, _⟩ | hg
   ·rw [he] at hq; cases hq
   ·exact hg) w1' hrow hu
  rwa [hue] at this
end
section
open Go.RowKit

def overT (ms : List Mb) (i : Nat) (x : Mb) : Bool := (List.range ms.length).any fun k =>
 decide (k ≠ i) && ((x.a == (ms.getD k default).a) && (goesM x.u.e (ms.getD k default).u.e && (!(x.u.e == (ms.getD k default).u.e) || decide (k < i))))

def needIdx (ms : List Mb) : List Nat := (List.range ms.length).filter fun i => !overT ms i (ms.getD i default)
def neededT (ms : List Mb) : List Mb := (needIdx ms).map fun i => ms.getD i default

theorem overT_iff {ms : List Mb} {i : Nat} {x : Mb} : overT ms i x = true ↔ ∃ k, k < ms.length ∧ k ≠ i ∧ x.a = (ms.getD k default).a ∧ goesM x.u.e (ms.getD k default).u.e = true ∧ (x.u.e ≠ (ms.getD k default).u.e ∨ k < i) := by
 unfold overT
 rw [List.any_eq_true]
 constructor
 ·rintro ⟨k, hk, h⟩
  simp only [Bool.and_eq_true, decide_eq_true_eq, beq_iff_eq, Bool.or_eq_true, Bool.not_eq_true', beq_eq_false_iff_ne] at h
  exact ⟨k, List.mem_range.1 hk, h.1, h.2.1, h.2.2.1, h.2.2.2⟩
 ·rintro ⟨k, hk, h1, h2, h3, h4⟩
  refine ⟨k, List.mem_range.2 hk, ?_⟩
  simp only [Bool.and_eq_true, decide_eq_true_eq, beq_iff_eq, Bool.or_eq_true, Bool.not_eq_true', beq_eq_false_iff_ne]
  exact ⟨h1, h2, h3, h4⟩

theorem goes_sum_eq : ∀ {a b : List Int}, a.length = b.length → goesM a b = true → b.sum ≤ a.sum ∧ (a.sum = b.sum → a = b)
 | [], [], _, _ => ⟨Int.le_refl _, fun _ => rfl⟩
 | x :: a, y :: b, h, hg => by
  unfold goesM at hg
  split at hg
  ·cases hg
  ·obtain ⟨h1, h2⟩ := goes_sum_eq (a := a) (b := b) (by simpa using h) hg
   rw [List.sum_cons, List.sum_cons]
   refine ⟨by omega, fun he => ?_⟩
   have : x = y := by omega
   rw [this, h2 (by omega)]

theorem needed_any {n : Nat} {ms : List Mb} (hl : ∀ x ∈ ms, Mn n x.u.e) {a : Nat} {e : List Int} (he : e.length = n) : (neededT ms).any (divs a e) = ms.any (divs a e) := by
 have hm : ∀ i, i < ms.length → ms.getD i default ∈ ms := fun i hi => by rw [getD_lt hi]; exact List.getElem_mem hi
 rw [Bool.eq_iff_iff]
 constructor
 ·intro h
  obtain ⟨x, hx, hd⟩ := List.any_eq_true.1 h
  obtain ⟨i, hi, rfl⟩ := List.mem_map.1 hx
  exact List.any_eq_true.2 ⟨_, hm i (List.mem_range.1 (List.mem_filter.1 hi).1), hd⟩
 ·intro h
  obtain ⟨x, hx, hd⟩ := List.any_eq_true.1 h
  obtain ⟨i, hi, rfl⟩ := List.getElem_of_mem hx
  have key : ∀ N i, i < ms.length → divs a e (ms.getD i default) = true → (ms.getD i default).u.e.sum.toNat * (ms.length + 1) + i < N → (neededT ms).any (divs a e) = true := by
   intro N
   induction N with
   | zero => intro i _ _ h; omega
   | succ N ih =>
    intro i hi hd hN
    by_cases ho : overT ms i (ms.getD i default) = true
    ·obtain ⟨k, k1, k2, k3, k4, k5⟩ := overT_iff.1 ho
     have li := hl _ (hm i hi)
     have lk := hl _ (hm k k1)
     obtain ⟨s1, s2⟩ := goes_sum_eq (by rw [li.len, lk.len]) k4
     have p1 := li.sum0
     have p2 := lk.sum0
     refine ih k k1 ?_ ?_
     ·unfold divs at hd ⊢
      simp only [Bool.and_eq_true, beq_iff_eq] at hd ⊢
      exact ⟨by rw [← k3]; exact hd.1, goes_trans (by rw [he, li.len]) (by rw [li.len, lk.len]) hd.2 k4⟩
     ·by_cases hs : (ms.getD i default).u.e.sum = (ms.getD k default).u.e.sum
      ·rcases k5 with k5 | k5
       ·exact absurd (s2 hs) k5
       ·rw [hs] at hN; omega
      ·have h3 : (ms.getD k default).u.e.sum.toNat + 1 ≤ (ms.getD i default).u.e.sum.toNat := by omega
       have h4 : ((ms.getD k default).u.e.sum.toNat + 1) * (ms.length + 1) ≤ (ms.getD i default).u.e.sum.toNat * (ms.length + 1) := Nat.mul_le_mul_right _ h3
       rw [Nat.add_mul, Nat.one_mul] at h4
       omega
    ·exact List.any_eq_true.2 ⟨_, List.mem_map.2 ⟨i, List.mem_filter.2 ⟨List.mem_range.2 hi, by simpa using ho⟩, rfl⟩, hd⟩
  exact key _ i hi (by rw [getD_lt hi]; exact hd) (Nat.lt_succ_self _)

theorem needed_apart {n : Nat} {ms : List Mb} (hl : ∀ x ∈ ms, Mn n x.u.e) : (neededT ms).Pairwise fun x y => divs x.a x.u.e y = false ∧ divs y.a y.u.e x = false := by
 unfold neededT
 rw [List.pairwise_map]
 have hm : ∀ i, i < ms.length → ms.getD i default ∈ ms := fun i hi => by rw [getD_lt hi]; exact List.getElem_mem hi
 have hr : (List.range ms.length).Pairwise fun i j => i < j := List.pairwise_lt_range
 refine List.Pairwise.imp_of_mem (fun {i j} hi hj hij => ?_) (hr.filter _)
 obtain ⟨i1, i2⟩ := List.mem_filter.1 hi
 obtain ⟨j1, j2⟩ := List.mem_filter.1 hj
 have i1 := List.mem_range.1 i1
 have j1 := List.mem_range.1 j1
 have no1 : ¬ overT ms i (ms.getD i default) = true := by simpa using i2
 have no2 : ¬ overT ms j (ms.getD j default) = true := by simpa using j2
 refine ⟨?_, ?_⟩
 ·cases hd : divs (ms.getD i default).a (ms.getD i default).u.e (ms.getD j default) with
  | false => rfl
  | true =>
   unfold divs at hd
   simp only [Bool.and_eq_true, beq_iff_eq] at hd
   by_cases hs : (ms.getD i default).u.e = (ms.getD j default).u.e
   ·exact absurd (overT_iff.2 ⟨i, i1, by omega, hd.1, by rw [hs]; exact goes_self _, .inr hij⟩) no2
   ·exact absurd (overT_iff.2 ⟨j, j1, by omega, hd.1.symm, hd.2, .inl hs⟩) no1
 ·cases hd : divs (ms.getD j default).a (ms.getD j default).u.e (ms.getD i default) with
  | false => rfl
  | true =>
   unfold divs at hd
   simp only [Bool.and_eq_true, beq_iff_eq] at hd
   exact absurd (overT_iff.2 ⟨i, i1, by omega, hd.1.symm, hd.2, .inr hij⟩) no2

theorem hrun_keeps {r : Rg} {l : List Vc} {a : Nat} {u : Tm} : ∀ (n : Nat) (s : HS), u ∈ s.left.getD a [] → u ∈ (hrun r l n s).left.getD a []
 | 0, s, h => h
 | n + 1, s, h => by
  show u ∈ (match hstep r l s with | none => s | some s' => hrun r l n s').left.getD a []
  cases hs : hstep r l s with
  | none => exact h
  | some s' =>
   refine hrun_keeps n s' ?_
   unfold hstep at hs
   split at hs
   ·cases hs
   ·rename_i b w _
    split at hs
    ·cases hs
     show u ∈ (s.left.set b (s.left.getD b [] ++ [w])).getD a []
     by_cases hb : b < s.left.length
     ·rw [getD_set hb]
      split
      ·rename_i hba
       subst hba
       exact List.mem_append_left _ h
      ·exact h
     ·rw [List.set_eq_of_length_le (by omega)]
      exact h
    ·cases hs
     exact h

theorem keep_top {r : Rg} {k : Nat} {δ : Nat → Int} {τ : Int} {l : List Vc} {v : Vc} {a : Nat} {u : Tm} (hl : HL r k δ l) (hv : HV r k δ τ v) (ht : topV r v = some (a, u)) (hg : goesT r l a u.e = none) :
  HInv r k δ τ (code2 r a u.e) l v (hdiv r k l v) ∧ topV r (hdiv r k l v).v = none ∧ keyOf (topV r (hdiv r k l v).left) = some (a, u.e) := by
 have hvm := hv.vm hl.cx
 have iv := topV_isM hvm ht
 have hk := hl.cx.k40
 have t := hv.top hl.cx ht
 obtain ⟨h1, h2⟩ := hdiv_ok hl hv (C := code2 r a u.e) iv.max
 have hmem : u ∈ (hdiv r k l v).left.getD a [] := by
  unfold hdiv
  have hmu : muT r v = (code2 r a u.e).toNat + 1 := by unfold muT; rw [ht]
  rw [hmu]
  show u ∈ (match hstep r l (hinit k v) with | none => hinit k v | some s' => hrun r l _ s').left.getD a []
  have hs : hstep r l (hinit k v) = some (hstepA (hinit k v) a u) := by
   unfold hstep
   rw [show (hinit k v).v = v from rfl, ht]
   dsimp only
   rw [hg]
  rw [hs]
  refine hrun_keeps _ _ ?_
  show u ∈ ((List.replicate k ([] : Pl)).set a ((List.replicate k ([] : Pl)).getD a [] ++ [u])).getD a []
  rw [getD_set (by simpa using t.1), if_pos rfl]
  exact List.mem_append_right _ (by simp)
 refine ⟨h1, h2, ?_⟩
 have hll := h1.left.len
 have hlm := h1.left.vm hl.cx
 have hal : a < (hdiv r k l v).left.length := by rw [hll]; exact t.1
 rw [getD_lt hal] at hmem
 cases hx : topV r (hdiv r k l v).left with
 | none => rw [topV_noneM hlm hx a hal] at hmem; cases hmem
 | some x =>
  obtain ⟨b, w⟩ := x
  have ib := topV_isM hlm hx
  obtain ⟨f, hf⟩ := ib.at_
  have m1 := ib.max a hal u hmem
  have m2 := h1.ltop b ib.lt w (by rw [hf]; simp)
  obtain ⟨e1, e2⟩ := code2_inj (r := r) (i := a) (k := b) iv.me ib.me (by omega) (by have := ib.lt; omega) (by omega)
  show some (b, w.e) = some (a, u.e)
  rw [e1, e2]

def oneT (r : Rg) (x : Mb) : Tm := ⟨turnP r.p x.u.c, List.replicate r.n.toNat 0⟩
def tidyStep (r : Rg) (k : Nat) (nd : List Mb) (i : Nat) : List Mb :=
 nd.set i (mkM r (vbyT r (hdiv r k (vsOf (nd.eraseIdx i)) (nd.getD i default).v).left (oneT r (nd.getD i default)))
  (vbyT r (tellY r (nd.eraseIdx i) (nd.getD i default).y (hdiv r k (vsOf (nd.eraseIdx i)) (nd.getD i default).v).σ) (oneT r (nd.getD i default))))

def tidyUpto (r : Rg) (k : Nat) (nd : List Mb) : Nat → List Mb
 | 0 => nd
 | n + 1 => tidyStep r k (tidyUpto r k nd n) n

structure TInv (r : Rg) (k : Nat) (δ : Nat → Int) (m : Nat) (d : Nat → Int) (nd : List Mb) : Prop where
 cx : Cx r k δ
 cxY : Cx r m d
 ok : ∀ x ∈ nd, MbOk r k δ x
 ys : ∀ x ∈ nd, HV r m d (x.dg δ) x.y
 dgb : ∀ x ∈ nd, x.dg δ ≤ 519
 apart : nd.Pairwise fun x y => divs x.a x.u.e y = false ∧ divs y.a y.u.e x = false

theorem TInv.others {r : Rg} {k : Nat} {δ : Nat → Int} {m : Nat} {d : Nat → Int} {nd : List Mb} (h : TInv r k δ m d nd) {i : Nat} (hi : i < nd.length) :
  HL r k δ (vsOf (nd.eraseIdx i)) ∧ goesT r (vsOf (nd.eraseIdx i)) nd[i].a nd[i].u.e = none ∧ ∀ x ∈ nd.eraseIdx i, x ∈ nd := by
 have hsub : ∀ x ∈ nd.eraseIdx i, x ∈ nd := fun x hx => List.eraseIdx_subset hx
 refine ⟨⟨h.cx, fun v hv => ?_⟩, ?_, hsub⟩
 ·obtain ⟨x, hx, rfl⟩ := List.mem_map.1 hv
  exact ⟨_, (h.ok x (hsub x hx)).hv⟩
 ·refine List.findIdx?_eq_none_iff.2 fun v hv => ?_
  obtain ⟨x, hx, rfl⟩ := List.mem_map.1 hv
  obtain ⟨j, hj, hji, rfl⟩ := List.mem_eraseIdx_iff_getElem.1 hx
  unfold goesIn
  rw [(h.ok _ (List.getElem_mem hj)).top]
  have hp := List.pairwise_iff_getElem.1 h.apart
  rcases Nat.lt_or_ge j i with hlt | hge
  ·exact (hp j i hj hi hlt).2
  ·exact (hp i j hi hj (by omega)).1

structure TStep (r : Rg) (k : Nat) (δ : Nat → Int) (m : Nat) (d : Nat → Int) (nd : List Mb) (i : Nat) (hi : i < nd.length) : Prop where
 hl : HL r k δ (vsOf (nd.eraseIdx i))
 inv : HInv r k δ (nd[i].dg δ) (code2 r nd[i].a nd[i].u.e) (vsOf (nd.eraseIdx i)) nd[i].v (hdiv r k (vsOf (nd.eraseIdx i)) nd[i].v)
 top : ∀ (j : Nat) (h : j < nd[i].v.length), ∀ t ∈ nd[i].v[j], code2 r j t.e ≤ code2 r nd[i].a nd[i].u.e
 y : HV r m d (nd[i].dg δ) (tellY r (nd.eraseIdx i) nd[i].y (hdiv r k (vsOf (nd.eraseIdx i)) nd[i].v).σ)
 tm : TM r (oneT r nd[i])
 nz : (oneT r nd[i]).c ≠ 0
 sum0 : (oneT r nd[i]).e.sum = 0
 v2 : HV r k δ (nd[i].dg δ) (vbyT r (hdiv r k (vsOf (nd.eraseIdx i)) nd[i].v).left (oneT r nd[i]))
 y2 : HV r m d (nd[i].dg δ) (vbyT r (tellY r (nd.eraseIdx i) nd[i].y (hdiv r k (vsOf (nd.eraseIdx i)) nd[i].v).σ) (oneT r nd[i]))
 key : keyOf (topV r (vbyT r (hdiv r k (vsOf (nd.eraseIdx i)) nd[i].v).left (oneT r nd[i]))) = some (nd[i].a, nd[i].u.e)
 next : TInv r k δ m d (tidyStep r k nd i)
 keys : (tidyStep r k nd i).map (fun x => (x.a, x.u.e)) = nd.map fun x => (x.a, x.u.e)

theorem TInv.step {r : Rg} {k : Nat} {δ : Nat → Int} {m : Nat} {d : Nat → Int} {nd : List Mb} (h : TInv r k δ m d nd) {i : Nat} (hi : i < nd.length) : TStep r k δ m d nd i hi := by
 obtain ⟨h1, h2, h3⟩ := h.others hi
 obtain ⟨hp2, hn3, hn1, hpr, hck⟩ := h.cx.rg
 have ho := h.ok _ (List.getElem_mem hi)
 have hld := ho.ld h.cx
 obtain ⟨g1, g2, g3⟩ := keep_top h1 ho.hv ho.top h2
 have iv := topV_isM (ho.hv.vm h.cx) ho.top
 have hy := GInv.tell (s := ⟨nd.eraseIdx i, []⟩) h.cxY (fun x hx => h.ok x (h3 x hx)) (fun x hx => h.ys x (h3 x hx)) _ _ (h.ys _ (List.getElem_mem hi)) g1.sig
 have htl := turn_lo hck hld.2.1.lo hld.2.1.hi
 have hz : ∀ x ∈ List.replicate r.n.toNat (0 : Int), x = 0 := fun x hx => List.eq_of_mem_replicate hx
 have htm : TM r (oneT r nd[i]) := ⟨by have : 1 ≤ (oneT r nd[i]).c := htl.1; omega, htl.2, ⟨by simp [oneT], fun x hx => by rw [hz x hx]; omega⟩⟩
 have hnz : (oneT r nd[i]).c ≠ 0 := by have : 1 ≤ (oneT r nd[i]).c := htl.1; omega
 have hs0 : (oneT r nd[i]).e.sum = 0 := by show (List.replicate r.n.toNat (0 : Int)).sum = 0; simp
 have hv2 := g1.left.by h.cx htm (by rw [hs0]; have := g1.left.t8; omega)
 have hy2 := hy.by h.cxY htm (by rw [hs0]; have := hy.t8; omega)
 rw [hs0, Int.add_zero] at hv2 hy2
 obtain ⟨w, hw, hwe⟩ := keyOf_some g3
 have hvt := g1.left.by_top h.cx htm hnz (by rw [hs0]; have := g1.left.t8; omega) hw
 have hkey : keyOf (topV r (vbyT r (hdiv r k (vsOf (nd.eraseIdx i)) nd[i].v).left (oneT r nd[i]))) = some (nd[i].a, nd[i].u.e) := by
  rw [hvt]
  show some (nd[i].a, zipE (· + ·) w.e (List.replicate r.n.toNat 0)) = _
  rw [add_zero_e (by rw [hwe, hld.2.2.len]; simp) hz, hwe]
 obtain ⟨w2, hw2, hwe2⟩ := keyOf_some hkey
 have hne : emptyT (vbyT r (hdiv r k (vsOf (nd.eraseIdx i)) nd[i].v).left (oneT r nd[i])) ≠ true := fun he => by
  have h0 := (emptyT_iff _).1 he
  have iw := topV_isM (hv2.vm h.cx) hw2
  obtain ⟨f, hf⟩ := iw.at_
  rw [h0 _ iw.lt] at hf
  cases hf
 have hget : nd.getD i default = nd[i] := getD_lt hi
 have hstep : tidyStep r k nd i = nd.set i (mkM r (vbyT r (hdiv r k (vsOf (nd.eraseIdx i)) nd[i].v).left (oneT r nd[i])) (vbyT r (tellY r (nd.eraseIdx i) nd[i].y (hdiv r k (vsOf (nd.eraseIdx i)) nd[i].v).σ) (oneT r nd[i]))) := by
  unfold tidyStep
  rw [hget]
 obtain ⟨m1, m2, m3, m4, m5⟩ := mkM_ok (y := vbyT r (tellY r (nd.eraseIdx i) nd[i].y (hdiv r k (vsOf (nd.eraseIdx i)) nd[i].v).σ) (oneT r nd[i])) h.cx hv2 hne
 generalize mkM r (vbyT r (hdiv r k (vsOf (nd.eraseIdx i)) nd[i].v).left (oneT r nd[i])) (vbyT r (tellY r (nd.eraseIdx i) nd[i].y (hdiv r k (vsOf (nd.eraseIdx i)) nd[i].v).σ) (oneT r nd[i])) = z at *
 have hzk : z.a = nd[i].a ∧ z.u.e = nd[i].u.e := by
  have h5 := m5
  rw [hw2] at h5
  obtain ⟨e1, e2⟩ := Prod.mk.inj (Option.some.inj h5)
  exact ⟨e1.symm, by rw [← e2, hwe2]⟩
 have hkeys : (nd.set i z).map (fun x => (x.a, x.u.e)) = nd.map fun x => (x.a, x.u.e) := by
  rw [List.map_set, hzk.1, hzk.2]
  refine List.ext_getElem (by simp) fun j j1 j2 => ?_
  rw [List.getElem_set]
  split
  ·rename_i hij
   subst hij
   simp
  ·rfl
 have hmem : ∀ x ∈ nd.set i z, x ∈ nd ∨ x = z := fun x hx => List.mem_or_eq_of_mem_set hx
 refine ⟨h1, g1, iv.max, hy, htm, hnz, hs0, hv2, hy2, hkey, ?_, by rw [hstep]; exact hkeys⟩
 rw [hstep]
 have hself := List.getElem_mem hi
 refine ⟨h.cx, h.cxY, fun x hx => ?_, fun x hx => ?_, fun x hx => ?_, ?_⟩
 ·rcases hmem x hx with hx | rfl
  ·exact h.ok x hx
  ·exact m1
 ·rcases hmem x hx with hx | rfl
  ·exact h.ys x hx
  ·rw [m2, m4]; exact hy2
 ·rcases hmem x hx with hx | rfl
  ·exact h.dgb x hx
  ·rw [m2]; exact h.dgb _ hself
 ·have hp : (nd.map fun x => (x.a, x.u.e)).Pairwise fun y y' => ((y'.1 == y.1) && goesM y.2 y'.2) = false ∧ ((y.1 == y'.1) && goesM y'.2 y.2) = false := by
   rw [List.pairwise_map]
   exact h.apart
  rw [← hkeys, List.pairwise_map] at hp
  exact hp

structure RawOk (r : Rg) (k : Nat) (δ : Nat → Int) (G0 : List Mb) (ms : List Mb) : Prop where
 ok : ∀ x ∈ ms, MbOk r k δ x ∧ x.dg δ ≤ 519
 len : ms.length ≤ 2844664
 leads : ∀ (a : Nat) (e : List Int), a < k → Mn r.n.toNat e → e.sum + δ a ≤ 8000 → (ms.any (divs a e) = true ↔ InN r k δ G0 (a, e))

theorem GInv.tidy {r : Rg} {k : Nat} {δ : Nat → Int} {m : Nat} {d : Nat → Int} {G0 : List Mb} {s : GS} (h : GInv r k δ m d G0 s) : TInv r k δ m d (neededT s.ms) := by
 have hl : ∀ x ∈ s.ms, Mn r.n.toNat x.u.e := fun x hx => ((h.ok x hx).ld h.gens.cx).2.2.mn
 have hsub : ∀ x ∈ neededT s.ms, x ∈ s.ms := fun x hx => by
  obtain ⟨i, hi, rfl⟩ := List.mem_map.1 hx
  have := List.mem_range.1 (List.mem_filter.1 hi).1
  rw [getD_lt this]
  exact List.getElem_mem this
 exact ⟨h.gens.cx, h.cxY, fun x hx => h.ok x (hsub x hx), fun x hx => h.ys x (hsub x hx), fun x hx => h.dgb x (hsub x hx), needed_apart hl⟩

theorem TInv.upto {r : Rg} {k : Nat} {δ : Nat → Int} {m : Nat} {d : Nat → Int} {nd : List Mb} (h : TInv r k δ m d nd) : ∀ n, n ≤ nd.length → TInv r k δ m d (tidyUpto r k nd n) ∧ (tidyUpto r k nd n).map (fun x => (x.a, x.u.e)) = nd.map (fun x => (x.a, x.u.e)) ∧ (tidyUpto r k nd n).length = nd.length
 | 0, _ => ⟨h, rfl, rfl⟩
 | n + 1, hn => by
  obtain ⟨h1, h2, h3⟩ := h.upto n (by omega)
  have hs := h1.step (i := n) (by omega)
  refine ⟨hs.next, hs.keys.trans h2, ?_⟩
  have := congrArg List.length (hs.keys.trans h2)
  rwa [List.length_map, List.length_map] at this

theorem any_keys {ms ms' : List Mb} (h : ms.map (fun x => (x.a, x.u.e)) = ms'.map fun x => (x.a, x.u.e)) (a : Nat) (e : List Int) : ms.any (divs a e) = ms'.any (divs a e) := by
 have : ∀ l : List Mb, l.any (divs a e) = (l.map fun x => (x.a, x.u.e)).any fun y => y.1 == a && goesM e y.2 := fun l => by rw [List.any_map]; rfl
 rw [this, this, h]

theorem GInv.raw {r : Rg} {k : Nat} {δ : Nat → Int} {m : Nat} {d : Nat → Int} {G0 : List Mb} {s : GS} (h : GInv r k δ m d G0 s) (he : s.ps = []) {ms : List Mb} (hp : ms.Perm (tidyUpto r k (neededT s.ms) (neededT s.ms).length)) : RawOk r k δ G0 ms := by
 have hl : ∀ x ∈ s.ms, Mn r.n.toNat x.u.e := fun x hx => ((h.ok x hx).ld h.gens.cx).2.2.mn
 obtain ⟨h1, h2, h3⟩ := h.tidy.upto _ (Nat.le_refl _)
 have hnl : (neededT s.ms).length ≤ s.ms.length := by
  unfold neededT needIdx
  rw [List.length_map]
  have := List.length_filter_le (fun i => !overT s.ms i (s.ms.getD i default)) (List.range s.ms.length)
  rwa [List.length_range] at this
 refine ⟨fun x hx => ⟨h1.ok x (hp.mem_iff.1 hx), h1.dgb x (hp.mem_iff.1 hx)⟩, by rw [hp.length_eq, h3]; have := h.total; omega, fun a e ha hm h8 => ?_⟩
 rw [← h.leads he ha hm h8, ← needed_any hl hm.len, ← any_keys h2]
 rw [List.any_eq_true, List.any_eq_true]
 exact ⟨fun ⟨x, hx, hd⟩ => ⟨x, hp.mem_iff.1 hx, hd⟩, fun ⟨x, hx, hd⟩ => ⟨x, hp.mem_iff.2 hx, hd⟩⟩
end
end Go.Proofs.YtfjmdhemlfafbaaGreat
