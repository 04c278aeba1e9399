/-
  hilbert.monomials: what its functions do, on the world: every monomial of a degree is handed out, in the order of monosT. No condition.
-/
import Derived.Test.YtfjmdhemlfafbaaGreatKHc11
import Derived.RangeFuncBox
import Derived.RangeFuncLeaves
import Derived.RangeFuncSeq
import Derived.WalkKit
import Derived.OwnWalkIn
import Derived.TacticsInMore
import Derived.LoopNIn
import Derived.LoopIn
import Derived.Test.YtfjmdhemlfafbaaGreatProg
set_option linter.unusedVariables false
set_option linter.unusedSimpArgs false

namespace Go.Proofs.YtfjmdhemlfafbaaGreat
section
open Go.RowKit

structure VM (r : Rg) (n : Nat) (v : Vc) : Prop where
 n3 : n ≤ 3
 len : v.length ≤ 40
 all : ∀ (i : Nat) (h : i < v.length), PB 1 r.p r.order n 8000 v[i]
 me' : ∀ (i : Nat) (h : i < v.length), ∀ t ∈ v[i], ME n t.e

theorem VM.me {r : Rg} {n : Nat} {v : Vc} (h : VM r n v) {i : Nat} (hi : i < v.length) : ∀ t ∈ v[i], ME n t.e := h.me' i hi

theorem topAt_maxM {r : Rg} {n : Nat} {v : Vc} (hv : VM r n v) : ∀ (k : Nat), k ≤ v.length →
  (topAt r v k = none → ∀ (i : Nat) (h : i < v.length), i < k → v[i] = []) ∧ ∀ a u, topAt r v k = some (a, u) → ∀ (i : Nat) (h : i < v.length), i < k → ∀ s ∈ v[i], code2 r i s.e ≤ code2 r a u.e
 | 0, _ => ⟨fun _ i _ h => by omega, fun a u h => by cases h⟩
 | k + 1, hk => by
  have hk2 : k < v.length := by omega
  have hlen := hv.len
  obtain ⟨i1, i2⟩ := topAt_maxM hv k (by omega)
  have hs := topAt_succ (r := r) hk2
  rw [hs]
  cases hf : v[k] with
  | nil =>
   refine ⟨fun h i hi hik => ?_, fun a u h i hi hik s hsm => ?_⟩
   ·by_cases hik2 : i = k
    ·subst hik2; exact hf
    ·exact i1 h i hi (by omega)
   ·by_cases hik2 : i = k
    ·subst hik2; rw [hf] at hsm; cases hsm
    ·exact i2 a u h i hi (by omega) s hsm
  | cons t f =>
   have hme := hv.me hk2
   have hpb := hv.all k hk2
   rw [hf] at hme hpb
   have hrow : ∀ s ∈ t :: f, code2 r k s.e ≤ code2 r k t.e := fun s hsm => by
    rcases List.mem_cons.1 hsm with rfl | hsm
    ·exact Int.le_refl _
    ·exact Int.le_of_lt (code2_same' (hme t (by simp)) (hme s (by simp [hsm])) (hpb.below s hsm))
   cases hx : topAt r v k with
   | none =>
    refine ⟨(fun h => by cases h), fun a u h i hi hik s hsm => ?_⟩
    cases h
    by_cases hik2 : i = k
    ·subst hik2; rw [hf] at hsm; exact hrow s hsm
    ·rw [i1 hx i hi (by omega)] at hsm; cases hsm
   | some x =>
    obtain ⟨b, w⟩ := x
    obtain ⟨hb1, hb2, hb3, hb4⟩ := topAt_ok (by omega) hx
    have hwm := hv.me hb2 w (by rw [← hb4]; exact List.getElem_mem hb3)
    have hfc := code2_first (r := r) (i := k) (k := b) (hme t (by simp)) hwm (by omega) (by omega)
    show ((if firstT r k t.e b w.e = true then some (k, t) else some (b, w)) = none → _) ∧ ∀ a u, (if firstT r k t.e b w.e = true then some (k, t) else some (b, w)) = some (a, u) → _
    cases hft : firstT r k t.e b w.e
    ·rw [if_neg (by simp)]
     refine ⟨(fun h => by cases h), fun a u h i hi hik s hsm => ?_⟩
     cases h
     by_cases hik2 : i = k
     ·subst hik2
      rw [hf] at hsm
      have := hrow s hsm
      have hn : ¬ code2 r b w.e < code2 r i t.e := fun h => by rw [hfc.2 h] at hft; cases hft
      omega
     ·exact i2 b w hx i hi (by omega) s hsm
    ·rw [if_pos rfl]
     refine ⟨(fun h => by cases h), fun a u h i hi hik s hsm => ?_⟩
     cases h
     by_cases hik2 : i = k
     ·subst hik2; rw [hf] at hsm; exact hrow s hsm
     ·have := i2 b w hx i hi (by omega) s hsm
      have := hfc.1 hft
      omega

theorem topV_noneM {r : Rg} {n : Nat} {v : Vc} (hv : VM r n v) (h : topV r v = none) : ∀ (i : Nat) (hi : i < v.length), v[i] = [] := fun i hi => (topAt_maxM hv v.length (Nat.le_refl _)).1 h i hi hi

theorem topV_isM {r : Rg} {n : Nat} {v : Vc} (hv : VM r n v) {a : Nat} {u : Tm} (h : topV r v = some (a, u)) : TopIs r n v a u := by
 obtain ⟨h1, h2, h3, h4⟩ := topAt_ok (Nat.le_refl _) h
 refine ⟨h2, ?_, hv.me h2 u (by rw [← h4]; exact List.getElem_mem h3), fun i hi => (topAt_maxM hv v.length (Nat.le_refl _)).2 a u h i hi hi⟩
 revert h3 h4
 generalize v[a] = g
 cases g with
 | nil => intro h3; simp at h3
 | cons t f => intro _ h4; exact ⟨f, by rw [← h4]; rfl⟩

structure Cx (r : Rg) (k : Nat) (δ : Nat → Int) : Prop where
 ring : ringCk r = 0
 k40 : k ≤ 40
 pos : ∀ i, 0 ≤ δ i

theorem Cx.rg {r : Rg} {k : Nat} {δ : Nat → Int} (h : Cx r k δ) : (2 ≤ r.p ∧ r.p ≤ 101) ∧ r.n.toNat ≤ 3 ∧ 1 ≤ r.n ∧ Prm r.p ∧ ckP r.p = 0 := by
 have hr2 := ringCk_ok h.ring
 exact ⟨ckP_ok hr2.1, by omega, by omega, ckP_prm hr2.1, hr2.1⟩

structure HV (r : Rg) (k : Nat) (δ : Nat → Int) (τ : Int) (v : Vc) : Prop where
 t8 : τ ≤ 8000
 len : v.length = k
 all : ∀ (i : Nat) (h : i < v.length), PB 1 r.p r.order r.n.toNat 8000 v[i]
 hom : ∀ (i : Nat) (h : i < v.length), ∀ t ∈ v[i], t.e.sum + δ i = τ

theorem HV.vm {r : Rg} {k : Nat} {δ : Nat → Int} {τ : Int} {v : Vc} (hc : Cx r k δ) (h : HV r k δ τ v) : VM r r.n.toNat v :=
 ⟨hc.rg.2.1, by rw [h.len]; exact hc.k40, h.all, fun i hi t ht => ⟨((h.all i hi).all t ht).len, hc.rg.2.1, fun x hx => (((h.all i hi).all t ht).mem x hx).1, by have := h.hom i hi t ht; have := hc.pos i; have := h.t8; omega⟩⟩

theorem HV.vb {r : Rg} {k : Nat} {δ : Nat → Int} {τ : Int} {v : Vc} (hc : Cx r k δ) (h : HV r k δ τ v) : VB r r.n.toNat 8000 512192024001 v := fun f hf => by
 obtain ⟨i, hi, rfl⟩ := List.getElem_of_mem hf
 exact ⟨h.all i hi, len_le8 (d := 8000) (h.all i hi) (fun t ht => ((h.vm hc).me hi t ht).deg) hc.rg.2.1 (by omega)⟩

theorem HV.pb {r : Rg} {k : Nat} {δ : Nat → Int} {τ : Int} {v : Vc} (h : HV r k δ τ v) : ∀ f ∈ v, PB 1 r.p r.order r.n.toNat 8000 f := fun f hf => by
 obtain ⟨i, hi, rfl⟩ := List.getElem_of_mem hf
 exact h.all i hi

theorem HV.top {r : Rg} {k : Nat} {δ : Nat → Int} {τ : Int} {v : Vc} (hc : Cx r k δ) (h : HV r k δ τ v) {a : Nat} {u : Tm} (ht : topV r v = some (a, u)) : a < k ∧ TB 1 r.p r.n.toNat 8000 u ∧ ME r.n.toNat u.e ∧ u.e.sum + δ a = τ := by
 have hi := topV_isM (h.vm hc) ht
 obtain ⟨f, hf⟩ := hi.at_
 have hm : u ∈ v[a]'hi.lt := by rw [hf]; simp
 exact ⟨by have := hi.lt; rw [h.len] at this; exact this, (h.all a hi.lt).all u hm, hi.me, h.hom a hi.lt u hm⟩

theorem reduce_hom {r : Rg} {k : Nat} {δ : Nat → Int} {τ τd : Int} {v d : Vc} {a : Nat} {u w : Tm} (hc : Cx r k δ) (hv : HV r k δ τ v) (hd : HV r k δ τd d)
  (htv : topV r v = some (a, u)) (htd : topV r d = some (a, w)) (hg : goesM u.e w.e = true) :
  HV r k δ τ (vsumT r v (vbyT r d (negT r (byOf r u w)))) ∧ ∀ (i : Nat) (hi : i < (vsumT r v (vbyT r d (negT r (byOf r u w)))).length), ∀ s ∈ (vsumT r v (vbyT r d (negT r (byOf r u w))))[i], code2 r i s.e < code2 r a u.e := by
 obtain ⟨hp2, hn3, hn1, hpr, hp⟩ := hc.rg
 have hvm := hv.vm hc
 have hdm := hd.vm hc
 have hlen : v.length = d.length := by rw [hv.len, hd.len]
 have iv := topV_isM hvm htv
 have id' := topV_isM hdm htd
 have hvl := hvm.len
 have ha := iv.lt
 have had := id'.lt
 have eu := (hv.top hc htv).2.2.2
 have ew := (hd.top hc htd).2.2.2
 have ht8 := hv.t8
 obtain ⟨f, hf⟩ := iv.at_
 obtain ⟨g, hgd⟩ := id'.at_
 have hua := hv.all a ha
 have hwa := hd.all a had
 rw [hf] at hua
 rw [hgd] at hwa
 obtain ⟨b1, b2, b3, b4, b5⟩ := byOf_ok hp hua.head iv.me hwa.head id'.me hg
 have hneg := negT_ok b1
 have hnc := hneg.lo
 generalize hby : byOf r u w = by' at *
 have hle : (negT r by').e = by'.e := rfl
 have hlenL : (vsumT r v (vbyT r d (negT r by'))).length = v.length := by rw [vsumT_len' (by simp [vbyT]; omega)]
 have hget : ∀ (i : Nat) (hi : i < v.length), (vsumT r v (vbyT r d (negT r by')))[i]'(by omega) = sumT r.p r.order v[i] (byT r.p (d[i]'(by omega)) (negT r by')) := fun i hi => by simp [vsumT, vbyT]
 -- what the second one's terms are
 have hx : ∀ (i : Nat) (hi : i < d.length), ∀ x ∈ d[i], ME r.n.toNat (zipE (· + ·) x.e by'.e) ∧ (zipE (· + ·) x.e by'.e).sum + δ i = τ ∧ (code2 r i (zipE (· + ·) x.e by'.e) < code2 r a u.e ∨ (i = a ∧ x.e = w.e)) := fun i hi x hxm => by
  have hxe := hdm.me hi x hxm
  have hmax := id'.max i hi x hxm
  have hs : (zipE (· + ·) x.e by'.e).sum = x.e.sum + by'.e.sum := zipE_sum (by rw [hxe.len, b2.len])
  have hdeg : (zipE (· + ·) x.e by'.e).sum + δ i = τ := by
   have := hd.hom i hi x hxm
   rw [hs, b4]; omega
  have hpos : ∀ y ∈ zipE (· + ·) x.e by'.e, 0 ≤ y := fun y hy => by
   unfold zipE at hy
   obtain ⟨k, hk, rfl⟩ := List.getElem_of_mem hy
   rw [List.length_zipWith] at hk
   rw [List.getElem_zipWith]
   have := hxe.pos _ (List.getElem_mem (show k < x.e.length by omega))
   have := b2.pos _ (List.getElem_mem (show k < by'.e.length by omega))
   omega
  have hme : ME r.n.toNat (zipE (· + ·) x.e by'.e) := ⟨zipE_same_len hxe.len b2.len, hn3, hpos, by have := hc.pos i; omega⟩
  refine ⟨hme, hdeg, ?_⟩
  by_cases heq : code2 r i x.e = code2 r a w.e
  ·exact .inr (code2_inj hxe id'.me (by omega) (by omega) heq)
  ·refine .inl ?_
   have h1 := (code2_first id'.me hxe (r := r) (i := a) (k := i) (by omega) (by omega)).2 (by omega)
   have h2 := (code2_first iv.me hme (r := r) (i := a) (k := i) (by omega) (by omega)).1
   refine h2 ?_
   rw [← b3, firstT_add (by rw [id'.me.len, hxe.len]) (by rw [hxe.len, b2.len])]
   exact h1
 have hbe : ∀ (i : Nat) (hi : i < d.length), PB 1 r.p r.order r.n.toNat 8000 (byT r.p d[i] (negT r by')) := fun i hi => by
  have hdb : DB 8000 (byT r.p d[i] (negT r by')) := fun s hs => by
   obtain ⟨x, hxm, he⟩ := byT_mem s hs
   rw [he]
   exact (hx i hi x hxm).1.deg
  exact (byT_ok (by omega) hpr (hd.all i hi) hneg.zero).tight hdb
 refine ⟨⟨hv.t8, by rw [hlenL]; exact hv.len, fun i hi => ?_, fun i hi s hs => ?_⟩, fun i hi s hs => ?_⟩
 ·rw [hget i (by omega)]
  exact sumT_ok (by omega) _ _ (hv.all i (by omega)) (hbe i (by omega))
 ·rw [hget i (by omega)] at hs
  rcases sumT_mem _ _ s hs with ⟨t, ht, he⟩ | ⟨t, ht, he⟩
  ·rw [← he]; exact hv.hom i (by omega) t ht
  ·obtain ⟨x, hxm, hxe⟩ := byT_mem t ht
   rw [← he, hxe]
   exact (hx i (by omega) x hxm).2.1
 ·rw [hget i (by omega)] at hs
  by_cases hia : i = a
  ·subst hia
   have hby2 : byT r.p (d[i]'had) (negT r by') = ⟨w.c * (negT r by').c % r.p, u.e⟩ :: byT r.p g (negT r by') := by
    rw [hgd]
    unfold byT
    rw [if_neg (by omega), if_neg (by omega), List.map_cons, hle, b3]
   have hc : (u.c + w.c * (negT r by').c % r.p) % r.p = 0 := by
    rw [Int.add_emod, Int.emod_emod_of_dvd _ (Int.dvd_refl _), ← Int.add_emod]
    refine Int.emod_eq_zero_of_dvd ?_
    obtain ⟨k, hk⟩ := b5
    exact ⟨w.c - k, by show u.c + w.c * (r.p - by'.c) = _; grind⟩
   rw [hby2, hf, sumT_cancel (u := u) (v := ⟨w.c * (negT r by').c % r.p, u.e⟩) rfl hc] at hs
   rcases sumT_mem f _ s hs with ⟨t, ht, he⟩ | ⟨t, ht, he⟩
   ·rw [← he]
    exact code2_same' iv.me (hvm.me ha t (by rw [hf]; simp [ht])) (hua.below t ht)
   ·obtain ⟨x, hxm, hxe⟩ := byT_mem t ht
    have hxd : x ∈ d[i]'had := by rw [hgd]; simp [hxm]
    rw [← he, hxe]
    rcases (hx i had x hxd).2.2 with h | ⟨_, h⟩
    ·exact h
    ·have := hwa.below x hxm
     rw [h, cmpM_self] at this
     omega
  ·rcases sumT_mem _ _ s hs with ⟨t, ht, he⟩ | ⟨t, ht, he⟩
   ·rw [← he]
    have h1 := iv.max i (by omega) t ht
    have h2 : code2 r i t.e ≠ code2 r a u.e := fun h => hia (code2_inj (hvm.me (by omega) t ht) iv.me (by omega) (by omega) h).1
    omega
   ·obtain ⟨x, hxm, hxe⟩ := byT_mem t ht
    rw [← he, hxe]
    rcases (hx i (by omega) x hxm).2.2 with h | ⟨h, _⟩
    ·exact h
    ·exact absurd h hia
end
section
open Go.RowKit

structure Mn (n : Nat) (m : List Int) : Prop where
 len : m.length = n
 pos : ∀ x ∈ m, 0 ≤ x

theorem ME.mn {n : Nat} {m : List Int} (h : ME n m) : Mn n m := ⟨h.len, h.pos⟩
theorem Mn.sum0 {n : Nat} {m : List Int} (h : Mn n m) : 0 ≤ m.sum := sum_nonneg h.pos
theorem Mn.add {n : Nat} {a b : List Int} (h : Mn n a) (k : Mn n b) : Mn n (zipE (· + ·) a b) := ⟨zipE_same_len h.len k.len, fun y hy => by
 unfold zipE at hy
 obtain ⟨i, hi, rfl⟩ := List.getElem_of_mem hy
 rw [List.length_zipWith] at hi
 rw [List.getElem_zipWith]
 have := h.pos _ (List.getElem_mem (show i < a.length by omega))
 have := k.pos _ (List.getElem_mem (show i < b.length by omega))
 omega⟩
theorem Mn.sum_add {n : Nat} {a b : List Int} (h : Mn n a) (k : Mn n b) : (zipE (· + ·) a b).sum = a.sum + b.sum := zipE_sum (by rw [h.len, k.len])
theorem Mn.me {n : Nat} {m : List Int} (h : Mn n m) (hn : n ≤ 3) (h8 : m.sum ≤ 8000) : ME n m := ⟨h.len, hn, h.pos, h8⟩

theorem code2_add {r : Rg} {n i k : Nat} {x y m : List Int} (hx : ME n x) (hy : ME n y) (hm : Mn n m) (hxm : ME n (zipE (· + ·) x m)) (hym : ME n (zipE (· + ·) y m)) (hi : i ≤ 40) (hk : k ≤ 40) :
  code2 r i (zipE (· + ·) x m) < code2 r k (zipE (· + ·) y m) ↔ code2 r i x < code2 r k y := by
 rw [← code2_first hym hxm hk hi, ← code2_first hy hx hk hi, firstT_add (by rw [hy.len, hx.len]) (by rw [hx.len, hm.len])]

theorem HV.sum {r : Rg} {k : Nat} {δ : Nat → Int} {τ : Int} {v w : Vc} (hc : Cx r k δ) (hv : HV r k δ τ v) (hw : HV r k δ τ w) : HV r k δ τ (vsumT r v w) := by
 have hp := hc.rg.1
 have hl : (vsumT r v w).length = v.length := vsumT_len' (by rw [hv.len, hw.len])
 have h1 := hv.len
 have h2 := hw.len
 have hget : ∀ (i : Nat) (hi : i < v.length), (vsumT r v w)[i]'(by omega) = sumT r.p r.order v[i] (w[i]'(by omega)) := fun i hi => by simp [vsumT]
 refine ⟨hv.t8, by rw [hl]; exact hv.len, fun i hi => ?_, fun i hi s hs => ?_⟩
 ·rw [hget i (by omega)]
  exact sumT_ok (by omega) _ _ (hv.all i (by omega)) (hw.all i (by omega))
 ·rw [hget i (by omega)] at hs
  rcases sumT_mem _ _ s hs with ⟨t, ht, he⟩ | ⟨t, ht, he⟩
  ·rw [← he]; exact hv.hom i (by omega) t ht
  ·rw [← he]; exact hw.hom i (by omega) t ht

theorem HV.ev_sum {r : Rg} {k : Nat} {δ : Nat → Int} {τ : Int} {v w : Vc} (hc : Cx r k δ) (hv : HV r k δ τ v) (hw : HV r k δ τ w) : CongF r.p (ev (vsumT r v w)) fun ψ => ev v ψ + ev w ψ :=
 Go.Proofs.YtfjmdhemlfafbaaGreat.ev_sum (by have := hc.rg.1; omega) (by rw [hv.len, hw.len]) hv.pb hw.pb

structure TM (r : Rg) (t : Tm) : Prop where
 lo : 0 ≤ t.c
 hi : t.c < r.p
 mn : Mn r.n.toNat t.e

theorem HV.by {r : Rg} {k : Nat} {δ : Nat → Int} {τ : Int} {v : Vc} {t : Tm} (hc : Cx r k δ) (hv : HV r k δ τ v) (ht : TM r t) (h8 : τ + t.e.sum ≤ 8000) : HV r k δ (τ + t.e.sum) (vbyT r v t) := by
 obtain ⟨hp2, hn3, hn1, hpr, hp⟩ := hc.rg
 have hs0 := ht.mn.sum0
 have hl : (vbyT r v t).length = v.length := by simp [vbyT]
 have hget : ∀ (i : Nat) (hi : i < v.length), (vbyT r v t)[i]'(by omega) = byT r.p v[i] t := fun i hi => by simp [vbyT]
 have hh : ∀ (i : Nat) (hi : i < v.length), ∀ s ∈ byT r.p v[i] t, s.e.sum + δ i = τ + t.e.sum := fun i hi s hs => by
  obtain ⟨x, hx, he⟩ := byT_mem s hs
  have h1 := hv.hom i hi x hx
  have h2 := ((hv.all i hi).all x hx).len
  rw [he, zipE_sum (by rw [h2, ht.mn.len])]
  omega
 refine ⟨h8, by rw [hl]; exact hv.len, fun i hi => ?_, fun i hi s hs => ?_⟩
 ·rw [hget i (by omega)]
  have htb : TB 0 r.p r.n.toNat (max 0 t.e.sum) t := ⟨ht.lo, ht.hi, ht.mn.len, fun x hx => ⟨ht.mn.pos x hx, by have := mem_le_sum ht.mn.pos x hx; omega⟩⟩
  have h1 := byT_ok (o := r.order) (by omega) hpr (hv.all i (by omega)) htb
  exact h1.tight fun s hs => by have := hh i (by omega) s hs; have := hc.pos i; omega
 ·rw [hget i (by omega)] at hs
  exact hh i (by omega) s hs

theorem tm_one {r : Rg} {k : Nat} {δ : Nat → Int} (hc : Cx r k δ) {m : List Int} (hm : Mn r.n.toNat m) : TM r ⟨1, m⟩ := ⟨by show (0 : Int) ≤ 1; omega, by have := hc.rg.1; show (1 : Int) < r.p; omega, hm⟩

theorem HV.by_top {r : Rg} {k : Nat} {δ : Nat → Int} {τ : Int} {v : Vc} {t : Tm} (hc : Cx r k δ) (hv : HV r k δ τ v) (ht : TM r t) (hc0 : t.c ≠ 0) (h8 : τ + t.e.sum ≤ 8000) {a : Nat} {u : Tm} (hu : topV r v = some (a, u)) :
  topV r (vbyT r v t) = some (a, ⟨u.c * t.c % r.p, zipE (· + ·) u.e t.e⟩) := by
 have hvm := hv.vm hc
 have hbm := (hv.by hc ht h8).vm hc
 have iv := topV_isM hvm hu
 obtain ⟨f, hf⟩ := iv.at_
 have ha := iv.lt
 have hk := hc.k40
 have hlv := hv.len
 have hl : (vbyT r v t).length = v.length := by simp [vbyT]
 have hget : ∀ (i : Nat) (hi : i < v.length), (vbyT r v t)[i]'(by omega) = byT r.p v[i] t := fun i hi => by simp [vbyT]
 have hba : (vbyT r v t)[a]'(by omega) = ⟨u.c * t.c % r.p, zipE (· + ·) u.e t.e⟩ :: byT r.p f t := by
  rw [hget a ha, hf]
  unfold byT
  rw [if_neg hc0, if_neg hc0, List.map_cons]
 have hum : ME r.n.toNat (zipE (· + ·) u.e t.e) := hbm.me (i := a) (by omega) ⟨u.c * t.c % r.p, zipE (· + ·) u.e t.e⟩ (by rw [hba]; simp)
 cases hx : topV r (vbyT r v t) with
 | none =>
  have := topV_noneM hbm hx a (by omega)
  rw [hba] at this
  cases this
 | some x =>
  obtain ⟨b, w⟩ := x
  have ib := topV_isM hbm hx
  have hb := ib.lt
  obtain ⟨g, hg⟩ := ib.at_
  have hwm : w ∈ (vbyT r v t)[b]'hb := by rw [hg]; simp
  rw [hget b (by omega)] at hwm
  obtain ⟨y, hy, hye⟩ := byT_mem w hwm
  have h1 := ib.max a (by omega) ⟨u.c * t.c % r.p, zipE (· + ·) u.e t.e⟩ (by rw [hba]; simp)
  have h2 := iv.max b (by omega) y hy
  have hym := hvm.me (i := b) (by omega) y hy
  have hwe : ME r.n.toNat (zipE (· + ·) y.e t.e) := by rw [← hye]; exact ib.me
  have h3 := code2_add (r := r) (i := b) (k := a) hym iv.me ht.mn hwe hum (by omega) (by omega)
  rw [hye] at h1
  have h4 : code2 r b y.e = code2 r a u.e := by
   dsimp only at h1
   omega
  obtain ⟨rfl, h5⟩ := code2_inj hym iv.me (by omega) (by omega) h4
  rw [hba] at hg
  have := (List.cons.inj hg).1
  rw [← this]

theorem ev_one {r : Rg} (v : Vc) (m : List Int) : CongF r.p (ev (vbyT r v ⟨1, m⟩)) (mulF m (ev v)) := fun ψ => by
 have := ev_by (r := r) v ⟨1, m⟩ ψ
 dsimp only at this
 rwa [Int.one_mul] at this

def colN (r : Rg) (j : Nat) (e : List Int) : Nat := 30000000000000 - (code2 r j e).toNat

def colF (r : Rg) (c : Nat) : Ps := fun j e => if colN r j e = c then 1 else 0

theorem code2_big {r : Rg} {n j : Nat} {e : List Int} (h : ME n e) (hj : j ≤ 40) : code2 r j e < 30000000000000 := by
 have := codeM_range (o := r.order) h
 unfold code2
 split <;> omega

theorem colN_lt {r : Rg} {n i j : Nat} {a b : List Int} (ha : ME n a) (hb : ME n b) (hi : i ≤ 40) (hj : j ≤ 40) : colN r i a < colN r j b ↔ code2 r j b < code2 r i a := by
 have h1 := code2_big (r := r) ha hi
 have h2 := code2_big (r := r) hb hj
 have h3 := code2_range (r := r) ha hi
 have h4 := code2_range (r := r) hb hj
 unfold colN
 omega

theorem colN_eq {r : Rg} {n i j : Nat} {a b : List Int} (ha : ME n a) (hb : ME n b) (hi : i ≤ 40) (hj : j ≤ 40) (h : colN r i a = colN r j b) : i = j ∧ a = b := by
 have h1 := colN_lt (r := r) ha hb hi hj
 have h2 := colN_lt (r := r) hb ha hj hi
 exact code2_inj (r := r) ha hb hi hj (by omega)

def fv (r : Rg) (v : Vc) : Fv := fun c => ev v (colF r c)

theorem fv_led {r : Rg} {v : Vc} (hp : 1 < r.p) (hv : VM r r.n.toNat v) {a : Nat} {u : Tm} (hu : topV r v = some (a, u)) : Led r.p (fv r v) (colN r a u.e) := by
 have iv := topV_isM hv hu
 obtain ⟨f, hf⟩ := iv.at_
 have ha := iv.lt
 have hl := hv.len
 have hpb := hv.all a ha
 rw [hf] at hpb
 refine ⟨fun hd => ?_, fun c hcc => ?_⟩
 ·have h1 : fv r v (colN r a u.e) = u.c * 1 + LvGo (colF r (colN r a u.e)) 0 (v.set a f) := by
   show LvGo (colF r (colN r a u.e)) 0 v = _
   rw [LvGo_set ha hf]
   congr 2
   unfold colF
   rw [if_pos (by rw [Nat.zero_add])]
  have h2 : LvGo (colF r (colN r a u.e)) 0 (v.set a f) = 0 := LvGo_zero fun i hi t ht => by
   unfold colF
   rw [if_neg]
   rw [Nat.zero_add]
   intro he
   have hi2 : i < v.length := by simpa using hi
   rw [List.getElem_set] at ht
   split at ht
   ·rename_i hia
    subst hia
    have htm : t ∈ v[a] := by rw [hf]; simp [ht]
    have := (colN_eq (hv.me ha t htm) iv.me (by omega) (by omega) he).2
    have hb := hpb.below t ht
    rw [this, cmpM_self] at hb
    omega
   ·rename_i hia
    exact hia (colN_eq (hv.me hi2 t ht) iv.me (by omega) (by omega) he).1.symm
  rw [h1, h2, Int.mul_one, Int.add_zero] at hd
  have := dvd_small hd (by have := hpb.head.lo; omega) hpb.head.hi
  have := hpb.head.lo
  omega
 ·refine dz (LvGo_zero fun i hi t ht => ?_)
  unfold colF
  rw [if_neg]
  rw [Nat.zero_add]
  intro he
  have h1 := iv.max i hi t ht
  have h2 := (colN_lt (r := r) (i := i) (j := a) (hv.me hi t ht) iv.me (by omega) (by omega)).1 (by omega)
  omega

theorem ev_nil {v : Vc} (h : ∀ (i : Nat) (hi : i < v.length), v[i] = []) (ψ : Ps) : ev v ψ = 0 := LvGo_zero fun i hi t ht => by rw [h i hi] at ht; cases ht

def keyOf (x : Option (Nat × Tm)) : Option (Nat × List Int) := x.map fun y => (y.1, y.2.e)

theorem keyOf_some {x : Option (Nat × Tm)} {a : Nat} {e : List Int} (h : keyOf x = some (a, e)) : ∃ u, x = some (a, u) ∧ u.e = e := by
 cases x with
 | none => cases h
 | some y =>
  obtain ⟨b, w⟩ := y
  simp only [keyOf, Option.map_some, Option.some.injEq, Prod.mk.injEq] at h
  obtain ⟨rfl, rfl⟩ := h
  exact ⟨w, rfl, rfl⟩

structure Els (r : Rg) (k : Nat) (δ : Nat → Int) (τ : Int) (E : List Vc) : Prop where
 hv : ∀ e ∈ E, HV r k δ τ e
 top : ∀ e ∈ E, topV r e ≠ none
 nodup : (E.map fun e => keyOf (topV r e)).Nodup

theorem Els.lead {r : Rg} {k : Nat} {δ : Nat → Int} {τ : Int} {E : List Vc} (hc : Cx r k δ) (hE : Els r k δ τ E) {v : Vc} (hv : HV r k δ τ v) (hs : Sp r.p (fun X => ∃ e ∈ E, X = ev e) (ev v)) : topV r v = none ∨ ∃ e ∈ E, keyOf (topV r v) = keyOf (topV r e) := by
 obtain ⟨hp2, hn3, hn1, hpr, hp⟩ := hc.rg
 have hk := hc.k40
 cases hx : topV r v with
 | none => exact .inl rfl
 | some x =>
  obtain ⟨a, u⟩ := x
  right
  have hat : ∀ e ∈ E, ∃ b w, topV r e = some (b, w) := fun e he => by
   cases hy : topV r e with
   | none => exact absurd hy (hE.top e he)
   | some y => exact ⟨y.1, y.2, rfl⟩
  let F : List (Fv × Nat) := E.map fun e => (fv r e, colN r (atOf (topV r e)).toNat (tmOf (topV r e)).e)
  have hlf : ∀ e ∈ E, Led r.p (fv r e) (colN r (atOf (topV r e)).toNat (tmOf (topV r e)).e) := fun e he => by
   obtain ⟨b, w, hw⟩ := hat e he
   have := fv_led (by omega) ((hE.hv e he).vm hc) hw
   rw [hw]
   exact this
  have hech : Ech r.p F := by
   refine ⟨fun y hy => ?_, ?_⟩
   ·obtain ⟨e, he, rfl⟩ := List.mem_map.1 hy
    exact hlf e he
   ·have h1 := hE.nodup
    unfold List.Nodup at h1 ⊢
    rw [List.map_map, List.pairwise_map]
    rw [List.pairwise_map] at h1
    refine List.Pairwise.imp_of_mem (fun {e e'} he he' hne heq => hne ?_) h1
    obtain ⟨b, w, hw⟩ := hat e he
    obtain ⟨b', w', hw'⟩ := hat e' he'
    have t1 := (hE.hv e he).top hc hw
    have t2 := (hE.hv e' he').top hc hw'
    have heq' : colN r (atOf (topV r e)).toNat (tmOf (topV r e)).e = colN r (atOf (topV r e')).toNat (tmOf (topV r e')).e := heq
    rw [hw, hw'] at heq'
    obtain ⟨h3, h4⟩ := colN_eq t1.2.2.1 t2.2.2.1 (show (atOf (some (b, w))).toNat ≤ 40 by show (b : Int).toNat ≤ 40; omega) (show (atOf (some (b', w'))).toNat ≤ 40 by show (b' : Int).toNat ≤ 40; omega) heq'
    have h3' : b = b' := by
     have : (b : Int).toNat = (b' : Int).toNat := h3
     omega
    have h4' : w.e = w'.e := h4
    rw [hw, hw']
    simp only [keyOf, Option.map_some]
    rw [h3', h4']
  have hsp : Spn r.p (F.map (·.1)) (fv r v) := hs.spn (fun c => colF r c) _ fun X ⟨e, he, hX⟩ => by
   subst hX
   exact Spn.mem (by
    rw [List.map_map]
    exact List.mem_map.2 ⟨e, he, rfl⟩)
  have hled := fv_led (by omega) (hv.vm hc) hx
  rcases hech.spn hpr hsp with h | ⟨m, hm, hl⟩
  ·exact absurd (h _) hled.1
  ·rw [List.map_map] at hm
   obtain ⟨e, he, rfl⟩ := List.mem_map.1 hm
   refine ⟨e, he, ?_⟩
   obtain ⟨b, w, hw⟩ := hat e he
   have t1 := (hE.hv e he).top hc hw
   have t2 := hv.top hc hx
   have h9 := hled.uniq hl
   have h9' : colN r a u.e = colN r (atOf (topV r e)).toNat (tmOf (topV r e)).e := h9
   rw [hw] at h9'
   obtain ⟨h3, h4⟩ := colN_eq t2.2.2.1 t1.2.2.1 (by omega) (show (atOf (some (b, w))).toNat ≤ 40 by show (b : Int).toNat ≤ 40; omega) h9'
   have h3' : a = b := by
    have : a = (b : Int).toNat := h3
    omega
   have h4' : u.e = w.e := h4
   rw [hw]
   simp only [keyOf, Option.map_some]
   rw [h3', h4']
end
section
open Go.RowKit

def goIdx : Option Nat → Int
 | none => -1
 | some i => i
end
section
open Go.RowKit
end
section
open Go.RowKit

def emptyT (v : Vc) : Bool := v.all List.isEmpty

def upT (r : Rg) (w : Tm) (e : List Int) : Tm := ⟨turnP r.p w.c, zipE (· - ·) e w.e⟩

def lessT (r : Rg) (v w : Vc) (a b : Tm) : Vc := vsumT r (vbyT r v a) (vbyT r w (negT r b))

theorem max_sum : ∀ {a b : List Int}, a.length = b.length → (∀ x ∈ a, 0 ≤ x) → (∀ x ∈ b, 0 ≤ x) → a.sum ≤ (zipE max a b).sum ∧ b.sum ≤ (zipE max a b).sum ∧ (zipE max a b).sum ≤ a.sum + b.sum ∧ ∀ x ∈ zipE max a b, 0 ≤ x
 | [], [], _, _, _ => ⟨Int.le_refl _, Int.le_refl _, Int.le_refl _, fun x h => by cases h⟩
 | x :: a, y :: b, h, h1, h2 => by
  obtain ⟨i1, i2, i3, i4⟩ := max_sum (a := a) (b := b) (by simpa using h) (fun z hz => h1 z (by simp [hz])) (fun z hz => h2 z (by simp [hz]))
  have hx := h1 x (by simp)
  have hy := h2 y (by simp)
  have e : zipE max (x :: a) (y :: b) = max x y :: zipE max a b := rfl
  rw [e, List.sum_cons, List.sum_cons, List.sum_cons]
  refine ⟨by omega, by omega, by omega, fun z hz => ?_⟩
  rcases List.mem_cons.1 hz with rfl | hz
  ·omega
  ·exact i4 z hz

theorem turn_lo {p c : Int} (hp : ckP p = 0) (h0 : 1 ≤ c) (h1 : c < p) : 1 ≤ turnP p c ∧ turnP p c < p := by
 have hp2 := ckP_ok hp
 obtain ⟨h2, h3⟩ := turnP_in (p := p) (by omega) c
 refine ⟨?_, h3⟩
 have := turnP_inv' hp c (by omega) h1
 by_cases hz : turnP p c = 0
 ·rw [hz, Int.mul_zero] at this
  have : (0 : Int) % p = 0 := Int.zero_emod p
  omega
 ·omega
end
section
open Go.RowKit

def monosT : Nat → Nat → List (List Int)
 | 0, t => if t = 0 then [[]] else []
 | 1, t => [[(t : Int)]]
 | n + 2, t => (List.range (t + 1)).flatMap fun i => (monosT (n + 1) (t - i)).map fun e => (i : Int) :: e

theorem monosT_mem : ∀ {n t : Nat} {e : List Int}, 0 < n → (e ∈ monosT n t ↔ Mn n e ∧ e.sum = t)
 | 0, t, e, h => by omega
 | 1, t, e, _ => by
  constructor
  ·intro h
   have : e = [(t : Int)] := by simpa [monosT] using h
   subst this
   exact ⟨⟨rfl, fun x hx => by have := List.mem_singleton.1 hx; omega⟩, by simp⟩
  ·rintro ⟨⟨h1, h2⟩, h3⟩
   match e, h1 with
   | [x], _ =>
    have : x = t := by simpa using h3
    subst this
    simp [monosT]
 | n + 2, t, e, _ => by
  constructor
  ·intro h
   obtain ⟨i, hi, h⟩ := List.mem_flatMap.1 h
   obtain ⟨f, hf, rfl⟩ := List.mem_map.1 h
   obtain ⟨⟨h1, h2⟩, h3⟩ := (monosT_mem (by omega)).1 hf
   have := List.mem_range.1 hi
   refine ⟨⟨by simp [h1], fun x hx => ?_⟩, by rw [List.sum_cons, h3]; omega⟩
   rcases List.mem_cons.1 hx with rfl | hx
   ·omega
   ·exact h2 x hx
  ·rintro ⟨⟨h1, h2⟩, h3⟩
   match e, h1 with
   | x :: f, h1 =>
    have hx := h2 x (by simp)
    have hf : ∀ y ∈ f, 0 ≤ y := fun y hy => h2 y (by simp [hy])
    have hs := sum_nonneg hf
    rw [List.sum_cons] at h3
    refine List.mem_flatMap.2 ⟨x.toNat, List.mem_range.2 (by omega), List.mem_map.2 ⟨f, (monosT_mem (by omega)).2 ⟨⟨by simpa using h1, hf⟩, by omega⟩, ?_⟩⟩
    rw [show ((x.toNat : Nat) : Int) = x by omega]

theorem monosT_nodup : ∀ (n t : Nat), (monosT n t).Nodup
 | 0, t => by unfold monosT; split <;> simp
 | 1, t => by unfold monosT; simp
 | n + 2, t => by
  unfold monosT List.Nodup
  rw [List.pairwise_flatMap]
  refine ⟨fun i _ => ?_, ?_⟩
  ·rw [List.pairwise_map]
   exact (monosT_nodup (n + 1) (t - i)).imp fun hne he => hne (List.cons.inj he).2
  ·refine (List.nodup_range (n := t + 1)).imp fun {i j} hij x hx y hy he => ?_
   obtain ⟨f, _, rfl⟩ := List.mem_map.1 hx
   obtain ⟨g, _, rfl⟩ := List.mem_map.1 hy
   have := (List.cons.inj he).1
   omega

def keysT (n k : Nat) (δ : Nat → Int) (τ : Int) : List (Nat × List Int) :=
 (List.range k).flatMap fun a => (if δ a ≤ τ then monosT n (τ - δ a).toNat else []).map fun e => (a, e)

theorem keysT_mem {n k : Nat} {δ : Nat → Int} {τ : Int} (hn : 0 < n) {a : Nat} {e : List Int} : (a, e) ∈ keysT n k δ τ ↔ a < k ∧ Mn n e ∧ e.sum + δ a = τ := by
 constructor
 ·intro h
  obtain ⟨b, hb, h⟩ := List.mem_flatMap.1 h
  obtain ⟨f, hf, he⟩ := List.mem_map.1 h
  cases he
  split at hf
  ·obtain ⟨h1, h2⟩ := (monosT_mem hn).1 hf
   exact ⟨List.mem_range.1 hb, h1, by omega⟩
  ·cases hf
 ·rintro ⟨h1, h2, h3⟩
  have hs := h2.sum0
  refine List.mem_flatMap.2 ⟨a, List.mem_range.2 h1, List.mem_map.2 ⟨e, ?_, rfl⟩⟩
  rw [if_pos (by omega)]
  exact (monosT_mem hn).2 ⟨h2, by omega⟩

theorem keysT_nodup (n k : Nat) (δ : Nat → Int) (τ : Int) : (keysT n k δ τ).Nodup := by
 unfold keysT List.Nodup
 rw [List.pairwise_flatMap]
 refine ⟨fun a _ => ?_, ?_⟩
 ·rw [List.pairwise_map]
  have h : (if δ a ≤ τ then monosT n (τ - δ a).toNat else []).Nodup := by
   split
   ·exact monosT_nodup _ _
   ·simp
  exact h.imp fun hne he => hne (Prod.mk.inj he).2
 ·refine (List.nodup_range (n := k)).imp fun {i j} hij x hx y hy he => ?_
  obtain ⟨f, _, rfl⟩ := List.mem_map.1 hx
  obtain ⟨g, _, rfl⟩ := List.mem_map.1 hy
  exact hij (Prod.mk.inj he).1

theorem goes_add : ∀ {u m : List Int}, u.length = m.length → (∀ x ∈ m, 0 ≤ x) → goesM (zipE (· + ·) u m) u = true
 | [], _, _, _ => by simp [zipE, goesM]
 | x :: u, y :: m, h, hp => by
  have := goes_add (u := u) (m := m) (by simpa using h) fun z hz => hp z (by simp [hz])
  have hy := hp y (by simp)
  show goesM ((x + y) :: zipE (· + ·) u m) (x :: u) = true
  unfold goesM
  rw [if_neg (by omega)]
  exact this

theorem add_sub_e : ∀ {u m : List Int}, u.length = m.length → zipE (· - ·) (zipE (· + ·) u m) u = m
 | [], [], _ => rfl
 | x :: u, y :: m, h => by
  have := add_sub_e (u := u) (m := m) (by simpa using h)
  show (x + y - x) :: zipE (· - ·) (zipE (· + ·) u m) u = y :: m
  rw [this, show x + y - x = y by omega]

theorem goes_max : ∀ {e a b : List Int}, a.length = b.length → goesM e a = true → goesM e b = true → goesM e (zipE max a b) = true
 | [], _, _, _, _, _ => by simp [goesM]
 | z :: e, [], [], _, _, _ => by simp [zipE, goesM]
 | z :: e, x :: a, y :: b, h, h1, h2 => by
  unfold goesM at h1 h2
  split at h1
  ·cases h1
  ·split at h2
   ·cases h2
   ·have := goes_max (e := e) (a := a) (b := b) (by simpa using h) h1 h2
    show goesM (z :: e) (max x y :: zipE max a b) = true
    unfold goesM
    rw [if_neg (by omega)]
    exact this

theorem goes_of_max : ∀ {a b : List Int}, a.length = b.length → goesM (zipE max a b) a = true ∧ goesM (zipE max a b) b = true
 | [], [], _ => by simp [zipE, goesM]
 | x :: a, y :: b, h => by
  obtain ⟨h1, h2⟩ := goes_of_max (a := a) (b := b) (by simpa using h)
  show goesM (max x y :: zipE max a b) (x :: a) = true ∧ goesM (max x y :: zipE max a b) (y :: b) = true
  unfold goesM
  rw [if_neg (by omega), if_neg (by omega)]
  exact ⟨h1, h2⟩

theorem goes_trans : ∀ {a b c : List Int}, a.length = b.length → b.length = c.length → goesM a b = true → goesM b c = true → goesM a c = true
 | [], [], [], _, _, _, _ => by simp [goesM]
 | x :: a, y :: b, z :: c, h1, h2, h3, h4 => by
  unfold goesM at h3 h4 ⊢
  split at h3
  ·cases h3
  ·split at h4
   ·cases h4
   ·rw [if_neg (by omega)]
    exact goes_trans (by simpa using h1) (by simpa using h2) h3 h4

theorem goes_self : ∀ (a : List Int), goesM a a = true
 | [] => rfl
 | x :: a => by unfold goesM; rw [if_neg (by omega)]; exact goes_self a

theorem goes_rest {n : Nat} {a b : List Int} (ha : Mn n a) (hb : Mn n b) (h : goesM a b = true) : Mn n (zipE (· - ·) a b) ∧ zipE (· + ·) b (zipE (· - ·) a b) = a ∧ (zipE (· - ·) a b).sum = a.sum - b.sum := by
 obtain ⟨h1, h2, h3⟩ := goesM_sub (by rw [ha.len, hb.len]) h
 exact ⟨⟨zipE_same_len ha.len hb.len, h2⟩, h1, h3⟩

theorem add_cancel {n : Nat} {u x y : List Int} (hu : u.length = n) (hx : x.length = n) (hy : y.length = n) (h : zipE (· + ·) u x = zipE (· + ·) u y) : x = y := by
 have h1 := add_sub_e (u := u) (m := x) (by omega)
 have h2 := add_sub_e (u := u) (m := y) (by omega)
 rw [h] at h1
 rw [← h1, h2]

structure Mb where
 v : Vc
 a : Nat
 u : Tm
 y : Vc

instance : Inhabited Mb := ⟨⟨[], 0, ⟨0, []⟩, []⟩⟩

def Mb.dg (δ : Nat → Int) (x : Mb) : Int := x.u.e.sum + δ x.a

structure MbOk (r : Rg) (k : Nat) (δ : Nat → Int) (x : Mb) : Prop where
 hv : HV r k δ (x.dg δ) x.v
 top : topV r x.v = some (x.a, x.u)

theorem MbOk.ld {r : Rg} {k : Nat} {δ : Nat → Int} {x : Mb} (hc : Cx r k δ) (h : MbOk r k δ x) : x.a < k ∧ TB 1 r.p r.n.toNat 8000 x.u ∧ ME r.n.toNat x.u.e := by
 have := h.hv.top hc h.top
 exact ⟨this.1, this.2.1, this.2.2.1⟩

def Row (r : Rg) (δ : Nat → Int) (G : List Mb) (τ : Int) (X : Fu) : Prop := ∃ x ∈ G, ∃ m, Mn r.n.toNat m ∧ m.sum + x.dg δ = τ ∧ X = mulF m (ev x.v)

def RowLt (r : Rg) (δ : Nat → Int) (G : List Mb) (τ : Int) (a : Nat) (L : List Int) (X : Fu) : Prop :=
 ∃ x ∈ G, ∃ m, Mn r.n.toNat m ∧ m.sum + x.dg δ = τ ∧ code2 r x.a (zipE (· + ·) x.u.e m) < code2 r a L ∧ X = mulF m (ev x.v)

def lcmE (x y : Mb) : List Int := zipE max x.u.e y.u.e

def GoodP (r : Rg) (δ : Nat → Int) (G : List Mb) (x y : Mb) : Prop :=
 ∃ c : Int, Sp r.p (RowLt r δ G ((lcmE x y).sum + δ x.a) x.a (lcmE x y)) fun ψ => c * mulF (zipE (· - ·) (lcmE x y) x.u.e) (ev x.v) ψ - mulF (zipE (· - ·) (lcmE x y) y.u.e) (ev y.v) ψ

def divs (a : Nat) (e : List Int) (x : Mb) : Bool := x.a == a && goesM e x.u.e

def ERow (r : Rg) (δ : Nat → Int) (G : List Mb) (τ : Int) (X : Fu) : Prop :=
 ∃ (a : Nat) (e : List Int) (x : Mb), Mn r.n.toNat e ∧ e.sum + δ a = τ ∧ G.find? (divs a e) = some x ∧ X = mulF (zipE (· - ·) e x.u.e) (ev x.v)

theorem find_idx {α : Type} {p : α → Bool} : ∀ {l : List α} {j : Nat} (hj : j < l.length), p l[j] = true → ∃ (i : Nat) (hi : i < l.length), i ≤ j ∧ l.find? p = some l[i] ∧ p l[i] = true
 | x :: l, 0, _, h => ⟨0, by simp, Nat.le_refl _, by
   have h' : p x = true := h
   rw [List.find?_cons, h']; rfl, h⟩
 | x :: l, j + 1, hj, h => by
  by_cases hx : p x = true
  ·exact ⟨0, by simp, by omega, by rw [List.find?_cons, hx]; rfl, hx⟩
  ·obtain ⟨i, hi, h1, h2, h3⟩ := find_idx (l := l) (j := j) (by simpa using hj) (by simpa using h)
   exact ⟨i + 1, by simpa using hi, by omega, by
    have hx' : p x = false := by simpa using hx
    rw [List.find?_cons, hx']
    simpa using h2, by simpa using h3⟩

theorem row_by_first {r : Rg} {k : Nat} {δ : Nat → Int} {G : List Mb} {τ : Int} (hc : Cx r k δ) (h8 : τ ≤ 8000) (hG : ∀ x ∈ G, MbOk r k δ x)
  (hp : ∀ (i j : Nat) (hi : i < G.length) (hj : j < G.length), i < j → G[i].a = G[j].a → (lcmE G[i] G[j]).sum + δ G[i].a ≤ τ → GoodP r δ G G[i] G[j]) :
  ∀ (N : Nat) (j : Nat) (hj : j < G.length) (m : List Int), Mn r.n.toNat m → m.sum + G[j].dg δ = τ → (code2 r G[j].a (zipE (· + ·) G[j].u.e m)).toNat < N → Sp r.p (ERow r δ G τ) (mulF m (ev G[j].v))
 | 0, _, _, _, _, _, h => by omega
 | N + 1, j, hj, m, hm, hd, hN => by
  obtain ⟨hp2, hn3, hn1, hpr, hck⟩ := hc.rg
  have hk := hc.k40
  have hxm : G[j] ∈ G := List.getElem_mem hj
  have hx := hG _ hxm
  obtain ⟨x1, x2, x3⟩ := hx.ld hc
  have hum := x3.mn
  have he : Mn r.n.toNat (zipE (· + ·) G[j].u.e m) := hum.add hm
  have hes : (zipE (· + ·) G[j].u.e m).sum + δ G[j].a = τ := by
   rw [hum.sum_add hm]
   unfold Mb.dg at hd
   omega
  have hpos := hc.pos G[j].a
  have hsub : zipE (· - ·) (zipE (· + ·) G[j].u.e m) G[j].u.e = m := add_sub_e (by rw [hum.len, hm.len])
  have hdj : divs G[j].a (zipE (· + ·) G[j].u.e m) G[j] = true := by
   unfold divs
   rw [goes_add (by rw [hum.len, hm.len]) hm.pos]
   simp
  generalize hE : zipE (· + ·) G[j].u.e m = e at *
  obtain ⟨i, hi, hij, hf, hdi⟩ := find_idx hj hdj
  have hee := he.me hn3 (by omega)
  have hmem : ERow r δ G τ (mulF (zipE (· - ·) e G[i].u.e) (ev G[i].v)) := ⟨G[j].a, e, G[i], he, hes, hf, rfl⟩
  by_cases heq : i = j
  ·subst heq
   rw [hsub] at hmem
   exact .mem hmem
  ·have h0 := hG _ (List.getElem_mem hi)
   obtain ⟨y1, y2, y3⟩ := h0.ld hc
   have h0m := y3.mn
   unfold divs at hdi hdj
   simp only [Bool.and_eq_true, beq_iff_eq] at hdi hdj
   obtain ⟨ha, hg⟩ := hdi
   have hgj := hdj.2
   have hll : G[i].u.e.length = G[j].u.e.length := by rw [h0m.len, hum.len]
   obtain ⟨l1, l2, l3, l4⟩ := max_sum hll h0m.pos hum.pos
   have hL : Mn r.n.toNat (lcmE G[i] G[j]) := ⟨zipE_same_len h0m.len hum.len, l4⟩
   have hgL : goesM e (lcmE G[i] G[j]) = true := goes_max hll hg hgj
   obtain ⟨q1, q2, q3⟩ := goes_rest he hL hgL
   have hq0 := q1.sum0
   obtain ⟨g1, g2⟩ := goes_of_max hll
   obtain ⟨s1, s2, s3⟩ := goes_rest hL h0m g1
   obtain ⟨t1, t2, t3⟩ := goes_rest hL hum g2
   obtain ⟨c, hsp⟩ := hp i j hi hj (by omega) ha (by rw [ha]; omega)
   generalize hq : zipE (· - ·) e (lcmE G[i] G[j]) = q at *
   have eI : zipE (· + ·) (zipE (· - ·) (lcmE G[i] G[j]) G[i].u.e) q = zipE (· - ·) e G[i].u.e := by
    have h1 := (s1.add q1)
    refine add_cancel (n := r.n.toNat) (u := G[i].u.e) h0m.len h1.len (zipE_same_len he.len h0m.len) ?_
    rw [← zipE_assoc, s2, q2, (goes_rest he h0m hg).2.1]
   have eJ : zipE (· + ·) (zipE (· - ·) (lcmE G[i] G[j]) G[j].u.e) q = m := by
    have h1 := (t1.add q1)
    refine add_cancel (n := r.n.toNat) (u := G[j].u.e) hum.len h1.len hm.len ?_
    rw [← zipE_assoc, t2, q2, hE]
   have hsp2 := hsp.mul q (Q := RowLt r δ G τ G[j].a e) fun X ⟨x, hxG, m', hm', hd', hlt, hX⟩ => by
    have hxo := hG x hxG
    obtain ⟨z1, z2, z3⟩ := hxo.ld hc
    have hmq := hm'.add q1
    have hzp := hc.pos x.a
    have hsm : (zipE (· + ·) m' q).sum + x.dg δ = τ := by
     rw [hm'.sum_add q1, q3]
     rw [ha] at hd'
     omega
    have b1 : ME r.n.toNat (zipE (· + ·) x.u.e m') := (z3.mn.add hm').me hn3 (by
     rw [z3.mn.sum_add hm']
     have := hm'.sum0
     unfold Mb.dg at hd'
     have := hc.pos G[i].a
     have := hes
     rw [ha] at hd'
     omega)
    have b2 : ME r.n.toNat (zipE (· + ·) (zipE (· + ·) x.u.e m') q) := (b1.mn.add q1).me hn3 (by
     rw [b1.mn.sum_add q1, z3.mn.sum_add hm']
     rw [hm'.sum_add q1] at hsm
     unfold Mb.dg at hsm
     omega)
    have b3 : ME r.n.toNat (lcmE G[i] G[j]) := hL.me hn3 (by omega)
    have b4 : ME r.n.toNat (zipE (· + ·) (lcmE G[i] G[j]) q) := by rw [q2]; exact hee
    refine ⟨x, hxG, zipE (· + ·) m' q, hmq, hsm, ?_, ?_⟩
    ·rw [← zipE_assoc]
     have := (code2_add (r := r) (i := x.a) (k := G[j].a) b1 b3 q1 b2 b4 (by omega) (by omega)).2 (by rw [ha] at hlt; exact hlt)
     rwa [q2] at this
    ·rw [hX, mulF_mulF]
   have hsp3 : Sp r.p (ERow r δ G τ) (mulF q fun ψ => c * mulF (zipE (· - ·) (lcmE G[i] G[j]) G[i].u.e) (ev G[i].v) ψ - mulF (zipE (· - ·) (lcmE G[i] G[j]) G[j].u.e) (ev G[j].v) ψ) := hsp2.trans fun X ⟨x, hxG, m', hm', hd', hlt, hX⟩ => by
    obtain ⟨j', hj', rfl⟩ := List.getElem_of_mem hxG
    rw [hX]
    have hz := (hG _ hxG).ld hc
    have hME : ME r.n.toNat (zipE (· + ·) G[j'].u.e m') := (hz.2.2.mn.add hm').me hn3 (by
     rw [hz.2.2.mn.sum_add hm']
     have := hc.pos G[j'].a
     unfold Mb.dg at hd'
     omega)
    have := code2_range (r := r) (i := G[j'].a) hME (by omega)
    exact row_by_first hc h8 hG hp N j' hj' m' hm' hd' (by omega)
   have e1 : (mulF q fun ψ => c * mulF (zipE (· - ·) (lcmE G[i] G[j]) G[i].u.e) (ev G[i].v) ψ - mulF (zipE (· - ·) (lcmE G[i] G[j]) G[j].u.e) (ev G[j].v) ψ) = fun ψ => c * mulF (zipE (· - ·) e G[i].u.e) (ev G[i].v) ψ - mulF m (ev G[j].v) ψ := by
    funext ψ
    have f1 := congrFun (mulF_mulF (zipE (· - ·) (lcmE G[i] G[j]) G[i].u.e) q (ev G[i].v)) ψ
    have f2 := congrFun (mulF_mulF (zipE (· - ·) (lcmE G[i] G[j]) G[j].u.e) q (ev G[j].v)) ψ
    rw [eI] at f1
    rw [eJ] at f2
    show c * mulF (zipE (· - ·) (lcmE G[i] G[j]) G[i].u.e) (ev G[i].v) (shv q ψ) - mulF (zipE (· - ·) (lcmE G[i] G[j]) G[j].u.e) (ev G[j].v) (shv q ψ) = _
    rw [← f1, ← f2]
    rfl
   rw [e1] at hsp3
   exact (((Sp.mem hmem).smul c).sub hsp3).congr fun ψ => dz (by dsimp only; omega)

def ordV (r : Rg) (k : Nat) (δ : Nat → Int) (G : List Mb) (τ : Int) : List Vc :=
 ((keysT r.n.toNat k δ τ).filter fun y => G.any (divs y.1 y.2)).map fun y => match G.find? (divs y.1 y.2) with
  | some x => vbyT r x.v ⟨1, zipE (· - ·) y.2 x.u.e⟩
  | none => []

theorem ordV_one {r : Rg} {k : Nat} {δ : Nat → Int} {G : List Mb} {τ : Int} (hc : Cx r k δ) (h8 : τ ≤ 8000) (hG : ∀ x ∈ G, MbOk r k δ x) {a : Nat} {e : List Int} (hy : (a, e) ∈ keysT r.n.toNat k δ τ) {x : Mb} (hx : G.find? (divs a e) = some x) :
  HV r k δ τ (vbyT r x.v ⟨1, zipE (· - ·) e x.u.e⟩) ∧ keyOf (topV r (vbyT r x.v ⟨1, zipE (· - ·) e x.u.e⟩)) = some (a, e) ∧ Mn r.n.toNat (zipE (· - ·) e x.u.e) ∧ (zipE (· - ·) e x.u.e).sum + x.dg δ = τ ∧ x ∈ G := by
 obtain ⟨hp2, hn3, hn1, hpr, hck⟩ := hc.rg
 obtain ⟨k1, k2, k3⟩ := (keysT_mem (by omega)).1 hy
 have hxG := List.mem_of_find?_eq_some hx
 have hd := List.find?_some hx
 unfold divs at hd
 simp only [Bool.and_eq_true, beq_iff_eq] at hd
 obtain ⟨ha, hg⟩ := hd
 have ho := hG x hxG
 obtain ⟨x1, x2, x3⟩ := ho.ld hc
 obtain ⟨g1, g2, g3⟩ := goes_rest k2 x3.mn hg
 have hs : (zipE (· - ·) e x.u.e).sum + x.dg δ = τ := by
  unfold Mb.dg
  rw [g3, ha]; omega
 have htm := tm_one hc g1
 have h1 := ho.hv.by hc htm (by show x.dg δ + (zipE (· - ·) e x.u.e).sum ≤ 8000; omega)
 have h2 := ho.hv.by_top hc htm (by show (1 : Int) ≠ 0; omega) (by show x.dg δ + (zipE (· - ·) e x.u.e).sum ≤ 8000; omega) ho.top
 refine ⟨?_, ?_, g1, hs, hxG⟩
 ·have h3 : x.dg δ + (zipE (· - ·) e x.u.e).sum = τ := by omega
  rw [← h3]
  exact h1
 ·rw [h2]
  simp only [keyOf, Option.map_some]
  rw [g2, ha]

theorem any_find {α : Type} {p : α → Bool} {l : List α} (h : l.any p = true) : ∃ x, l.find? p = some x := by
 cases hx : l.find? p with
 | some x => exact ⟨x, rfl⟩
 | none =>
  obtain ⟨y, hy, hpy⟩ := List.any_eq_true.1 h
  have := List.find?_eq_none.1 hx y hy
  rw [hpy] at this
  exact absurd rfl this

theorem ordV_els {r : Rg} {k : Nat} {δ : Nat → Int} {G : List Mb} {τ : Int} (hc : Cx r k δ) (h8 : τ ≤ 8000) (hG : ∀ x ∈ G, MbOk r k δ x) : Els r k δ τ (ordV r k δ G τ) := by
 have key : ∀ y ∈ (keysT r.n.toNat k δ τ).filter fun y => G.any (divs y.1 y.2), ∃ x, G.find? (divs y.1 y.2) = some x ∧ (y.1, y.2) ∈ keysT r.n.toNat k δ τ := fun y hy => by
  obtain ⟨h1, h2⟩ := List.mem_filter.1 hy
  obtain ⟨x, hx⟩ := any_find h2
  exact ⟨x, hx, h1⟩
 refine ⟨fun e he => ?_, fun e he => ?_, ?_⟩
 ·obtain ⟨y, hy, rfl⟩ := List.mem_map.1 he
  obtain ⟨x, hx, h1⟩ := key y hy
  rw [hx]
  exact (ordV_one hc h8 hG h1 hx).1
 ·obtain ⟨y, hy, rfl⟩ := List.mem_map.1 he
  obtain ⟨x, hx, h1⟩ := key y hy
  rw [hx]
  have := (ordV_one hc h8 hG h1 hx).2.1
  intro h0
  dsimp only at h0
  rw [h0] at this
  cases this
 ·unfold ordV
  rw [List.map_map]
  unfold List.Nodup
  rw [List.pairwise_map]
  refine List.Pairwise.imp_of_mem (fun {y y'} hy hy' hne he => hne ?_) ((keysT_nodup r.n.toNat k δ τ).filter _)
  obtain ⟨x, hx, h1⟩ := key y hy
  obtain ⟨x', hx', h1'⟩ := key y' hy'
  simp only [Function.comp] at he
  rw [hx, hx'] at he
  dsimp only at he
  rw [(ordV_one hc h8 hG h1 hx).2.1, (ordV_one hc h8 hG h1' hx').2.1] at he
  exact Option.some.inj he

theorem erow_ord {r : Rg} {k : Nat} {δ : Nat → Int} {G : List Mb} {τ : Int} (hc : Cx r k δ) (h8 : τ ≤ 8000) (hG : ∀ x ∈ G, MbOk r k δ x) {X : Fu} (h : ERow r δ G τ X) : Sp r.p (fun X => ∃ e ∈ ordV r k δ G τ, X = ev e) X := by
 obtain ⟨a, e, x, he, hes, hf, rfl⟩ := h
 have hn1 := hc.rg.2.2.1
 have hd := List.find?_some hf
 have hxG := List.mem_of_find?_eq_some hf
 have hd' := hd
 unfold divs at hd'
 simp only [Bool.and_eq_true, beq_iff_eq] at hd'
 have hy : (a, e) ∈ keysT r.n.toNat k δ τ := (keysT_mem (by omega)).2 ⟨by rw [← hd'.1]; exact ((hG x hxG).ld hc).1, he, hes⟩
 refine (Sp.mem (P := fun X => ∃ e ∈ ordV r k δ G τ, X = ev e) ⟨vbyT r x.v ⟨1, zipE (· - ·) e x.u.e⟩, ?_, rfl⟩).congr (ev_one _ _)
 refine List.mem_map.2 ⟨(a, e), List.mem_filter.2 ⟨hy, List.any_eq_true.2 ⟨x, hxG, hd⟩⟩, ?_⟩
 rw [hf]

theorem buch {r : Rg} {k : Nat} {δ : Nat → Int} {G : List Mb} {τ : Int} (hc : Cx r k δ) (hG : ∀ x ∈ G, MbOk r k δ x)
  (hp : ∀ (i j : Nat) (hi : i < G.length) (hj : j < G.length), i < j → G[i].a = G[j].a → (lcmE G[i] G[j]).sum + δ G[i].a ≤ τ → GoodP r δ G G[i] G[j])
  {v : Vc} (hv : HV r k δ τ v) (hs : Sp r.p (Row r δ G τ) (ev v)) {a : Nat} {u : Tm} (ht : topV r v = some (a, u)) : G.any (divs a u.e) = true := by
 have h8 := hv.t8
 have h1 : Sp r.p (fun X => ∃ e ∈ ordV r k δ G τ, X = ev e) (ev v) := hs.trans fun X ⟨x, hxG, m, hm, hd, hX⟩ => by
  obtain ⟨j, hj, rfl⟩ := List.getElem_of_mem hxG
  rw [hX]
  exact (row_by_first hc h8 hG hp _ j hj m hm hd (Nat.lt_succ_self _)).trans fun Y hY => erow_ord hc h8 hG hY
 rcases (ordV_els hc h8 hG).lead hc hv h1 with h | ⟨e, he, hk⟩
 ·rw [ht] at h; cases h
 ·obtain ⟨y, hy, rfl⟩ := List.mem_map.1 he
  obtain ⟨g1, g2⟩ := List.mem_filter.1 hy
  obtain ⟨x, hx⟩ := any_find g2
  rw [hx] at hk
  dsimp only at hk
  rw [(ordV_one hc h8 hG g1 hx).2.1, ht] at hk
  simp only [keyOf, Option.map_some] at hk
  obtain ⟨e1, e2⟩ := Prod.mk.inj (Option.some.inj hk)
  rw [e1, e2]
  exact g2
end
section
open Go.RowKit Go.Maps

def hi_int : Value → Int
 | .int _ q => q
 | _ => 0

structure MoW (n l bn on be0 by0 bf be : Nat) (W : World) : Prop where
 hn : W.cell? ⟨bn, on, none⟩ = some (.int .i64 n)
 he : W.cell? ⟨be0, 0, none⟩ = some (.slice (some ⟨be, 0, none⟩) n n)
 hy : W.cell? ⟨by0, 0, none⟩ = some (.func (.yield l) #[] #[])
 hf : W.cell? ⟨bf, 0, none⟩ = some (.func (.func 34) #[] #[.pointer (some ⟨bn, on, none⟩), .pointer (some ⟨be0, 0, none⟩), .pointer (some ⟨by0, 0, none⟩), .pointer (some ⟨bf, 0, none⟩)])

theorem MoW.keep {n l bn on be0 by0 bf be : Nat} {W W' : World} (h : MoW n l bn on be0 by0 bf be W) (hk : ∀ b, b = bn ∨ b = be0 ∨ b = by0 ∨ b = bf → W'.heap[b]? = W.heap[b]?) : MoW n l bn on be0 by0 bf be W' :=
 ⟨(World.cell?_of_block (hk _ (by simp))).trans h.hn, (World.cell?_of_block (hk _ (by simp))).trans h.he, (World.cell?_of_block (hk _ (by simp))).trans h.hy, (World.cell?_of_block (hk _ (by simp))).trans h.hf⟩

theorem setCell_self {W : World} {b j : Nat} {v : Value} {cs : Array Value} {T : TypeId} {fr : Nat × Nat} (h : W.heap[b]? = some (.cells cs T fr)) : (W.setCell ⟨b, j, none⟩ v).heap[b]? = some (.cells (cs.setIfInBounds j v) T fr) := by
 unfold World.setCell
 dsimp only
 rw [Array.getElem?_modify, if_pos rfl, h]
 rfl

theorem setCell_other {W : World} {b c j : Nat} {v : Value} (h : c ≠ b) : (W.setCell ⟨b, j, none⟩ v).heap[c]? = W.heap[c]? := by
 unfold World.setCell
 dsimp only
 rw [Array.getElem?_modify, if_neg (fun e => h e.symm)]

def intsV (es : List Int) : Array Value := (es.map fun x => Value.int .i64 x).toArray

theorem intsV_get {es : List Int} {j : Nat} (h : j < es.length) : (intsV es)[j]? = some (.int .i64 es[j]) := by
 unfold intsV
 simp [h]

theorem intsV_set (p q : List Int) (x y : Int) : (intsV (p ++ y :: q)).setIfInBounds p.length (.int .i64 x) = intsV (p ++ x :: q) := by
 unfold intsV
 apply Array.ext_getElem?
 intro j
 simp

theorem fill_nums {i m n left k : Nat} (hi : i + (m + 1) + 1 = n) (hl : left ≤ 1000000) (hn : n ≤ 1000000) (hk : k < left + 1) :
  RowKit.wrap64 ((i : Int) + 1) = (i : Int) + 1 ∧ RowKit.wrap64 ((left : Int) - k) = (left : Int) - k ∧ RowKit.wrap64 ((k : Int) + 1) = (k : Int) + 1 ∧ i < n ∧ i + 1 + m + 1 = n ∧ left - k ≤ 1000000 ∧ ((i + 1 : Nat) : Int) = (i : Int) + 1 ∧ ((left - k : Nat) : Int) = (left : Int) - k ∧ (k + 1 ≤ left + 1 ∧ left + 1 - ((k : Int) + 1).toNat < left + 1 - (k : Int).toNat) := by
 refine ⟨?_, ?_, ?_, by omega, by omega, by omega, by omega, by omega, by omega, by omega⟩ <;> unfold RowKit.wrap64 <;> omega

set_option maxRecDepth 100000 in
set_option maxHeartbeats 8000000 in
theorem fill_calls (n l bn on be0 by0 bf be : Nat) (hn6 : n ≤ 1000000) (hap : be ≠ bn ∧ be ≠ be0 ∧ be ≠ by0 ∧ be ≠ bf) (J : List (List Int) → World → Prop)
  (hst : ∀ pre W j x, j < n → J pre W → J pre (W.setCell ⟨be, j, none⟩ (.int .i64 x)))
  (hY : ∀ pre W es, J pre W → es.length = n → MoW n l bn on be0 by0 bf be W → W.heap[be]? = some (.cells (intsV es) 3 (0, 0)) →
   YieldAt Fence.wide 0 Tryz.prog l #[.slice (some ⟨be, 0, none⟩) n n] W fun en W' => en = .returned (.bool true) ∧ J (pre ++ [es]) W' ∧ ∀ b, b = bn ∨ b = be0 ∨ b = by0 ∨ b = bf ∨ b = be → W'.heap[b]? = W.heap[b]?) :
  ∀ (m i left : Nat) (pre : List (List Int)) (W : World) (p q : List Int), i + m + 1 = n → left ≤ 1000000 → J pre W → MoW n l bn on be0 by0 bf be W → p.length = i → (p ++ q).length = n → W.heap[be]? = some (.cells (intsV (p ++ q)) 3 (0, 0)) →
   CallsIn Fence.wide 0 Tryz.prog 34 #[.int .i64 i, .int .i64 left, .pointer (some ⟨bn, on, none⟩), .pointer (some ⟨be0, 0, none⟩), .pointer (some ⟨by0, 0, none⟩), .pointer (some ⟨bf, 0, none⟩)] W
    fun en W' => en = .returned (.bool true) ∧ J (pre ++ (monosT (m + 1) left).map (p ++ ·)) W' ∧ MoW n l bn on be0 by0 bf be W' ∧ ∃ q' : List Int, (p ++ q').length = n ∧ W'.heap[be]? = some (.cells (intsV (p ++ q')) 3 (0, 0)) := by
 intro m
 induction m with
 | zero =>
  intro i left pre W p q hi hl6 hJ hM hp hpq hbe
  have hin : (n : Int) - 1 = i := by omega
  refine callsIn_of_wp Tryz.func34 rfl trivial ?_ rfl
  simp only [Tryz.ntmps34, List.size_toArray, List.length_cons, List.length_nil, Nat.reduceAdd, Nat.reduceSub, Array.replicate_succ, Array.replicate_zero, List.push_toArray, List.append_toArray, List.nil_append, List.cons_append]
  obtain ⟨y, rfl⟩ : ∃ y, q = [y] := by
   rw [List.length_append] at hpq
   exact List.length_eq_one_iff.1 (by omega)
  have hset := setCell_self (j := i) (v := .int .i64 left) hbe
  rw [← hp, intsV_set] at hset
  have hoth : ∀ b, b = bn ∨ b = be0 ∨ b = by0 ∨ b = bf → (W.setCell ⟨be, i, none⟩ (.int .i64 left)).heap[b]? = W.heap[b]? := fun b hb => setCell_other (by rcases hb with rfl | rfl | rfl | rfl; exact hap.1.symm; exact hap.2.1.symm; exact hap.2.2.1.symm; exact hap.2.2.2.symm)
  have hM1 := hM.keep hoth
  have hJ1 := hst pre W i left (by omega) hJ
  rw [hp] at hset
  have hc : W.cell? ⟨be, i, none⟩ = some (.int .i64 y) := by
   rw [cell_of_row W be i _ _ (0, 0) hbe, intsV_get (by rw [hpq]; omega)]
   simp [← hp]
  have hfz : W.frozen? ⟨be, i, none⟩ = false := by simp [World.frozen?, hbe]
  obtain ⟨hn, he, hy, hf⟩ := hM
  obtain ⟨fn', tmps', assign', body', hyl, hR⟩ := hY pre _ (p ++ [(left : Int)]) hJ1 (by simp; omega) hM1 hset
  have hwi : RowKit.wrap64 (i : Int) = i := by unfold RowKit.wrap64; omega
  obtain ⟨hn1, he1, hy1, hf1⟩ := hM1
  generalize hW1 : W.setCell ⟨be, i, none⟩ (.int .i64 left) = W1 at *
  gi_wp2
  refine ⟨rfl, hR.mono ?_⟩
  rintro en W2 ⟨rfl, hJ2, hk2⟩
  gi_wp2
  go_ret
  refine ⟨rfl, by simpa [monosT] using hJ2, (MoW.mk hn1 he1 hy1 hf1).keep fun b hb => hk2 b (by rcases hb with h | h | h | h <;> simp [h]), [(left : Int)], by simp; omega, (hk2 be (by simp)).trans hset⟩
 | succ m ih =>
  intro i left pre W p q hi hl6 hJ hM hp hpq hbe
  have hne : ¬ (n : Int) - 1 = i := by omega
  have hwl : RowKit.wrap64 ((left : Int) + 1) = ((left + 1 : Nat) : Int) := by unfold RowKit.wrap64; omega
  have hwn : RowKit.wrap64 ((n : Int) - 1) = ((n - 1 : Nat) : Int) := by unfold RowKit.wrap64; omega
  have hie : ((i : Int) == (n : Int) - 1) = false := by
   rw [beq_eq_false_iff_ne]
   omega
  have hii : ((i : Int) == ((n - 1 : Nat) : Int)) = false := by
   rw [beq_eq_false_iff_ne]
   omega
  have hM0 := hM
  obtain ⟨hn, he, hy, hf⟩ := hM
  refine callsIn_of_wp Tryz.func34 rfl trivial ?_ rfl
  simp only [Tryz.ntmps34, List.size_toArray, List.length_cons, List.length_nil, Nat.reduceAdd, Nat.reduceSub, Array.replicate_succ, Array.replicate_zero, List.push_toArray, List.append_toArray, List.nil_append, List.cons_append]
  gi_wp2
  gi_loopw [23] (fun x wr => ∃ k : Nat, k ≤ left + 1 ∧ x = .int .i64 k ∧ J (pre ++ (List.range k).flatMap fun x => (monosT (m + 1) (left - x)).map fun e => p ++ (x : Int) :: e) wr ∧ MoW n l bn on be0 by0 bf be wr ∧ ∃ q' : List Int, (p ++ q').length = n ∧ wr.heap[be]? = some (.cells (intsV (p ++ q')) 3 (0, 0)))
   (fun x _ => left + 1 - (hi_int x).toNat)
  case atStart => exact ⟨0, Nat.zero_le _, rfl, by simpa using hJ, hM0, q, hpq, hbe⟩
  case round =>
   obtain ⟨k, hk, rfl, hJr, hMr, q', hpq', hbr⟩ := hrel
   clear hn he hy hf
   by_cases hlt : k < left + 1
   ·obtain ⟨y, q2, rfl⟩ : ∃ y q2, q' = y :: q2 := by
     cases q' with
     | nil => rw [List.length_append] at hpq'; simp at hpq'; omega
     | cons y q2 => exact ⟨y, q2, rfl⟩
    have hset := setCell_self (j := i) (v := .int .i64 k) hbr
    rw [← hp, intsV_set] at hset
    have hoth : ∀ b, b = bn ∨ b = be0 ∨ b = by0 ∨ b = bf → (wr.setCell ⟨be, i, none⟩ (.int .i64 k)).heap[b]? = wr.heap[b]? := fun b hb => setCell_other (by rcases hb with rfl | rfl | rfl | rfl; exact hap.1.symm; exact hap.2.1.symm; exact hap.2.2.1.symm; exact hap.2.2.2.symm)
    have hM1 := hMr.keep hoth
    have hJ1 := hst _ wr i k (by omega) hJr
    rw [hp] at hset
    have hc : wr.cell? ⟨be, i, none⟩ = some (.int .i64 y) := by
     rw [cell_of_row wr be i _ _ (0, 0) hbr, intsV_get (by rw [hpq']; omega)]
     simp [← hp]
    have hfz : wr.frozen? ⟨be, i, none⟩ = false := by simp [World.frozen?, hbr]
    obtain ⟨hn, he, hy, hf⟩ := hMr
    obtain ⟨hw1, hw2, hw3, hil, hi2, hl2, hz1, hz2, hz3⟩ := fill_nums hi hl6 hn6 hlt
    have ihc := ih (i + 1) (left - k) _ _ (p ++ [(k : Int)]) q2 hi2 hl2 hJ1 hM1 (by simp [hp]) (by simpa using hpq') (by simpa using hset)
    rw [hz1, hz2] at ihc
    clear ih hap hst hoth hz1 hz2
    have hltz : (k : Int) < (left : Int) + 1 := by omega
    obtain ⟨hn1, he1, hy1, hf1⟩ := hM1
    generalize hW1 : wr.setCell ⟨be, i, none⟩ (.int .i64 k) = W1 at *
    obtain ⟨PK, hPK⟩ : ∃ P : Prop, P = (k + 1 ≤ left + 1 ∧ left + 1 - ((k : Int) + 1).toNat < left + 1 - (k : Int).toNat) := ⟨_, rfl⟩
    have hPK1 : PK := by rw [hPK]; exact hz3
    clear hz3
    clear hY hJ hM0 hbe hne hwl hwn hii hJr hk hi hi2 hl2 hl6 hn6 hpq hpq' hbr hlt
    gi_wp2_with ((try refine ⟨trivial, rfl, ?_⟩); gi_at_call 34; refine ihc.mono ?_; clear ihc; rintro en W3 ⟨rfl, hJ3, hM3, q3, hpq3, hb3⟩)
    rw [hPK] at hPK1
    rw [hw3]
    go_roundw
    case rel =>
     have hpq4 : (p ++ (k : Int) :: q3).length = n := by simpa using hpq3
     have hb4 : W3.heap[be]? = some (.cells (intsV (p ++ (k : Int) :: q3)) 3 (0, 0)) := by simpa using hb3
     refine ⟨k + 1, hPK1.1, rfl, ?_, hM3, (k : Int) :: q3, hpq4, hb4⟩
     rw [List.range_succ, List.flatMap_append, ← List.append_assoc]
     simpa using hJ3
    case measure =>
     exact hPK1.2
   ·obtain rfl : k = left + 1 := by omega
    have hltz : ¬ (((left + 1 : Nat) : Int) < (left : Int) + 1) := by omega
    gi_wp2
    go_ret
    refine ⟨rfl, ?_, hMr, q', by first | exact hpq' | simpa [hp] using hpq', hbr⟩
    simpa [monosT, List.map_flatMap, Function.comp_def] using hJr
end
end Go.Proofs.YtfjmdhemlfafbaaGreat
