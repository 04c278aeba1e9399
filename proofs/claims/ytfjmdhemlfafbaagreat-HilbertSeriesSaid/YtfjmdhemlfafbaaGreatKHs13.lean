/-
  Pairs of vectors whose leads are made the same, in plain Lean. No condition.
-/
import Derived.Test.YtfjmdhemlfafbaaGreatKHs12
import Derived.Test.YtfjmdhemlfafbaaGreatKHs11
set_option linter.unusedVariables false
set_option linter.unusedSimpArgs false

namespace Go.Proofs.YtfjmdhemlfafbaaGreat
open Go.RowKit

structure VM (r : Rg) (n : Nat) (v : Vc) : Prop where
  n3 : n ≤ 3
  len : v.length ≤ 40
  all : ∀ (i : Nat) (h : i < v.length), PB 1 r.p r.order n 8000 v[i]
  me' : ∀ (i : Nat) (h : i < v.length), ∀ t ∈ v[i], ME n t.e

theorem VM.me {r : Rg} {n : Nat} {v : Vc} (h : VM r n v) {i : Nat} (hi : i < v.length) : ∀ t ∈ v[i], ME n t.e := h.me' i hi

theorem topAt_maxM {r : Rg} {n : Nat} {v : Vc} (hv : VM r n v) : ∀ (k : Nat), k ≤ v.length →
    (topAt r v k = none → ∀ (i : Nat) (h : i < v.length), i < k → v[i] = []) ∧ ∀ a u, topAt r v k = some (a, u) → ∀ (i : Nat) (h : i < v.length), i < k → ∀ s ∈ v[i], code2 r i s.e ≤ code2 r a u.e
  | 0, _ => ⟨fun _ i _ h => by omega, fun a u h => by cases h⟩
  | k + 1, hk => by
    have hk2 : k < v.length := by omega
    have hlen := hv.len
    obtain ⟨i1, i2⟩ := topAt_maxM hv k (by omega)
    have hs := topAt_succ (r := r) hk2
    rw [hs]
    cases hf : v[k] with
    | nil =>
      refine ⟨fun h i hi hik => ?_, fun a u h i hi hik s hsm => ?_⟩
      · by_cases hik2 : i = k
        · subst hik2; exact hf
        · exact i1 h i hi (by omega)
      · by_cases hik2 : i = k
        · subst hik2; rw [hf] at hsm; cases hsm
        · exact i2 a u h i hi (by omega) s hsm
    | cons t f =>
      have hme := hv.me hk2
      have hpb := hv.all k hk2
      rw [hf] at hme hpb
      have hrow : ∀ s ∈ t :: f, code2 r k s.e ≤ code2 r k t.e := fun s hsm => by
        rcases List.mem_cons.1 hsm with rfl | hsm
        · exact Int.le_refl _
        · exact Int.le_of_lt (code2_same' (hme t (by simp)) (hme s (by simp [hsm])) (hpb.below s hsm))
      cases hx : topAt r v k with
      | none =>
        refine ⟨(fun h => by cases h), fun a u h i hi hik s hsm => ?_⟩
        cases h
        by_cases hik2 : i = k
        · subst hik2; rw [hf] at hsm; exact hrow s hsm
        · rw [i1 hx i hi (by omega)] at hsm; cases hsm
      | some x =>
        obtain ⟨b, w⟩ := x
        obtain ⟨hb1, hb2, hb3, hb4⟩ := topAt_ok (by omega) hx
        have hwm := hv.me hb2 w (by rw [← hb4]; exact List.getElem_mem hb3)
        have hfc := code2_first (r := r) (i := k) (k := b) (hme t (by simp)) hwm (by omega) (by omega)
        show ((if firstT r k t.e b w.e = true then some (k, t) else some (b, w)) = none → _) ∧ ∀ a u, (if firstT r k t.e b w.e = true then some (k, t) else some (b, w)) = some (a, u) → _
        cases hft : firstT r k t.e b w.e
        · rw [if_neg (by simp)]
          refine ⟨(fun h => by cases h), fun a u h i hi hik s hsm => ?_⟩
          cases h
          by_cases hik2 : i = k
          · subst hik2
            rw [hf] at hsm
            have := hrow s hsm
            have hn : ¬ code2 r b w.e < code2 r i t.e := fun h => by rw [hfc.2 h] at hft; cases hft
            omega
          · exact i2 b w hx i hi (by omega) s hsm
        · rw [if_pos rfl]
          refine ⟨(fun h => by cases h), fun a u h i hi hik s hsm => ?_⟩
          cases h
          by_cases hik2 : i = k
          · subst hik2; rw [hf] at hsm; exact hrow s hsm
          · have := i2 b w hx i hi (by omega) s hsm
            have := hfc.1 hft
            omega

theorem topV_noneM {r : Rg} {n : Nat} {v : Vc} (hv : VM r n v) (h : topV r v = none) : ∀ (i : Nat) (hi : i < v.length), v[i] = [] := fun i hi => (topAt_maxM hv v.length (Nat.le_refl _)).1 h i hi hi

theorem topV_isM {r : Rg} {n : Nat} {v : Vc} (hv : VM r n v) {a : Nat} {u : Tm} (h : topV r v = some (a, u)) : TopIs r n v a u := by
  obtain ⟨h1, h2, h3, h4⟩ := topAt_ok (Nat.le_refl _) h
  refine ⟨h2, ?_, hv.me h2 u (by rw [← h4]; exact List.getElem_mem h3), fun i hi => (topAt_maxM hv v.length (Nat.le_refl _)).2 a u h i hi hi⟩
  revert h3 h4
  generalize v[a] = g
  cases g with
  | nil => intro h3; simp at h3
  | cons t f => intro _ h4; exact ⟨f, by rw [← h4]; rfl⟩

structure Cx (r : Rg) (k : Nat) (δ : Nat → Int) : Prop where
  ring : ringCk r = 0
  k40 : k ≤ 40
  pos : ∀ i, 0 ≤ δ i

theorem Cx.rg {r : Rg} {k : Nat} {δ : Nat → Int} (h : Cx r k δ) : (2 ≤ r.p ∧ r.p ≤ 101) ∧ r.n.toNat ≤ 3 ∧ 1 ≤ r.n ∧ Prm r.p ∧ ckP r.p = 0 := by
  have hr2 := ringCk_ok h.ring
  exact ⟨ckP_ok hr2.1, by omega, by omega, ckP_prm hr2.1, hr2.1⟩

structure HV (r : Rg) (k : Nat) (δ : Nat → Int) (τ : Int) (v : Vc) : Prop where
  t8 : τ ≤ 8000
  len : v.length = k
  all : ∀ (i : Nat) (h : i < v.length), PB 1 r.p r.order r.n.toNat 8000 v[i]
  hom : ∀ (i : Nat) (h : i < v.length), ∀ t ∈ v[i], t.e.sum + δ i = τ

theorem HV.vm {r : Rg} {k : Nat} {δ : Nat → Int} {τ : Int} {v : Vc} (hc : Cx r k δ) (h : HV r k δ τ v) : VM r r.n.toNat v :=
  ⟨hc.rg.2.1, by rw [h.len]; exact hc.k40, h.all, fun i hi t ht => ⟨((h.all i hi).all t ht).len, hc.rg.2.1, fun x hx => (((h.all i hi).all t ht).mem x hx).1, by have := h.hom i hi t ht; have := hc.pos i; have := h.t8; omega⟩⟩

theorem HV.vb {r : Rg} {k : Nat} {δ : Nat → Int} {τ : Int} {v : Vc} (hc : Cx r k δ) (h : HV r k δ τ v) : VB r r.n.toNat 8000 512192024001 v := fun f hf => by
  obtain ⟨i, hi, rfl⟩ := List.getElem_of_mem hf
  exact ⟨h.all i hi, len_le8 (d := 8000) (h.all i hi) (fun t ht => ((h.vm hc).me hi t ht).deg) hc.rg.2.1 (by omega)⟩

theorem HV.pb {r : Rg} {k : Nat} {δ : Nat → Int} {τ : Int} {v : Vc} (h : HV r k δ τ v) : ∀ f ∈ v, PB 1 r.p r.order r.n.toNat 8000 f := fun f hf => by
  obtain ⟨i, hi, rfl⟩ := List.getElem_of_mem hf
  exact h.all i hi

theorem HV.top {r : Rg} {k : Nat} {δ : Nat → Int} {τ : Int} {v : Vc} (hc : Cx r k δ) (h : HV r k δ τ v) {a : Nat} {u : Tm} (ht : topV r v = some (a, u)) : a < k ∧ TB 1 r.p r.n.toNat 8000 u ∧ ME r.n.toNat u.e ∧ u.e.sum + δ a = τ := by
  have hi := topV_isM (h.vm hc) ht
  obtain ⟨f, hf⟩ := hi.at_
  have hm : u ∈ v[a]'hi.lt := by rw [hf]; simp
  exact ⟨by have := hi.lt; rw [h.len] at this; exact this, (h.all a hi.lt).all u hm, hi.me, h.hom a hi.lt u hm⟩

theorem reduce_hom {r : Rg} {k : Nat} {δ : Nat → Int} {τ τd : Int} {v d : Vc} {a : Nat} {u w : Tm} (hc : Cx r k δ) (hv : HV r k δ τ v) (hd : HV r k δ τd d)
    (htv : topV r v = some (a, u)) (htd : topV r d = some (a, w)) (hg : goesM u.e w.e = true) :
    HV r k δ τ (vsumT r v (vbyT r d (negT r (byOf r u w)))) ∧ ∀ (i : Nat) (hi : i < (vsumT r v (vbyT r d (negT r (byOf r u w)))).length), ∀ s ∈ (vsumT r v (vbyT r d (negT r (byOf r u w))))[i], code2 r i s.e < code2 r a u.e := by
  obtain ⟨hp2, hn3, hn1, hpr, hp⟩ := hc.rg
  have hvm := hv.vm hc
  have hdm := hd.vm hc
  have hlen : v.length = d.length := by rw [hv.len, hd.len]
  have iv := topV_isM hvm htv
  have id' := topV_isM hdm htd
  have hvl := hvm.len
  have ha := iv.lt
  have had := id'.lt
  have eu := (hv.top hc htv).2.2.2
  have ew := (hd.top hc htd).2.2.2
  have ht8 := hv.t8
  obtain ⟨f, hf⟩ := iv.at_
  obtain ⟨g, hgd⟩ := id'.at_
  have hua := hv.all a ha
  have hwa := hd.all a had
  rw [hf] at hua
  rw [hgd] at hwa
  obtain ⟨b1, b2, b3, b4, b5⟩ := byOf_ok hp hua.head iv.me hwa.head id'.me hg
  have hneg := negT_ok b1
  have hnc := hneg.lo
  generalize hby : byOf r u w = by' at *
  have hle : (negT r by').e = by'.e := rfl
  have hlenL : (vsumT r v (vbyT r d (negT r by'))).length = v.length := by rw [vsumT_len' (by simp [vbyT]; omega)]
  have hget : ∀ (i : Nat) (hi : i < v.length), (vsumT r v (vbyT r d (negT r by')))[i]'(by omega) = sumT r.p r.order v[i] (byT r.p (d[i]'(by omega)) (negT r by')) := fun i hi => by simp [vsumT, vbyT]
  -- what the second one's terms are
  have hx : ∀ (i : Nat) (hi : i < d.length), ∀ x ∈ d[i], ME r.n.toNat (zipE (· + ·) x.e by'.e) ∧ (zipE (· + ·) x.e by'.e).sum + δ i = τ ∧ (code2 r i (zipE (· + ·) x.e by'.e) < code2 r a u.e ∨ (i = a ∧ x.e = w.e)) := fun i hi x hxm => by
    have hxe := hdm.me hi x hxm
    have hmax := id'.max i hi x hxm
    have hs : (zipE (· + ·) x.e by'.e).sum = x.e.sum + by'.e.sum := zipE_sum (by rw [hxe.len, b2.len])
    have hdeg : (zipE (· + ·) x.e by'.e).sum + δ i = τ := by
      have := hd.hom i hi x hxm
      rw [hs, b4]; omega
    have hpos : ∀ y ∈ zipE (· + ·) x.e by'.e, 0 ≤ y := fun y hy => by
      unfold zipE at hy
      obtain ⟨k, hk, rfl⟩ := List.getElem_of_mem hy
      rw [List.length_zipWith] at hk
      rw [List.getElem_zipWith]
      have := hxe.pos _ (List.getElem_mem (show k < x.e.length by omega))
      have := b2.pos _ (List.getElem_mem (show k < by'.e.length by omega))
      omega
    have hme : ME r.n.toNat (zipE (· + ·) x.e by'.e) := ⟨zipE_same_len hxe.len b2.len, hn3, hpos, by have := hc.pos i; omega⟩
    refine ⟨hme, hdeg, ?_⟩
    by_cases heq : code2 r i x.e = code2 r a w.e
    · exact .inr (code2_inj hxe id'.me (by omega) (by omega) heq)
    · refine .inl ?_
      have h1 := (code2_first id'.me hxe (r := r) (i := a) (k := i) (by omega) (by omega)).2 (by omega)
      have h2 := (code2_first iv.me hme (r := r) (i := a) (k := i) (by omega) (by omega)).1
      refine h2 ?_
      rw [← b3, firstT_add (by rw [id'.me.len, hxe.len]) (by rw [hxe.len, b2.len])]
      exact h1
  have hbe : ∀ (i : Nat) (hi : i < d.length), PB 1 r.p r.order r.n.toNat 8000 (byT r.p d[i] (negT r by')) := fun i hi => by
    have hdb : DB 8000 (byT r.p d[i] (negT r by')) := fun s hs => by
      obtain ⟨x, hxm, he⟩ := byT_mem s hs
      rw [he]
      exact (hx i hi x hxm).1.deg
    exact (byT_ok (by omega) hpr (hd.all i hi) hneg.zero).tight hdb
  refine ⟨⟨hv.t8, by rw [hlenL]; exact hv.len, fun i hi => ?_, fun i hi s hs => ?_⟩, fun i hi s hs => ?_⟩
  · rw [hget i (by omega)]
    exact sumT_ok (by omega) _ _ (hv.all i (by omega)) (hbe i (by omega))
  · rw [hget i (by omega)] at hs
    rcases sumT_mem _ _ s hs with ⟨t, ht, he⟩ | ⟨t, ht, he⟩
    · rw [← he]; exact hv.hom i (by omega) t ht
    · obtain ⟨x, hxm, hxe⟩ := byT_mem t ht
      rw [← he, hxe]
      exact (hx i (by omega) x hxm).2.1
  · rw [hget i (by omega)] at hs
    by_cases hia : i = a
    · subst hia
      have hby2 : byT r.p (d[i]'had) (negT r by') = ⟨w.c * (negT r by').c % r.p, u.e⟩ :: byT r.p g (negT r by') := by
        rw [hgd]
        unfold byT
        rw [if_neg (by omega), if_neg (by omega), List.map_cons, hle, b3]
      have hc : (u.c + w.c * (negT r by').c % r.p) % r.p = 0 := by
        rw [Int.add_emod, Int.emod_emod_of_dvd _ (Int.dvd_refl _), ← Int.add_emod]
        refine Int.emod_eq_zero_of_dvd ?_
        obtain ⟨k, hk⟩ := b5
        exact ⟨w.c - k, by show u.c + w.c * (r.p - by'.c) = _; grind⟩
      rw [hby2, hf, sumT_cancel (u := u) (v := ⟨w.c * (negT r by').c % r.p, u.e⟩) rfl hc] at hs
      rcases sumT_mem f _ s hs with ⟨t, ht, he⟩ | ⟨t, ht, he⟩
      · rw [← he]
        exact code2_same' iv.me (hvm.me ha t (by rw [hf]; simp [ht])) (hua.below t ht)
      · obtain ⟨x, hxm, hxe⟩ := byT_mem t ht
        have hxd : x ∈ d[i]'had := by rw [hgd]; simp [hxm]
        rw [← he, hxe]
        rcases (hx i had x hxd).2.2 with h | ⟨_, h⟩
        · exact h
        · have := hwa.below x hxm
          rw [h, cmpM_self] at this
          omega
    · rcases sumT_mem _ _ s hs with ⟨t, ht, he⟩ | ⟨t, ht, he⟩
      · rw [← he]
        have h1 := iv.max i (by omega) t ht
        have h2 : code2 r i t.e ≠ code2 r a u.e := fun h => hia (code2_inj (hvm.me (by omega) t ht) iv.me (by omega) (by omega) h).1
        omega
      · obtain ⟨x, hxm, hxe⟩ := byT_mem t ht
        rw [← he, hxe]
        rcases (hx i (by omega) x hxm).2.2 with h | ⟨h, _⟩
        · exact h
        · exact absurd h hia

end Go.Proofs.YtfjmdhemlfafbaaGreat

namespace Go.Proofs.YtfjmdhemlfafbaaGreat
open Go.RowKit

structure Mn (n : Nat) (m : List Int) : Prop where
  len : m.length = n
  pos : ∀ x ∈ m, 0 ≤ x

theorem ME.mn {n : Nat} {m : List Int} (h : ME n m) : Mn n m := ⟨h.len, h.pos⟩
theorem Mn.sum0 {n : Nat} {m : List Int} (h : Mn n m) : 0 ≤ m.sum := sum_nonneg h.pos
theorem Mn.add {n : Nat} {a b : List Int} (h : Mn n a) (k : Mn n b) : Mn n (zipE (· + ·) a b) := ⟨zipE_same_len h.len k.len, fun y hy => by
  unfold zipE at hy
  obtain ⟨i, hi, rfl⟩ := List.getElem_of_mem hy
  rw [List.length_zipWith] at hi
  rw [List.getElem_zipWith]
  have := h.pos _ (List.getElem_mem (show i < a.length by omega))
  have := k.pos _ (List.getElem_mem (show i < b.length by omega))
  omega⟩
theorem Mn.sum_add {n : Nat} {a b : List Int} (h : Mn n a) (k : Mn n b) : (zipE (· + ·) a b).sum = a.sum + b.sum := zipE_sum (by rw [h.len, k.len])
theorem Mn.me {n : Nat} {m : List Int} (h : Mn n m) (hn : n ≤ 3) (h8 : m.sum ≤ 8000) : ME n m := ⟨h.len, hn, h.pos, h8⟩

theorem code2_add {r : Rg} {n i k : Nat} {x y m : List Int} (hx : ME n x) (hy : ME n y) (hm : Mn n m) (hxm : ME n (zipE (· + ·) x m)) (hym : ME n (zipE (· + ·) y m)) (hi : i ≤ 40) (hk : k ≤ 40) :
    code2 r i (zipE (· + ·) x m) < code2 r k (zipE (· + ·) y m) ↔ code2 r i x < code2 r k y := by
  rw [← code2_first hym hxm hk hi, ← code2_first hy hx hk hi, firstT_add (by rw [hy.len, hx.len]) (by rw [hx.len, hm.len])]

theorem HV.sum {r : Rg} {k : Nat} {δ : Nat → Int} {τ : Int} {v w : Vc} (hc : Cx r k δ) (hv : HV r k δ τ v) (hw : HV r k δ τ w) : HV r k δ τ (vsumT r v w) := by
  have hp := hc.rg.1
  have hl : (vsumT r v w).length = v.length := vsumT_len' (by rw [hv.len, hw.len])
  have h1 := hv.len
  have h2 := hw.len
  have hget : ∀ (i : Nat) (hi : i < v.length), (vsumT r v w)[i]'(by omega) = sumT r.p r.order v[i] (w[i]'(by omega)) := fun i hi => by simp [vsumT]
  refine ⟨hv.t8, by rw [hl]; exact hv.len, fun i hi => ?_, fun i hi s hs => ?_⟩
  · rw [hget i (by omega)]
    exact sumT_ok (by omega) _ _ (hv.all i (by omega)) (hw.all i (by omega))
  · rw [hget i (by omega)] at hs
    rcases sumT_mem _ _ s hs with ⟨t, ht, he⟩ | ⟨t, ht, he⟩
    · rw [← he]; exact hv.hom i (by omega) t ht
    · rw [← he]; exact hw.hom i (by omega) t ht

theorem HV.ev_sum {r : Rg} {k : Nat} {δ : Nat → Int} {τ : Int} {v w : Vc} (hc : Cx r k δ) (hv : HV r k δ τ v) (hw : HV r k δ τ w) : CongF r.p (ev (vsumT r v w)) fun ψ => ev v ψ + ev w ψ :=
  Go.Proofs.YtfjmdhemlfafbaaGreat.ev_sum (by have := hc.rg.1; omega) (by rw [hv.len, hw.len]) hv.pb hw.pb

structure TM (r : Rg) (t : Tm) : Prop where
  lo : 0 ≤ t.c
  hi : t.c < r.p
  mn : Mn r.n.toNat t.e

theorem HV.by {r : Rg} {k : Nat} {δ : Nat → Int} {τ : Int} {v : Vc} {t : Tm} (hc : Cx r k δ) (hv : HV r k δ τ v) (ht : TM r t) (h8 : τ + t.e.sum ≤ 8000) : HV r k δ (τ + t.e.sum) (vbyT r v t) := by
  obtain ⟨hp2, hn3, hn1, hpr, hp⟩ := hc.rg
  have hs0 := ht.mn.sum0
  have hl : (vbyT r v t).length = v.length := by simp [vbyT]
  have hget : ∀ (i : Nat) (hi : i < v.length), (vbyT r v t)[i]'(by omega) = byT r.p v[i] t := fun i hi => by simp [vbyT]
  have hh : ∀ (i : Nat) (hi : i < v.length), ∀ s ∈ byT r.p v[i] t, s.e.sum + δ i = τ + t.e.sum := fun i hi s hs => by
    obtain ⟨x, hx, he⟩ := byT_mem s hs
    have h1 := hv.hom i hi x hx
    have h2 := ((hv.all i hi).all x hx).len
    rw [he, zipE_sum (by rw [h2, ht.mn.len])]
    omega
  refine ⟨h8, by rw [hl]; exact hv.len, fun i hi => ?_, fun i hi s hs => ?_⟩
  · rw [hget i (by omega)]
    have htb : TB 0 r.p r.n.toNat (max 0 t.e.sum) t := ⟨ht.lo, ht.hi, ht.mn.len, fun x hx => ⟨ht.mn.pos x hx, by have := mem_le_sum ht.mn.pos x hx; omega⟩⟩
    have h1 := byT_ok (o := r.order) (by omega) hpr (hv.all i (by omega)) htb
    exact h1.tight fun s hs => by have := hh i (by omega) s hs; have := hc.pos i; omega
  · rw [hget i (by omega)] at hs
    exact hh i (by omega) s hs

theorem tm_one {r : Rg} {k : Nat} {δ : Nat → Int} (hc : Cx r k δ) {m : List Int} (hm : Mn r.n.toNat m) : TM r ⟨1, m⟩ := ⟨by show (0 : Int) ≤ 1; omega, by have := hc.rg.1; show (1 : Int) < r.p; omega, hm⟩

theorem HV.by_top {r : Rg} {k : Nat} {δ : Nat → Int} {τ : Int} {v : Vc} {t : Tm} (hc : Cx r k δ) (hv : HV r k δ τ v) (ht : TM r t) (hc0 : t.c ≠ 0) (h8 : τ + t.e.sum ≤ 8000) {a : Nat} {u : Tm} (hu : topV r v = some (a, u)) :
    topV r (vbyT r v t) = some (a, ⟨u.c * t.c % r.p, zipE (· + ·) u.e t.e⟩) := by
  have hvm := hv.vm hc
  have hbm := (hv.by hc ht h8).vm hc
  have iv := topV_isM hvm hu
  obtain ⟨f, hf⟩ := iv.at_
  have ha := iv.lt
  have hk := hc.k40
  have hlv := hv.len
  have hl : (vbyT r v t).length = v.length := by simp [vbyT]
  have hget : ∀ (i : Nat) (hi : i < v.length), (vbyT r v t)[i]'(by omega) = byT r.p v[i] t := fun i hi => by simp [vbyT]
  have hba : (vbyT r v t)[a]'(by omega) = ⟨u.c * t.c % r.p, zipE (· + ·) u.e t.e⟩ :: byT r.p f t := by
    rw [hget a ha, hf]
    unfold byT
    rw [if_neg hc0, if_neg hc0, List.map_cons]
  have hum : ME r.n.toNat (zipE (· + ·) u.e t.e) := hbm.me (i := a) (by omega) ⟨u.c * t.c % r.p, zipE (· + ·) u.e t.e⟩ (by rw [hba]; simp)
  cases hx : topV r (vbyT r v t) with
  | none =>
    have := topV_noneM hbm hx a (by omega)
    rw [hba] at this
    cases this
  | some x =>
    obtain ⟨b, w⟩ := x
    have ib := topV_isM hbm hx
    have hb := ib.lt
    obtain ⟨g, hg⟩ := ib.at_
    have hwm : w ∈ (vbyT r v t)[b]'hb := by rw [hg]; simp
    rw [hget b (by omega)] at hwm
    obtain ⟨y, hy, hye⟩ := byT_mem w hwm
    have h1 := ib.max a (by omega) ⟨u.c * t.c % r.p, zipE (· + ·) u.e t.e⟩ (by rw [hba]; simp)
    have h2 := iv.max b (by omega) y hy
    have hym := hvm.me (i := b) (by omega) y hy
    have hwe : ME r.n.toNat (zipE (· + ·) y.e t.e) := by rw [← hye]; exact ib.me
    have h3 := code2_add (r := r) (i := b) (k := a) hym iv.me ht.mn hwe hum (by omega) (by omega)
    rw [hye] at h1
    have h4 : code2 r b y.e = code2 r a u.e := by
      dsimp only at h1
      omega
    obtain ⟨rfl, h5⟩ := code2_inj hym iv.me (by omega) (by omega) h4
    rw [hba] at hg
    have := (List.cons.inj hg).1
    rw [← this]

theorem ev_one {r : Rg} (v : Vc) (m : List Int) : CongF r.p (ev (vbyT r v ⟨1, m⟩)) (mulF m (ev v)) := fun ψ => by
  have := ev_by (r := r) v ⟨1, m⟩ ψ
  dsimp only at this
  rwa [Int.one_mul] at this

def colN (r : Rg) (j : Nat) (e : List Int) : Nat := 30000000000000 - (code2 r j e).toNat

def colF (r : Rg) (c : Nat) : Ps := fun j e => if colN r j e = c then 1 else 0

theorem code2_big {r : Rg} {n j : Nat} {e : List Int} (h : ME n e) (hj : j ≤ 40) : code2 r j e < 30000000000000 := by
  have := codeM_range (o := r.order) h
  unfold code2
  split <;> omega

theorem colN_lt {r : Rg} {n i j : Nat} {a b : List Int} (ha : ME n a) (hb : ME n b) (hi : i ≤ 40) (hj : j ≤ 40) : colN r i a < colN r j b ↔ code2 r j b < code2 r i a := by
  have h1 := code2_big (r := r) ha hi
  have h2 := code2_big (r := r) hb hj
  have h3 := code2_range (r := r) ha hi
  have h4 := code2_range (r := r) hb hj
  unfold colN
  omega

theorem colN_eq {r : Rg} {n i j : Nat} {a b : List Int} (ha : ME n a) (hb : ME n b) (hi : i ≤ 40) (hj : j ≤ 40) (h : colN r i a = colN r j b) : i = j ∧ a = b := by
  have h1 := colN_lt (r := r) ha hb hi hj
  have h2 := colN_lt (r := r) hb ha hj hi
  exact code2_inj (r := r) ha hb hi hj (by omega)

def fv (r : Rg) (v : Vc) : Fv := fun c => ev v (colF r c)

theorem fv_led {r : Rg} {v : Vc} (hp : 1 < r.p) (hv : VM r r.n.toNat v) {a : Nat} {u : Tm} (hu : topV r v = some (a, u)) : Led r.p (fv r v) (colN r a u.e) := by
  have iv := topV_isM hv hu
  obtain ⟨f, hf⟩ := iv.at_
  have ha := iv.lt
  have hl := hv.len
  have hpb := hv.all a ha
  rw [hf] at hpb
  refine ⟨fun hd => ?_, fun c hcc => ?_⟩
  · have h1 : fv r v (colN r a u.e) = u.c * 1 + LvGo (colF r (colN r a u.e)) 0 (v.set a f) := by
      show LvGo (colF r (colN r a u.e)) 0 v = _
      rw [LvGo_set ha hf]
      congr 2
      unfold colF
      rw [if_pos (by rw [Nat.zero_add])]
    have h2 : LvGo (colF r (colN r a u.e)) 0 (v.set a f) = 0 := LvGo_zero fun i hi t ht => by
      unfold colF
      rw [if_neg]
      rw [Nat.zero_add]
      intro he
      have hi2 : i < v.length := by simpa using hi
      rw [List.getElem_set] at ht
      split at ht
      · rename_i hia
        subst hia
        have htm : t ∈ v[a] := by rw [hf]; simp [ht]
        have := (colN_eq (hv.me ha t htm) iv.me (by omega) (by omega) he).2
        have hb := hpb.below t ht
        rw [this, cmpM_self] at hb
        omega
      · rename_i hia
        exact hia (colN_eq (hv.me hi2 t ht) iv.me (by omega) (by omega) he).1.symm
    rw [h1, h2, Int.mul_one, Int.add_zero] at hd
    have := dvd_small hd (by have := hpb.head.lo; omega) hpb.head.hi
    have := hpb.head.lo
    omega
  · refine dz (LvGo_zero fun i hi t ht => ?_)
    unfold colF
    rw [if_neg]
    rw [Nat.zero_add]
    intro he
    have h1 := iv.max i hi t ht
    have h2 := (colN_lt (r := r) (i := i) (j := a) (hv.me hi t ht) iv.me (by omega) (by omega)).1 (by omega)
    omega

theorem ev_nil {v : Vc} (h : ∀ (i : Nat) (hi : i < v.length), v[i] = []) (ψ : Ps) : ev v ψ = 0 := LvGo_zero fun i hi t ht => by rw [h i hi] at ht; cases ht

def keyOf (x : Option (Nat × Tm)) : Option (Nat × List Int) := x.map fun y => (y.1, y.2.e)

theorem keyOf_some {x : Option (Nat × Tm)} {a : Nat} {e : List Int} (h : keyOf x = some (a, e)) : ∃ u, x = some (a, u) ∧ u.e = e := by
  cases x with
  | none => cases h
  | some y =>
    obtain ⟨b, w⟩ := y
    simp only [keyOf, Option.map_some, Option.some.injEq, Prod.mk.injEq] at h
    obtain ⟨rfl, rfl⟩ := h
    exact ⟨w, rfl, rfl⟩

structure Els (r : Rg) (k : Nat) (δ : Nat → Int) (τ : Int) (E : List Vc) : Prop where
  hv : ∀ e ∈ E, HV r k δ τ e
  top : ∀ e ∈ E, topV r e ≠ none
  nodup : (E.map fun e => keyOf (topV r e)).Nodup

theorem Els.lead {r : Rg} {k : Nat} {δ : Nat → Int} {τ : Int} {E : List Vc} (hc : Cx r k δ) (hE : Els r k δ τ E) {v : Vc} (hv : HV r k δ τ v) (hs : Sp r.p (fun X => ∃ e ∈ E, X = ev e) (ev v)) : topV r v = none ∨ ∃ e ∈ E, keyOf (topV r v) = keyOf (topV r e) := by
  obtain ⟨hp2, hn3, hn1, hpr, hp⟩ := hc.rg
  have hk := hc.k40
  cases hx : topV r v with
  | none => exact .inl rfl
  | some x =>
    obtain ⟨a, u⟩ := x
    right
    have hat : ∀ e ∈ E, ∃ b w, topV r e = some (b, w) := fun e he => by
      cases hy : topV r e with
      | none => exact absurd hy (hE.top e he)
      | some y => exact ⟨y.1, y.2, rfl⟩
    let F : List (Fv × Nat) := E.map fun e => (fv r e, colN r (atOf (topV r e)).toNat (tmOf (topV r e)).e)
    have hlf : ∀ e ∈ E, Led r.p (fv r e) (colN r (atOf (topV r e)).toNat (tmOf (topV r e)).e) := fun e he => by
      obtain ⟨b, w, hw⟩ := hat e he
      have := fv_led (by omega) ((hE.hv e he).vm hc) hw
      rw [hw]
      exact this
    have hech : Ech r.p F := by
      refine ⟨fun y hy => ?_, ?_⟩
      · obtain ⟨e, he, rfl⟩ := List.mem_map.1 hy
        exact hlf e he
      · have h1 := hE.nodup
        unfold List.Nodup at h1 ⊢
        rw [List.map_map, List.pairwise_map]
        rw [List.pairwise_map] at h1
        refine List.Pairwise.imp_of_mem (fun {e e'} he he' hne heq => hne ?_) h1
        obtain ⟨b, w, hw⟩ := hat e he
        obtain ⟨b', w', hw'⟩ := hat e' he'
        have t1 := (hE.hv e he).top hc hw
        have t2 := (hE.hv e' he').top hc hw'
        have heq' : colN r (atOf (topV r e)).toNat (tmOf (topV r e)).e = colN r (atOf (topV r e')).toNat (tmOf (topV r e')).e := heq
        rw [hw, hw'] at heq'
        obtain ⟨h3, h4⟩ := colN_eq t1.2.2.1 t2.2.2.1 (show (atOf (some (b, w))).toNat ≤ 40 by show (b : Int).toNat ≤ 40; omega) (show (atOf (some (b', w'))).toNat ≤ 40 by show (b' : Int).toNat ≤ 40; omega) heq'
        have h3' : b = b' := by
          have : (b : Int).toNat = (b' : Int).toNat := h3
          omega
        have h4' : w.e = w'.e := h4
        rw [hw, hw']
        simp only [keyOf, Option.map_some]
        rw [h3', h4']
    have hsp : Spn r.p (F.map (·.1)) (fv r v) := hs.spn (fun c => colF r c) _ fun X ⟨e, he, hX⟩ => by
      subst hX
      exact Spn.mem (by
        rw [List.map_map]
        exact List.mem_map.2 ⟨e, he, rfl⟩)
    have hled := fv_led (by omega) (hv.vm hc) hx
    rcases hech.spn hpr hsp with h | ⟨m, hm, hl⟩
    · exact absurd (h _) hled.1
    · rw [List.map_map] at hm
      obtain ⟨e, he, rfl⟩ := List.mem_map.1 hm
      refine ⟨e, he, ?_⟩
      obtain ⟨b, w, hw⟩ := hat e he
      have t1 := (hE.hv e he).top hc hw
      have t2 := hv.top hc hx
      have h9 := hled.uniq hl
      have h9' : colN r a u.e = colN r (atOf (topV r e)).toNat (tmOf (topV r e)).e := h9
      rw [hw] at h9'
      obtain ⟨h3, h4⟩ := colN_eq t2.2.2.1 t1.2.2.1 (by omega) (show (atOf (some (b, w))).toNat ≤ 40 by show (b : Int).toNat ≤ 40; omega) h9'
      have h3' : a = b := by
        have : a = (b : Int).toNat := h3
        omega
      have h4' : u.e = w.e := h4
      rw [hw]
      simp only [keyOf, Option.map_some]
      rw [h3', h4']

end Go.Proofs.YtfjmdhemlfafbaaGreat

namespace Go.Proofs.YtfjmdhemlfafbaaGreat
open Go.RowKit

def divRun (r : Rg) (l : List Vc) : Nat → DS → DS
  | 0, s => s
  | n + 1, s => match stepT r l s with
    | none => s
    | some s' => divRun r l n s'

def divInit (rank : Nat) (l : List Vc) (v : Vc) : DS := ⟨v, List.replicate l.length [], List.replicate rank []⟩

def divT (r : Rg) (rank : Nat) (l : List Vc) (v : Vc) : DS := divRun r l (muT r v) (divInit rank l v)

structure DAt (r : Rg) (rank : Nat) (l : List Vc) (v : Vc) (s : DS) : Prop where
  inv : DInv r rank l s
  run : ∃ n, muT r s.v ≤ n ∧ divRun r l n s = divT r rank l v

structure VIn (r : Rg) (rank : Nat) (v : Vc) : Prop where
  vd : VD r r.n.toNat v
  len : v.length = rank

theorem VOk.vin {r : Rg} {rank : Nat} {l : List Vc} {v : Vc} (h : VOk r rank v) (hl : DL r rank l) : VIn r rank v := ⟨h.vd hl.rg.2.1 hl.rank2, h.len⟩

theorem divInit_ok {r : Rg} {rank : Nat} {l : List Vc} {v : Vc} (hl : DL r rank l) (hv : VIn r rank v) : DInv r rank l (divInit rank l v) := by
  obtain ⟨hp, hn3, hn1, hpr, hck⟩ := hl.rg
  have hrk := hl.rank2
  refine ⟨hv.vd, hv.len, by simp [divInit], fun f hf => ?_, by simp [divInit], fun j hj => ?_, fun j hj t ht => ?_, fun j hj t ht => ?_⟩
  · rw [List.eq_of_mem_replicate hf]; exact ⟨PB.nil _ _ _ _ _, fun t h => by cases h⟩
  · rw [show (divInit rank l v).left[j] = [] by simp [divInit]]
    exact ⟨PB.nil _ _ _ _ _, fun t h => by cases h⟩
  · rw [show (divInit rank l v).left[j] = [] by simp [divInit]] at ht; cases ht
  · rw [show (divInit rank l v).left[j] = [] by simp [divInit]] at ht; cases ht

theorem DAt.init {r : Rg} {rank : Nat} {l : List Vc} {v : Vc} (hl : DL r rank l) (hv : VIn r rank v) : DAt r rank l v (divInit rank l v) := ⟨divInit_ok hl hv, _, Nat.le_refl _, rfl⟩

theorem DAt.step {r : Rg} {rank : Nat} {l : List Vc} {v : Vc} {s s' : DS} (h : DAt r rank l v s) (hs : stepT r l s = some s') (hi : DInv r rank l s') (hm : muT r s'.v < muT r s.v) : DAt r rank l v s' := by
  obtain ⟨n, hn, hr⟩ := h.run
  cases n with
  | zero => omega
  | succ n =>
    refine ⟨hi, n, by omega, ?_⟩
    rw [← hr]
    show _ = match stepT r l s with | none => s | some s' => divRun r l n s'
    rw [hs]

theorem DAt.stepA {r : Rg} {rank : Nat} {l : List Vc} {v : Vc} {s : DS} (hl : DL r rank l) (h : DAt r rank l v s) {a : Nat} {u : Tm} (ht : topV r s.v = some (a, u)) (hg : goesT r l a u.e = none) : DAt r rank l v (stepA s a u) ∧ muT r (Proofs.YtfjmdhemlfafbaaGreat.stepA s a u).v < muT r s.v := by
  obtain ⟨h1, h2⟩ := stepA_ok hl h.inv ht hg
  exact ⟨h.step (by unfold stepT; rw [ht]; dsimp only; rw [hg]) h1 h2, h2⟩

theorem DAt.stepB {r : Rg} {rank : Nat} {l : List Vc} {v : Vc} {s : DS} (hl : DL r rank l) (h : DAt r rank l v s) {a i : Nat} {u : Tm} (ht : topV r s.v = some (a, u)) (hg : goesT r l a u.e = some i) : DAt r rank l v (stepB r l s u i) ∧ muT r (Proofs.YtfjmdhemlfafbaaGreat.stepB r l s u i).v < muT r s.v := by
  obtain ⟨h1, h2, _⟩ := stepB_ok hl h.inv ht hg
  exact ⟨h.step (by unfold stepT; rw [ht]; dsimp only; rw [hg]) h1 h2, h2⟩

theorem DAt.done {r : Rg} {rank : Nat} {l : List Vc} {v : Vc} {s : DS} (h : DAt r rank l v s) (ht : topV r s.v = none) : divT r rank l v = s := by
  obtain ⟨n, hn, hr⟩ := h.run
  rw [← hr]
  cases n with
  | zero => rfl
  | succ n =>
    show (match stepT r l s with | none => s | some s' => divRun r l n s') = s
    have : stepT r l s = none := by unfold stepT; rw [ht]
    rw [this]

def goIdx : Option Nat → Int
  | none => -1
  | some i => i

end Go.Proofs.YtfjmdhemlfafbaaGreat

namespace Go.Proofs.YtfjmdhemlfafbaaGreat
open Go.RowKit

def ngT (p : Int) (t : Tm) : Tm := ⟨p - t.c, t.e⟩
def ngP (p : Int) (f : Pl) : Pl := f.map (ngT p)
def ngV (p : Int) (v : Vc) : Vc := v.map (ngP p)

theorem TB.ng {p : Int} {n : Nat} {B : Int} {t : Tm} (h : TB 1 p n B t) : TB 1 p n B (ngT p t) := ⟨by have := h.hi; show 1 ≤ p - t.c; omega, by have := h.lo; show p - t.c < p; omega, h.len, h.mem⟩

theorem PB.ng {p o : Int} {n : Nat} {B : Int} {f : Pl} (h : PB 1 p o n B f) : PB 1 p o n B (ngP p f) := by
  refine ⟨fun t ht => ?_, ?_⟩
  · obtain ⟨u, hu, rfl⟩ := List.mem_map.1 ht
    exact (h.all u hu).ng
  · exact List.Pairwise.map _ (fun a b hab => hab) h.sorted

theorem Lf_ng (p : Int) (φ : List Int → Int) : ∀ f : Pl, p ∣ Lf φ (ngP p f) + Lf φ f
  | [] => ⟨0, by simp [Lf, ngP]⟩
  | t :: f => by
    obtain ⟨k, hk⟩ := Lf_ng p φ f
    refine ⟨k + φ t.e, ?_⟩
    show ((p - t.c) * φ t.e + Lf φ (ngP p f)) + (t.c * φ t.e + Lf φ f) = _
    grind

theorem sumT_ng {p o : Int} {n : Nat} {B : Int} (hp : 0 < p) {f g : Pl} (hf : PB 1 p o n B f) (hg : PB 1 p o n B g) : sumT p o (ngP p f) (ngP p g) = ngP p (sumT p o f g) := by
  refine PB.uniq hp (sumT_ok hp _ _ hf.ng hg.ng) (sumT_ok hp _ _ hf hg).ng fun φ => ?_
  have h1 := sumT_L hp φ _ _ hf.ng hg.ng
  have h2 := sumT_L hp φ _ _ hf hg
  have h3 := Lf_ng p φ f
  have h4 := Lf_ng p φ g
  have h5 := Lf_ng p φ (sumT p o f g)
  have := Int.dvd_sub (Int.dvd_add (Int.dvd_add (Int.dvd_add h1 h2) h3) h4) h5
  rwa [show ∀ a b c s f g x : Int, a - (b + c) + (s - (f + g)) + (b + f) + (c + g) - (x + s) = a - x by intros; omega] at this

theorem byT_ng {p o : Int} {n : Nat} {B C : Int} (hp : 1 < p) (hpr : Prm p) {f : Pl} (hf : PB 1 p o n B f) {t : Tm} (ht : TB 1 p n C t) : byT p f (ngT p t) = ngP p (byT p f t) := by
  have z1 : TB 0 p n C t := ht.mono (by omega) (Int.le_refl _)
  have z2 : TB 0 p n C (ngT p t) := ht.ng.mono (by omega) (Int.le_refl _)
  refine PB.uniq (by omega) (byT_ok hp hpr hf z2) (byT_ok hp hpr hf z1).ng fun φ => ?_
  obtain ⟨k1, h1⟩ := byT_L (p := p) φ (ngT p t) f
  obtain ⟨k2, h2⟩ := byT_L (p := p) φ t f
  obtain ⟨k3, h3⟩ := Lf_ng p φ (byT p f t)
  have e : (ngT p t).c * Lf (shift φ (ngT p t).e) f = (p - t.c) * Lf (shift φ t.e) f := rfl
  rw [e] at h1
  exact ⟨k1 + k2 - k3 + Lf (shift φ t.e) f, by grind⟩

theorem ngV_getD (p : Int) (v : Vc) (k : Nat) : (ngV p v).getD k [] = ngP p (v.getD k []) := by
  rw [List.getD_eq_getElem?_getD, List.getD_eq_getElem?_getD]
  unfold ngV
  rw [List.getElem?_map]
  cases v[k]? <;> rfl

def ngX (p : Int) (x : Option (Nat × Tm)) : Option (Nat × Tm) := x.map fun y => (y.1, ngT p y.2)

theorem topAt_ng (r : Rg) (v : Vc) : ∀ k, topAt r (ngV r.p v) k = ngX r.p (topAt r v k)
  | 0 => rfl
  | k + 1 => by
    show topStep r (topAt r (ngV r.p v) k) k ((ngV r.p v).getD k []) = ngX r.p (topStep r (topAt r v k) k (v.getD k []))
    rw [topAt_ng r v k, ngV_getD]
    cases v.getD k [] with
    | nil => rfl
    | cons t f =>
      show (match ngX r.p (topAt r v k) with | none => some (k, ngT r.p t) | some (a, u) => if firstT r k t.e a u.e = true then some (k, ngT r.p t) else some (a, u)) = ngX r.p (match topAt r v k with | none => some (k, t) | some (a, u) => if firstT r k t.e a u.e = true then some (k, t) else some (a, u))
      cases topAt r v k with
      | none => rfl
      | some x =>
        obtain ⟨a, u⟩ := x
        show (if firstT r k t.e a u.e = true then some (k, ngT r.p t) else some (a, ngT r.p u)) = ngX r.p (if firstT r k t.e a u.e = true then some (k, t) else some (a, u))
        split <;> rfl

theorem topV_ng (r : Rg) (v : Vc) : topV r (ngV r.p v) = ngX r.p (topV r v) := by
  unfold topV
  rw [show (ngV r.p v).length = v.length by simp [ngV]]
  exact topAt_ng r v _

theorem muT_ng (r : Rg) (v : Vc) : muT r (ngV r.p v) = muT r v := by
  unfold muT
  rw [topV_ng]
  cases topV r v <;> rfl

theorem vsumT_ng {r : Rg} {n : Nat} {B : Int} (hp : 0 < r.p) : ∀ {v w : Vc}, (∀ f ∈ v, PB 1 r.p r.order n B f) → (∀ f ∈ w, PB 1 r.p r.order n B f) → vsumT r (ngV r.p v) (ngV r.p w) = ngV r.p (vsumT r v w)
  | [], w, _, _ => by cases w <;> rfl
  | f :: v, [], _, _ => rfl
  | f :: v, g :: w, h1, h2 => by
    have ih := vsumT_ng hp (v := v) (w := w) (fun x hx => h1 x (by simp [hx])) (fun x hx => h2 x (by simp [hx]))
    show sumT r.p r.order (ngP r.p f) (ngP r.p g) :: vsumT r (ngV r.p v) (ngV r.p w) = ngP r.p (sumT r.p r.order f g) :: ngV r.p (vsumT r v w)
    rw [ih, sumT_ng hp (h1 f (by simp)) (h2 g (by simp))]

theorem vbyT_ng {r : Rg} {n : Nat} {B C : Int} (hp : 1 < r.p) (hpr : Prm r.p) {d : Vc} (hd : ∀ f ∈ d, PB 1 r.p r.order n B f) {t : Tm} (ht : TB 1 r.p n C t) : vbyT r d (ngT r.p t) = ngV r.p (vbyT r d t) := by
  unfold vbyT ngV
  rw [List.map_map]
  exact List.map_congr_left fun f hf => byT_ng hp hpr (hd f hf) ht

theorem byOf_ng {r : Rg} {u w : Tm} (hp : ckP r.p = 0) (hu : 1 ≤ u.c ∧ u.c < r.p) (hw : 1 ≤ w.c ∧ w.c < r.p) : byOf r (ngT r.p u) w = ngT r.p (byOf r u w) := by
  have hp2 := ckP_ok hp
  obtain ⟨i1, i2, _⟩ := inv_facts hp hu hw
  unfold byOf ngT
  congr 1
  show (r.p - u.c) * turnP r.p w.c % r.p = r.p - u.c * turnP r.p w.c % r.p
  have h1 := emod_dvd r.p ((r.p - u.c) * turnP r.p w.c)
  have h2 := emod_dvd r.p (u.c * turnP r.p w.c)
  refine small_eq (p := r.p) ?_ (Int.emod_nonneg _ (by omega)) (Int.emod_lt_of_pos _ (by omega)) (by omega) (by omega)
  obtain ⟨k1, h1⟩ := h1
  obtain ⟨k2, h2⟩ := h2
  exact ⟨k1 + k2 + turnP r.p w.c - 1, by grind⟩

theorem set_ng (p : Int) (v : Vc) (a : Nat) (f : Pl) : ngV p (v.set a f) = (ngV p v).set a (ngP p f) := by
  unfold ngV
  rw [List.map_set]

structure NgS (r : Rg) (s s' : DS) : Prop where
  v : s'.v = ngV r.p s.v
  left : s'.left = ngV r.p s.left

theorem stepA_ng {r : Rg} {s s' : DS} (h : NgS r s s') (a : Nat) (u : Tm) : NgS r (stepA s a u) (stepA s' a (ngT r.p u)) := by
  refine ⟨?_, ?_⟩
  · show s'.v.set a (s'.v.getD a []).tail = ngV r.p (s.v.set a (s.v.getD a []).tail)
    rw [h.v, ngV_getD, set_ng]
    congr 1
    cases s.v.getD a [] <;> rfl
  · show s'.left.set a (s'.left.getD a [] ++ [ngT r.p u]) = ngV r.p (s.left.set a (s.left.getD a [] ++ [u]))
    rw [h.left, ngV_getD, set_ng]
    congr 1
    simp [ngP]

theorem stepB_ng {r : Rg} {rank : Nat} {l : List Vc} {s s' : DS} (hl : DL r rank l) (hi : DInv r rank l s) (h : NgS r s s') {a i : Nat} {u : Tm} (ht : topV r s.v = some (a, u)) (hg : goesT r l a u.e = some i) : NgS r (stepB r l s u i) (stepB r l s' (ngT r.p u) i) := by
  obtain ⟨hp, hn3, hn1, hpr, hck⟩ := hl.rg
  have hrk := hl.rank2
  refine ⟨?_, h.left⟩
  obtain ⟨hil, w, htw, hgo⟩ := goesT_some hg
  have hvd := hi.vd
  have hdd := (hl.vecs _ (List.getElem_mem hil)).vd hn3 hrk
  have iv := topV_is hvd ht
  have iw := topV_is hdd htw
  obtain ⟨f, hf⟩ := iv.at_
  obtain ⟨g, hgd⟩ := iw.at_
  have hua := hvd.all a iv.lt
  have hwa := hdd.all a iw.lt
  rw [hf] at hua
  rw [hgd] at hwa
  obtain ⟨b1, b2, b3, b4, b5⟩ := byOf_ok hck hua.head iv.me hwa.head iw.me hgo
  have hgetl : l.getD i [] = l[i] := by rw [List.getD_eq_getElem?_getD, List.getElem?_eq_getElem hil]; rfl
  have hby : ∀ x, byAt r l x i = byOf r x w := fun x => by unfold byAt; rw [hgetl, htw]; rfl
  show vsumT r s'.v (vbyT r (l.getD i []) (negT r (byAt r l (ngT r.p u) i))) = ngV r.p (vsumT r s.v (vbyT r (l.getD i []) (negT r (byAt r l u i))))
  rw [hby, hby, byOf_ng hck ⟨hua.head.lo, hua.head.hi⟩ ⟨hwa.head.lo, hwa.head.hi⟩, h.v, hgetl]
  have hneg := negT_ok b1
  rw [show negT r (ngT r.p (byOf r u w)) = ngT r.p (negT r (byOf r u w)) from rfl, vbyT_ng (by omega) hpr (fun x hx => (hdd.vb x hx).1) hneg]
  refine vsumT_ng (n := r.n.toNat) (B := 16000) (by omega) (fun x hx => (hvd.vb x hx).1.mono (by omega) (by omega)) fun x hx => ?_
  unfold vbyT at hx
  obtain ⟨y, hy, rfl⟩ := List.mem_map.1 hx
  exact (byT_ok (by omega) hpr (hdd.vb y hy).1 hneg.zero).mono (by omega) (by omega)

theorem divRun_ng {r : Rg} {rank : Nat} {l : List Vc} (hl : DL r rank l) : ∀ (n : Nat) {s s' : DS}, DInv r rank l s → NgS r s s' → NgS r (divRun r l n s) (divRun r l n s')
  | 0, s, s', _, h => h
  | n + 1, s, s', hi, h => by
    show NgS r (match stepT r l s with | none => s | some x => divRun r l n x) (match stepT r l s' with | none => s' | some x => divRun r l n x)
    cases hx : topV r s.v with
    | none =>
      have e1 : stepT r l s = none := by unfold stepT; rw [hx]
      have e2 : stepT r l s' = none := by unfold stepT; rw [h.v, topV_ng, hx]; rfl
      rw [e1, e2]
      exact h
    | some y =>
      obtain ⟨a, u⟩ := y
      have hx' : topV r s'.v = some (a, ngT r.p u) := by rw [h.v, topV_ng, hx]; rfl
      cases hg : goesT r l a u.e with
      | none =>
        have e1 : stepT r l s = some (stepA s a u) := by unfold stepT; rw [hx]; dsimp only; rw [hg]
        have e2 : stepT r l s' = some (stepA s' a (ngT r.p u)) := by
          unfold stepT; rw [hx']; dsimp only
          rw [show (ngT r.p u).e = u.e from rfl, hg]
        rw [e1, e2]
        exact divRun_ng hl n (stepA_ok hl hi hx hg).1 (stepA_ng h a u)
      | some i =>
        have e1 : stepT r l s = some (stepB r l s u i) := by unfold stepT; rw [hx]; dsimp only; rw [hg]
        have e2 : stepT r l s' = some (stepB r l s' (ngT r.p u) i) := by
          unfold stepT; rw [hx']; dsimp only
          rw [show (ngT r.p u).e = u.e from rfl, hg]
        rw [e1, e2]
        exact divRun_ng hl n (stepB_ok hl hi hx hg).1 (stepB_ng hl hi h hx hg)

theorem divT_ng {r : Rg} {rank : Nat} {l : List Vc} {v : Vc} (hl : DL r rank l) (hv : VIn r rank v) : (divT r rank l (ngV r.p v)).left = ngV r.p (divT r rank l v).left := by
  unfold divT
  rw [muT_ng]
  refine (divRun_ng hl _ (divInit_ok hl hv) ⟨rfl, ?_⟩).left
  show List.replicate rank [] = ngV r.p (List.replicate rank [])
  unfold ngV
  rw [List.map_replicate]
  rfl

end Go.Proofs.YtfjmdhemlfafbaaGreat

namespace Go.Proofs.YtfjmdhemlfafbaaGreat
open Go.RowKit

def emptyT (v : Vc) : Bool := v.all List.isEmpty

def upT (r : Rg) (w : Tm) (e : List Int) : Tm := ⟨turnP r.p w.c, zipE (· - ·) e w.e⟩

def lessT (r : Rg) (v w : Vc) (a b : Tm) : Vc := vsumT r (vbyT r v a) (vbyT r w (negT r b))

theorem empty_ng (p : Int) (v : Vc) : emptyT (ngV p v) = emptyT v := by
  unfold emptyT ngV
  rw [List.all_map]
  congr 1
  funext f
  cases f <;> rfl

def pairV (r : Rg) (x y : Vc) : Vc := lessT r x y (upT r (tmOf (topV r x)) (zipE max (tmOf (topV r x)).e (tmOf (topV r y)).e)) (upT r (tmOf (topV r y)) (zipE max (tmOf (topV r x)).e (tmOf (topV r y)).e))

structure D40 (r : Rg) (rank : Nat) (l : List Vc) : Prop where
  dl : DL r rank l
  deg : ∀ v ∈ l, ∀ f ∈ v, DB 40 f

theorem max_sum : ∀ {a b : List Int}, a.length = b.length → (∀ x ∈ a, 0 ≤ x) → (∀ x ∈ b, 0 ≤ x) → a.sum ≤ (zipE max a b).sum ∧ b.sum ≤ (zipE max a b).sum ∧ (zipE max a b).sum ≤ a.sum + b.sum ∧ ∀ x ∈ zipE max a b, 0 ≤ x
  | [], [], _, _, _ => ⟨Int.le_refl _, Int.le_refl _, Int.le_refl _, fun x h => by cases h⟩
  | x :: a, y :: b, h, h1, h2 => by
    obtain ⟨i1, i2, i3, i4⟩ := max_sum (a := a) (b := b) (by simpa using h) (fun z hz => h1 z (by simp [hz])) (fun z hz => h2 z (by simp [hz]))
    have hx := h1 x (by simp)
    have hy := h2 y (by simp)
    have e : zipE max (x :: a) (y :: b) = max x y :: zipE max a b := rfl
    rw [e, List.sum_cons, List.sum_cons, List.sum_cons]
    refine ⟨by omega, by omega, by omega, fun z hz => ?_⟩
    rcases List.mem_cons.1 hz with rfl | hz
    · omega
    · exact i4 z hz

theorem max_sub : ∀ {a b w : List Int}, a.length = b.length → (w = a ∨ w = b) → (∀ x ∈ zipE (· - ·) (zipE max a b) w, 0 ≤ x) ∧ (zipE (· - ·) (zipE max a b) w).length = a.length ∧ (zipE (· - ·) (zipE max a b) w).sum = (zipE max a b).sum - w.sum := by
  intro a
  induction a with
  | nil =>
    intro b w h hw
    have hb : b = [] := List.length_eq_zero_iff.1 (by simpa using h.symm)
    subst hb
    rcases hw with rfl | rfl <;> exact ⟨(fun x h => by cases h), rfl, rfl⟩
  | cons x a ih =>
    intro b w h hw
    match b, h with
    | y :: b, h =>
      have hl : a.length = b.length := by simpa using h
      rcases hw with rfl | rfl
      · obtain ⟨i1, i2, i3⟩ := ih hl (.inl rfl)
        have e : zipE (· - ·) (zipE max (x :: a) (y :: b)) (x :: a) = (max x y - x) :: zipE (· - ·) (zipE max a b) a := rfl
        have e2 : zipE max (x :: a) (y :: b) = max x y :: zipE max a b := rfl
        rw [e, e2]
        refine ⟨fun z hz => ?_, by simpa using i2, by rw [List.sum_cons, List.sum_cons, List.sum_cons, i3]; omega⟩
        rcases List.mem_cons.1 hz with rfl | hz
        · omega
        · exact i1 z hz
      · obtain ⟨i1, i2, i3⟩ := ih hl (.inr rfl)
        have e : zipE (· - ·) (zipE max (x :: a) (y :: b)) (y :: b) = (max x y - y) :: zipE (· - ·) (zipE max a b) b := rfl
        have e2 : zipE max (x :: a) (y :: b) = max x y :: zipE max a b := rfl
        rw [e, e2]
        refine ⟨fun z hz => ?_, by simpa using i2, by rw [List.sum_cons, List.sum_cons, List.sum_cons, i3]; omega⟩
        rcases List.mem_cons.1 hz with rfl | hz
        · omega
        · exact i1 z hz

theorem turn_lo {p c : Int} (hp : ckP p = 0) (h0 : 1 ≤ c) (h1 : c < p) : 1 ≤ turnP p c ∧ turnP p c < p := by
  have hp2 := ckP_ok hp
  obtain ⟨h2, h3⟩ := turnP_in (p := p) (by omega) c
  refine ⟨?_, h3⟩
  have := turnP_inv' hp c (by omega) h1
  by_cases hz : turnP p c = 0
  · rw [hz, Int.mul_zero] at this
    have : (0 : Int) % p = 0 := Int.zero_emod p
    omega
  · omega

structure LeadIs (r : Rg) (v : Vc) (a : Nat) (u : Tm) : Prop where
  at_ : topV r v = some (a, u)
  tb : TB 1 r.p r.n.toNat 200 u
  deg : u.e.sum ≤ 40

theorem D40.lead {r : Rg} {rank : Nat} {l : List Vc} (h : D40 r rank l) {v : Vc} (hv : v ∈ l) (ht : 0 ≤ atOf (topV r v)) : ∃ a u, LeadIs r v a u := by
  cases hx : topV r v with
  | none => rw [hx] at ht; exact absurd ht (by decide)
  | some x =>
    obtain ⟨a, u⟩ := x
    have hvd := (h.dl.vecs v hv).vd h.dl.rg.2.1 h.dl.rank2
    have iv := topV_is hvd hx
    obtain ⟨f, hf⟩ := iv.at_
    have hm : v[a]'iv.lt ∈ v := List.getElem_mem _
    have hp := ((h.dl.vecs v hv).all _ hm).ok
    have hd := h.deg v hv _ hm
    rw [hf] at hp hd
    exact ⟨a, u, hx, hp.head, hd u (by simp)⟩

structure UpOk (r : Rg) (a b : Tm) (w : Tm) : Prop where
  tb : TB 1 r.p r.n.toNat 200 (upT r w (zipE max a.e b.e))
  deg : (upT r w (zipE max a.e b.e)).e.sum ≤ 80
  len : (upT r w (zipE max a.e b.e)).e.length = r.n.toNat

theorem up_ok {r : Rg} {a b w : Tm} (hp : ckP r.p = 0) (ha : TB 1 r.p r.n.toNat 200 a) (hb : TB 1 r.p r.n.toNat 200 b) (hda : a.e.sum ≤ 40) (hdb : b.e.sum ≤ 40) (hw : w = a ∨ w = b) : UpOk r a b w := by
  have hl : a.e.length = b.e.length := by rw [ha.len, hb.len]
  obtain ⟨s1, s2, s3, s4⟩ := max_sum hl (fun x hx => (ha.mem x hx).1) (fun x hx => (hb.mem x hx).1)
  obtain ⟨m1, m2, m3⟩ := max_sub (w := w.e) hl (by rcases hw with rfl | rfl; exact .inl rfl; exact .inr rfl)
  have hwt : TB 1 r.p r.n.toNat 200 w := by rcases hw with rfl | rfl <;> assumption
  obtain ⟨t1, t2⟩ := turn_lo hp hwt.lo hwt.hi
  have hw0 : 0 ≤ w.e.sum := sum_nonneg fun x hx => (hwt.mem x hx).1
  have hsum : (upT r w (zipE max a.e b.e)).e.sum ≤ 80 := by show (zipE (· - ·) (zipE max a.e b.e) w.e).sum ≤ 80; rw [m3]; omega
  have hlen : (upT r w (zipE max a.e b.e)).e.length = r.n.toNat := by show (zipE (· - ·) (zipE max a.e b.e) w.e).length = _; rw [m2, ha.len]
  exact ⟨⟨t1, t2, hlen, fun x hx => ⟨m1 x hx, by have := mem_le_sum m1 x hx; have : (zipE (· - ·) (zipE max a.e b.e) w.e).sum ≤ 80 := hsum; omega⟩⟩, hsum, hlen⟩

end Go.Proofs.YtfjmdhemlfafbaaGreat
