/-
  Package divide: goes, IsNormal, Normal; the document's Divisor, NormalOf. No condition.
-/
import Derived.Test.YtcdihmhmoddppaaGreatKRc24
import Derived.Test.YtcdihmhmoddppaaGreatKRc10

namespace Go.Proofs.YtcdihmhmoddppaaGreat
open Go.RowKit
set_option linter.unusedVariables false

theorem goesT_some {r : Rg} {l : List Vc} {a i : Nat} {m : List Int} (h : goesT r l a m = some i) : ∃ (hi : i < l.length) (w : Tm), topV r l[i] = some (a, w) ∧ goesM m w.e = true := by
  unfold goesT at h
  obtain ⟨hi, h1, _⟩ := List.findIdx?_eq_some_iff_getElem.1 h
  refine ⟨hi, ?_⟩
  unfold goesIn at h1
  cases hx : topV r l[i] with
  | none => rw [hx] at h1; cases h1
  | some x =>
    obtain ⟨b, w⟩ := x
    rw [hx] at h1
    simp only [Bool.and_eq_true, beq_iff_eq] at h1
    exact ⟨w, by rw [h1.1], h1.2⟩

theorem zipE_same_len {g : Int → Int → Int} {a b : List Int} {n : Nat} (h1 : a.length = n) (h2 : b.length = n) : (zipE g a b).length = n := by rw [zipE_len (by omega)]; exact h1

/-- What the quotient's term is. -/
theorem byOf_ok {r : Rg} {n : Nat} {u w : Tm} (hp : ckP r.p = 0) (hu : TB 1 r.p n 8000 u) (hue : ME n u.e) (hw : TB 1 r.p n 8000 w) (hwe : ME n w.e) (hg : goesM u.e w.e = true) :
    TB 1 r.p n 8000 (byOf r u w) ∧ ME n (byOf r u w).e ∧ zipE (· + ·) w.e (byOf r u w).e = u.e ∧ (byOf r u w).e.sum = u.e.sum - w.e.sum ∧ r.p ∣ w.c * (byOf r u w).c - u.c := by
  have hl : u.e.length = w.e.length := by rw [hue.len, hwe.len]
  obtain ⟨g1, g2, g3⟩ := goesM_sub hl hg
  obtain ⟨i1, i2, i3⟩ := inv_facts hp ⟨hu.lo, hu.hi⟩ ⟨hw.lo, hw.hi⟩
  have hsum : 0 ≤ w.e.sum := by
    cases hc : w.e with
    | nil => exact Int.le_refl _
    | cons x e =>
      have := mem_le_sum hwe.pos x (by rw [hc]; simp)
      have := hwe.pos x (by rw [hc]; simp)
      rw [hc] at *
      omega
  have hme : ME n (byOf r u w).e := ⟨zipE_same_len hue.len hwe.len, hue.n3, g2, by
    show (zipE (· - ·) u.e w.e).sum ≤ 8000
    have := hue.deg
    omega⟩
  exact ⟨⟨i1, i2, hme.len, fun x hx => ⟨hme.pos x hx, by have := mem_le_sum hme.pos x hx; have := hme.deg; omega⟩⟩, hme, g1, g3, i3⟩

theorem negT_ok {r : Rg} {n : Nat} {t : Tm} (h : TB 1 r.p n 8000 t) : TB 1 r.p n 8000 (negT r t) := ⟨by have := h.hi; show 1 ≤ r.p - t.c; omega, by have := h.lo; show r.p - t.c < r.p; omega, h.len, h.mem⟩

theorem TB.zero {p : Int} {n : Nat} {B : Int} {t : Tm} (h : TB 1 p n B t) : TB 0 p n B t := h.mono (by omega) (Int.le_refl _)

/-- Of two places, the degrees. -/
theorem code2_deg {r : Rg} {n i a : Nat} {x w : List Int} (hx : ME n x) (hw : ME n w) (hi : i ≤ 40) (ha : a ≤ 40) (h : code2 r i x ≤ code2 r a w) : (r.over = 2 → a ≤ i) ∧ (r.over ≠ 2 ∨ i = a → x.sum ≤ w.sum) := by
  have h1 := codeM_range (o := r.order) hx
  have h2 := codeM_range (o := r.order) hw
  unfold code2 at h
  split at h
  · rename_i ho
    exact ⟨fun _ => by omega, fun h3 => by
      have : i = a := h3.resolve_left (by simpa using ho)
      subst this
      exact codeM_sum (o := r.order) hw hx (by omega)⟩
  · rename_i ho
    exact ⟨fun h => absurd h ho, fun h3 => codeM_sum (o := r.order) hw hx (by omega)⟩

theorem sumT_cancel {p o : Int} {u v : Tm} {f g : Pl} (he : v.e = u.e) (hc : (u.c + v.c) % p = 0) : sumT p o (u :: f) (v :: g) = sumT p o f g := by
  rw [sumT_cons, he, cmpM_self, if_neg (by omega), if_neg (by omega), hc, if_neg (by omega)]

/-- Taking away what goes into the lead. -/
theorem reduce_ok {r : Rg} {n : Nat} {v d : Vc} {a : Nat} {u w : Tm} (hp : ckP r.p = 0) (hpr : Prm r.p) (hv : VD r n v) (hd : VD r n d) (hd2 : ∀ (j : Nat) (h : j < d.length), DB 200 d[j]) (hlen : v.length = d.length)
    (htv : topV r v = some (a, u)) (htd : topV r d = some (a, w)) (hg : goesM u.e w.e = true) :
    VD r n (vsumT r v (vbyT r d (negT r (byOf r u w)))) ∧ ∀ (i : Nat) (hi : i < (vsumT r v (vbyT r d (negT r (byOf r u w)))).length), ∀ s ∈ (vsumT r v (vbyT r d (negT r (byOf r u w))))[i], code2 r i s.e < code2 r a u.e := by
  have hp2 := ckP_ok hp
  have iv := topV_is hv htv
  have id' := topV_is hd htd
  have hvl := hv.len
  have ha := iv.lt
  have had := id'.lt
  obtain ⟨f, hf⟩ := iv.at_
  obtain ⟨g, hgd⟩ := id'.at_
  have hua := hv.all a ha
  have hwa := hd.all a had
  rw [hf] at hua
  rw [hgd] at hwa
  obtain ⟨b1, b2, b3, b4, b5⟩ := byOf_ok hp hua.head iv.me hwa.head id'.me hg
  have hneg := negT_ok b1
  have hnc := hneg.lo
  generalize hby : byOf r u w = by' at *
  have hle : (negT r by').e = by'.e := rfl
  have hlenL : (vsumT r v (vbyT r d (negT r by'))).length = v.length := by rw [vsumT_len' (by simp [vbyT]; omega)]
  have hget : ∀ (i : Nat) (hi : i < v.length), (vsumT r v (vbyT r d (negT r by')))[i]'(by omega) = sumT r.p r.order v[i] (byT r.p (d[i]'(by omega)) (negT r by')) := fun i hi => by simp [vsumT, vbyT]
  -- what the second one's terms are
  have hx : ∀ (i : Nat) (hi : i < d.length), ∀ x ∈ d[i], ME n (zipE (· + ·) x.e by'.e) ∧ (zipE (· + ·) x.e by'.e).sum ≤ degB r i ∧ (code2 r i (zipE (· + ·) x.e by'.e) < code2 r a u.e ∨ (i = a ∧ x.e = w.e)) := fun i hi x hxm => by
    have hxe := hd.me hi x hxm
    have hmax := id'.max i hi x hxm
    obtain ⟨d1, d2⟩ := code2_deg hxe id'.me (by omega) (by omega) hmax
    have hs : (zipE (· + ·) x.e by'.e).sum = x.e.sum + by'.e.sum := zipE_sum (by rw [hxe.len, b2.len])
    have hdeg : (zipE (· + ·) x.e by'.e).sum ≤ degB r i := by
      have hud := hv.deg a ha u (by rw [hf]; simp)
      have hx200 := hd2 i hi x hxm
      have hw0 : 0 ≤ w.e.sum := by
        cases hc : w.e with
        | nil => exact Int.le_refl _
        | cons z e =>
          have h1 := mem_le_sum id'.me.pos z (by rw [hc]; simp)
          have h2 := id'.me.pos z (by rw [hc]; simp)
          rw [hc] at h1
          omega
      rw [hs, b4]
      by_cases hc : r.over ≠ 2 ∨ i = a
      · have := d2 hc
        have : degB r a ≤ degB r i := by
          rcases hc with hc | hc
          · unfold degB; rw [if_neg hc, if_neg hc]; exact Int.le_refl _
          · rw [hc]; exact Int.le_refl _
        omega
      · have ho : r.over = 2 := Classical.byContradiction fun h => hc (.inl h)
        have hia : i ≠ a := fun h => hc (.inr h)
        have := d1 ho
        unfold degB at hud ⊢
        rw [if_pos ho] at hud ⊢
        omega
    have hpos : ∀ y ∈ zipE (· + ·) x.e by'.e, 0 ≤ y := fun y hy => by
      unfold zipE at hy
      obtain ⟨k, hk, rfl⟩ := List.getElem_of_mem hy
      rw [List.length_zipWith] at hk
      rw [List.getElem_zipWith]
      have := hxe.pos _ (List.getElem_mem (show k < x.e.length by omega))
      have := b2.pos _ (List.getElem_mem (show k < by'.e.length by omega))
      omega
    have hme : ME n (zipE (· + ·) x.e by'.e) := ⟨zipE_same_len hxe.len b2.len, hv.n3, hpos, by have := (degB_range r (show i < 40 by omega)).2; omega⟩
    refine ⟨hme, hdeg, ?_⟩
    by_cases heq : code2 r i x.e = code2 r a w.e
    · exact .inr (code2_inj hxe id'.me (by omega) (by omega) heq)
    · refine .inl ?_
      have h1 := (code2_first id'.me hxe (r := r) (i := a) (k := i) (by omega) (by omega)).2 (by omega)
      have h2 := (code2_first iv.me hme (r := r) (i := a) (k := i) (by omega) (by omega)).1
      refine h2 ?_
      rw [← b3, firstT_add (by rw [id'.me.len, hxe.len]) (by rw [hxe.len, b2.len])]
      exact h1
  have hbe : ∀ (i : Nat) (hi : i < d.length), PB 1 r.p r.order n 8000 (byT r.p d[i] (negT r by')) ∧ DB (degB r i) (byT r.p d[i] (negT r by')) := fun i hi => by
    have hdb : DB (degB r i) (byT r.p d[i] (negT r by')) := fun s hs => by
      obtain ⟨x, hxm, he⟩ := byT_mem s hs
      rw [he]
      exact (hx i hi x hxm).2.1
    exact ⟨((byT_ok (by omega) hpr (hd.all i hi) hneg.zero).tight hdb).mono (Int.le_refl _) (degB_range r (by omega)).2, hdb⟩
  refine ⟨⟨hv.n3, by omega, fun i hi => ?_, fun i hi => ?_⟩, fun i hi s hs => ?_⟩
  · rw [hget i (by omega)]
    exact sumT_ok (by omega) _ _ (hv.all i (by omega)) (hbe i (by omega)).1
  · rw [hget i (by omega)]
    exact DB.sum (hv.deg i (by omega)) (hbe i (by omega)).2
  · rw [hget i (by omega)] at hs
    by_cases hia : i = a
    · subst hia
      have hby2 : byT r.p (d[i]'had) (negT r by') = ⟨w.c * (negT r by').c % r.p, u.e⟩ :: byT r.p g (negT r by') := by
        rw [hgd]
        unfold byT
        rw [if_neg (by omega), if_neg (by omega), List.map_cons, hle, b3]
      have hc : (u.c + w.c * (negT r by').c % r.p) % r.p = 0 := by
        rw [Int.add_emod, Int.emod_emod_of_dvd _ (Int.dvd_refl _), ← Int.add_emod]
        refine Int.emod_eq_zero_of_dvd ?_
        obtain ⟨k, hk⟩ := b5
        exact ⟨w.c - k, by show u.c + w.c * (r.p - by'.c) = _; grind⟩
      rw [hby2, hf, sumT_cancel (u := u) (v := ⟨w.c * (negT r by').c % r.p, u.e⟩) rfl hc] at hs
      rcases sumT_mem f _ s hs with ⟨t, ht, he⟩ | ⟨t, ht, he⟩
      · rw [← he]
        exact code2_same' iv.me (hv.me ha t (by rw [hf]; simp [ht])) (hua.below t ht)
      · obtain ⟨x, hxm, hxe⟩ := byT_mem t ht
        have hxd : x ∈ d[i]'had := by rw [hgd]; simp [hxm]
        rw [← he, hxe]
        rcases (hx i had x hxd).2.2 with h | ⟨_, h⟩
        · exact h
        · have := hwa.below x hxm
          rw [h, cmpM_self] at this
          omega
    · rcases sumT_mem _ _ s hs with ⟨t, ht, he⟩ | ⟨t, ht, he⟩
      · rw [← he]
        have h1 := iv.max i (by omega) t ht
        have h2 : code2 r i t.e ≠ code2 r a u.e := fun h => hia (code2_inj (hv.me (by omega) t ht) iv.me (by omega) (by omega) h).1
        omega
      · obtain ⟨x, hxm, hxe⟩ := byT_mem t ht
        rw [← he, hxe]
        rcases (hx i (by omega) x hxm).2.2 with h | ⟨h, _⟩
        · exact h
        · exact absurd h hia

theorem PB.snoc {lo p o : Int} {n : Nat} {B : Int} {f : Pl} {u : Tm} (hf : PB lo p o n B f) (hu : TB lo p n B u) (h : ∀ t ∈ f, 0 < cmpM o t.e u.e) : PB lo p o n B (f ++ [u]) :=
  ⟨fun t ht => by
    rcases List.mem_append.1 ht with ht | ht
    · exact hf.all t ht
    · rw [List.mem_singleton.1 ht]; exact hu, List.pairwise_append.2 ⟨hf.sorted, by simp, fun t ht s hs => by rw [List.mem_singleton.1 hs]; exact h t ht⟩⟩

theorem PB.one {lo p o : Int} {n : Nat} {B : Int} {u : Tm} (hu : TB lo p n B u) : PB lo p o n B [u] := ⟨fun t ht => by rw [List.mem_singleton.1 ht]; exact hu, by simp⟩

theorem stepA_ok {r : Rg} {rank : Nat} {l : List Vc} (hl : DL r rank l) {s : DS} (h : DInv r rank l s) {a : Nat} {u : Tm} (ht : topV r s.v = some (a, u)) (hg : goesT r l a u.e = none) : DInv r rank l (stepA s a u) ∧ muT r (stepA s a u).v < muT r s.v := by
  have iv := topV_is h.vd ht
  have hvl := h.vd.len
  have ha := iv.lt
  obtain ⟨f, hf⟩ := iv.at_
  have hua := h.vd.all a ha
  have hda := h.vd.deg a ha
  rw [hf] at hua hda
  have hal : a < s.left.length := by rw [h.llen, ← h.vlen]; exact ha
  have e1 : (s.v.getD a []).tail = f := by rw [List.getD_eq_getElem?_getD, List.getElem?_eq_getElem ha]; show (s.v[a]).tail = f; rw [hf]; rfl
  have e2 : s.left.getD a [] = s.left[a] := by rw [List.getD_eq_getElem?_getD, List.getElem?_eq_getElem hal]; rfl
  have hst : stepA s a u = ⟨s.v.set a f, s.q, s.left.set a (s.left[a] ++ [u])⟩ := by unfold stepA; rw [e1, e2]
  rw [hst]
  have hvd : VD r r.n.toNat (s.v.set a f) := ⟨h.vd.n3, by simp; omega, fun i hi => by
      rw [List.getElem_set]
      split
      · exact hua.tail
      · exact h.vd.all i (by simpa using hi), fun i hi => by
      rw [List.getElem_set]
      split
      · rename_i hia
        subst hia
        exact fun t ht => hda t (by simp [ht])
      · exact h.vd.deg i (by simpa using hi)⟩
  have hmu : muT r (s.v.set a f) < muT r s.v := muT_lt h.vd ht hvd fun i hi t htm => by
    rw [List.getElem_set] at htm
    split at htm
    · rename_i hia
      subst hia
      exact code2_same' iv.me (h.vd.me ha t (by rw [hf]; simp [htm])) (hua.below t htm)
    · rename_i hia
      have hi2 : i < s.v.length := by simpa using hi
      have h1 := iv.max i hi2 t htm
      have h2 : code2 r i t.e ≠ code2 r a u.e := fun hh => hia (code2_inj (h.vd.me hi2 t htm) iv.me (by omega) (by omega) hh).1.symm
      omega
  have hmu0 : (muT r s.v : Int) = code2 r a u.e + 1 := by
    unfold muT
    rw [ht]
    have := code2_range (r := r) (i := a) iv.me (by omega)
    dsimp only
    omega
  refine ⟨⟨hvd, by simp [h.vlen], h.qlen, h.q, by simp [h.llen], fun j hj => ?_, fun j hj t htm => ?_, fun j hj t htm => ?_⟩, hmu⟩
  · dsimp only at hj ⊢
    rw [List.getElem_set]
    split
    · rename_i hia
      subst hia
      obtain ⟨l1, l2⟩ := h.left a hal
      refine ⟨l1.snoc hua.head fun t htm => ?_, fun t htm => ?_⟩
      · have := h.above a hal t htm
        exact code2_same (r := r) (i := a) (me_of l1 l2 h.vd.n3 (degB_range r (by omega)).2 t htm) iv.me (by omega)
      · rcases List.mem_append.1 htm with htm | htm
        · exact l2 t htm
        · rw [List.mem_singleton.1 htm]; exact hda u (by simp)
    · exact h.left j (by simpa using hj)
  · dsimp only at hj htm ⊢
    rw [List.getElem_set] at htm
    split at htm
    · rename_i hia
      subst hia
      rcases List.mem_append.1 htm with htm | htm
      · have := h.above a hal t htm
        omega
      · rw [List.mem_singleton.1 htm]; omega
    · have := h.above j (by simpa using hj) t htm
      omega
  · dsimp only at hj htm
    rw [List.getElem_set] at htm
    split at htm
    · rename_i hia
      subst hia
      rcases List.mem_append.1 htm with htm | htm
      · exact h.normal a hal t htm
      · rw [List.mem_singleton.1 htm]; exact hg
    · exact h.normal j (by simpa using hj) t htm

theorem stepB_ok {r : Rg} {rank : Nat} {l : List Vc} (hl : DL r rank l) {s : DS} (h : DInv r rank l s) {a i : Nat} {u : Tm} (ht : topV r s.v = some (a, u)) (hg : goesT r l a u.e = some i) :
    DInv r rank l (stepB r l s u i) ∧ muT r (stepB r l s u i).v < muT r s.v ∧ ∃ (hi : i < l.length) (w : Tm), topV r l[i] = some (a, w) ∧ goesM u.e w.e = true ∧ byAt r l u i = byOf r u w ∧ TB 1 r.p r.n.toNat 8000 (byOf r u w) ∧ ME r.n.toNat (byOf r u w).e := by
  obtain ⟨hi, w, htd, hgm⟩ := goesT_some hg
  obtain ⟨hp, hn3, hn1, hpr, hck⟩ := hl.rg
  have hdv := hl.vecs _ (List.getElem_mem hi)
  have hrk := hl.rank2
  have hvd := hdv.vd hn3 hrk
  have iv := topV_is h.vd ht
  have id' := topV_is hvd htd
  have ha := iv.lt
  have had := id'.lt
  obtain ⟨f, hf⟩ := iv.at_
  obtain ⟨g, hgd⟩ := id'.at_
  have hua := h.vd.all a ha
  have hwa := hvd.all a had
  rw [hf] at hua
  rw [hgd] at hwa
  obtain ⟨b1, b2, b3, b4, b5⟩ := byOf_ok hck hua.head iv.me hwa.head id'.me hgm
  have e1 : l.getD i [] = l[i] := by rw [List.getD_eq_getElem?_getD, List.getElem?_eq_getElem hi]; rfl
  have hiq : i < s.q.length := by rw [h.qlen]; exact hi
  have e2 : s.q.getD i [] = s.q[i] := by rw [List.getD_eq_getElem?_getD, List.getElem?_eq_getElem hiq]; rfl
  have e3 : byAt r l u i = byOf r u w := by unfold byAt; rw [e1, htd]; rfl
  obtain ⟨k1, k2⟩ := reduce_ok hck hpr h.vd hvd (fun j hj => (hdv.all _ (List.getElem_mem hj)).deg) (by rw [h.vlen, hdv.len]) ht htd hgm
  have hmu := muT_lt h.vd ht k1 k2
  unfold stepB
  rw [e1, e2, e3]
  refine ⟨⟨k1, ?_, by simp [h.qlen], fun q hq => ?_, h.llen, h.left, fun j hj t htm => ?_, h.normal⟩, hmu, hi, w, htd, hgm, rfl, b1, b2⟩
  · rw [vsumT_len' (by rw [h.vlen]; simp [vbyT, hdv.len])]; exact h.vlen
  · dsimp only at hq
    rcases List.mem_or_eq_of_mem_set hq with hq | rfl
    · exact h.q q hq
    · obtain ⟨q1, q2⟩ := h.q _ (List.getElem_mem hiq)
      exact ⟨sumT_ok (by omega) _ _ q1 (PB.one b1), DB.sum q2 fun t htm => by rw [List.mem_singleton.1 htm]; exact b2.deg⟩
  · have := h.above j hj t htm
    dsimp only
    omega

end Go.Proofs.YtcdihmhmoddppaaGreat

namespace Go.Proofs.YtcdihmhmoddppaaGreat
open Go.RowKit
set_option linter.unusedVariables false

def divRun (r : Rg) (l : List Vc) : Nat → DS → DS
  | 0, s => s
  | n + 1, s => match stepT r l s with
    | none => s
    | some s' => divRun r l n s'

def divInit (rank : Nat) (l : List Vc) (v : Vc) : DS := ⟨v, List.replicate l.length [], List.replicate rank []⟩

def divT (r : Rg) (rank : Nat) (l : List Vc) (v : Vc) : DS := divRun r l (muT r v) (divInit rank l v)

/-- On the way. -/
structure DAt (r : Rg) (rank : Nat) (l : List Vc) (v : Vc) (s : DS) : Prop where
  inv : DInv r rank l s
  run : ∃ n, muT r s.v ≤ n ∧ divRun r l n s = divT r rank l v

/-- A vector that may be divided. -/
structure VIn (r : Rg) (rank : Nat) (v : Vc) : Prop where
  vd : VD r r.n.toNat v
  len : v.length = rank

theorem VOk.vin {r : Rg} {rank : Nat} {l : List Vc} {v : Vc} (h : VOk r rank v) (hl : DL r rank l) : VIn r rank v := ⟨h.vd hl.rg.2.1 hl.rank2, h.len⟩

theorem divInit_ok {r : Rg} {rank : Nat} {l : List Vc} {v : Vc} (hl : DL r rank l) (hv : VIn r rank v) : DInv r rank l (divInit rank l v) := by
  obtain ⟨hp, hn3, hn1, hpr, hck⟩ := hl.rg
  have hrk := hl.rank2
  refine ⟨hv.vd, hv.len, by simp [divInit], fun f hf => ?_, by simp [divInit], fun j hj => ?_, fun j hj t ht => ?_, fun j hj t ht => ?_⟩
  · rw [List.eq_of_mem_replicate hf]; exact ⟨PB.nil _ _ _ _ _, fun t h => by cases h⟩
  · rw [show (divInit rank l v).left[j] = [] by simp [divInit]]
    exact ⟨PB.nil _ _ _ _ _, fun t h => by cases h⟩
  · rw [show (divInit rank l v).left[j] = [] by simp [divInit]] at ht; cases ht
  · rw [show (divInit rank l v).left[j] = [] by simp [divInit]] at ht; cases ht

theorem DAt.init {r : Rg} {rank : Nat} {l : List Vc} {v : Vc} (hl : DL r rank l) (hv : VIn r rank v) : DAt r rank l v (divInit rank l v) := ⟨divInit_ok hl hv, _, Nat.le_refl _, rfl⟩

theorem DAt.step {r : Rg} {rank : Nat} {l : List Vc} {v : Vc} {s s' : DS} (h : DAt r rank l v s) (hs : stepT r l s = some s') (hi : DInv r rank l s') (hm : muT r s'.v < muT r s.v) : DAt r rank l v s' := by
  obtain ⟨n, hn, hr⟩ := h.run
  cases n with
  | zero => omega
  | succ n =>
    refine ⟨hi, n, by omega, ?_⟩
    rw [← hr]
    show _ = match stepT r l s with | none => s | some s' => divRun r l n s'
    rw [hs]

theorem DAt.stepA {r : Rg} {rank : Nat} {l : List Vc} {v : Vc} {s : DS} (hl : DL r rank l) (h : DAt r rank l v s) {a : Nat} {u : Tm} (ht : topV r s.v = some (a, u)) (hg : goesT r l a u.e = none) : DAt r rank l v (stepA s a u) ∧ muT r (Proofs.YtcdihmhmoddppaaGreat.stepA s a u).v < muT r s.v := by
  obtain ⟨h1, h2⟩ := stepA_ok hl h.inv ht hg
  exact ⟨h.step (by unfold stepT; rw [ht]; dsimp only; rw [hg]) h1 h2, h2⟩

theorem DAt.stepB {r : Rg} {rank : Nat} {l : List Vc} {v : Vc} {s : DS} (hl : DL r rank l) (h : DAt r rank l v s) {a i : Nat} {u : Tm} (ht : topV r s.v = some (a, u)) (hg : goesT r l a u.e = some i) : DAt r rank l v (stepB r l s u i) ∧ muT r (Proofs.YtcdihmhmoddppaaGreat.stepB r l s u i).v < muT r s.v := by
  obtain ⟨h1, h2, _⟩ := stepB_ok hl h.inv ht hg
  exact ⟨h.step (by unfold stepT; rw [ht]; dsimp only; rw [hg]) h1 h2, h2⟩

theorem DAt.done {r : Rg} {rank : Nat} {l : List Vc} {v : Vc} {s : DS} (h : DAt r rank l v s) (ht : topV r s.v = none) : divT r rank l v = s := by
  obtain ⟨n, hn, hr⟩ := h.run
  rw [← hr]
  cases n with
  | zero => rfl
  | succ n =>
    show (match stepT r l s with | none => s | some s' => divRun r l n s') = s
    have : stepT r l s = none := by unfold stepT; rw [ht]
    rw [this]

/-- The end is reached. -/
theorem divRun_end {r : Rg} {rank : Nat} {l : List Vc} (hl : DL r rank l) : ∀ (n : Nat) (s : DS), DInv r rank l s → muT r s.v ≤ n → DInv r rank l (divRun r l n s) ∧ topV r (divRun r l n s).v = none
  | 0, s, h, hn => by
    refine ⟨h, ?_⟩
    show topV r s.v = none
    cases hx : topV r s.v with
    | none => rfl
    | some x => unfold muT at hn; rw [hx] at hn; obtain ⟨a, u⟩ := x; dsimp only at hn; omega
  | n + 1, s, h, hn => by
    show DInv r rank l (match stepT r l s with | none => s | some s' => divRun r l n s') ∧ topV r (match stepT r l s with | none => s | some s' => divRun r l n s').v = none
    cases hx : topV r s.v with
    | none =>
      have : stepT r l s = none := by unfold stepT; rw [hx]
      rw [this]
      exact ⟨h, hx⟩
    | some x =>
      obtain ⟨a, u⟩ := x
      cases hg : goesT r l a u.e with
      | none =>
        have : stepT r l s = some (stepA s a u) := by unfold stepT; rw [hx]; dsimp only; rw [hg]
        rw [this]
        obtain ⟨h1, h2⟩ := stepA_ok hl h hx hg
        exact divRun_end hl n _ h1 (by omega)
      | some i =>
        have : stepT r l s = some (stepB r l s u i) := by unfold stepT; rw [hx]; dsimp only; rw [hg]
        rw [this]
        obtain ⟨h1, h2, _⟩ := stepB_ok hl h hx hg
        exact divRun_end hl n _ h1 (by omega)

theorem divT_ok {r : Rg} {rank : Nat} {l : List Vc} {v : Vc} (hl : DL r rank l) (hv : VIn r rank v) : DInv r rank l (divT r rank l v) ∧ topV r (divT r rank l v).v = none :=
  divRun_end hl _ _ (divInit_ok hl hv) (Nat.le_refl _)

/-- Does no lead of the list go into a term? -/
def rowNormal (r : Rg) (l : List Vc) (j : Nat) (f : Pl) : Bool := f.all fun t => (goesT r l j t.e).isNone

def normGo (r : Rg) (l : List Vc) : Nat → Vc → Bool
  | _, [] => true
  | j, f :: v => rowNormal r l j f && normGo r l (j + 1) v

def normalT (r : Rg) (l : List Vc) (v : Vc) : Bool := normGo r l 0 v

theorem normGo_drop {r : Rg} {l : List Vc} {v : Vc} {k : Nat} (h : k < v.length) : normGo r l k (v.drop k) = (rowNormal r l k v[k] && normGo r l (k + 1) (v.drop (k + 1))) := by
  rw [List.drop_eq_getElem_cons h]; rfl

theorem rowNormal_drop {r : Rg} {l : List Vc} {j : Nat} {f : Pl} {k : Nat} (h : k < f.length) : rowNormal r l j (f.drop k) = ((goesT r l j f[k].e).isNone && rowNormal r l j (f.drop (k + 1))) := by
  rw [List.drop_eq_getElem_cons h]; rfl

def goIdx : Option Nat → Int
  | none => -1
  | some i => i

/-- What is wrong with what is handed in. -/
def readyCk (r : Rg) (rank : Int) (v : Vc) (l : List Vc) : Int := if vecsCk r rank l = 0 then ownCk r rank [v] else vecsCk r rank l

theorem readyCk_ok {r : Rg} {rank : Int} {v : Vc} {l : List Vc} (h : readyCk r rank v l = 0) : DL r rank.toNat l ∧ VOk r rank.toNat v ∧ rank = rank.toNat := by
  unfold readyCk at h
  by_cases h1 : vecsCk r rank l = 0
  · rw [if_pos h1] at h
    obtain ⟨a, b, c, d, e⟩ := vecsCk_ok h1
    obtain ⟨b', c', d', e'⟩ := ownCk_ok a h
    exact ⟨⟨a, by omega, by omega, d, e⟩, e' v (by simp), by omega⟩
  · rw [if_neg h1] at h; exact absurd h h1

/-- What Divide answers. -/
def divideT (r : Rg) (rank : Int) (v : Vc) (l : List Vc) : Vc × Vc × Int :=
  if readyCk r rank v l ≠ 0 then ([], [], readyCk r rank v l)
  else if (vgreatT (divT r rank.toNat l v).left || vgreatT (divT r rank.toNat l v).q) = true then ([], [], 2) else ((divT r rank.toNat l v).q, (divT r rank.toNat l v).left, 0)

end Go.Proofs.YtcdihmhmoddppaaGreat

namespace Go.Proofs.YtcdihmhmoddppaaGreat
open Go.RowKit
set_option linter.unusedVariables false
set_option linter.unusedSimpArgs false
set_option maxHeartbeats 8000000

instance : SizeT Tryz.prog 84 4 := .of (by kernel_rfl)
instance : BuildT Tryz.prog 84 [.nil, I 0, I 0, .nil] #[(0, 1), (1, 1), (2, 2)] := .of (by kernel_rfl) Tryz.underlying84 (by kernel_rfl) rfl

/-- A vector with its lead. -/
def dvC (r : Rg) (v : Vc) : List D := [vcD v, I (atOf (topV r v)), I (tmOf (topV r v)).c, intsD (tmOf (topV r v)).e]
def dvD (r : Rg) (v : Vc) : D := .agg (dvC r v)
def dvsD (r : Rg) (l : List Vc) : D := .list 4 (l.map (dvD r))

theorem uni_dv (r : Rg) (l : List Vc) : Uni 4 (l.map (dvD r)) := by
  intro d hd
  obtain ⟨a, _, rfl⟩ := List.mem_map.1 hd
  exact ⟨rfl, fun x hx => by simp [dvD, dvC, cellsOf] at hx; rcases hx with rfl | rfl | rfl | rfl <;> rfl⟩

theorem dvOf_pure (r : Rg) (v : Vc) {n : Nat} (hv : VD r n v) : Pure Tryz.prog 79 [rgD r, vcD v] (dvD r v) := by
  intro H
  have hvl := hv.len
  have hn := hv.n3
  refine PureH.of_bodyCell (r := 4) (t := 84) (T0 := 84) (cells := dvC r v) Tryz.func79 rfl (by decide) (Nat.le_of_ble_eq_true rfl) rfl fun w0 => ?_
  (repeat (first | refine RO.Sv ?_ | refine RO.Yv ?_ | refine RO.no rfl (by decide) rfl ?_ | refine RO.nil ?_ | refine DW.region ?_ | refine DW.seq ?_ | refine DW.block ?_ | refine DW.skip ?_ | refine DW.exit ?_ | refine DW.condT rfl ?_ | refine DW.condF rfl ?_))
  refine RO.dyn rfl (d_alloc fun b4 hb4 => ?_)
  (repeat (first | refine RO.Sv ?_ | refine RO.Yv ?_ | refine RO.no rfl (by decide) rfl ?_ | refine RO.nil ?_ | refine DW.region ?_ | refine DW.seq ?_ | refine DW.block ?_ | refine DW.skip ?_ | refine DW.exit ?_ | refine DW.condT rfl ?_ | refine DW.condF rfl ?_))
  refine RO.sta (sta_call rfl rfl (vTop_pure r v (n := n) (B := 8000) (L := 512192024001) (by omega) (by omega) (by omega) hv.vb _)) rfl ?_
  (repeat (first | refine RO.Sv ?_ | refine RO.Yv ?_ | refine RO.no rfl (by decide) rfl ?_ | refine RO.nil ?_ | refine DW.region ?_ | refine DW.seq ?_ | refine DW.block ?_ | refine DW.skip ?_ | refine DW.exit ?_ | refine DW.condT rfl ?_ | refine DW.condF rfl ?_))
  refine RO.dyn rfl (d_alloc fun b6 hb6 => ?_)
  have hne : b4 ≠ b6 := fun e => by rw [← e, Heap.set_self] at hb6; cases hb6
  (repeat (first | refine RO.Sv ?_ | refine RO.Yv ?_ | refine RO.no rfl (by decide) rfl ?_ | refine RO.nil ?_ | refine DW.region ?_ | refine DW.seq ?_ | refine DW.block ?_ | refine DW.skip ?_ | refine DW.exit ?_ | refine DW.condT rfl ?_ | refine DW.condF rfl ?_))
  refine RO.dyn rfl (d_storeTm (tm := tmOf (topV r v)) rfl rfl (Heap.set_self _ _ _) rfl ?_)
  rw [Heap.set_set]
  (repeat (first | refine RO.Sv ?_ | refine RO.Yv ?_ | refine RO.no rfl (by decide) rfl ?_ | refine RO.nil ?_ | refine DW.region ?_ | refine DW.seq ?_ | refine DW.block ?_ | refine DW.skip ?_ | refine DW.exit ?_ | refine DW.condT rfl ?_ | refine DW.condF rfl ?_))
  refine RO.sta (s_buildT (out := dvC r v) rfl rfl) rfl ?_
  refine RO.dyn rfl (d_store (k := 4) rfl rfl rfl (by rw [Heap.set_other _ _ hne, Heap.set_self]) (Nat.le_refl _) (by simp [cellsOf, dvC, D.isCell, vcD, intsD]) ?_)
  (repeat (first | refine RO.Sv ?_ | refine RO.Yv ?_ | refine RO.no rfl (by decide) rfl ?_ | refine RO.nil ?_ | refine DW.region ?_ | refine DW.seq ?_ | refine DW.block ?_ | refine DW.skip ?_ | refine DW.exit ?_ | refine DW.condT rfl ?_ | refine DW.condF rfl ?_))
  refine DW.ret ⟨.inl rfl, b4, rfl, Heap.set_self _ _ _, ?_, hb4⟩
  exact (((Over.refl H).set hb4).set (Heap.none_of_set hne hb6)).set hb4

theorem dvAll_pure (r : Rg) (l : List Vc) {n : Nat} (hl : l.length ≤ 1000000) (hv : ∀ v ∈ l, VD r n v) : Pure Tryz.prog 48 [rgD r, vcsD l] (dvsD r l) := by
  intro H
  refine PureH.of_body Tryz.func48 rfl (by decide) (Nat.le_of_ble_eq_true rfl) fun w0 => ?_
  (repeat (first | refine RO.Sv ?_ | refine RO.Yv ?_ | refine RO.no rfl (by decide) rfl ?_ | refine RO.nil ?_ | refine DW.region ?_ | refine DW.seq ?_ | refine DW.block ?_ | refine DW.skip ?_ | refine DW.exit ?_ | refine DW.condT rfl ?_ | refine DW.condF rfl ?_))
  refine DW.loopI (fun x : Nat × Heap × D => x.1 ≤ l.length ∧ Acc H x.2.1 x.2.2 4 84 ((l.take x.1).map (dvD r)) ∧ Over H x.2.1) (fun x => [(2, .ipt 4 [rgD r] 0 0), (5, x.2.2), (8, vcsD l), (9, I l.length), (10, I x.1)]) (fun x => x.2.1) (fun x => l.length - x.1) (0, H, .nil)
    ⟨Nat.zero_le _, Acc.nil _ _ _ _, Over.refl _⟩ rfl ⟨rfl, rfl, rfl, rfl, rfl, trivial⟩ fun ⟨k, Hk, d⟩ ⟨hk, hacc, hov⟩ => ?_
  dsimp only at hk hacc hov
  dsimp only
  (repeat (first | refine RO.Sv ?_ | refine RO.Yv ?_ | refine RO.no rfl (by decide) rfl ?_ | refine RO.nil ?_ | refine DW.region ?_ | refine DW.seq ?_ | refine DW.block ?_ | refine DW.skip ?_ | refine DW.exit ?_ | refine DW.condT rfl ?_ | refine DW.condF rfl ?_))
  refine DW.cond rfl (fun hb => ?_) (fun hb => ?_)
  · have hlt : k < l.length := by have := of_decide_eq_true hb; omega
    clear hb
    (repeat (first | refine RO.Sv ?_ | refine RO.Yv ?_ | refine RO.no rfl (by decide) rfl ?_ | refine RO.nil ?_ | refine DW.region ?_ | refine DW.seq ?_ | refine DW.block ?_ | refine DW.skip ?_ | refine DW.exit ?_ | refine DW.condT rfl ?_ | refine DW.condF rfl ?_))
    refine RO.sta (sta_call rfl rfl (dvOf_pure r l[k] (hv _ (List.getElem_mem hlt)) _)) rfl ?_
    refine RO.sta (s_lit1 (k := 4) (by decide) rfl rfl) rfl ?_
    refine RO.dyn rfl (d_append (H0 := H) (xs := [dvD r l[k]]) rfl hacc hov rfl (.inl rfl) (uni_dv r [l[k]]) (by simp; omega) (by simp; omega) fun d' H' q1 q2 q3 => ?_)
    (repeat (first | refine RO.Sv ?_ | refine RO.Yv ?_ | refine RO.no rfl (by decide) rfl ?_ | refine RO.nil ?_ | refine DW.region ?_ | refine DW.seq ?_ | refine DW.block ?_ | refine DW.skip ?_ | refine DW.exit ?_ | refine DW.condT rfl ?_ | refine DW.condF rfl ?_))
    refine ⟨(k + 1, H', d'), ⟨hlt, ?_, q2⟩, by dsimp only; omega, rfl, rfl, rfl, rfl, rfl, rfl, trivial⟩
    dsimp only
    rw [List.take_succ_eq_append_getElem hlt, List.map_append]
    exact q1
  · have hke : k = l.length := by have := of_decide_eq_false hb; omega
    rw [hke, List.take_of_length_le (Nat.le_refl _)] at hacc
    (repeat (first | refine RO.Sv ?_ | refine RO.Yv ?_ | refine RO.no rfl (by decide) rfl ?_ | refine RO.nil ?_ | refine DW.region ?_ | refine DW.seq ?_ | refine DW.block ?_ | refine DW.skip ?_ | refine DW.exit ?_ | refine DW.condT rfl ?_ | refine DW.condF rfl ?_))
    exact DW.ret ⟨.inl rfl, _, rfl, hov, hacc.done⟩

end Go.Proofs.YtcdihmhmoddppaaGreat

namespace Go.Proofs.YtcdihmhmoddppaaGreat
open Go.RowKit
set_option linter.unusedVariables false
set_option linter.unusedSimpArgs false
set_option maxHeartbeats 8000000

theorem goesT_at {r : Rg} {l : List Vc} {a : Nat} {m : List Int} {k : Nat} (h : ∀ (j : Nat) (hj : j < l.length), j < k → goesIn r a m l[j] = false) (hk : k < l.length) (hg : goesIn r a m l[k] = true) : goesT r l a m = some k :=
  List.findIdx?_eq_some_iff_getElem.2 ⟨hk, hg, fun j hj => by rw [h j (by omega) hj]; simp⟩

theorem goesT_not {r : Rg} {l : List Vc} {a : Nat} {m : List Int} (h : ∀ (j : Nat) (hj : j < l.length), goesIn r a m l[j] = false) : goesT r l a m = none :=
  List.findIdx?_eq_none_iff.2 fun x hx => by
    obtain ⟨j, hj, rfl⟩ := List.getElem_of_mem hx
    exact h j hj

theorem no_succ {P : Nat → Prop} {k : Nat} (h : ∀ j, j < k → P j) (hk : P k) : ∀ j, j < k + 1 → P j := fun j hj => by
  by_cases he : j = k
  · rw [he]; exact hk
  · exact h j (by omega)

theorem goes_pure (r : Rg) (l : List Vc) (a : Nat) (t : Tm) {n : Nat} (hl : l.length ≤ 1000000) (hv : ∀ v ∈ l, VD r n v) (ht : ME n t.e) : Pure Tryz.prog 86 [dvsD r l, I a, tmD t] (I (goIdx (goesT r l a t.e))) := by
  intro H
  have hn := ht.n3
  have htl := ht.len
  refine PureH.of_body Tryz.func86 rfl (by decide) (Nat.le_of_ble_eq_true rfl) fun w0 => ?_
  (repeat (first | refine RO.Sv ?_ | refine RO.Yv ?_ | refine RO.no rfl (by decide) rfl ?_ | refine RO.nil ?_ | refine DW.region ?_ | refine DW.seq ?_ | refine DW.block ?_ | refine DW.skip ?_ | refine DW.exit ?_ | refine DW.condT rfl ?_ | refine DW.condF rfl ?_))
  refine DW.loopG (fun k : Nat => k ≤ l.length ∧ ∀ j, j < k → ∀ (hj : j < l.length), goesIn r a t.e l[j] = false) (fun k => [(1, I a), (5, .ipt 2 [tmD t] 0 0), (9, dvsD r l), (10, I l.length), (11, I k)]) (fun _ => H) (fun k => l.length - k) 0 ⟨Nat.zero_le _, fun j h => by omega⟩ (Heap.sub_refl _) (by repeat first | exact trivial | refine HasG.one rfl ?_ | refine HasN.one rfl ?_) fun k ⟨hk, hno⟩ => ?_
  (repeat (first | refine RO.Sv ?_ | refine RO.Yv ?_ | refine RO.no rfl (by decide) rfl ?_ | refine RO.nil ?_ | refine DW.region ?_ | refine DW.seq ?_ | refine DW.block ?_ | refine DW.skip ?_ | refine DW.exit ?_ | refine DW.condT rfl ?_ | refine DW.condF rfl ?_))
  refine DW.cond rfl (fun hb => ?_) (fun hb => ?_)
  · have hlt : k < l.length := by have := of_decide_eq_true hb; omega
    have hlk := hv _ (List.getElem_mem hlt)
    clear hb
    (repeat (first | refine RO.Sv ?_ | refine RO.Yv ?_ | refine RO.no rfl (by decide) rfl ?_ | refine RO.nil ?_ | refine DW.region ?_ | refine DW.seq ?_ | refine DW.block ?_ | refine DW.skip ?_ | refine DW.exit ?_ | refine DW.condT rfl ?_ | refine DW.condF rfl ?_))
    refine RO.sta (s_loadAgg (ds := dvC r l[k]) rfl (by simp [hlt, dvD]) rfl) rfl ?_
    refine RO.dyn rfl (d_alloc fun b8 hb8 => ?_)
    (repeat (first | refine RO.Sv ?_ | refine RO.Yv ?_ | refine RO.no rfl (by decide) rfl ?_ | refine RO.nil ?_ | refine DW.region ?_ | refine DW.seq ?_ | refine DW.block ?_ | refine DW.skip ?_ | refine DW.exit ?_ | refine DW.condT rfl ?_ | refine DW.condF rfl ?_))
    refine RO.dyn rfl (d_store (k := 4) rfl rfl rfl (Heap.set_self _ _ _) (Nat.le_refl _) (by simp [cellsOf, dvC, D.isCell, vcD, intsD]) ?_)
    rw [Heap.set_set]
    (repeat (first | refine RO.Sv ?_ | refine RO.Yv ?_ | refine RO.no rfl (by decide) rfl ?_ | refine RO.nil ?_ | refine DW.region ?_ | refine DW.seq ?_ | refine DW.block ?_ | refine DW.skip ?_ | refine DW.exit ?_ | refine DW.condT rfl ?_ | refine DW.condF rfl ?_))
    cases hx : topV r l[k] with
    | none =>
      have hgi : goesIn r a t.e l[k] = false := by unfold goesIn; rw [hx]
      have hat : (atOf (none : Option (Nat × Tm)) == (a : Int)) = false := by simp [atOf]
      rw [hat]
      (repeat (first | refine RO.Sv ?_ | refine RO.Yv ?_ | refine RO.no rfl (by decide) rfl ?_ | refine RO.nil ?_ | refine DW.region ?_ | refine DW.seq ?_ | refine DW.block ?_ | refine DW.skip ?_ | refine DW.exit ?_ | refine DW.condT rfl ?_ | refine DW.condF rfl ?_))
      exact ⟨k + 1, ⟨hlt, no_succ hno fun _ => hgi⟩, by dsimp only; omega, Heap.sub_set _ hb8, (by repeat first | exact trivial | refine HasG.one rfl ?_ | refine HasN.one rfl ?_)⟩
    | some x =>
      obtain ⟨b, w⟩ := x
      have iw := topV_is hlk hx
      have hgi : goesIn r a t.e l[k] = (b == a && goesM t.e w.e) := by unfold goesIn; rw [hx]
      have hat : (atOf (some (b, w)) == (a : Int)) = (b == a) := by
        show ((b : Int) == (a : Int)) = (b == a)
        by_cases h : b = a
        · subst h; simp
        · rw [show (b == a) = false by simpa using h]; simp; omega
      rw [hat]
      cases hba : b == a
      · rw [hba, Bool.false_and] at hgi
        (repeat (first | refine RO.Sv ?_ | refine RO.Yv ?_ | refine RO.no rfl (by decide) rfl ?_ | refine RO.nil ?_ | refine DW.region ?_ | refine DW.seq ?_ | refine DW.block ?_ | refine DW.skip ?_ | refine DW.exit ?_ | refine DW.condT rfl ?_ | refine DW.condF rfl ?_))
        exact ⟨k + 1, ⟨hlt, no_succ hno fun _ => hgi⟩, by dsimp only; omega, Heap.sub_set _ hb8, (by repeat first | exact trivial | refine HasG.one rfl ?_ | refine HasN.one rfl ?_)⟩
      · rw [hba, Bool.true_and] at hgi
        (repeat (first | refine RO.Sv ?_ | refine RO.Yv ?_ | refine RO.no rfl (by decide) rfl ?_ | refine RO.nil ?_ | refine DW.region ?_ | refine DW.seq ?_ | refine DW.block ?_ | refine DW.skip ?_ | refine DW.exit ?_ | refine DW.condT rfl ?_ | refine DW.condF rfl ?_))
        have hwe : (tmOf (topV r l[k])).e = w.e := by rw [hx]; rfl
        refine RO.yes rfl rfl (OpD.of_sta (sta_call rfl rfl (Goes_pure (a := t.e) (b := (tmOf (topV r l[k])).e) (by rw [hwe, htl, iw.me.len]) (by omega) _)) ?_)
        rw [hwe]
        cases hg : goesM t.e w.e
        · rw [hg] at hgi
          (repeat (first | refine RO.Sv ?_ | refine RO.Yv ?_ | refine RO.no rfl (by decide) rfl ?_ | refine RO.nil ?_ | refine DW.region ?_ | refine DW.seq ?_ | refine DW.block ?_ | refine DW.skip ?_ | refine DW.exit ?_ | refine DW.condT rfl ?_ | refine DW.condF rfl ?_))
          exact ⟨k + 1, ⟨hlt, no_succ hno fun _ => hgi⟩, by dsimp only; omega, Heap.sub_set _ hb8, (by repeat first | exact trivial | refine HasG.one rfl ?_ | refine HasN.one rfl ?_)⟩
        · rw [hg] at hgi
          rw [goesT_at (fun j hj h => hno j h hj) hlt hgi]
          (repeat (first | refine RO.Sv ?_ | refine RO.Yv ?_ | refine RO.no rfl (by decide) rfl ?_ | refine RO.nil ?_ | refine DW.region ?_ | refine DW.seq ?_ | refine DW.block ?_ | refine DW.skip ?_ | refine DW.exit ?_ | refine DW.condT rfl ?_ | refine DW.condF rfl ?_))
          exact DW.ret ⟨.inl rfl, _, rfl, (Over.refl _).set hb8, .same _⟩
  · have hge : k = l.length := by have := of_decide_eq_false hb; omega
    rw [goesT_not fun j hj => hno j (by omega) hj]
    (repeat (first | refine RO.Sv ?_ | refine RO.Yv ?_ | refine RO.no rfl (by decide) rfl ?_ | refine RO.nil ?_ | refine DW.region ?_ | refine DW.seq ?_ | refine DW.block ?_ | refine DW.skip ?_ | refine DW.exit ?_ | refine DW.condT rfl ?_ | refine DW.condF rfl ?_))
    exact DW.ret ⟨.inl rfl, _, rfl, Over.refl _, .same _⟩

theorem Divisor_pure (r : Rg) (l : List Vc) (a : Nat) (t : Tm) {n : Nat} (hl : l.length ≤ 1000000) (hv : ∀ v ∈ l, VD r n v) (ht : ME n t.e) : Pure Tryz.prog 57 [rgD r, vcsD l, I a, tmD t] (I (goIdx (goesT r l a t.e))) := by
  intro H
  have hn := ht.n3
  have htl := ht.len
  refine PureH.of_body Tryz.func57 rfl (by decide) (Nat.le_of_ble_eq_true rfl) fun w0 => ?_
  (repeat (first | refine RO.Sv ?_ | refine RO.Yv ?_ | refine RO.no rfl (by decide) rfl ?_ | refine RO.nil ?_ | refine DW.region ?_ | refine DW.seq ?_ | refine DW.block ?_ | refine DW.skip ?_ | refine DW.exit ?_ | refine DW.condT rfl ?_ | refine DW.condF rfl ?_))
  refine DW.loopG (fun k : Nat => k ≤ l.length ∧ ∀ j, j < k → ∀ (hj : j < l.length), goesIn r a t.e l[j] = false) (fun k => [(1, vcsD l), (2, I a), (4, .ipt 4 [rgD r] 0 0), (7, .ipt 2 [tmD t] 0 0), (9, I k)]) (fun _ => H) (fun k => l.length - k) 0 ⟨Nat.zero_le _, fun j h => by omega⟩ (Heap.sub_refl _) (by repeat first | exact trivial | refine HasG.one rfl ?_ | refine HasN.one rfl ?_) fun k ⟨hk, hno⟩ => ?_
  (repeat (first | refine RO.Sv ?_ | refine RO.Yv ?_ | refine RO.no rfl (by decide) rfl ?_ | refine RO.nil ?_ | refine DW.region ?_ | refine DW.seq ?_ | refine DW.block ?_ | refine DW.skip ?_ | refine DW.exit ?_ | refine DW.condT rfl ?_ | refine DW.condF rfl ?_))
  refine DW.cond rfl (fun hb => ?_) (fun hb => ?_)
  · have hlt : k < l.length := by have := of_decide_eq_true hb; omega
    have hlk := hv _ (List.getElem_mem hlt)
    have hlkl := hlk.len
    clear hb
    (repeat (first | refine RO.Sv ?_ | refine RO.Yv ?_ | refine RO.no rfl (by decide) rfl ?_ | refine RO.nil ?_ | refine DW.region ?_ | refine DW.seq ?_ | refine DW.block ?_ | refine DW.skip ?_ | refine DW.exit ?_ | refine DW.condT rfl ?_ | refine DW.condF rfl ?_))
    refine DW.drawX [0, 1, 2, 3, 4, 5, 6, 7, 8] [0, 1, 2, 3, 4, 5, 6, 7, 8] (fun _ => none) Tryz.mixed (by kernel_rfl) (Over.nul _) ?_
    (repeat (first | refine RX.A ?_ | refine RX.nil ?_))
    refine RX.any (fun H' => sta_call rfl rfl (LeadOf_pure r l[k] (n := n) (B := 8000) (L := 512192024001) (by omega) (by omega) (by omega) (by omega) hlk.vb _)) rfl ?_
    (repeat (first | refine RX.A ?_ | refine RX.nil ?_))
    refine RY.dyn rfl (d_alloc fun b11 hb11 => ⟨Over.nul _, ?_⟩)
    (repeat (first | refine RY.S ?_ | refine RY.nil ?_))
    refine RY.dyn rfl (d_storeTm (tm := tmOf (topV r l[k])) rfl rfl (Heap.set_self _ _ _) rfl ⟨Over.nul _, ?_⟩)
    rw [Heap.set_set]
    (repeat (first | refine RY.S ?_ | refine RY.nil ?_))
    (repeat (first | refine RO.Sv ?_ | refine RO.Yv ?_ | refine RO.no rfl (by decide) rfl ?_ | refine RO.nil ?_ | refine DW.region ?_ | refine DW.seq ?_ | refine DW.block ?_ | refine DW.skip ?_ | refine DW.exit ?_ | refine DW.condT rfl ?_ | refine DW.condF rfl ?_))
    cases hx : topV r l[k] with
    | none =>
      have hgi : goesIn r a t.e l[k] = false := by unfold goesIn; rw [hx]
      have hat : (atOf (none : Option (Nat × Tm)) == (a : Int)) = false := by simp [atOf]
      rw [hat]
      (repeat (first | refine RO.Sv ?_ | refine RO.Yv ?_ | refine RO.no rfl (by decide) rfl ?_ | refine RO.nil ?_ | refine DW.region ?_ | refine DW.seq ?_ | refine DW.block ?_ | refine DW.skip ?_ | refine DW.exit ?_ | refine DW.condT rfl ?_ | refine DW.condF rfl ?_))
      exact ⟨k + 1, ⟨hlt, no_succ hno fun _ => hgi⟩, by dsimp only; omega, Heap.sub_set _ hb11, (by repeat first | exact trivial | refine HasG.one rfl ?_ | refine HasN.one rfl ?_)⟩
    | some x =>
      obtain ⟨b, w⟩ := x
      have iw := topV_is hlk hx
      have hgi : goesIn r a t.e l[k] = (b == a && goesM t.e w.e) := by unfold goesIn; rw [hx]
      have hat : (atOf (some (b, w)) == (a : Int)) = (b == a) := by
        show ((b : Int) == (a : Int)) = (b == a)
        by_cases h : b = a
        · subst h; simp
        · rw [show (b == a) = false by simpa using h]; simp; omega
      rw [hat]
      cases hba : b == a
      · rw [hba, Bool.false_and] at hgi
        (repeat (first | refine RO.Sv ?_ | refine RO.Yv ?_ | refine RO.no rfl (by decide) rfl ?_ | refine RO.nil ?_ | refine DW.region ?_ | refine DW.seq ?_ | refine DW.block ?_ | refine DW.skip ?_ | refine DW.exit ?_ | refine DW.condT rfl ?_ | refine DW.condF rfl ?_))
        exact ⟨k + 1, ⟨hlt, no_succ hno fun _ => hgi⟩, by dsimp only; omega, Heap.sub_set _ hb11, (by repeat first | exact trivial | refine HasG.one rfl ?_ | refine HasN.one rfl ?_)⟩
      · rw [hba, Bool.true_and] at hgi
        (repeat (first | refine RO.Sv ?_ | refine RO.Yv ?_ | refine RO.no rfl (by decide) rfl ?_ | refine RO.nil ?_ | refine DW.region ?_ | refine DW.seq ?_ | refine DW.block ?_ | refine DW.skip ?_ | refine DW.exit ?_ | refine DW.condT rfl ?_ | refine DW.condF rfl ?_))
        refine RO.yes rfl rfl (OpD.of_sta (sta_call rfl rfl (GoesInto_pure (a := t.e) (b := w.e) (by rw [htl, iw.me.len]) (by omega) _)) ?_)
        cases hg : goesM t.e w.e
        · rw [hg] at hgi
          (repeat (first | refine RO.Sv ?_ | refine RO.Yv ?_ | refine RO.no rfl (by decide) rfl ?_ | refine RO.nil ?_ | refine DW.region ?_ | refine DW.seq ?_ | refine DW.block ?_ | refine DW.skip ?_ | refine DW.exit ?_ | refine DW.condT rfl ?_ | refine DW.condF rfl ?_))
          exact ⟨k + 1, ⟨hlt, no_succ hno fun _ => hgi⟩, by dsimp only; omega, Heap.sub_set _ hb11, (by repeat first | exact trivial | refine HasG.one rfl ?_ | refine HasN.one rfl ?_)⟩
        · rw [hg] at hgi
          rw [goesT_at (fun j hj h => hno j h hj) hlt hgi]
          (repeat (first | refine RO.Sv ?_ | refine RO.Yv ?_ | refine RO.no rfl (by decide) rfl ?_ | refine RO.nil ?_ | refine DW.region ?_ | refine DW.seq ?_ | refine DW.block ?_ | refine DW.skip ?_ | refine DW.exit ?_ | refine DW.condT rfl ?_ | refine DW.condF rfl ?_))
          exact DW.ret ⟨.inl rfl, _, rfl, (Over.refl _).set hb11, .same _⟩
  · have hge : k = l.length := by have := of_decide_eq_false hb; omega
    rw [goesT_not fun j hj => hno j (by omega) hj]
    (repeat (first | refine RO.Sv ?_ | refine RO.Yv ?_ | refine RO.no rfl (by decide) rfl ?_ | refine RO.nil ?_ | refine DW.region ?_ | refine DW.seq ?_ | refine DW.block ?_ | refine DW.skip ?_ | refine DW.exit ?_ | refine DW.condT rfl ?_ | refine DW.condF rfl ?_))
    exact DW.ret ⟨.inl rfl, _, rfl, Over.refl _, .same _⟩

end Go.Proofs.YtcdihmhmoddppaaGreat
