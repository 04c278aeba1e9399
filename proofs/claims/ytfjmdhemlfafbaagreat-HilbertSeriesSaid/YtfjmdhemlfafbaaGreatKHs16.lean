/-
  The document's answer on monomials, more of it. No condition.
-/
import Derived.Test.YtfjmdhemlfafbaaGreatKHs10
import Derived.Test.YtfjmdhemlfafbaaGreatKHs8
import Derived.Test.YtfjmdhemlfafbaaGreatKHs5
import Derived.Test.YtfjmdhemlfafbaaGreatKHs13
import Derived.Test.YtfjmdhemlfafbaaGreatKHs14
import Derived.Test.YtfjmdhemlfafbaaGreatKHs9
import Derived.Test.YtfjmdhemlfafbaaGreatKHs15
set_option linter.unusedVariables false
set_option linter.unusedSimpArgs false

namespace Go.Proofs.YtfjmdhemlfafbaaGreat

structure Elim (p : Int) (n : Nat) (rows0 rows : List (List Int)) (a c : Nat) : Prop where
  len : rows.length = rows0.length
  ok : ∀ r ∈ rows, RowOk p n r
  sp1 : ∀ r ∈ rows0, Spn p (rows.map vec) (vec r)
  sp2 : ∀ r ∈ rows, Spn p (rows0.map vec) (vec r)
  ale : a ≤ rows.length
  cle : c ≤ n
  led : ∃ ls : List Nat, ls.length = a ∧ ls.Nodup ∧ (∀ m ∈ ls, m < c) ∧ ∀ (i : Nat) (h : i < ls.length) (h' : i < rows.length), Led p (vec rows[i]) ls[i]
  zero : ∀ (i : Nat) (h : i < rows.length), a ≤ i → ∀ j, j < c → vec rows[i] j = 0

theorem Elim.start {p : Int} {n : Nat} {rows : List (List Int)} (h : ∀ r ∈ rows, RowOk p n r) : Elim p n rows rows 0 0 :=
  ⟨rfl, h, fun r hr => Spn.mem (List.mem_map_of_mem hr), fun r hr => Spn.mem (List.mem_map_of_mem hr), Nat.zero_le _, Nat.zero_le _, ⟨[], rfl, by simp, by simp, fun i h => absurd h (Nat.not_lt_zero _)⟩, fun i h _ j hj => absurd hj (Nat.not_lt_zero _)⟩

theorem Elim.skip {p : Int} {n : Nat} {rows0 rows : List (List Int)} {a c : Nat} (h : Elim p n rows0 rows a c) (hc : c < n) (hz : ∀ (i : Nat) (hi : i < rows.length), a ≤ i → vec rows[i] c = 0) : Elim p n rows0 rows a (c + 1) := by
  refine ⟨h.len, h.ok, h.sp1, h.sp2, h.ale, hc, ?_, fun i hi hai j hj => ?_⟩
  · obtain ⟨ls, h1, h2, h3, h4⟩ := h.led
    exact ⟨ls, h1, h2, fun m hm => by have := h3 m hm; omega, h4⟩
  · by_cases hjc : j = c
    · subst hjc; exact hz i hi hai
    · exact h.zero i hi hai j (by omega)

theorem Elim.less {p : Int} (hp : 1 < p) {n : Nat} {rows0 rows : List (List Int)} {a c i : Nat} {b : Int} (h : Elim p n rows0 rows a c) (ha : a < rows.length) (hi : i < rows.length) (hai : a < i) : Elim p n rows0 (rows.set i (lessBy p b rows[i] rows[a])) a c := by
  have o1 := h.ok _ (List.getElem_mem hi)
  have o2 := h.ok _ (List.getElem_mem ha)
  have o3 := lessBy_ok (p := p) (by omega) (b := b) o1 o2
  have hc := lessBy_cong (p := p) (b := b) o1.1 o2.1
  refine ⟨by simpa using h.len, fun r hr => ?_, fun r hr => ?_, fun r hr => ?_, by simpa using h.ale, h.cle, ?_, fun k hk hak j hj => ?_⟩
  · rcases List.mem_or_eq_of_mem_set hr with hr | rfl
    · exact h.ok r hr
    · exact o3
  · refine Spn.trans (fun e he => ?_) (h.sp1 r hr)
    obtain ⟨q, hq, rfl⟩ := List.mem_map.1 he
    obtain ⟨k, hk, rfl⟩ := List.mem_iff_getElem.1 hq
    have getk : ∀ k, (hk : k < rows.length) → k ≠ i → Spn p ((rows.set i (lessBy p b rows[i] rows[a])).map vec) (vec rows[k]) := fun k hk hki => by
      have : (rows.set i (lessBy p b rows[i] rows[a]))[k]'(by simpa using hk) = rows[k] := by rw [List.getElem_set, if_neg (Ne.symm hki)]
      rw [← this]
      exact Spn.mem (List.mem_map_of_mem (List.getElem_mem _))
    by_cases hki : k = i
    · subst hki
      have h1 : Spn p ((rows.set k (lessBy p b rows[k] rows[a])).map vec) (vec (lessBy p b rows[k] rows[a])) := by
        have : lessBy p b rows[k] rows[a] ∈ rows.set k (lessBy p b rows[k] rows[a]) := List.mem_iff_getElem.2 ⟨k, by simpa using hk, by simp⟩
        exact Spn.mem (List.mem_map_of_mem this)
      have h2 := getk a ha (by omega)
      refine Spn.congr (fun j => ?_) (Spn.add h1 (Spn.smul b h2))
      have := hc j
      dsimp only at this
      rwa [show vec (lessBy p b rows[k] rows[a]) j + b * vec rows[a] j - vec rows[k] j = vec (lessBy p b rows[k] rows[a]) j - (vec rows[k] j - b * vec rows[a] j) by omega]
    · exact getk k hk hki
  · rcases List.mem_or_eq_of_mem_set hr with hr | rfl
    · exact h.sp2 r hr
    · refine Spn.congr (fun j => ?_) (Spn.add (h.sp2 _ (List.getElem_mem hi)) (Spn.smul (-b) (h.sp2 _ (List.getElem_mem ha))))
      have := Int.dvd_neg.2 (hc j)
      dsimp only at this
      rw [Int.neg_mul]
      rwa [show vec rows[i] j + -(b * vec rows[a] j) - vec (lessBy p b rows[i] rows[a]) j = -(vec (lessBy p b rows[i] rows[a]) j - (vec rows[i] j - b * vec rows[a] j)) by omega]
  · obtain ⟨ls, h1, h2, h3, h4⟩ := h.led
    refine ⟨ls, h1, h2, h3, fun k hk hk' => ?_⟩
    rw [List.getElem_set, if_neg (by omega)]
    exact h4 k hk (by simpa using hk')
  · have hk2 : k < rows.length := by simpa using hk
    rw [List.getElem_set]
    split
    · have hv := o3.vec (by omega) j
      have := hc j
      dsimp only at this
      rw [h.zero i hi (by omega) j hj, h.zero a ha (Nat.le_refl _) j hj] at this
      exact dvd_small (by simpa using this) hv.1 hv.2
    · exact h.zero k hk2 hak j hj

theorem Elim.next {p : Int} {n : Nat} {rows0 rows : List (List Int)} {a c : Nat} (h : Elim p n rows0 rows a c) (hp : 1 < p) (hc : c < n) (ha : a < rows.length) (hne : vec rows[a] c ≠ 0) (hz : ∀ (i : Nat) (hi : i < rows.length), a < i → vec rows[i] c = 0) : Elim p n rows0 rows (a + 1) (c + 1) := by
  refine ⟨h.len, h.ok, h.sp1, h.sp2, ha, hc, ?_, fun i hi hai j hj => ?_⟩
  · obtain ⟨ls, h1, h2, h3, h4⟩ := h.led
    refine ⟨ls ++ [c], by simp [h1], ?_, fun m hm => ?_, fun i hi hi' => ?_⟩
    · rw [List.nodup_append]
      exact ⟨h2, by simp, fun x hx y hy => by simp at hy; subst hy; have := h3 x hx; omega⟩
    · rcases List.mem_append.1 hm with hm | hm
      · have := h3 m hm; omega
      · simp at hm; omega
    · by_cases hlt : i < ls.length
      · rw [List.getElem_append_left hlt]
        exact h4 i hlt hi'
      · have hia : i = a := by simp at hi; omega
        subst hia
        have hcl : (ls ++ [c])[i] = c := by rw [List.getElem_append_right (by omega)]; simp
        rw [hcl]
        have hv := (h.ok _ (List.getElem_mem hi')).vec (by omega) c
        refine ⟨fun hd => hne (dvd_small hd hv.1 hv.2), fun j hj => ?_⟩
        rw [h.zero i hi' (Nat.le_refl _) j hj]
        exact Int.dvd_zero p
  · by_cases hjc : j = c
    · subst hjc; exact hz i hi (by omega)
    · exact h.zero i hi (by omega) j (by omega)

end Go.Proofs.YtfjmdhemlfafbaaGreat

namespace Go.Proofs.YtfjmdhemlfafbaaGreat
open Go.RowKit
set_option maxHeartbeats 4000000

section
variable {P : Program} {H : Heap} {e : Env} {dst : Option Tmp} {ty : TypeId} {pos : String} {af : Array Edge} {gd : Option (Nat × Bool)}

end

theorem indexFunc_rows {H : Heap} {f : FuncId} {caps : List D} (l : List (List Int)) (g : List Int → Bool) (hl : l.length ≤ 4611686018427387904) (hg : ∀ x, x ∈ l → PureH Tryz.prog H f (intsD x :: caps) (.bool (g x))) :
    PureH Tryz.prog H 35 [intssD l, .fn f caps] (I (idxD g l)) := by
  refine PureH.of_body Tryz.func35 rfl (by decide) (Nat.le_of_ble_eq_true rfl) fun w0 => ?_
  (repeat (first | refine RO.S ?_ | refine RO.Y ?_ | refine RO.no rfl (by decide) rfl ?_ | refine RO.nil ?_ | refine DW.region ?_ | refine DW.seq ?_ | refine DW.block ?_ | refine DW.skip ?_ | refine DW.exit ?_ | refine DW.condT rfl ?_ | refine DW.condF rfl ?_))
  refine DW.loopI (fun k : Nat => k ≤ l.length ∧ ∀ (j : Nat) (hj : j < l.length), j < k → g l[j] = false) (fun k => [(0, intssD l), (1, .fn f caps), (7, I l.length), (8, I k)]) (fun _ => H) (fun k => l.length - k) 0 ⟨Nat.zero_le _, fun j hj h => by omega⟩ rfl ⟨rfl, rfl, rfl, rfl, trivial⟩ fun k ⟨hk, hk2⟩ => ?_
  (repeat (first | refine RO.S ?_ | refine RO.Y ?_ | refine RO.no rfl (by decide) rfl ?_ | refine RO.nil ?_ | refine DW.region ?_ | refine DW.seq ?_ | refine DW.block ?_ | refine DW.skip ?_ | refine DW.exit ?_ | refine DW.condT rfl ?_ | refine DW.condF rfl ?_))
  refine DW.cond rfl (fun hb => ?_) (fun hb => ?_)
  · have hlt : k < l.length := by have := of_decide_eq_true hb; omega
    (repeat (first | refine RO.S ?_ | refine RO.Y ?_ | refine RO.no rfl (by decide) rfl ?_ | refine RO.nil ?_ | refine DW.region ?_ | refine DW.seq ?_ | refine DW.block ?_ | refine DW.skip ?_ | refine DW.exit ?_ | refine DW.condT rfl ?_ | refine DW.condF rfl ?_))
    refine RO.sta (sta_call rfl rfl (hg _ (List.getElem_mem hlt))) rfl ?_
    (repeat (first | refine RO.S ?_ | refine RO.Y ?_ | refine RO.no rfl (by decide) rfl ?_ | refine RO.nil ?_ | refine DW.region ?_ | refine DW.seq ?_ | refine DW.block ?_ | refine DW.skip ?_ | refine DW.exit ?_ | refine DW.condT rfl ?_ | refine DW.condF rfl ?_))
    refine DW.cond rfl (fun hb => ?_) (fun hb => ?_)
    · (repeat (first | refine RO.S ?_ | refine RO.Y ?_ | refine RO.no rfl (by decide) rfl ?_ | refine RO.nil ?_ | refine DW.region ?_ | refine DW.seq ?_ | refine DW.block ?_ | refine DW.skip ?_ | refine DW.exit ?_ | refine DW.condT rfl ?_ | refine DW.condF rfl ?_))
      rw [idxD_at hlt hk2 hb]
      exact DW.ret ⟨.inl rfl, _, rfl, Over.refl _, .same _⟩
    · (repeat (first | refine RO.S ?_ | refine RO.Y ?_ | refine RO.no rfl (by decide) rfl ?_ | refine RO.nil ?_ | refine DW.region ?_ | refine DW.seq ?_ | refine DW.block ?_ | refine DW.skip ?_ | refine DW.exit ?_ | refine DW.condT rfl ?_ | refine DW.condF rfl ?_))
      refine ⟨k + 1, ⟨by omega, fun j hj hjk => ?_⟩, by dsimp only; omega, rfl, rfl, rfl, rfl, rfl, trivial⟩
      by_cases h : j = k
      · subst h; exact hb
      · exact hk2 j hj (by omega)
  · (repeat (first | refine RO.S ?_ | refine RO.Y ?_ | refine RO.no rfl (by decide) rfl ?_ | refine RO.nil ?_ | refine DW.region ?_ | refine DW.seq ?_ | refine DW.block ?_ | refine DW.skip ?_ | refine DW.exit ?_ | refine DW.condT rfl ?_ | refine DW.condF rfl ?_))
    have hn : ¬ k < l.length := by have := of_decide_eq_false hb; omega
    rw [idxD_none fun j hj => hk2 j hj (by omega)]
    exact DW.ret ⟨.inl rfl, _, rfl, Over.refl _, .same _⟩

theorem containsFunc_rows {H : Heap} {f : FuncId} {caps : List D} (l : List (List Int)) (g : List Int → Bool) (hl : l.length ≤ 4611686018427387904) (hg : ∀ x, x ∈ l → PureH Tryz.prog H f (intsD x :: caps) (.bool (g x))) :
    PureH Tryz.prog H 15 [intssD l, .fn f caps] (.bool (l.any g)) := by
  refine PureH.of_body Tryz.func15 rfl (by decide) (Nat.le_of_ble_eq_true rfl) fun w0 => ?_
  (repeat (first | refine RO.S ?_ | refine RO.Y ?_ | refine RO.no rfl (by decide) rfl ?_ | refine RO.nil ?_ | refine DW.region ?_ | refine DW.seq ?_ | refine DW.block ?_ | refine DW.skip ?_ | refine DW.exit ?_ | refine DW.condT rfl ?_ | refine DW.condF rfl ?_))
  refine RO.sta (sta_call rfl rfl (indexFunc_rows l g hl hg)) rfl ?_
  (repeat (first | refine RO.S ?_ | refine RO.Y ?_ | refine RO.no rfl (by decide) rfl ?_ | refine RO.nil ?_ | refine DW.region ?_ | refine DW.seq ?_ | refine DW.block ?_ | refine DW.skip ?_ | refine DW.exit ?_ | refine DW.condT rfl ?_ | refine DW.condF rfl ?_))
  have h : decide (0 ≤ idxD g l) = l.any g := by
    unfold idxD
    cases hx : l.findIdx? g with
    | none =>
      rw [List.findIdx?_eq_none_iff] at hx
      have : l.any g = false := by rw [List.any_eq_false]; intro x hm; simp [hx x hm]
      rw [this]; rfl
    | some i =>
      rw [List.findIdx?_eq_some_iff_getElem] at hx
      obtain ⟨h1, h2, _⟩ := hx
      have : l.any g = true := List.any_eq_true.2 ⟨_, List.getElem_mem h1, h2⟩
      rw [this]
      show decide (0 ≤ (i : Int)) = true
      exact decide_eq_true (by omega)
  rw [← h]
  exact DW.ret ⟨.inl rfl, _, rfl, Over.refl _, .same _⟩

end Go.Proofs.YtfjmdhemlfafbaaGreat

namespace Go.Proofs.YtfjmdhemlfafbaaGreat
open Go.RowKit

theorem getD_lt {α : Type} {l : List α} {i : Nat} {z : α} (h : i < l.length) : l.getD i z = l[i] := by
  rw [List.getD_eq_getElem?_getD, List.getElem?_eq_getElem h]; rfl

theorem getD_set {α : Type} {l : List α} {i j : Nat} {x z : α} (h : i < l.length) : (l.set i x).getD j z = if i = j then x else l.getD j z := by
  rw [List.getD_eq_getElem?_getD, List.getElem?_set]
  by_cases hij : i = j
  · subst hij; rw [if_pos rfl, if_pos rfl, if_pos h]; rfl
  · rw [if_neg hij, if_neg hij, List.getD_eq_getElem?_getD]

theorem LfP_Lf (φ : List Int → Int) (f g : Pl) : LfP φ f g = Lf (fun e => Lf (shift φ e) g) f := rfl

def Qk (φ : List Int → Int) (j : Nat) (q : Vc) (l : List Vc) : Nat → Int
  | 0 => 0
  | k + 1 => Qk φ j q l k + LfP φ (q.getD k []) ((l.getD k []).getD j [])

theorem Qk_set {φ : List Int → Int} {j : Nat} {q : Vc} {l : List Vc} {i : Nat} {f : Pl} (hi : i < q.length) : ∀ k, Qk φ j (q.set i f) l k = Qk φ j q l k + if i < k then LfP φ f ((l.getD i []).getD j []) - LfP φ (q.getD i []) ((l.getD i []).getD j []) else 0
  | 0 => by simp [Qk]
  | k + 1 => by
    show Qk φ j (q.set i f) l k + LfP φ ((q.set i f).getD k []) _ = Qk φ j q l k + LfP φ (q.getD k []) _ + _
    rw [Qk_set hi k, getD_set hi]
    by_cases hik : i = k
    · subst hik
      rw [if_pos rfl, if_neg (by omega), if_pos (by omega)]; omega
    · rw [if_neg hik]
      by_cases hlt : i < k
      · rw [if_pos hlt, if_pos (by omega)]; omega
      · rw [if_neg hlt, if_neg (by omega)]; omega

theorem Qk_nil (φ : List Int → Int) (j n : Nat) (l : List Vc) : ∀ k, Qk φ j (List.replicate n []) l k = 0
  | 0 => rfl
  | k + 1 => by
    show Qk φ j (List.replicate n []) l k + LfP φ ((List.replicate n []).getD k []) _ = 0
    rw [Qk_nil φ j n l k, show (List.replicate n ([] : Pl)).getD k [] = [] by rw [List.getD_eq_getElem?_getD, List.getElem?_replicate]; split <;> rfl]
    rfl

def DSum (r : Rg) (rank : Nat) (l : List Vc) (v0 : Vc) (s : DS) : Prop :=
  ∀ j, j < rank → ∀ φ : List Int → Int, r.p ∣ Lf φ (v0.getD j []) - (Lf φ (s.v.getD j []) + Lf φ (s.left.getD j []) + Qk φ j s.q l l.length)

theorem DSum.init {r : Rg} {rank : Nat} {l : List Vc} {v : Vc} : DSum r rank l v (divInit rank l v) := fun j hj φ => by
  show r.p ∣ Lf φ (v.getD j []) - (Lf φ (v.getD j []) + Lf φ ((List.replicate rank []).getD j []) + Qk φ j (List.replicate l.length []) l l.length)
  rw [Qk_nil, show (List.replicate rank ([] : Pl)).getD j [] = [] by rw [List.getD_eq_getElem?_getD, List.getElem?_replicate]; split <;> rfl, Lf_nil]
  exact ⟨0, by omega⟩

theorem DSum.stepA {r : Rg} {rank : Nat} {l : List Vc} {v0 : Vc} {s : DS} (h : DInv r rank l s) (hs : DSum r rank l v0 s) {a : Nat} {u : Tm} (ht : topV r s.v = some (a, u)) : DSum r rank l v0 (stepA s a u) := fun j hj φ => by
  have iv := topV_is h.vd ht
  have ha := iv.lt
  have hal : a < s.left.length := by rw [h.llen, ← h.vlen]; exact ha
  obtain ⟨f, hf⟩ := iv.at_
  have hg : s.v.getD a [] = u :: f := by rw [getD_lt ha]; exact hf
  have := hs j hj φ
  show r.p ∣ Lf φ (v0.getD j []) - (Lf φ ((s.v.set a (s.v.getD a []).tail).getD j []) + Lf φ ((s.left.set a (s.left.getD a [] ++ [u])).getD j []) + Qk φ j s.q l l.length)
  rw [getD_set ha, getD_set hal]
  by_cases haj : a = j
  · subst haj
    rw [if_pos rfl, if_pos rfl, hg]
    rw [hg, Lf_cons] at this
    rw [Lf_append, Lf_cons, Lf_nil]
    show r.p ∣ Lf φ (v0.getD a []) - (Lf φ f + _ + _)
    rwa [show Lf φ (v0.getD a []) - (Lf φ f + (Lf φ (s.left.getD a []) + (u.c * φ u.e + 0)) + Qk φ a s.q l l.length) = Lf φ (v0.getD a []) - (u.c * φ u.e + Lf φ f + Lf φ (s.left.getD a []) + Qk φ a s.q l l.length) by omega]
  · rwa [if_neg haj, if_neg haj]

theorem vsumT_getD {r : Rg} {v w : Vc} {j : Nat} (h1 : j < v.length) (h2 : j < w.length) : (vsumT r v w).getD j [] = sumT r.p r.order (v.getD j []) (w.getD j []) := by
  rw [getD_lt h1, getD_lt h2, getD_lt (by simp [vsumT]; omega)]
  simp [vsumT]

theorem DSum.stepB {r : Rg} {rank : Nat} {l : List Vc} {v0 : Vc} {s : DS} (hl : DL r rank l) (h : DInv r rank l s) (hs : DSum r rank l v0 s) {a i : Nat} {u : Tm} (ht : topV r s.v = some (a, u)) (hg : goesT r l a u.e = some i) : DSum r rank l v0 (stepB r l s u i) := fun j hj φ => by
  obtain ⟨n1, n2, hil, w, htd, hgm, hby, tb, me⟩ := stepB_ok hl h ht hg
  obtain ⟨hp, hn3, hn1, hpr, hck⟩ := hl.rg
  have hdl := hl.vecs _ (List.getElem_mem hil)
  have hdlen := hdl.len
  have hsv := h.vlen
  have hiq : i < s.q.length := by rw [h.qlen]; exact hil
  have hjv : j < s.v.length := by omega
  have hjd : j < l[i].length := by omega
  have tn := (negT_ok tb).zero
  have hvj := h.vd.all j hjv
  have hdj := (hdl.vd hn3 hl.rank2).all j hjd
  have := hs j hj φ
  show r.p ∣ Lf φ (v0.getD j []) - (Lf φ ((vsumT r s.v (vbyT r (l.getD i []) (negT r (byAt r l u i)))).getD j []) + Lf φ (s.left.getD j []) + Qk φ j (s.q.set i (sumT r.p r.order (s.q.getD i []) [byAt r l u i])) l l.length)
  rw [hby, Qk_set hiq, if_pos hil, getD_lt hil, vsumT_getD hjv (by simp [vbyT]; omega)]
  have e1 : (vbyT r l[i] (negT r (byOf r u w))).getD j [] = byT r.p l[i][j] (negT r (byOf r u w)) := by
    rw [getD_lt (by simp [vbyT]; omega)]; simp [vbyT]
  rw [e1, getD_lt hjv, getD_lt hjd]
  rw [getD_lt hjv] at this
  have s1 := sumT_L (o := r.order) (show 0 < r.p by omega) φ s.v[j] (byT r.p l[i][j] (negT r (byOf r u w))) (hvj.mono (Int.le_refl _) (by omega : (8000 : Int) ≤ 16000)) (byT_ok (by omega) hpr hdj tn)
  have s2 := byT_L (p := r.p) φ (negT r (byOf r u w)) l[i][j]
  have s3 := sumT_L (o := r.order) (show 0 < r.p by omega) (fun e => Lf (shift φ e) l[i][j]) (s.q.getD i []) [byOf r u w] (h.q _ (by rw [getD_lt hiq]; exact List.getElem_mem hiq)).1 (PB.one tb)
  rw [LfP_Lf, LfP_Lf]
  have s4 : Lf (fun e => Lf (shift φ e) l[i][j]) [byOf r u w] = (byOf r u w).c * Lf (shift φ (byOf r u w).e) l[i][j] := by rw [Lf_cons, Lf_nil]; omega
  rw [s4] at s3
  have s5 : (negT r (byOf r u w)).c * Lf (shift φ (negT r (byOf r u w)).e) l[i][j] = r.p * Lf (shift φ (byOf r u w).e) l[i][j] - (byOf r u w).c * Lf (shift φ (byOf r u w).e) l[i][j] := by
    show (r.p - (byOf r u w).c) * _ = _
    rw [Int.sub_mul]; rfl
  rw [s5] at s2
  generalize Lf φ (sumT r.p r.order s.v[j] (byT r.p l[i][j] (negT r (byOf r u w)))) = x1 at *
  generalize Lf φ (byT r.p l[i][j] (negT r (byOf r u w))) = x2 at *
  generalize Lf (fun e => Lf (shift φ e) l[i][j]) (sumT r.p r.order (s.q.getD i []) [byOf r u w]) = x3 at *
  generalize Lf (fun e => Lf (shift φ e) l[i][j]) (s.q.getD i []) = x4 at *
  generalize (byOf r u w).c * Lf (shift φ (byOf r u w).e) l[i][j] = x5 at *
  generalize Lf (shift φ (byOf r u w).e) l[i][j] = x6 at *
  obtain ⟨k0, k0h⟩ := this
  obtain ⟨k1, k1h⟩ := s1
  obtain ⟨k2, k2h⟩ := s2
  obtain ⟨k3, k3h⟩ := s3
  exact ⟨k0 - k1 - k2 - k3 - x6, by rw [Int.mul_sub, Int.mul_sub, Int.mul_sub, Int.mul_sub]; omega⟩

end Go.Proofs.YtfjmdhemlfafbaaGreat

namespace Go.Proofs.YtfjmdhemlfafbaaGreat
open Go.RowKit
set_option maxHeartbeats 8000000

theorem clone_acc {H : Heap} (l : List Int) (hl : l.length ≤ 1000000000000) : CallD Tryz.prog H 46 [intsD l] fun d H' => Acc H H' d 1 3 (l.map I) ∧ Over H H' := by
  refine CallD.of_body Tryz.func46 rfl (by decide) (Nat.le_of_ble_eq_true rfl) fun w0 => ?_
  (repeat (first | refine RO.S ?_ | refine RO.Y ?_ | refine RO.no rfl (by decide) rfl ?_ | refine RO.nil ?_ | refine DW.region ?_ | refine DW.seq ?_ | refine DW.block ?_ | refine DW.skip ?_ | refine DW.exit ?_ | refine DW.condT rfl ?_ | refine DW.condF rfl ?_))
  refine RO.dyn rfl (d_eqNil rfl fun b hb => ?_)
  (repeat (first | refine RO.S ?_ | refine RO.Y ?_ | refine RO.no rfl (by decide) rfl ?_ | refine RO.nil ?_ | refine DW.region ?_ | refine DW.seq ?_ | refine DW.block ?_ | refine DW.skip ?_ | refine DW.exit ?_ | refine DW.condT rfl ?_ | refine DW.condF rfl ?_))
  refine DW.cond rfl (fun hbt => ?_) (fun hbt => ?_)
  · have hnil : l = [] := by
      cases l with
      | nil => rfl
      | cons x l => rw [hb (by simp)] at hbt; cases hbt
    subst hnil
    (repeat (first | refine RO.S ?_ | refine RO.Y ?_ | refine RO.no rfl (by decide) rfl ?_ | refine RO.nil ?_ | refine DW.region ?_ | refine DW.seq ?_ | refine DW.block ?_ | refine DW.skip ?_ | refine DW.exit ?_ | refine DW.condT rfl ?_ | refine DW.condF rfl ?_))
    exact DW.ret ⟨.inl rfl, _, .nil, _, rfl, fun _ _ h => h, .same _, Acc.nil _ _ _ _, Over.refl _⟩
  · (repeat (first | refine RO.S ?_ | refine RO.Y ?_ | refine RO.no rfl (by decide) rfl ?_ | refine RO.nil ?_ | refine DW.region ?_ | refine DW.seq ?_ | refine DW.block ?_ | refine DW.skip ?_ | refine DW.exit ?_ | refine DW.condT rfl ?_ | refine DW.condF rfl ?_))
    refine RO.dyn rfl (d_append (H0 := H) (l := []) (xs := l.map I) rfl (Acc.nil _ _ _ _) (Over.refl _) rfl (.inl rfl) (uni_I _) (by simp; omega) (by simp; omega) fun d' H' h1 h2 h3 => ?_)
    (repeat (first | refine RO.S ?_ | refine RO.Y ?_ | refine RO.no rfl (by decide) rfl ?_ | refine RO.nil ?_ | refine DW.region ?_ | refine DW.seq ?_ | refine DW.block ?_ | refine DW.skip ?_ | refine DW.exit ?_ | refine DW.condT rfl ?_ | refine DW.condF rfl ?_))
    exact DW.ret ⟨.inl rfl, _, d', H', rfl, fun _ _ h => h, .same _, by simpa using h1, h2⟩

theorem cellsI (l : List Int) : (l.map I).flatMap cellsOf = l.map I := by
  induction l with
  | nil => rfl
  | cons x l ih => simp [cellsOf, ih] 

theorem plus_pure {a b : List Int} (t : Int) (f : Nat) (ha : a.length ≤ 1000000000000) (hb : b.length ≤ 1000000000000) (hf : f ≤ 1000000000000) :
    Pure Tryz.prog 30 [intsD a, intsD b, I t, I f] (intsD (plusT a b t f)) := by
  intro H
  refine PureH.of_body Tryz.func30 rfl (by decide) (Nat.le_of_ble_eq_true rfl) fun w0 => ?_
  (repeat (first | refine RO.Sv ?_ | refine RO.Yv ?_ | refine RO.no rfl (by decide) rfl ?_ | refine RO.nil ?_ | refine DW.region ?_ | refine DW.seq ?_ | refine DW.block ?_ | refine DW.skip ?_ | refine DW.exit ?_ | refine DW.condT rfl ?_ | refine DW.condF rfl ?_))
  refine RO.dyn rfl ((opD_call rfl rfl (clone_acc a ha)).mono fun d H1 ⟨hacc, hov⟩ => ?_)
  (repeat (first | refine RO.Sv ?_ | refine RO.Yv ?_ | refine RO.no rfl (by decide) rfl ?_ | refine RO.nil ?_ | refine DW.region ?_ | refine DW.seq ?_ | refine DW.block ?_ | refine DW.skip ?_ | refine DW.exit ?_ | refine DW.condT rfl ?_ | refine DW.condF rfl ?_))
  refine DW.loopG (fun z : Nat × Heap × D => z.1 ≤ b.length ∧ Acc H z.2.1 z.2.2 1 3 ((plusU a b t f z.1).map I) ∧ Over H z.2.1) (fun z => [(2, I t), (3, I f), (9, z.2.2), (14, intsD b), (15, I b.length), (16, I z.1)]) (fun z => z.2.1) (fun z => b.length - z.1) (0, H1, d)
    ⟨Nat.zero_le _, hacc, hov⟩ (Heap.sub_refl _) (by repeat first | exact trivial | refine HasG.one rfl ?_ | refine HasN.one rfl ?_) fun ⟨i, Hi, di⟩ ⟨hi, hai, hoi⟩ => ?_
  dsimp only at hi hai hoi ⊢
  have hli := plusU_len a b t f i
  have hlb : (plusU a b t f i).length ≤ 2001000000000 := by rw [hli]; split <;> omega
  (repeat (first | refine RO.Sv ?_ | refine RO.Yv ?_ | refine RO.no rfl (by decide) rfl ?_ | refine RO.nil ?_ | refine DW.region ?_ | refine DW.seq ?_ | refine DW.block ?_ | refine DW.skip ?_ | refine DW.exit ?_ | refine DW.condT rfl ?_ | refine DW.condF rfl ?_))
  refine DW.cond rfl (fun hb => ?_) (fun hb => ?_)
  · have hlt : i < b.length := by have := of_decide_eq_true hb; omega
    clear hb
    (repeat (first | refine RO.Sv ?_ | refine RO.Yv ?_ | refine RO.no rfl (by decide) rfl ?_ | refine RO.nil ?_ | refine DW.region ?_ | refine DW.seq ?_ | refine DW.block ?_ | refine DW.skip ?_ | refine DW.exit ?_ | refine DW.condT rfl ?_ | refine DW.condF rfl ?_))
    refine DW.loopG (fun z : Nat × Heap × D => (plusU a b t f i).length + z.1 ≤ max (plusU a b t f i).length (i + f + 1) ∧ Acc H z.2.1 z.2.2 1 3 ((plusU a b t f i ++ List.replicate z.1 0).map I) ∧ Over H z.2.1) (fun z => [(2, I t), (3, I f), (9, z.2.2), (10, I i), (11, I b[i]), (14, intsD b), (15, I b.length), (16, I i)]) (fun z => z.2.1) (fun z => i + f + 1 - z.1) (0, Hi, di)
      ⟨by dsimp only; omega, by simpa using hai, hoi⟩ (Heap.sub_refl _) (by repeat first | exact trivial | refine HasG.one rfl ?_ | refine HasN.one rfl ?_) fun ⟨m, Hm, dm⟩ ⟨hm, ham, hom⟩ => ?_
    dsimp only at hm ham hom ⊢
    have hlm := ham.len'
    rw [List.length_map, List.length_append, List.length_replicate] at hlm
    (repeat (first | refine RO.Sv ?_ | refine RO.Yv ?_ | refine RO.no rfl (by decide) rfl ?_ | refine RO.nil ?_ | refine DW.region ?_ | refine DW.seq ?_ | refine DW.block ?_ | refine DW.skip ?_ | refine DW.exit ?_ | refine DW.condT rfl ?_ | refine DW.condF rfl ?_))
    refine RO.sta (s_len rfl hlm) rfl ?_
    (repeat (first | refine RO.Sv ?_ | refine RO.Yv ?_ | refine RO.no rfl (by decide) rfl ?_ | refine RO.nil ?_ | refine DW.region ?_ | refine DW.seq ?_ | refine DW.block ?_ | refine DW.skip ?_ | refine DW.exit ?_ | refine DW.condT rfl ?_ | refine DW.condF rfl ?_))
    refine DW.cond rfl (fun hb => ?_) (fun hb => ?_)
    · have hlt2 : (plusU a b t f i).length + m ≤ i + f := by have := of_decide_eq_true hb; omega
      clear hb
      (repeat (first | refine RO.Sv ?_ | refine RO.Yv ?_ | refine RO.no rfl (by decide) rfl ?_ | refine RO.nil ?_ | refine DW.region ?_ | refine DW.seq ?_ | refine DW.block ?_ | refine DW.skip ?_ | refine DW.exit ?_ | refine DW.condT rfl ?_ | refine DW.condF rfl ?_))
      refine RO.dyn rfl (d_append (H0 := H) (l := (plusU a b t f i ++ List.replicate m 0).map I) (xs := [I 0]) rfl ham hom rfl (.inl rfl) (uni_I [0]) (by simp; omega) (by simp; omega) fun d' H' q1 q2 q3 => ?_)
      (repeat (first | refine RO.Sv ?_ | refine RO.Yv ?_ | refine RO.no rfl (by decide) rfl ?_ | refine RO.nil ?_ | refine DW.region ?_ | refine DW.seq ?_ | refine DW.block ?_ | refine DW.skip ?_ | refine DW.exit ?_ | refine DW.condT rfl ?_ | refine DW.condF rfl ?_))
      refine ⟨(m + 1, H', d'), ⟨by dsimp only; omega, ?_, q2⟩, by dsimp only; omega, Heap.sub_refl _, (by repeat first | exact trivial | refine HasG.one rfl ?_ | refine HasN.one rfl ?_)⟩
      dsimp only
      rw [List.replicate_succ', ← List.append_assoc, List.map_append]
      exact q1
    · have hge : ¬ (plusU a b t f i).length + m ≤ i + f := by have := of_decide_eq_false hb; omega
      clear hb
      have hpad : plusU a b t f i ++ List.replicate m 0 = padT (plusU a b t f i) (i + f + 1) := by
        unfold padT
        rw [show m = i + f + 1 - (plusU a b t f i).length by omega]
      rw [hpad] at ham
      have hpl := padT_len (plusU a b t f i) (i + f + 1)
      have hpg := padT_get (plusU a b t f i) (i + f + 1) (i + f)
      have hplt : i + f < (padT (plusU a b t f i) (i + f + 1)).length := by omega
      generalize hO : padT (plusU a b t f i) (i + f + 1) = O at *
      obtain ⟨bb, hbb, rfl, hHb⟩ := ham.ref (by rw [List.length_map]; omega)
      rw [cellsI] at hHb
      have hx1 : (O.map I)[i + f]? = some (I ((plusU a b t f i).getD (i + f) 0)) := by
        rw [← hpg, List.getElem?_map, List.getElem?_eq_getElem hplt, getD_lt hplt]
        rfl
      have hci : ((i : Int) + f) = ((i + f : Nat) : Int) := by omega
      (repeat (first | refine RO.Sv ?_ | refine RO.Yv ?_ | refine RO.no rfl (by decide) rfl ?_ | refine RO.nil ?_ | refine DW.region ?_ | refine DW.seq ?_ | refine DW.block ?_ | refine DW.skip ?_ | refine DW.exit ?_ | refine DW.condT rfl ?_ | refine DW.condF rfl ?_))
      rw [hci]
      refine RO.sta (s_indexRef (i := i + f) rfl rfl (by rw [List.length_map]; exact hplt)) rfl ?_
      refine RO.sta (s_loadMut (d := I ((plusU a b t f i).getD (i + f) 0)) rfl hHb (by rw [show 0 + (i + f) * 1 = i + f by omega]; exact hx1)) rfl ?_
      (repeat (first | refine RO.Sv ?_ | refine RO.Yv ?_ | refine RO.no rfl (by decide) rfl ?_ | refine RO.nil ?_ | refine DW.region ?_ | refine DW.seq ?_ | refine DW.block ?_ | refine DW.skip ?_ | refine DW.exit ?_ | refine DW.condT rfl ?_ | refine DW.condF rfl ?_))
      refine RO.sta (s_mulW rfl rfl) rfl ?_
      refine RO.sta (s_addW rfl rfl) rfl ?_
      refine RO.sta (s_indexRef (i := i + f) rfl rfl (by rw [List.length_map]; exact hplt)) rfl ?_
      refine RO.dyn rfl (d_store (k := 1) rfl rfl rfl hHb (by rw [List.length_map]; show 0 + (i + f) * 1 + 1 ≤ O.length; omega) (by simp [cellsOf, D.isCell]) ?_)
      (repeat (first | refine RO.Sv ?_ | refine RO.Yv ?_ | refine RO.no rfl (by decide) rfl ?_ | refine RO.nil ?_ | refine DW.region ?_ | refine DW.seq ?_ | refine DW.block ?_ | refine DW.skip ?_ | refine DW.exit ?_ | refine DW.condT rfl ?_ | refine DW.condF rfl ?_))
      have hbi : b.getD i 0 = b[i] := getD_lt hlt
      have hU : plusU a b t f (i + 1) = O.set (i + f) (wrap64 ((plusU a b t f i).getD (i + f) 0 + wrap64 (t * b[i]))) := by
        show (padT (plusU a b t f i) (i + f + 1)).set (i + f) (wrap64 ((plusU a b t f i).getD (i + f) 0 + wrap64 (t * b.getD i 0))) = _
        rw [hO, hbi]
      have hset : setMany (O.map I) (0 + (i + f) * 1) (cellsOf (I (wrap64 ((plusU a b t f i).getD (i + f) 0 + wrap64 (t * b[i]))))) = (plusU a b t f (i + 1)).map I := by
        rw [show 0 + (i + f) * 1 = i + f by omega, hU, List.map_set]
        exact setManyD (O.map I) (i + f) (I _) rfl (by rw [List.length_map]; exact hplt)
      have hlU : (plusU a b t f (i + 1)).length = O.length := by
        rw [hU, List.length_set]
      refine ⟨(i + 1, Hm.set bb (3, (plusU a b t f (i + 1)).map I), .ref bb 0 (O.map I).length 1), ⟨hlt, ⟨uni_I _, .inr ⟨bb, hbb, by dsimp only; rw [List.length_map, List.length_map, hlU], by dsimp only; rw [Heap.set_self, cellsI]⟩⟩, hom.set hbb⟩, by dsimp only; omega, by dsimp only; rw [← hset]; exact Heap.sub_refl _, (by repeat first | exact trivial | refine HasG.one rfl ?_ | refine HasN.one rfl ?_)⟩
  · have hie : i = b.length := by have := of_decide_eq_false hb; omega
    subst hie
    clear hb
    (repeat (first | refine RO.Sv ?_ | refine RO.Yv ?_ | refine RO.no rfl (by decide) rfl ?_ | refine RO.nil ?_ | refine DW.region ?_ | refine DW.seq ?_ | refine DW.block ?_ | refine DW.skip ?_ | refine DW.exit ?_ | refine DW.condT rfl ?_ | refine DW.condF rfl ?_))
    exact DW.ret ⟨.inl rfl, _, rfl, hoi, hai.done⟩

end Go.Proofs.YtfjmdhemlfafbaaGreat

namespace Go.Proofs.YtfjmdhemlfafbaaGreat
open Go.RowKit
set_option maxHeartbeats 4000000

theorem CheckRing_pure (r : Rg) : Pure Tryz.prog 54 [rgD r] (I (ringCk r)) := by
  intro H
  refine PureH.of_body Tryz.func54 rfl (by decide) (Nat.le_of_ble_eq_true rfl) fun w0 => ?_
  (repeat (first | refine RO.S ?_ | refine RO.Y ?_ | refine RO.no rfl (by decide) rfl ?_ | refine RO.nil ?_ | refine DW.region ?_ | refine DW.seq ?_ | refine DW.block ?_ | refine DW.skip ?_ | refine DW.exit ?_ | refine DW.condT rfl ?_ | refine DW.condF rfl ?_))
  refine RO.sta (sta_call rfl rfl (checkPrime_pure _ _)) rfl ?_
  (repeat (first | refine RO.S ?_ | refine RO.Y ?_ | refine RO.no rfl (by decide) rfl ?_ | refine RO.nil ?_ | refine DW.region ?_ | refine DW.seq ?_ | refine DW.block ?_ | refine DW.skip ?_ | refine DW.exit ?_ | refine DW.condT rfl ?_ | refine DW.condF rfl ?_))
  refine DW.cond rfl (fun hb => ?_) (fun hb => ?_)
  · have h : ¬ ckP r.p = 0 := by simpa using hb
    have : ringCk r = ckP r.p := by unfold ringCk; rw [if_neg h]
    rw [this]
    (repeat (first | refine RO.S ?_ | refine RO.Y ?_ | refine RO.no rfl (by decide) rfl ?_ | refine RO.nil ?_ | refine DW.region ?_ | refine DW.seq ?_ | refine DW.block ?_ | refine DW.skip ?_ | refine DW.exit ?_ | refine DW.condT rfl ?_ | refine DW.condF rfl ?_))
    exact DW.ret ⟨.inl rfl, _, rfl, Over.refl _, .same _⟩
  · have h : ckP r.p = 0 := by simpa using hb
    (repeat (first | refine RO.S ?_ | refine RO.Y ?_ | refine RO.no rfl (by decide) rfl ?_ | refine RO.nil ?_ | refine DW.region ?_ | refine DW.seq ?_ | refine DW.block ?_ | refine DW.skip ?_ | refine DW.exit ?_ | refine DW.condT rfl ?_ | refine DW.condF rfl ?_))
    refine RO.sta (sta_call rfl rfl (between_pure _ _ _ _)) rfl ?_
    (repeat (first | refine RO.S ?_ | refine RO.Y ?_ | refine RO.no rfl (by decide) rfl ?_ | refine RO.nil ?_ | refine DW.region ?_ | refine DW.seq ?_ | refine DW.block ?_ | refine DW.skip ?_ | refine DW.exit ?_ | refine DW.condT rfl ?_ | refine DW.condF rfl ?_))
    refine DW.cond rfl (fun hb => ?_) (fun hb => ?_)
    · have : ringCk r = 3 := ringCk_3 h (by simp at hb; omega)
      rw [this]
      (repeat (first | refine RO.S ?_ | refine RO.Y ?_ | refine RO.no rfl (by decide) rfl ?_ | refine RO.nil ?_ | refine DW.region ?_ | refine DW.seq ?_ | refine DW.block ?_ | refine DW.skip ?_ | refine DW.exit ?_ | refine DW.condT rfl ?_ | refine DW.condF rfl ?_))
      exact DW.ret ⟨.inl rfl, _, rfl, Over.refl _, .same _⟩
    · have hn : 1 ≤ r.n ∧ r.n ≤ 3 := by simp at hb; omega
      (repeat (first | refine RO.S ?_ | refine RO.Y ?_ | refine RO.no rfl (by decide) rfl ?_ | refine RO.nil ?_ | refine DW.region ?_ | refine DW.seq ?_ | refine DW.block ?_ | refine DW.skip ?_ | refine DW.exit ?_ | refine DW.condT rfl ?_ | refine DW.condF rfl ?_))
      refine RO.sta (sta_call rfl rfl (between_pure _ _ _ _)) rfl ?_
      (repeat (first | refine RO.S ?_ | refine RO.Y ?_ | refine RO.no rfl (by decide) rfl ?_ | refine RO.nil ?_ | refine DW.region ?_ | refine DW.seq ?_ | refine DW.block ?_ | refine DW.skip ?_ | refine DW.exit ?_ | refine DW.condT rfl ?_ | refine DW.condF rfl ?_))
      cases hc : (decide (1 ≤ r.order) && decide (r.order ≤ 2))
      · rw [ringCk_6 h hn (by simp at hc; omega)]
        (repeat (first | refine RO.S ?_ | refine RO.Y ?_ | refine RO.no rfl (by decide) rfl ?_ | refine RO.nil ?_ | refine DW.region ?_ | refine DW.seq ?_ | refine DW.block ?_ | refine DW.skip ?_ | refine DW.exit ?_ | refine DW.condT rfl ?_ | refine DW.condF rfl ?_))
        exact DW.ret ⟨.inl rfl, _, rfl, Over.refl _, .same _⟩
      · (repeat (first | refine RO.S ?_ | refine RO.Y ?_ | refine RO.no rfl (by decide) rfl ?_ | refine RO.nil ?_ | refine DW.region ?_ | refine DW.seq ?_ | refine DW.block ?_ | refine DW.skip ?_ | refine DW.exit ?_ | refine DW.condT rfl ?_ | refine DW.condF rfl ?_))
        refine RO.yes rfl rfl (OpD.of_sta (sta_call rfl rfl (between_pure _ _ _ _)) ?_)
        (repeat (first | refine RO.S ?_ | refine RO.Y ?_ | refine RO.no rfl (by decide) rfl ?_ | refine RO.nil ?_ | refine DW.region ?_ | refine DW.seq ?_ | refine DW.block ?_ | refine DW.skip ?_ | refine DW.exit ?_ | refine DW.condT rfl ?_ | refine DW.condF rfl ?_))
        refine DW.cond rfl (fun hb => ?_) (fun hb => ?_)
        · rw [ringCk_6 h hn (by simp at hc hb; omega)]
          (repeat (first | refine RO.S ?_ | refine RO.Y ?_ | refine RO.no rfl (by decide) rfl ?_ | refine RO.nil ?_ | refine DW.region ?_ | refine DW.seq ?_ | refine DW.block ?_ | refine DW.skip ?_ | refine DW.exit ?_ | refine DW.condT rfl ?_ | refine DW.condF rfl ?_))
          exact DW.ret ⟨.inl rfl, _, rfl, Over.refl _, .same _⟩
        · rw [ringCk_0 h hn (by simp at hc hb; omega)]
          (repeat (first | refine RO.S ?_ | refine RO.Y ?_ | refine RO.no rfl (by decide) rfl ?_ | refine RO.nil ?_ | refine DW.region ?_ | refine DW.seq ?_ | refine DW.block ?_ | refine DW.skip ?_ | refine DW.exit ?_ | refine DW.condT rfl ?_ | refine DW.condF rfl ?_))
          exact DW.ret ⟨.inl rfl, _, rfl, Over.refl _, .same _⟩

theorem DegreeOf_pure {e : List Int} (h : MOk e) : Pure Tryz.prog 38 [intsD e] (I e.sum) := by
  intro H
  refine PureH.of_body Tryz.func38 rfl (by decide) (Nat.le_of_ble_eq_true rfl) fun w0 => ?_
  (repeat (first | refine RO.S ?_ | refine RO.Y ?_ | refine RO.no rfl (by decide) rfl ?_ | refine RO.nil ?_ | refine DW.region ?_ | refine DW.seq ?_ | refine DW.block ?_ | refine DW.skip ?_ | refine DW.exit ?_ | refine DW.condT rfl ?_ | refine DW.condF rfl ?_))
  refine DW.loopI (fun k : Nat => k ≤ e.length) (fun k => [(0, intsD e), (4, I k), (3, I (e.take k).sum)]) (fun _ => H) (fun k => e.length - k) 0 (Nat.zero_le _) rfl ⟨rfl, rfl, rfl, trivial⟩ fun k hk => ?_
  have hl := h.len
  have hs := (h.take k).sum
  (repeat (first | refine RO.S ?_ | refine RO.Y ?_ | refine RO.no rfl (by decide) rfl ?_ | refine RO.nil ?_ | refine DW.region ?_ | refine DW.seq ?_ | refine DW.block ?_ | refine DW.skip ?_ | refine DW.exit ?_ | refine DW.condT rfl ?_ | refine DW.condF rfl ?_))
  refine DW.cond rfl (fun hb => ?_) (fun hb => ?_)
  · have hlt : k < e.length := by have := of_decide_eq_true hb; omega
    have hx := h.at hlt
    (repeat (first | refine RO.S ?_ | refine RO.Y ?_ | refine RO.no rfl (by decide) rfl ?_ | refine RO.nil ?_ | refine DW.region ?_ | refine DW.seq ?_ | refine DW.block ?_ | refine DW.skip ?_ | refine DW.exit ?_ | refine DW.condT rfl ?_ | refine DW.condF rfl ?_))
    rw [← sum_take_succ e hlt]
    exact ⟨k + 1, hlt, by dsimp only; omega, rfl, rfl, rfl, rfl, trivial⟩
  · have hge : k = e.length := by have := of_decide_eq_false hb; omega
    subst hge
    (repeat (first | refine RO.S ?_ | refine RO.Y ?_ | refine RO.no rfl (by decide) rfl ?_ | refine RO.nil ?_ | refine DW.region ?_ | refine DW.seq ?_ | refine DW.block ?_ | refine DW.skip ?_ | refine DW.exit ?_ | refine DW.condT rfl ?_ | refine DW.condF rfl ?_))
    rw [List.take_length]
    exact DW.ret ⟨.inl rfl, _, rfl, Over.refl _, .same _⟩

theorem CheckMono_pure (r : Rg) (e : List Int) (hr : r.n ≤ 3) : Pure Tryz.prog 96 [rgD r, intsD e] (I (monoCk r e)) := by
  intro H
  refine PureH.of_body Tryz.func96 rfl (by decide) (Nat.le_of_ble_eq_true rfl) fun w0 => ?_
  (repeat (first | refine RO.S ?_ | refine RO.Y ?_ | refine RO.no rfl (by decide) rfl ?_ | refine RO.nil ?_ | refine DW.region ?_ | refine DW.seq ?_ | refine DW.block ?_ | refine DW.skip ?_ | refine DW.exit ?_ | refine DW.condT rfl ?_ | refine DW.condF rfl ?_))
  refine DW.cond rfl (fun hb => ?_) (fun hb => ?_)
  · have h : ¬ (e.length : Int) = r.n := by simp at hb; exact hb
    have : monoCk r e = 1 := by unfold monoCk; rw [if_neg h]
    rw [this]
    (repeat (first | refine RO.S ?_ | refine RO.Y ?_ | refine RO.no rfl (by decide) rfl ?_ | refine RO.nil ?_ | refine DW.region ?_ | refine DW.seq ?_ | refine DW.block ?_ | refine DW.skip ?_ | refine DW.exit ?_ | refine DW.condT rfl ?_ | refine DW.condF rfl ?_))
    exact DW.ret ⟨.inl rfl, _, rfl, Over.refl _, .same _⟩
  · have h : (e.length : Int) = r.n := by simp at hb; exact hb
    have hl : e.length ≤ 3 := by omega
    (repeat (first | refine RO.S ?_ | refine RO.Y ?_ | refine RO.no rfl (by decide) rfl ?_ | refine RO.nil ?_ | refine DW.region ?_ | refine DW.seq ?_ | refine DW.block ?_ | refine DW.skip ?_ | refine DW.exit ?_ | refine DW.condT rfl ?_ | refine DW.condF rfl ?_))
    refine DW.loopI (fun k : Nat => k ≤ e.length ∧ (e.take k).all inE = true) (fun k => [(1, intsD e), (5, I k)]) (fun _ => H) (fun k => e.length - k) 0 ⟨Nat.zero_le _, rfl⟩ rfl ⟨rfl, rfl, trivial⟩ fun k ⟨hk, ha⟩ => ?_
    (repeat (first | refine RO.S ?_ | refine RO.Y ?_ | refine RO.no rfl (by decide) rfl ?_ | refine RO.nil ?_ | refine DW.region ?_ | refine DW.seq ?_ | refine DW.block ?_ | refine DW.skip ?_ | refine DW.exit ?_ | refine DW.condT rfl ?_ | refine DW.condF rfl ?_))
    refine DW.cond rfl (fun hb => ?_) (fun hb => ?_)
    · have hlt : k < e.length := by have := of_decide_eq_true hb; omega
      (repeat (first | refine RO.S ?_ | refine RO.Y ?_ | refine RO.no rfl (by decide) rfl ?_ | refine RO.nil ?_ | refine DW.region ?_ | refine DW.seq ?_ | refine DW.block ?_ | refine DW.skip ?_ | refine DW.exit ?_ | refine DW.condT rfl ?_ | refine DW.condF rfl ?_))
      refine RO.sta (sta_call rfl rfl (between_pure _ _ _ _)) rfl ?_
      (repeat (first | refine RO.S ?_ | refine RO.Y ?_ | refine RO.no rfl (by decide) rfl ?_ | refine RO.nil ?_ | refine DW.region ?_ | refine DW.seq ?_ | refine DW.block ?_ | refine DW.skip ?_ | refine DW.exit ?_ | refine DW.condT rfl ?_ | refine DW.condF rfl ?_))
      refine DW.cond rfl (fun hb => ?_) (fun hb => ?_)
      · have hc1 : inE e[k] = false := by simp [inE]; simp at hb; omega
        have : monoCk r e = 3 := by
          unfold monoCk
          rw [if_pos h, if_neg]
          intro hh
          simp only [Bool.and_eq_true] at hh
          have := List.all_eq_true.1 hh.1 _ (List.getElem_mem hlt)
          rw [hc1] at this; cases this
        rw [this]
        (repeat (first | refine RO.S ?_ | refine RO.Y ?_ | refine RO.no rfl (by decide) rfl ?_ | refine RO.nil ?_ | refine DW.region ?_ | refine DW.seq ?_ | refine DW.block ?_ | refine DW.skip ?_ | refine DW.exit ?_ | refine DW.condT rfl ?_ | refine DW.condF rfl ?_))
        exact DW.ret ⟨.inl rfl, _, rfl, Over.refl _, .same _⟩
      · have hc1 : inE e[k] = true := by simpa [inE] using hb
        (repeat (first | refine RO.S ?_ | refine RO.Y ?_ | refine RO.no rfl (by decide) rfl ?_ | refine RO.nil ?_ | refine DW.region ?_ | refine DW.seq ?_ | refine DW.block ?_ | refine DW.skip ?_ | refine DW.exit ?_ | refine DW.condT rfl ?_ | refine DW.condF rfl ?_))
        refine ⟨k + 1, ⟨hlt, ?_⟩, by dsimp only; omega, rfl, rfl, rfl, trivial⟩
        rw [List.take_succ_eq_append_getElem hlt, List.all_append, ha]
        simp [hc1]
    · have hge : k = e.length := by have := of_decide_eq_false hb; omega
      subst hge
      rw [List.take_length] at ha
      have hok : MOk e := ⟨hl, fun x hx => by have := inE_iff.1 (List.all_eq_true.1 ha x hx); omega⟩
      (repeat (first | refine RO.S ?_ | refine RO.Y ?_ | refine RO.no rfl (by decide) rfl ?_ | refine RO.nil ?_ | refine DW.region ?_ | refine DW.seq ?_ | refine DW.block ?_ | refine DW.skip ?_ | refine DW.exit ?_ | refine DW.condT rfl ?_ | refine DW.condF rfl ?_))
      refine RO.sta (sta_call rfl rfl (DegreeOf_pure hok _)) rfl ?_
      (repeat (first | refine RO.S ?_ | refine RO.Y ?_ | refine RO.no rfl (by decide) rfl ?_ | refine RO.nil ?_ | refine DW.region ?_ | refine DW.seq ?_ | refine DW.block ?_ | refine DW.skip ?_ | refine DW.exit ?_ | refine DW.condT rfl ?_ | refine DW.condF rfl ?_))
      refine DW.cond rfl (fun hb => ?_) (fun hb => ?_)
      · have : monoCk r e = 3 := by
          unfold monoCk
          rw [if_pos h, if_neg]
          rw [ha]; simp at hb ⊢; exact hb
        rw [this]
        (repeat (first | refine RO.S ?_ | refine RO.Y ?_ | refine RO.no rfl (by decide) rfl ?_ | refine RO.nil ?_ | refine DW.region ?_ | refine DW.seq ?_ | refine DW.block ?_ | refine DW.skip ?_ | refine DW.exit ?_ | refine DW.condT rfl ?_ | refine DW.condF rfl ?_))
        exact DW.ret ⟨.inl rfl, _, rfl, Over.refl _, .same _⟩
      · have : monoCk r e = 0 := by
          unfold monoCk
          rw [if_pos h, if_pos]
          rw [ha]; simp at hb ⊢; exact hb
        rw [this]
        (repeat (first | refine RO.S ?_ | refine RO.Y ?_ | refine RO.no rfl (by decide) rfl ?_ | refine RO.nil ?_ | refine DW.region ?_ | refine DW.seq ?_ | refine DW.block ?_ | refine DW.skip ?_ | refine DW.exit ?_ | refine DW.condT rfl ?_ | refine DW.condF rfl ?_))
        exact DW.ret ⟨.inl rfl, _, rfl, Over.refl _, .same _⟩

theorem SameInts_pure (a b : List Int) (hl : a.length ≤ 1000000000000000000) : Pure Tryz.prog 26 [intsD a, intsD b] (.bool (a == b)) := by
  intro H
  refine PureH.of_body Tryz.func26 rfl (by decide) (Nat.le_of_ble_eq_true rfl) fun w0 => ?_
  (repeat (first | refine RO.S ?_ | refine RO.Y ?_ | refine RO.no rfl (by decide) rfl ?_ | refine RO.nil ?_ | refine DW.region ?_ | refine DW.seq ?_ | refine DW.block ?_ | refine DW.skip ?_ | refine DW.exit ?_ | refine DW.condT rfl ?_ | refine DW.condF rfl ?_))
  refine DW.cond rfl (fun hb => ?_) (fun hb => ?_)
  · have h : a.length ≠ b.length := by simp at hb; omega
    have : (a == b) = false := by
      rw [beq_eq_false_iff_ne]
      intro hh
      rw [hh] at h
      exact h rfl
    rw [this]
    (repeat (first | refine RO.S ?_ | refine RO.Y ?_ | refine RO.no rfl (by decide) rfl ?_ | refine RO.nil ?_ | refine DW.region ?_ | refine DW.seq ?_ | refine DW.block ?_ | refine DW.skip ?_ | refine DW.exit ?_ | refine DW.condT rfl ?_ | refine DW.condF rfl ?_))
    exact DW.ret ⟨.inl rfl, _, rfl, Over.refl _, .same _⟩
  · have h : a.length = b.length := by simp at hb; omega
    (repeat (first | refine RO.S ?_ | refine RO.Y ?_ | refine RO.no rfl (by decide) rfl ?_ | refine RO.nil ?_ | refine DW.region ?_ | refine DW.seq ?_ | refine DW.block ?_ | refine DW.skip ?_ | refine DW.exit ?_ | refine DW.condT rfl ?_ | refine DW.condF rfl ?_))
    refine DW.loopI (fun k : Nat => k ≤ a.length ∧ a.take k = b.take k) (fun k => [(0, intsD a), (1, intsD b), (5, I k)]) (fun _ => H) (fun k => a.length - k) 0 ⟨Nat.zero_le _, rfl⟩ rfl ⟨rfl, rfl, rfl, trivial⟩ fun k ⟨hk, hg⟩ => ?_
    (repeat (first | refine RO.S ?_ | refine RO.Y ?_ | refine RO.no rfl (by decide) rfl ?_ | refine RO.nil ?_ | refine DW.region ?_ | refine DW.seq ?_ | refine DW.block ?_ | refine DW.skip ?_ | refine DW.exit ?_ | refine DW.condT rfl ?_ | refine DW.condF rfl ?_))
    refine DW.cond rfl (fun hb => ?_) (fun hb => ?_)
    · have hlt : k < a.length := by have := of_decide_eq_true hb; omega
      have hlt2 : k < b.length := by omega
      (repeat (first | refine RO.S ?_ | refine RO.Y ?_ | refine RO.no rfl (by decide) rfl ?_ | refine RO.nil ?_ | refine DW.region ?_ | refine DW.seq ?_ | refine DW.block ?_ | refine DW.skip ?_ | refine DW.exit ?_ | refine DW.condT rfl ?_ | refine DW.condF rfl ?_))
      refine DW.drawS 9 Tryz.mixed (by kernel_rfl) (by decide) ?_
      dsimp only [List.take, List.drop]
      (repeat (first | refine RS.S ?_ | refine RS.Y ?_ | refine RS.no rfl (by decide) rfl ?_ | refine RS.nil ?_))
      (repeat (first | refine RO.S ?_ | refine RO.Y ?_ | refine RO.no rfl (by decide) rfl ?_ | refine RO.nil ?_ | refine DW.region ?_ | refine DW.seq ?_ | refine DW.block ?_ | refine DW.skip ?_ | refine DW.exit ?_ | refine DW.condT rfl ?_ | refine DW.condF rfl ?_))
      refine DW.cond rfl (fun hb => ?_) (fun hb => ?_)
      · have hc : a[k] ≠ b[k] := by simpa using hb
        have : (a == b) = false := by
          rw [beq_eq_false_iff_ne]
          intro hh
          subst hh
          exact hc rfl
        rw [this]
        (repeat (first | refine RO.S ?_ | refine RO.Y ?_ | refine RO.no rfl (by decide) rfl ?_ | refine RO.nil ?_ | refine DW.region ?_ | refine DW.seq ?_ | refine DW.block ?_ | refine DW.skip ?_ | refine DW.exit ?_ | refine DW.condT rfl ?_ | refine DW.condF rfl ?_))
        exact DW.ret ⟨.inl rfl, _, rfl, Over.refl _, .same _⟩
      · have hc : a[k] = b[k] := by simpa using hb
        (repeat (first | refine RO.S ?_ | refine RO.Y ?_ | refine RO.no rfl (by decide) rfl ?_ | refine RO.nil ?_ | refine DW.region ?_ | refine DW.seq ?_ | refine DW.block ?_ | refine DW.skip ?_ | refine DW.exit ?_ | refine DW.condT rfl ?_ | refine DW.condF rfl ?_))
        refine ⟨k + 1, ⟨hlt, ?_⟩, by dsimp only; omega, rfl, rfl, rfl, rfl, trivial⟩
        rw [List.take_succ_eq_append_getElem hlt, List.take_succ_eq_append_getElem hlt2, hg, hc]
    · have hge : k = a.length := by have := of_decide_eq_false hb; omega
      subst hge
      rw [List.take_length, h, List.take_length] at hg
      have : (a == b) = true := by rw [hg]; simp
      rw [this]
      (repeat (first | refine RO.S ?_ | refine RO.Y ?_ | refine RO.no rfl (by decide) rfl ?_ | refine RO.nil ?_ | refine DW.region ?_ | refine DW.seq ?_ | refine DW.block ?_ | refine DW.skip ?_ | refine DW.exit ?_ | refine DW.condT rfl ?_ | refine DW.condF rfl ?_))
      exact DW.ret ⟨.inl rfl, _, rfl, Over.refl _, .same _⟩

end Go.Proofs.YtfjmdhemlfafbaaGreat

namespace Go.Proofs.YtfjmdhemlfafbaaGreat
open Go.RowKit
set_option maxHeartbeats 4000000

end Go.Proofs.YtfjmdhemlfafbaaGreat
