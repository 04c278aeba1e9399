/-
  DivideHangs holds: whatever it is handed, the law answers true, and its arguments read as before. No condition.
-/
import Derived.Test.YtblileclefbklaaKDh23
import Derived.Test.YtblileclefbklaaKDh20
import Derived.Test.YtblileclefbklaaKDh7

namespace Go.Proofs.Ytblileclefbklaa
open Go.RowKit
set_option linter.unusedVariables false
set_option linter.unusedSimpArgs false
set_option maxHeartbeats 8000000

theorem combT_mok {r : Rg} {rank : Int} {c : Vc} {l : List Vc} (h : CombOk r rank c l) : r.n.toNat ≤ 3 ∧ VB r r.n.toNat 400 240000000 (combT r rank c l) ∧ (combT r rank c l).length = rank.toNat ∧ rank.toNat ≤ 40 := by
  have hr2 := ringCk_ok h.ring
  have hp := ckP_ok hr2.1
  have hlen := h.len
  have hrk2 := h.rank2
  obtain ⟨m1, m2⟩ := madeT_vb h (ckP_prm hr2.1) (by omega) l.length (Nat.le_refl _)
  exact ⟨by omega, m1.mono (Int.le_refl _) (by omega), m2, by omega⟩

theorem vCombine_pure (r : Rg) (rank : Int) (c : Vc) (l : List Vc) (hcl : c.length ≤ 4611686018427387904 ∧ ∀ f ∈ c, f.length ≤ 4611686018427387904) (hl : l.length ≤ 4611686018427387904 ∧ ∀ v ∈ l, v.length ≤ 4611686018427387904 ∧ ∀ f ∈ v, f.length ≤ 4611686018427387904) :
    Pure Try.prog 28 [rgD r, I rank, vcD c, vcsD l] (vecE (visT (combCk0 r rank c l) (combT r rank c l))) := by
  intro H
  refine PureH.of_body Try.func28 rfl (by decide) (Nat.le_of_ble_eq_true rfl) fun w0 => ?_
  (repeat (first | refine RO.Sv ?_ | refine RO.Yv ?_ | refine RO.no rfl (by decide) rfl ?_ | refine RO.nil ?_ | refine DW.region ?_ | refine DW.seq ?_ | refine DW.block ?_ | refine DW.skip ?_ | refine DW.exit ?_ | refine DW.condT rfl ?_ | refine DW.condF rfl ?_))
  refine RO.sta (sta_call rfl rfl (vCheck_pure r rank l hl.1 hl.2 _)) rfl ?_
  (repeat (first | refine RO.Sv ?_ | refine RO.Yv ?_ | refine RO.no rfl (by decide) rfl ?_ | refine RO.nil ?_ | refine DW.region ?_ | refine DW.seq ?_ | refine DW.block ?_ | refine DW.skip ?_ | refine DW.exit ?_ | refine DW.condT rfl ?_ | refine DW.condF rfl ?_))
  by_cases h1 : vecsCk r rank l = 0
  case neg =>
    have hk : combCk0 r rank c l = vecsCk r rank l := by unfold combCk0; rw [if_pos h1]
    rw [hk, show (vecsCk r rank l != 0) = true by simpa using h1, show visT (vecsCk r rank l) (combT r rank c l) = ([], vecsCk r rank l) from if_neg h1]
    (repeat (first | refine RO.Sv ?_ | refine RO.Yv ?_ | refine RO.no rfl (by decide) rfl ?_ | refine RO.nil ?_ | refine DW.region ?_ | refine DW.seq ?_ | refine DW.block ?_ | refine DW.skip ?_ | refine DW.exit ?_ | refine DW.condT rfl ?_ | refine DW.condF rfl ?_))
    exact DW.ret ⟨.inl rfl, _, rfl, Over.refl _, .tup2 (.nil _) (.same _)⟩
  rw [show (vecsCk r rank l != 0) = false by simpa using h1]
  (repeat (first | refine RO.Sv ?_ | refine RO.Yv ?_ | refine RO.no rfl (by decide) rfl ?_ | refine RO.nil ?_ | refine DW.region ?_ | refine DW.seq ?_ | refine DW.block ?_ | refine DW.skip ?_ | refine DW.exit ?_ | refine DW.condT rfl ?_ | refine DW.condF rfl ?_))
  by_cases h2 : (c.length : Int) ≠ l.length
  · have hk : combCk0 r rank c l = 1 := by unfold combCk0; rw [if_neg (by simpa using h1), if_pos h2]
    rw [hk, show ((c.length : Int) != (l.length : Int)) = true by simpa using h2, show visT 1 (combT r rank c l) = ([], 1) from rfl]
    (repeat (first | refine RO.Sv ?_ | refine RO.Yv ?_ | refine RO.no rfl (by decide) rfl ?_ | refine RO.nil ?_ | refine DW.region ?_ | refine DW.seq ?_ | refine DW.block ?_ | refine DW.skip ?_ | refine DW.exit ?_ | refine DW.condT rfl ?_ | refine DW.condF rfl ?_))
    exact DW.ret ⟨.inl rfl, _, rfl, Over.refl _, .tup2 (.nil _) (.same _)⟩
  rw [show ((c.length : Int) != (l.length : Int)) = false by simpa using h2]
  (repeat (first | refine RO.Sv ?_ | refine RO.Yv ?_ | refine RO.no rfl (by decide) rfl ?_ | refine RO.nil ?_ | refine DW.region ?_ | refine DW.seq ?_ | refine DW.block ?_ | refine DW.skip ?_ | refine DW.exit ?_ | refine DW.condT rfl ?_ | refine DW.condF rfl ?_))
  refine RO.sta (sta_call rfl rfl (vpolys_pure r c (vecsCk_ok h1).1 hcl.1 hcl.2 _)) rfl ?_
  (repeat (first | refine RO.Sv ?_ | refine RO.Yv ?_ | refine RO.no rfl (by decide) rfl ?_ | refine RO.nil ?_ | refine DW.region ?_ | refine DW.seq ?_ | refine DW.block ?_ | refine DW.skip ?_ | refine DW.exit ?_ | refine DW.condT rfl ?_ | refine DW.condF rfl ?_))
  by_cases h3 : polysGo r c = 0
  case neg =>
    have hk : combCk0 r rank c l = polysGo r c := by unfold combCk0; rw [if_neg (by simpa using h1), if_neg h2, if_pos h3]
    rw [hk, show (polysGo r c != 0) = true by simpa using h3, show visT (polysGo r c) (combT r rank c l) = ([], polysGo r c) from if_neg h3]
    (repeat (first | refine RO.Sv ?_ | refine RO.Yv ?_ | refine RO.no rfl (by decide) rfl ?_ | refine RO.nil ?_ | refine DW.region ?_ | refine DW.seq ?_ | refine DW.block ?_ | refine DW.skip ?_ | refine DW.exit ?_ | refine DW.condT rfl ?_ | refine DW.condF rfl ?_))
    exact DW.ret ⟨.inl rfl, _, rfl, Over.refl _, .tup2 (.nil _) (.same _)⟩
  have hk : combCk0 r rank c l = if badGo r c l = true then 2 else 0 := by unfold combCk0; rw [if_neg (by simpa using h1), if_neg h2, if_neg (by simpa using h3)]
  have h := combOk h1 h2 h3
  rw [hk, show (polysGo r c != 0) = false by simpa using h3]
  have hr2 := ringCk_ok h.ring
  have hp := ckP_ok hr2.1
  have hpr : Prm r.p := ckP_prm hr2.1
  have hrk1 := h.rank1
  have hrk2 := h.rank2
  have hlen := h.len
  have hcln := h.clen
  clear hk
  (repeat (first | refine RO.Sv ?_ | refine RO.Yv ?_ | refine RO.no rfl (by decide) rfl ?_ | refine RO.nil ?_ | refine DW.region ?_ | refine DW.seq ?_ | refine DW.block ?_ | refine DW.skip ?_ | refine DW.exit ?_ | refine DW.condT rfl ?_ | refine DW.condF rfl ?_))
  refine DW.loopI (fun k : Nat => k ≤ l.length ∧ badGo r (c.drop k) (l.drop k) = badGo r c l) (fun k => [(1, I rank), (2, vcD c), (3, vcsD l), (4, .ipt 4 [rgD r] 0 0), (37, vcsD l), (38, I l.length), (39, I k)]) (fun _ => H) (fun k => l.length - k) 0 ⟨Nat.zero_le _, rfl⟩ rfl ⟨rfl, rfl, rfl, rfl, rfl, rfl, rfl, trivial⟩ fun k ⟨hk, hg⟩ => ?_
  (repeat (first | refine RO.Sv ?_ | refine RO.Yv ?_ | refine RO.no rfl (by decide) rfl ?_ | refine RO.nil ?_ | refine DW.region ?_ | refine DW.seq ?_ | refine DW.block ?_ | refine DW.skip ?_ | refine DW.exit ?_ | refine DW.condT rfl ?_ | refine DW.condF rfl ?_))
  refine DW.cond rfl (fun hb => ?_) (fun hb => ?_)
  · have hlt : k < l.length := by have := of_decide_eq_true hb; omega
    have hltc : k < c.length := by omega
    rw [badGo_drop hltc hlt] at hg
    clear hb
    have hv := h.vecs _ (List.getElem_mem hlt)
    have hf := h.polys _ (List.getElem_mem hltc)
    have hvl := hv.len
    have hfl := hf.len
    have hfm : ∀ t ∈ c[k], MOk t.e := fun t ht => (hf.ok.all t ht).mok (by omega) (by omega)
    (repeat (first | refine RO.Sv ?_ | refine RO.Yv ?_ | refine RO.no rfl (by decide) rfl ?_ | refine RO.nil ?_ | refine DW.region ?_ | refine DW.seq ?_ | refine DW.block ?_ | refine DW.skip ?_ | refine DW.exit ?_ | refine DW.condT rfl ?_ | refine DW.condF rfl ?_))
    refine DW.loopI (fun j : Nat => j ≤ l[k].length ∧ ((l[k].drop j).any (bad2T r c[k]) || badGo r (c.drop (k + 1)) (l.drop (k + 1))) = badGo r c l) (fun j => [(1, I rank), (2, vcD c), (3, vcsD l), (4, .ipt 4 [rgD r] 0 0), (12, I k), (37, vcsD l), (38, I l.length), (39, I k), (44, vcD l[k]), (45, I l[k].length), (46, I j)]) (fun _ => H) (fun j => l[k].length - j) 0 ⟨Nat.zero_le _, hg⟩ rfl ⟨rfl, rfl, rfl, rfl, rfl, rfl, rfl, rfl, rfl, rfl, rfl, trivial⟩ fun j ⟨hj, hgj⟩ => ?_
    (repeat (first | refine RO.Sv ?_ | refine RO.Yv ?_ | refine RO.no rfl (by decide) rfl ?_ | refine RO.nil ?_ | refine DW.region ?_ | refine DW.seq ?_ | refine DW.block ?_ | refine DW.skip ?_ | refine DW.exit ?_ | refine DW.condT rfl ?_ | refine DW.condF rfl ?_))
    refine DW.cond rfl (fun hb => ?_) (fun hb => ?_)
    · have hjl : j < l[k].length := by have := of_decide_eq_true hb; omega
      clear hb
      obtain ⟨a1, a2⟩ := hv.vb _ (List.getElem_mem hjl)
      have hmul : c[k].length * l[k][j].length ≤ 2000 * 2000 := Nat.mul_le_mul hfl a2
      rw [any_drop hjl, bad2_eq hf.ok a1] at hgj
      (repeat (first | refine RO.Sv ?_ | refine RO.Yv ?_ | refine RO.no rfl (by decide) rfl ?_ | refine RO.nil ?_ | refine DW.region ?_ | refine DW.seq ?_ | refine DW.block ?_ | refine DW.skip ?_ | refine DW.exit ?_ | refine DW.condT rfl ?_ | refine DW.condF rfl ?_))
      refine RO.sta (sta_call rfl rfl (great_pure c[k] l[k][j] (by omega) (by omega) hfm (fun t ht => (a1.all t ht).mok (by omega) (by omega)) _)) rfl ?_
      cases hbig : bigT c[k] l[k][j]
      case true =>
        rw [hbig] at hgj
        rw [← hgj]
        (repeat (first | refine RO.Sv ?_ | refine RO.Yv ?_ | refine RO.no rfl (by decide) rfl ?_ | refine RO.nil ?_ | refine DW.region ?_ | refine DW.seq ?_ | refine DW.block ?_ | refine DW.skip ?_ | refine DW.exit ?_ | refine DW.condT rfl ?_ | refine DW.condF rfl ?_))
        exact DW.ret ⟨.inl rfl, _, rfl, Over.refl _, .tup2 (.nil _) (.same _)⟩
      rw [hbig, Bool.false_or] at hgj
      (repeat (first | refine RO.Sv ?_ | refine RO.Yv ?_ | refine RO.no rfl (by decide) rfl ?_ | refine RO.nil ?_ | refine DW.region ?_ | refine DW.seq ?_ | refine DW.block ?_ | refine DW.skip ?_ | refine DW.exit ?_ | refine DW.condT rfl ?_ | refine DW.condF rfl ?_))
      refine DW.drawS 7 Try.mixed (by kernel_rfl) (by decide) ?_
      dsimp only [List.take, List.drop]
      (repeat (first | refine RS.Sv ?_ | refine RS.Yv ?_ | refine RS.no rfl (by decide) rfl ?_ | refine RS.nil ?_))
      refine RS.sta (fun H' hov => sta_call rfl rfl (product_pure r _ _ (by omega) (B := 200) (C := 200) (by omega) (by omega) (by omega) hr2.1 hpr (by omega) hf.ok a1 (by omega) _)) rfl ?_
      (repeat (first | refine RS.Sv ?_ | refine RS.Yv ?_ | refine RS.no rfl (by decide) rfl ?_ | refine RS.nil ?_))
      (repeat (first | refine RO.Sv ?_ | refine RO.Yv ?_ | refine RO.no rfl (by decide) rfl ?_ | refine RO.nil ?_ | refine DW.region ?_ | refine DW.seq ?_ | refine DW.block ?_ | refine DW.skip ?_ | refine DW.exit ?_ | refine DW.condT rfl ?_ | refine DW.condF rfl ?_))
      cases hlong : decide ((2000 : Int) < ((prodT r.p r.order c[k] l[k][j]).length : Int))
      case true =>
        rw [show decide (2000 < (prodT r.p r.order c[k] l[k][j]).length) = true from decide_eq_true (by have := of_decide_eq_true hlong; omega)] at hgj
        rw [← hgj]
        (repeat (first | refine RO.Sv ?_ | refine RO.Yv ?_ | refine RO.no rfl (by decide) rfl ?_ | refine RO.nil ?_ | refine DW.region ?_ | refine DW.seq ?_ | refine DW.block ?_ | refine DW.skip ?_ | refine DW.exit ?_ | refine DW.condT rfl ?_ | refine DW.condF rfl ?_))
        exact DW.ret ⟨.inl rfl, _, rfl, Over.refl _, .tup2 (.nil _) (.same _)⟩
      rw [show decide (2000 < (prodT r.p r.order c[k] l[k][j]).length) = false from decide_eq_false (by have := of_decide_eq_false hlong; omega), Bool.false_or] at hgj
      (repeat (first | refine RO.Sv ?_ | refine RO.Yv ?_ | refine RO.no rfl (by decide) rfl ?_ | refine RO.nil ?_ | refine DW.region ?_ | refine DW.seq ?_ | refine DW.block ?_ | refine DW.skip ?_ | refine DW.exit ?_ | refine DW.condT rfl ?_ | refine DW.condF rfl ?_))
      exact ⟨j + 1, ⟨hjl, hgj⟩, by dsimp only; omega, rfl, rfl, rfl, rfl, rfl, rfl, rfl, rfl, rfl, rfl, rfl, rfl, trivial⟩
    · have hge : j = l[k].length := by have := of_decide_eq_false hb; omega
      rw [hge, List.drop_length] at hgj
      (repeat (first | refine RO.Sv ?_ | refine RO.Yv ?_ | refine RO.no rfl (by decide) rfl ?_ | refine RO.nil ?_ | refine DW.region ?_ | refine DW.seq ?_ | refine DW.block ?_ | refine DW.skip ?_ | refine DW.exit ?_ | refine DW.condT rfl ?_ | refine DW.condF rfl ?_))
      exact ⟨k + 1, ⟨hlt, hgj⟩, by dsimp only; omega, rfl, rfl, rfl, rfl, rfl, rfl, rfl, rfl, trivial⟩
  · have hge : k = l.length := by have := of_decide_eq_false hb; omega
    subst hge
    rw [List.drop_length, badGo_end] at hg
    obtain ⟨n3, x1, x2, x3⟩ := combT_mok h
    rw [← hg]
    (repeat (first | refine RO.Sv ?_ | refine RO.Yv ?_ | refine RO.no rfl (by decide) rfl ?_ | refine RO.nil ?_ | refine DW.region ?_ | refine DW.seq ?_ | refine DW.block ?_ | refine DW.skip ?_ | refine DW.exit ?_ | refine DW.condT rfl ?_ | refine DW.condF rfl ?_))
    refine RO.sta (sta_call rfl rfl (vMade_pure r rank c l h _)) rfl ?_
    refine RO.sta (sta_call rfl rfl (vDone_pure (combT r rank c l) (by omega) (VB.mok x1 n3 (by omega) (by omega)) _)) rfl ?_
    (repeat (first | refine RO.Sv ?_ | refine RO.Yv ?_ | refine RO.no rfl (by decide) rfl ?_ | refine RO.nil ?_ | refine DW.region ?_ | refine DW.seq ?_ | refine DW.block ?_ | refine DW.skip ?_ | refine DW.exit ?_ | refine DW.condT rfl ?_ | refine DW.condF rfl ?_))
    exact DW.ret ⟨.inl rfl, _, rfl, Over.refl _, .same _⟩

end Go.Proofs.Ytblileclefbklaa

namespace Go.Proofs.Ytblileclefbklaa
open Go.RowKit
set_option linter.unusedVariables false

theorem getD_lt {α : Type} {l : List α} {i : Nat} {z : α} (h : i < l.length) : l.getD i z = l[i] := by
  rw [List.getD_eq_getElem?_getD, List.getElem?_eq_getElem h]; rfl

theorem getD_set {α : Type} {l : List α} {i j : Nat} {x z : α} (h : i < l.length) : (l.set i x).getD j z = if i = j then x else l.getD j z := by
  rw [List.getD_eq_getElem?_getD, List.getElem?_set]
  by_cases hij : i = j
  · subst hij; rw [if_pos rfl, if_pos rfl, if_pos h]; rfl
  · rw [if_neg hij, if_neg hij, List.getD_eq_getElem?_getD]

/-- A product's functional, by the first one's terms. -/
theorem LfP_Lf (φ : List Int → Int) (f g : Pl) : LfP φ f g = Lf (fun e => Lf (shift φ e) g) f := rfl

/-- What the first k quotients make at a place. -/
def Qk (φ : List Int → Int) (j : Nat) (q : Vc) (l : List Vc) : Nat → Int
  | 0 => 0
  | k + 1 => Qk φ j q l k + LfP φ (q.getD k []) ((l.getD k []).getD j [])

theorem Qk_set {φ : List Int → Int} {j : Nat} {q : Vc} {l : List Vc} {i : Nat} {f : Pl} (hi : i < q.length) : ∀ k, Qk φ j (q.set i f) l k = Qk φ j q l k + if i < k then LfP φ f ((l.getD i []).getD j []) - LfP φ (q.getD i []) ((l.getD i []).getD j []) else 0
  | 0 => by simp [Qk]
  | k + 1 => by
    show Qk φ j (q.set i f) l k + LfP φ ((q.set i f).getD k []) _ = Qk φ j q l k + LfP φ (q.getD k []) _ + _
    rw [Qk_set hi k, getD_set hi]
    by_cases hik : i = k
    · subst hik
      rw [if_pos rfl, if_neg (by omega), if_pos (by omega)]; omega
    · rw [if_neg hik]
      by_cases hlt : i < k
      · rw [if_pos hlt, if_pos (by omega)]; omega
      · rw [if_neg hlt, if_neg (by omega)]; omega

theorem Qk_nil (φ : List Int → Int) (j n : Nat) (l : List Vc) : ∀ k, Qk φ j (List.replicate n []) l k = 0
  | 0 => rfl
  | k + 1 => by
    show Qk φ j (List.replicate n []) l k + LfP φ ((List.replicate n []).getD k []) _ = 0
    rw [Qk_nil φ j n l k, show (List.replicate n ([] : Pl)).getD k [] = [] by rw [List.getD_eq_getElem?_getD, List.getElem?_replicate]; split <;> rfl]
    rfl

def DSum (r : Rg) (rank : Nat) (l : List Vc) (v0 : Vc) (s : DS) : Prop :=
  ∀ j, j < rank → ∀ φ : List Int → Int, r.p ∣ Lf φ (v0.getD j []) - (Lf φ (s.v.getD j []) + Lf φ (s.left.getD j []) + Qk φ j s.q l l.length)

theorem DSum.init {r : Rg} {rank : Nat} {l : List Vc} {v : Vc} : DSum r rank l v (divInit rank l v) := fun j hj φ => by
  show r.p ∣ Lf φ (v.getD j []) - (Lf φ (v.getD j []) + Lf φ ((List.replicate rank []).getD j []) + Qk φ j (List.replicate l.length []) l l.length)
  rw [Qk_nil, show (List.replicate rank ([] : Pl)).getD j [] = [] by rw [List.getD_eq_getElem?_getD, List.getElem?_replicate]; split <;> rfl, Lf_nil]
  exact ⟨0, by omega⟩

theorem DSum.stepA {r : Rg} {rank : Nat} {l : List Vc} {v0 : Vc} {s : DS} (h : DInv r rank l s) (hs : DSum r rank l v0 s) {a : Nat} {u : Tm} (ht : topV r s.v = some (a, u)) : DSum r rank l v0 (stepA s a u) := fun j hj φ => by
  have iv := topV_is h.vd ht
  have ha := iv.lt
  have hal : a < s.left.length := by rw [h.llen, ← h.vlen]; exact ha
  obtain ⟨f, hf⟩ := iv.at_
  have hg : s.v.getD a [] = u :: f := by rw [getD_lt ha]; exact hf
  have := hs j hj φ
  show r.p ∣ Lf φ (v0.getD j []) - (Lf φ ((s.v.set a (s.v.getD a []).tail).getD j []) + Lf φ ((s.left.set a (s.left.getD a [] ++ [u])).getD j []) + Qk φ j s.q l l.length)
  rw [getD_set ha, getD_set hal]
  by_cases haj : a = j
  · subst haj
    rw [if_pos rfl, if_pos rfl, hg]
    rw [hg, Lf_cons] at this
    rw [Lf_append, Lf_cons, Lf_nil]
    show r.p ∣ Lf φ (v0.getD a []) - (Lf φ f + _ + _)
    rwa [show Lf φ (v0.getD a []) - (Lf φ f + (Lf φ (s.left.getD a []) + (u.c * φ u.e + 0)) + Qk φ a s.q l l.length) = Lf φ (v0.getD a []) - (u.c * φ u.e + Lf φ f + Lf φ (s.left.getD a []) + Qk φ a s.q l l.length) by omega]
  · rwa [if_neg haj, if_neg haj]

theorem vsumT_getD {r : Rg} {v w : Vc} {j : Nat} (h1 : j < v.length) (h2 : j < w.length) : (vsumT r v w).getD j [] = sumT r.p r.order (v.getD j []) (w.getD j []) := by
  rw [getD_lt h1, getD_lt h2, getD_lt (by simp [vsumT]; omega)]
  simp [vsumT]

theorem DSum.stepB {r : Rg} {rank : Nat} {l : List Vc} {v0 : Vc} {s : DS} (hl : DL r rank l) (h : DInv r rank l s) (hs : DSum r rank l v0 s) {a i : Nat} {u : Tm} (ht : topV r s.v = some (a, u)) (hg : goesT r l a u.e = some i) : DSum r rank l v0 (stepB r l s u i) := fun j hj φ => by
  obtain ⟨n1, n2, hil, w, htd, hgm, hby, tb, me⟩ := stepB_ok hl h ht hg
  obtain ⟨hp, hn3, hn1, hpr, hck⟩ := hl.rg
  have hdl := hl.vecs _ (List.getElem_mem hil)
  have hdlen := hdl.len
  have hsv := h.vlen
  have hiq : i < s.q.length := by rw [h.qlen]; exact hil
  have hjv : j < s.v.length := by omega
  have hjd : j < l[i].length := by omega
  have tn := (negT_ok tb).zero
  have hvj := h.vd.all j hjv
  have hdj := (hdl.vd hn3 hl.rank2).all j hjd
  have := hs j hj φ
  show r.p ∣ Lf φ (v0.getD j []) - (Lf φ ((vsumT r s.v (vbyT r (l.getD i []) (negT r (byAt r l u i)))).getD j []) + Lf φ (s.left.getD j []) + Qk φ j (s.q.set i (sumT r.p r.order (s.q.getD i []) [byAt r l u i])) l l.length)
  rw [hby, Qk_set hiq, if_pos hil, getD_lt hil, vsumT_getD hjv (by simp [vbyT]; omega)]
  have e1 : (vbyT r l[i] (negT r (byOf r u w))).getD j [] = byT r.p l[i][j] (negT r (byOf r u w)) := by
    rw [getD_lt (by simp [vbyT]; omega)]; simp [vbyT]
  rw [e1, getD_lt hjv, getD_lt hjd]
  rw [getD_lt hjv] at this
  have s1 := sumT_L (o := r.order) (show 0 < r.p by omega) φ s.v[j] (byT r.p l[i][j] (negT r (byOf r u w))) (hvj.mono (Int.le_refl _) (by omega : (8000 : Int) ≤ 16000)) (byT_ok (by omega) hpr hdj tn)
  have s2 := byT_L (p := r.p) φ (negT r (byOf r u w)) l[i][j]
  have s3 := sumT_L (o := r.order) (show 0 < r.p by omega) (fun e => Lf (shift φ e) l[i][j]) (s.q.getD i []) [byOf r u w] (h.q _ (by rw [getD_lt hiq]; exact List.getElem_mem hiq)).1 (PB.one tb)
  rw [LfP_Lf, LfP_Lf]
  have s4 : Lf (fun e => Lf (shift φ e) l[i][j]) [byOf r u w] = (byOf r u w).c * Lf (shift φ (byOf r u w).e) l[i][j] := by rw [Lf_cons, Lf_nil]; omega
  rw [s4] at s3
  have s5 : (negT r (byOf r u w)).c * Lf (shift φ (negT r (byOf r u w)).e) l[i][j] = r.p * Lf (shift φ (byOf r u w).e) l[i][j] - (byOf r u w).c * Lf (shift φ (byOf r u w).e) l[i][j] := by
    show (r.p - (byOf r u w).c) * _ = _
    rw [Int.sub_mul]; rfl
  rw [s5] at s2
  generalize Lf φ (sumT r.p r.order s.v[j] (byT r.p l[i][j] (negT r (byOf r u w)))) = x1 at *
  generalize Lf φ (byT r.p l[i][j] (negT r (byOf r u w))) = x2 at *
  generalize Lf (fun e => Lf (shift φ e) l[i][j]) (sumT r.p r.order (s.q.getD i []) [byOf r u w]) = x3 at *
  generalize Lf (fun e => Lf (shift φ e) l[i][j]) (s.q.getD i []) = x4 at *
  generalize (byOf r u w).c * Lf (shift φ (byOf r u w).e) l[i][j] = x5 at *
  generalize Lf (shift φ (byOf r u w).e) l[i][j] = x6 at *
  obtain ⟨k0, k0h⟩ := this
  obtain ⟨k1, k1h⟩ := s1
  obtain ⟨k2, k2h⟩ := s2
  obtain ⟨k3, k3h⟩ := s3
  exact ⟨k0 - k1 - k2 - k3 - x6, by rw [Int.mul_sub, Int.mul_sub, Int.mul_sub, Int.mul_sub]; omega⟩

theorem divRun_sum {r : Rg} {rank : Nat} {l : List Vc} {v0 : Vc} (hl : DL r rank l) : ∀ (n : Nat) (s : DS), DInv r rank l s → DSum r rank l v0 s → DSum r rank l v0 (divRun r l n s)
  | 0, s, h, hs => hs
  | n + 1, s, h, hs => by
    show DSum r rank l v0 (match stepT r l s with | none => s | some s' => divRun r l n s')
    cases hx : topV r s.v with
    | none =>
      have : stepT r l s = none := by unfold stepT; rw [hx]
      rw [this]
      exact hs
    | some x =>
      obtain ⟨a, u⟩ := x
      cases hg : goesT r l a u.e with
      | none =>
        have : stepT r l s = some (stepA s a u) := by unfold stepT; rw [hx]; dsimp only; rw [hg]
        rw [this]
        exact divRun_sum hl n _ (stepA_ok hl h hx hg).1 (hs.stepA h hx)
      | some i =>
        have : stepT r l s = some (stepB r l s u i) := by unfold stepT; rw [hx]; dsimp only; rw [hg]
        rw [this]
        exact divRun_sum hl n _ (stepB_ok hl h hx hg).1 (hs.stepB hl h hx hg)

theorem divT_sum {r : Rg} {rank : Nat} {l : List Vc} {v : Vc} (hl : DL r rank l) (hv : VOk r rank v) : ∀ j, j < rank → ∀ φ : List Int → Int, r.p ∣ Lf φ (v.getD j []) - (Lf φ ((divT r rank l v).left.getD j []) + Qk φ j (divT r rank l v).q l l.length) := fun j hj φ => by
  have := divRun_sum hl (muT r v) _ (divInit_ok hl hv) DSum.init j hj φ
  obtain ⟨h1, h2⟩ := divT_ok hl hv
  have hz : (divT r rank l v).v.getD j [] = [] := by
    rw [getD_lt (by rw [h1.vlen]; exact hj)]
    exact topV_none h1.vd h2 j _
  change r.p ∣ Lf φ (v.getD j []) - (Lf φ ((divT r rank l v).v.getD j []) + Lf φ ((divT r rank l v).left.getD j []) + Qk φ j (divT r rank l v).q l l.length) at this
  rw [hz, Lf_nil, Int.zero_add] at this
  exact this

/-- What Combine makes, by functionals. -/
theorem madeT_L {r : Rg} {rank : Int} {c : Vc} {l : List Vc} (h : CombOk r rank c l) (hpr : Prm r.p) (hp : 1 < r.p) (j : Nat) (hj : j < rank.toNat) (φ : List Int → Int) : ∀ k, k ≤ l.length → r.p ∣ Lf φ ((madeT r rank.toNat c l k).getD j []) - Qk φ j c l k
  | 0, _ => by
    rw [show (madeT r rank.toNat c l 0).getD j [] = [] by show (List.replicate rank.toNat ([] : Pl)).getD j [] = []; rw [List.getD_eq_getElem?_getD, List.getElem?_replicate]; split <;> rfl]
    exact ⟨0, by rw [Lf_nil]; show (0 : Int) - 0 = r.p * 0; omega⟩
  | k + 1, hk => by
    have ih := madeT_L h hpr hp j hj φ k (by omega)
    obtain ⟨m1, m2⟩ := madeT_vb h hpr hp k (by omega)
    have hkl : k < l.length := by omega
    have hkc : k < c.length := by rw [h.clen]; exact hkl
    have hv := h.vecs _ (List.getElem_mem hkl)
    have hf := h.polys _ (List.getElem_mem hkc)
    have hvl := hv.len
    have hjl : j < l[k].length := by omega
    have ht := VB.times h.ring hpr hp hf hv
    rw [madeT_succ hkc hkl, vsumT_getD (by omega) (by rw [vtimesT_len]; omega)]
    show r.p ∣ _ - (Qk φ j c l k + LfP φ (c.getD k []) ((l.getD k []).getD j []))
    rw [getD_lt hkc, getD_lt hkl, getD_lt hjl]
    have e1 : (vtimesT r c[k] l[k]).getD j [] = prodT r.p r.order c[k] l[k][j] := by rw [getD_lt (by rw [vtimesT_len]; omega)]; simp [vtimesT]
    rw [e1]
    have hjm : j < (madeT r rank.toNat c l k).length := by omega
    have p1 := (m1 _ (List.getElem_mem hjm)).1
    have p2 := (hv.vb _ (List.getElem_mem hjl)).1
    have p3 : ∀ t ∈ c[k], TB 0 r.p r.n.toNat 200 t := fun t ht => (hf.ok.all t ht).mono (by omega) (by omega)
    have p4 := prodT_ok (o := r.order) hp hpr p2 (C := 200) (by omega) p3
    rw [getD_lt hjm] at ih ⊢
    have s1 := sumT_L (o := r.order) (show 0 < r.p by omega) φ (madeT r rank.toNat c l k)[j] (prodT r.p r.order c[k] l[k][j]) p1 p4
    have s2 := prodT_L (o := r.order) hp hpr p2 (C := 200) (by omega) p3 φ
    obtain ⟨k0, k0h⟩ := ih
    obtain ⟨k1, k1h⟩ := s1
    obtain ⟨k2, k2h⟩ := s2
    exact ⟨k0 + k1 + k2, by rw [Int.mul_add, Int.mul_add]; omega⟩

theorem VOk.not_great {r : Rg} {k : Nat} {v : Vc} (h : VOk r k v) : vgreatT v = false := by
  unfold vgreatT
  rw [List.any_eq_false]
  intro f hf
  have := h.all f hf
  unfold greatT
  have h1 : topT f ≤ 200 := topT_le this.deg (by omega)
  have h2 := this.len
  rw [decide_eq_false (show ¬ 200 < topT f by omega), decide_eq_false (show ¬ 2000 < f.length by omega)]
  simp

/-- The whole. -/
theorem divide_whole {r : Rg} {rank : Int} {l : List Vc} {v : Vc} (hl : DL r rank.toNat l) (hv : VOk r rank.toNat v) (hc : CombOk r rank (divT r rank.toNat l v).q l) : vsumT r (combT r rank (divT r rank.toNat l v).q l) (divT r rank.toNat l v).left = v := by
  obtain ⟨hp, hn3, hn1, hpr, hck⟩ := hl.rg
  obtain ⟨fin, fin0⟩ := divT_ok hl hv
  obtain ⟨m1, m2⟩ := madeT_vb hc hpr (by omega) l.length (Nat.le_refl _)
  have hll := fin.llen
  have hvl := hv.len
  have hsum := divT_sum hl hv
  have hmade := madeT_L hc hpr (by omega)
  change (combT r rank (divT r rank.toNat l v).q l).length = _ at m2
  refine List.ext_getElem (by rw [vsumT_len' (by omega)]; omega) fun j h1 h2 => ?_
  have hj : j < rank.toNat := by omega
  have hjm : j < (combT r rank (divT r rank.toNat l v).q l).length := by omega
  have hjl : j < (divT r rank.toNat l v).left.length := by omega
  have e1 : (vsumT r (combT r rank (divT r rank.toNat l v).q l) (divT r rank.toNat l v).left)[j] = sumT r.p r.order (combT r rank (divT r rank.toNat l v).q l)[j] (divT r rank.toNat l v).left[j] := by simp [vsumT]
  rw [e1]
  have p1 := (m1 _ (List.getElem_mem hjm)).1.mono (Int.le_refl _) (by omega : (400 : Int) ≤ 8000)
  have p2 := (fin.left j hjl).1
  have p3 := (hv.all _ (List.getElem_mem h2)).ok
  refine PB.uniq (by omega) (sumT_ok (by omega) _ _ p1 p2) p3 fun φ => ?_
  have s1 := sumT_L (o := r.order) (show 0 < r.p by omega) φ _ _ p1 p2
  have s2 := hsum j hj φ
  have s3 := hmade j hj φ l.length (Nat.le_refl _)
  rw [getD_lt h2, getD_lt hjl] at s2
  change r.p ∣ Lf φ ((combT r rank (divT r rank.toNat l v).q l).getD j []) - _ at s3
  rw [getD_lt hjm] at s3
  obtain ⟨k1, k1h⟩ := s1
  obtain ⟨k2, k2h⟩ := s2
  obtain ⟨k3, k3h⟩ := s3
  exact ⟨k1 - k2 + k3, by rw [Int.mul_add, Int.mul_sub]; omega⟩

end Go.Proofs.Ytblileclefbklaa

namespace Go.Proofs.Ytblileclefbklaa
open Go.RowKit
set_option linter.unusedVariables false

theorem polyGo_zero {r : Rg} (hr0 : 0 ≤ r.n) {B : Int} : ∀ {f : Pl} {prev : Option Tm}, PB 1 r.p r.order r.n.toNat B f → DB 200 f → (∀ u, prev = some u → Below r.order u.e f) → polyGo r prev f = 0
  | [], prev, _, _, _ => rfl
  | t :: f, prev, h, hd, hb => by
    have ht := h.head
    have h1 := ht.lo
    have h2 := ht.hi
    have hl := ht.len
    have hsum := hd t (by simp)
    have hm : monoCk r t.e = 0 := by
      unfold monoCk
      rw [if_pos (by omega), if_pos]
      rw [Bool.and_eq_true]
      refine ⟨List.all_eq_true.2 fun x hx => inE_iff.2 ⟨(ht.mem x hx).1, ?_⟩, decide_eq_true hsum⟩
      have := mem_le_sum (fun x hx => (ht.mem x hx).1) x hx
      omega
    have hbe : behind r.order prev t = false := by
      cases prev with
      | none => rfl
      | some u =>
        have := hb u rfl t (by simp)
        have ha := cmpM_anti r.order t.e u.e
        exact decide_eq_false (by omega)
    show (if t.c < 1 ∨ r.p ≤ t.c then 3 else if monoCk r t.e ≠ 0 then monoCk r t.e else if behind r.order prev t = true then 4 else polyGo r (some t) f) = 0
    rw [if_neg (by omega), if_neg (by simp [hm]), if_neg (by simp [hbe])]
    exact polyGo_zero hr0 h.tail (fun x hx => hd x (by simp [hx])) fun u hu => by cases hu; exact h.below

theorem polyCk_zero {r : Rg} (hr0 : 0 ≤ r.n) {B : Int} {f : Pl} (h : PB 1 r.p r.order r.n.toNat B f) (hg : greatT f = false) : polyCk r f = 0 := by
  unfold greatT at hg
  rw [Bool.or_eq_false_iff, decide_eq_false_iff_not, decide_eq_false_iff_not] at hg
  unfold polyCk
  rw [if_neg hg.2]
  exact polyGo_zero hr0 h (fun t ht => by have := topT_ge h t ht; omega) fun u hu => by cases hu

theorem polysGo_zero {r : Rg} (hr0 : 0 ≤ r.n) {B : Int} : ∀ {v : Vc}, (∀ f ∈ v, PB 1 r.p r.order r.n.toNat B f) → vgreatT v = false → polysGo r v = 0
  | [], _, _ => rfl
  | f :: v, h, hg => by
    have hg' : (greatT f || vgreatT v) = false := hg
    rw [Bool.or_eq_false_iff] at hg'
    show (if polyCk r f = 0 then polysGo r v else polyCk r f) = 0
    rw [if_pos (polyCk_zero hr0 (h f (by simp)) hg'.1)]
    exact polysGo_zero hr0 (fun g hgm => h g (by simp [hgm])) hg'.2

theorem ready_again {r : Rg} {rank : Int} {v x : Vc} {l : List Vc} {B : Int} (h : readyCk r rank v l = 0) (hx : ∀ f ∈ x, PB 1 r.p r.order r.n.toNat B f) (hg : vgreatT x = false) (hl : x.length = rank.toNat) : readyCk r rank x l = 0 := by
  obtain ⟨h2, h3, h4⟩ := readyCk_ok h
  obtain ⟨hp, hn3, hn1, hpr, hck⟩ := h2.rg
  have hrk1 := h2.rank1
  have hrk2 := h2.rank2
  unfold readyCk at h ⊢
  by_cases hv : vecsCk r rank l = 0
  · rw [if_pos hv]
    unfold ownCk
    rw [if_neg (by omega), if_neg (by simp)]
    show (if (x.length : Int) ≠ rank then 1 else if polysGo r x = 0 then vecsGo r rank [] else polysGo r x) = 0
    rw [if_neg (by omega), if_pos (polysGo_zero (by omega) hx hg)]
    rfl
  · rw [if_neg hv] at h; exact absurd h hv

theorem alike_two {r : Rg} {s x : Vc} {B C : Int} (hr : ringCk r = 0) (h1 : 1 ≤ s.length) (h2 : s.length ≤ 40) (h3 : x.length = s.length) (hs : ∀ f ∈ s, PB 1 r.p r.order r.n.toNat B f) (hx : ∀ f ∈ x, PB 1 r.p r.order r.n.toNat C f) (gs : vgreatT s = false) (gx : vgreatT x = false) : alikeCk r [s, x] = 0 := by
  have hr0 : 0 ≤ r.n := by have := ringCk_ok hr; omega
  unfold alikeCk
  rw [if_neg (by simpa using hr), if_neg, if_neg]
  · show (if polysGo r s = 0 then (if polysGo r x = 0 then 0 else polysGo r x) else polysGo r s) = 0
    rw [if_pos (polysGo_zero hr0 hs gs), if_pos (polysGo_zero hr0 hx gx)]
  · simp [unlike, h3]
  · simp only [List.any_cons, List.any_nil, Bool.or_false, badLen]
    rw [decide_eq_false (show ¬ (s.length : Int) < 1 by omega), decide_eq_false (show ¬ 40 < (s.length : Int) by omega), decide_eq_false (show ¬ (x.length : Int) < 1 by omega), decide_eq_false (show ¬ 40 < (x.length : Int) by omega)]
    simp

theorem normGo_of {r : Rg} {l : List Vc} : ∀ {v : Vc} {j : Nat}, (∀ (i : Nat) (h : i < v.length), ∀ t ∈ v[i], goesT r l (j + i) t.e = none) → normGo r l j v = true
  | [], j, _ => rfl
  | f :: v, j, h => by
    show (rowNormal r l j f && normGo r l (j + 1) v) = true
    rw [Bool.and_eq_true]
    refine ⟨List.all_eq_true.2 fun t ht => by have h0 := h 0 (by simp) t ht; rw [Nat.add_zero] at h0; rw [h0]; rfl, normGo_of fun i hi t ht => ?_⟩
    have := h (i + 1) (by simpa using hi) t (by simpa using ht)
    rwa [show j + 1 + i = j + (i + 1) by omega]

theorem DInv.normalT {r : Rg} {rank : Nat} {l : List Vc} {s : DS} (h : DInv r rank l s) : normalT r l s.left = true := normGo_of fun i hi t ht => by
  rw [Nat.zero_add]; exact h.normal i hi t ht

end Go.Proofs.Ytblileclefbklaa

namespace Go.Proofs.Ytblileclefbklaa
open Go.RowKit
set_option linter.unusedVariables false
set_option linter.unusedSimpArgs false
set_option maxHeartbeats 8000000

theorem Cmp.le {v : Vc} (h : Cmp v) : v.length ≤ 4611686018427387904 ∧ ∀ f ∈ v, f.length ≤ 4611686018427387904 := ⟨by have := h.1; omega, fun f hf => by have := (h.2 f hf).1; omega⟩

theorem divideHangs_pure (r : Rg) (rank : Int) (v : Vc) (l : List Vc) (hv : v.length ≤ 4611686018427387904 ∧ ∀ f ∈ v, f.length ≤ 4611686018427387904) (hl : l.length ≤ 4611686018427387904 ∧ ∀ v ∈ l, v.length ≤ 4611686018427387904 ∧ ∀ f ∈ v, f.length ≤ 4611686018427387904) :
    Pure Try.prog 6 [rgD r, I rank, vcD v, vcsD l] (.bool true) := by
  intro H
  refine PureH.of_body Try.func6 rfl (by decide) (Nat.le_of_ble_eq_true rfl) fun w0 => ?_
  (repeat (first | refine RO.Sv ?_ | refine RO.Yv ?_ | refine RO.no rfl (by decide) rfl ?_ | refine RO.nil ?_ | refine DW.region ?_ | refine DW.seq ?_ | refine DW.block ?_ | refine DW.skip ?_ | refine DW.exit ?_ | refine DW.condT rfl ?_ | refine DW.condF rfl ?_))
  refine RO.sta (sta_call rfl rfl (divideBegun_pure _)) rfl ?_
  (repeat (first | refine RO.Sv ?_ | refine RO.Yv ?_ | refine RO.no rfl (by decide) rfl ?_ | refine RO.nil ?_ | refine DW.region ?_ | refine DW.seq ?_ | refine DW.block ?_ | refine DW.skip ?_ | refine DW.exit ?_ | refine DW.condT rfl ?_ | refine DW.condF rfl ?_))
  refine RO.yes rfl rfl (OpD.of_sta (sta_call rfl rfl (vectorBegun_pure _)) ?_)
  (repeat (first | refine RO.Sv ?_ | refine RO.Yv ?_ | refine RO.no rfl (by decide) rfl ?_ | refine RO.nil ?_ | refine DW.region ?_ | refine DW.seq ?_ | refine DW.block ?_ | refine DW.skip ?_ | refine DW.exit ?_ | refine DW.condT rfl ?_ | refine DW.condF rfl ?_))
  refine RO.sta (sta_call rfl rfl (divide_pure r rank v l hv hl _)) rfl ?_
  (repeat (first | refine RO.Sv ?_ | refine RO.Yv ?_ | refine RO.no rfl (by decide) rfl ?_ | refine RO.nil ?_ | refine DW.region ?_ | refine DW.seq ?_ | refine DW.block ?_ | refine DW.skip ?_ | refine DW.exit ?_ | refine DW.condT rfl ?_ | refine DW.condF rfl ?_))
  by_cases h1 : readyCk r rank v l = 0
  case neg =>
    rw [show divideT r rank v l = ([], [], readyCk r rank v l) from if_pos h1, show (readyCk r rank v l != 0) = true by simpa using h1]
    (repeat (first | refine RO.Sv ?_ | refine RO.Yv ?_ | refine RO.no rfl (by decide) rfl ?_ | refine RO.nil ?_ | refine DW.region ?_ | refine DW.seq ?_ | refine DW.block ?_ | refine DW.skip ?_ | refine DW.exit ?_ | refine DW.condT rfl ?_ | refine DW.condF rfl ?_))
    refine RO.sta (s_arith (a := 0) (b := 0) (c := 0) rfl rfl rfl (by decide) (by decide)) rfl ?_
    (repeat (first | refine RO.Sv ?_ | refine RO.Yv ?_ | refine RO.no rfl (by decide) rfl ?_ | refine RO.nil ?_ | refine DW.region ?_ | refine DW.seq ?_ | refine DW.block ?_ | refine DW.skip ?_ | refine DW.exit ?_ | refine DW.condT rfl ?_ | refine DW.condF rfl ?_))
    exact DW.ret ⟨.inl rfl, _, rfl, Over.refl _, .same _⟩
  obtain ⟨h2, h3, h4⟩ := readyCk_ok h1
  obtain ⟨hp, hn3, hn1, hpr, hck⟩ := h2.rg
  obtain ⟨fin, fin0⟩ := divT_ok h2 h3
  have hll := h2.len
  have hql := fin.qlen
  have hle := fin.llen
  have hrk1 := h2.rank1
  have hrk := h2.rank2
  have hdv : divideT r rank v l = if (vgreatT (divT r rank.toNat l v).left || vgreatT (divT r rank.toNat l v).q) = true then ([], [], 2) else ((divT r rank.toNat l v).q, (divT r rank.toNat l v).left, 0) := if_neg (by simpa using h1)
  cases hgr : (vgreatT (divT r rank.toNat l v).left || vgreatT (divT r rank.toNat l v).q)
  case true =>
    rw [hdv, hgr, if_pos rfl]
    (repeat (first | refine RO.Sv ?_ | refine RO.Yv ?_ | refine RO.no rfl (by decide) rfl ?_ | refine RO.nil ?_ | refine DW.region ?_ | refine DW.seq ?_ | refine DW.block ?_ | refine DW.skip ?_ | refine DW.exit ?_ | refine DW.condT rfl ?_ | refine DW.condF rfl ?_))
    refine RO.sta (s_arith (a := 0) (b := 0) (c := 0) rfl rfl rfl (by decide) (by decide)) rfl ?_
    (repeat (first | refine RO.Sv ?_ | refine RO.Yv ?_ | refine RO.no rfl (by decide) rfl ?_ | refine RO.nil ?_ | refine DW.region ?_ | refine DW.seq ?_ | refine DW.block ?_ | refine DW.skip ?_ | refine DW.exit ?_ | refine DW.condT rfl ?_ | refine DW.condF rfl ?_))
    exact DW.ret ⟨.inl rfl, _, rfl, Over.refl _, .same _⟩
  rw [hgr, if_neg (by simp)] at hdv
  rw [hdv]
  rw [Bool.or_eq_false_iff] at hgr
  obtain ⟨k1, k2⟩ := divide_cmp r rank v l
  rw [hdv] at k1 k2
  have hwhole := fun hc => divide_whole (rank := rank) h2 h3 hc
  have hnt := fin.normalT
  have hlpb : ∀ f ∈ (divT r rank.toNat l v).left, PB 1 r.p r.order r.n.toNat 8000 f := fun f hf => by
    obtain ⟨j, hj, rfl⟩ := List.getElem_of_mem hf
    exact (fin.left j hj).1
  generalize hDT : divT r rank.toNat l v = dt at *
  dsimp only at k1 k2
  have hra := ready_again h1 hlpb hgr.1 hle
  have hnm : normE r rank dt.left l = (true, 0) := by unfold normE; rw [if_neg (by simpa using hra), hnt]
  have cN := fun H' => dNormal_pure r rank dt.left l k2.le hl H'
  rw [hnm] at cN
  have cC := fun H' => vCombine_pure r rank dt.q l k1.le hl H'
  (repeat (first | refine RO.Sv ?_ | refine RO.Yv ?_ | refine RO.no rfl (by decide) rfl ?_ | refine RO.nil ?_ | refine DW.region ?_ | refine DW.seq ?_ | refine DW.block ?_ | refine DW.skip ?_ | refine DW.exit ?_ | refine DW.condT rfl ?_ | refine DW.condF rfl ?_))
  refine RO.sta (sta_call rfl rfl (cN _)) rfl ?_
  (repeat (first | refine RO.Sv ?_ | refine RO.Yv ?_ | refine RO.no rfl (by decide) rfl ?_ | refine RO.nil ?_ | refine DW.region ?_ | refine DW.seq ?_ | refine DW.block ?_ | refine DW.skip ?_ | refine DW.exit ?_ | refine DW.condT rfl ?_ | refine DW.condF rfl ?_))
  refine RO.sta (sta_call rfl rfl (cC _)) rfl ?_
  (repeat (first | refine RO.Sv ?_ | refine RO.Yv ?_ | refine RO.no rfl (by decide) rfl ?_ | refine RO.nil ?_ | refine DW.region ?_ | refine DW.seq ?_ | refine DW.block ?_ | refine DW.skip ?_ | refine DW.exit ?_ | refine DW.condT rfl ?_ | refine DW.condF rfl ?_))
  by_cases hc0 : combCk0 r rank dt.q l = 0
  case neg =>
    rw [show visT (combCk0 r rank dt.q l) (combT r rank dt.q l) = ([], combCk0 r rank dt.q l) from if_neg hc0, show (combCk0 r rank dt.q l != 0) = true by simpa using hc0]
    (repeat (first | refine RO.Sv ?_ | refine RO.Yv ?_ | refine RO.no rfl (by decide) rfl ?_ | refine RO.nil ?_ | refine DW.region ?_ | refine DW.seq ?_ | refine DW.block ?_ | refine DW.skip ?_ | refine DW.exit ?_ | refine DW.condT rfl ?_ | refine DW.condF rfl ?_))
    exact DW.ret ⟨.inl rfl, _, rfl, Over.refl _, .same _⟩
  have hco := (combCk0_ok hc0).1
  obtain ⟨n3, x1, x2, x3⟩ := combT_mok hco
  have hvt : visT (combCk0 r rank dt.q l) (combT r rank dt.q l) = vdoneT (combT r rank dt.q l) := if_pos hc0
  rw [hvt]
  cases hg2 : vgreatT (combT r rank dt.q l)
  case true =>
    rw [show vdoneT (combT r rank dt.q l) = ([], 2) by unfold vdoneT; rw [if_pos hg2]]
    (repeat (first | refine RO.Sv ?_ | refine RO.Yv ?_ | refine RO.no rfl (by decide) rfl ?_ | refine RO.nil ?_ | refine DW.region ?_ | refine DW.seq ?_ | refine DW.block ?_ | refine DW.skip ?_ | refine DW.exit ?_ | refine DW.condT rfl ?_ | refine DW.condF rfl ?_))
    exact DW.ret ⟨.inl rfl, _, rfl, Over.refl _, .same _⟩
  rw [show vdoneT (combT r rank dt.q l) = (combT r rank dt.q l, 0) by unfold vdoneT; rw [if_neg (by rw [hg2]; simp)]]
  have hal : alikeCk r [combT r rank dt.q l, dt.left] = 0 := alike_two h2.ring (by omega) (by omega) (by omega) (fun f hf => (x1 f hf).1) hlpb hg2 hgr.1
  have hadd : vaddT r (combT r rank dt.q l) dt.left = (v, 0) := by
    unfold vaddT
    rw [if_neg (by simpa using hal), hwhole hco]
    unfold vdoneT
    rw [h3.not_great, if_neg (by simp)]
  have cA := fun H' => vAdd_pure r (combT r rank dt.q l) dt.left (x1.cmp n3 (by omega) (by omega)).le k2.le H'
  rw [hadd] at cA
  have hvlen := h3.len
  have hvc : Cmp v := (h3.vd hn3 hrk).vb.cmp hn3 (by omega) (by omega)
  (repeat (first | refine RO.Sv ?_ | refine RO.Yv ?_ | refine RO.no rfl (by decide) rfl ?_ | refine RO.nil ?_ | refine DW.region ?_ | refine DW.seq ?_ | refine DW.block ?_ | refine DW.skip ?_ | refine DW.exit ?_ | refine DW.condT rfl ?_ | refine DW.condF rfl ?_))
  refine RO.sta (sta_call rfl rfl (cA _)) rfl ?_
  (repeat (first | refine RO.Sv ?_ | refine RO.Yv ?_ | refine RO.no rfl (by decide) rfl ?_ | refine RO.nil ?_ | refine DW.region ?_ | refine DW.seq ?_ | refine DW.block ?_ | refine DW.skip ?_ | refine DW.exit ?_ | refine DW.condT rfl ?_ | refine DW.condF rfl ?_))
  refine RO.yes rfl rfl (OpD.of_sta (sta_call rfl rfl (SameVector_pure v hvc.1 hvc.2 _)) ?_)
  (repeat (first | refine RO.Sv ?_ | refine RO.Yv ?_ | refine RO.no rfl (by decide) rfl ?_ | refine RO.nil ?_ | refine DW.region ?_ | refine DW.seq ?_ | refine DW.block ?_ | refine DW.skip ?_ | refine DW.exit ?_ | refine DW.condT rfl ?_ | refine DW.condF rfl ?_))
  exact DW.ret ⟨.inl rfl, _, rfl, Over.refl _, .same _⟩

end Go.Proofs.Ytblileclefbklaa

namespace Go.Proofs.Ytblileclefbklaa
open Go.RowKit Go.ChangeShapes Go.WideShapes Go.ChangeAt
set_option linter.unusedVariables false

set_option maxRecDepth 100000 in
theorem divideHangs_lifted (os : Os) (started : os.Started) (H : Type) (enc : TypeId × Value → H) :
    ReturnsInHanded {} Try.checked os 6 .any (Rows.divideHangsSpec.pre6 enc Try.prog Try.f6 Rows.divideHangsRow.domain false) (Rows.divideHangsSpec.post enc Try.prog Try.f6 false true false false) := by
  refine returnsInHanded_of_change_sized (C := Try.checked) Try.ownK started (by kernel_rfl) Try.func6
    (ChangeSpec.witness6 (enc := enc) (C := Try.checked) false ⟨#[], #[.agg #[.int .i64 0, .int .i64 0, .int .i64 0, .int .i64 0], .int .i64 0, .slice none 0 0, .slice none 0 0], []⟩ 8 (by kernel_rfl) (by kernel_rfl) (by kernel_rfl) (by kernel_rfl)) ?_
  intro W base args ds gs before hval0 hW hcnd hwt _
  have hval : ∀ (j : Nat) t v, Try.f6.params[j]? = some t → args[j]? = some v → Value.okWide Try.prog W .any base t v := hval0
  have hW' := hW
  obtain ⟨p, q, hA0, hV, rfl, hfz, hnd⟩ := hW
  have hA : DataW.TrodAll enc Try.prog W 0 (fun _ => true) true Try.f6.params.toList args.toList ds p := hA0
  rw [Try.params6] at hA hval
  obtain ⟨v0, vs0, d0, ds0, p0, q0, hargs, rfl, rfl, h0, r0⟩ := trodAll_cons hA
  obtain ⟨v1, vs1, d1, ds1, p1, q1, rfl, rfl, rfl, h1, r1⟩ := trodAll_cons r0
  obtain ⟨v2, vs2, d2, ds2, p2, q2, rfl, rfl, rfl, h2, r2⟩ := trodAll_cons r1
  obtain ⟨v3, vs3, d3, ds3, p3, q3, rfl, rfl, rfl, h3, r3⟩ := trodAll_cons r2
  obtain ⟨rfl, rfl, rfl⟩ := trodAll_nil r3
  obtain rfl : args = #[v0, v1, v2, v3] := by cases args; simp_all
  obtain ⟨rfl, rfl⟩ := trodVars_none hV
  rw [Try.params6] at hwt
  obtain ⟨w0, hwt⟩ := weights_head hwt
  obtain ⟨w1, hwt⟩ := weights_head hwt
  obtain ⟨w2, hwt⟩ := weights_head hwt
  obtain ⟨w3, hwt⟩ := weights_head hwt
  obtain ⟨c0, rfl, _⟩ := okWide_struct Try.underlying23 (hval 0 _ v0 rfl rfl)
  obtain ⟨n1, rfl⟩ := okWide_int Try.underlying3 (hval 1 _ v1 rfl rfl)
  obtain ⟨s2, n2, k2, rfl⟩ := okWide_slice Try.underlying25 (hval 2 _ v2 rfl rfl)
  obtain ⟨s3, n3, k3, rfl⟩ := okWide_slice Try.underlying26 (hval 3 _ v3 rfl rfl)
  obtain ⟨x0, g0, b0⟩ := arg_agg Try.opensRing (fun _ => rfl) h0 w0
  obtain ⟨x1, g1, b1⟩ := arg_cell Try.opensInt (fun _ => rfl) (int_cells _ _) h1 w1
  obtain ⟨x2, g2, b2⟩ := arg_cell Try.opensVec (fun _ => rfl) (slice_cells _ _ _) h2 w2
  obtain ⟨x3, g3, b3⟩ := arg_cell Try.opensVecs (fun _ => rfl) (slice_cells _ _ _) h3 w3
  refine (law_calls (divideHangs_pure x0 x1 x2 x3 (vcLe b2) (vcsLe b3)) (.cons g0 (.cons g1 (.cons g2 (.cons g3 .nil))))).mono fun e W' ⟨he, hb⟩ => ?_
  subst he
  exact ⟨_, rfl, law_post hW' rfl Try.laidOutK (of_decide_eq_true (by kernel_rfl)) (tb := 4) rfl Try.underlying4 rfl rfl rfl hb⟩

theorem divideHangs_holds : Rows.DivideHangsSaid :=
  OpenClaim.holds_of_wide 6 Try.f6 rfl rfl rfl rfl rfl rfl rfl ⟨rfl, rfl, rfl, rfl, rfl⟩ rfl rfl rfl rfl rfl (by kernel_rfl) Try.func6 (by kernel_rfl)
    (of_decide_eq_true (by kernel_rfl)) (by unfold Func.isWrapper; first | (rw [if_pos (by decide +kernel)]; kernel_rfl) | (rw [if_neg (by decide +kernel)]; exact ⟨rfl, rfl⟩))
    (fun os started H enc _ => divideHangs_lifted os started H enc)

end Go.Proofs.Ytblileclefbklaa
