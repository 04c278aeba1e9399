/-
  VectorCombines holds: whatever it is handed, the law answers true, and its arguments read as before. No condition.
-/
import Derived.Test.YtblileclefbklaaKVc20
import Derived.Test.YtblileclefbklaaKVc7

namespace Go.Proofs.Ytblileclefbklaa
open Go.RowKit
set_option linter.unusedVariables false
set_option linter.unusedSimpArgs false
set_option maxHeartbeats 8000000

/-- What is wrong, but for the products. -/
def combCk1 (r : Rg) (rank : Int) (c : Vc) (l : List Vc) : Int := if vecsCk r rank l ≠ 0 then vecsCk r rank l else if (c.length : Int) ≠ l.length then 1 else polysGo r c

def combCk2 (r : Rg) (rank : Int) (c : Vc) (l : List Vc) : Int := if vecsCk r rank l ≠ 0 then vecsCk r rank l else if (c.length : Int) ≠ l.length then 1 else 0

theorem combCk2_a {r : Rg} {rank : Int} {c : Vc} {l : List Vc} (h1 : ¬ vecsCk r rank l = 0) : combCk2 r rank c l = vecsCk r rank l ∧ combCk1 r rank c l = vecsCk r rank l := ⟨if_pos h1, if_pos h1⟩
theorem combCk2_b {r : Rg} {rank : Int} {c : Vc} {l : List Vc} (h1 : vecsCk r rank l = 0) (h2 : (c.length : Int) ≠ l.length) : combCk2 r rank c l = 1 ∧ combCk1 r rank c l = 1 := by
  simp [combCk2, combCk1, h1, h2]
theorem combCk2_c {r : Rg} {rank : Int} {c : Vc} {l : List Vc} (h1 : vecsCk r rank l = 0) (h2 : ¬ (c.length : Int) ≠ l.length) : combCk2 r rank c l = 0 ∧ combCk1 r rank c l = polysGo r c := by
  simp only [ne_eq, Decidable.not_not] at h2; simp [combCk2, combCk1, h1, h2]

theorem combCk0_no {r : Rg} {rank : Int} {c : Vc} {l : List Vc} (h : combCk1 r rank c l ≠ 0) : combCk0 r rank c l = combCk1 r rank c l := by
  unfold combCk1 at h ⊢
  unfold combCk0
  by_cases h1 : vecsCk r rank l ≠ 0
  · rw [if_pos h1, if_pos h1]
  · rw [if_neg h1] at h ⊢
    rw [if_neg h1]
    by_cases h2 : (c.length : Int) ≠ l.length
    · rw [if_pos h2, if_pos h2]
    · rw [if_neg h2] at h ⊢
      rw [if_neg h2, if_pos h]

theorem combCk1_ok {r : Rg} {rank : Int} {c : Vc} {l : List Vc} (h : combCk1 r rank c l = 0) : CombOk r rank c l ∧ combCk0 r rank c l = if badGo r c l = true then 2 else 0 := by
  unfold combCk1 at h
  unfold combCk0
  by_cases h1 : vecsCk r rank l ≠ 0
  · rw [if_pos h1] at h; exact absurd h h1
  · rw [if_neg h1] at h
    by_cases h2 : (c.length : Int) ≠ l.length
    · rw [if_pos h2] at h; cases h
    · rw [if_neg h2] at h
      exact ⟨combOk (by simpa using h1) h2 h, by rw [if_neg h1, if_neg h2, if_neg (by simpa using h)]⟩

theorem isEmpty_dec (l : Pl) : (!l.isEmpty) = decide ((0 : Int) < (l.length : Int)) := by cases l <;> simp <;> omega

theorem CheckCombine_pure (r : Rg) (rank : Int) (c : Vc) (l : List Vc) (hcl : c.length ≤ 4611686018427387904 ∧ ∀ f ∈ c, f.length ≤ 4611686018427387904) (hl : l.length ≤ 4611686018427387904 ∧ ∀ v ∈ l, v.length ≤ 4611686018427387904 ∧ ∀ f ∈ v, f.length ≤ 4611686018427387904) :
    Pure Try.prog 29 [rgD r, I rank, vcD c, vcsD l] (I (combCk r rank c l)) := by
  intro H
  refine PureH.of_body Try.func29 rfl (by decide) (Nat.le_of_ble_eq_true rfl) fun w0 => ?_
  (repeat (first | refine RO.Sv ?_ | refine RO.Yv ?_ | refine RO.no rfl (by decide) rfl ?_ | refine RO.nil ?_ | refine DW.region ?_ | refine DW.seq ?_ | refine DW.block ?_ | refine DW.skip ?_ | refine DW.exit ?_ | refine DW.condT rfl ?_ | refine DW.condF rfl ?_))
  refine RO.sta (sta_call rfl rfl (CheckVectors_pure r rank l hl.1 hl.2 _)) rfl ?_
  (repeat (first | refine RO.Sv ?_ | refine RO.Yv ?_ | refine RO.no rfl (by decide) rfl ?_ | refine RO.nil ?_ | refine DW.region ?_ | refine DW.seq ?_ | refine DW.block ?_ | refine DW.skip ?_ | refine DW.exit ?_ | refine DW.condT rfl ?_ | refine DW.condF rfl ?_))
  refine RO.cut [(1, I rank), (2, vcD c), (3, vcsD l), (4, .ipt 4 [rgD r] 0 0), (9, I (vecsCk r rank l)), (24, .bool (decide (vecsCk r rank l = 0 ∧ (c.length : Int) ≠ l.length)))] H ?_ ?_
  rotate_left
  · by_cases h1 : vecsCk r rank l = 0
    case neg =>
      rw [show (vecsCk r rank l == 0) = false by simpa using h1, decide_eq_false (fun h => h1 h.1)]
      (repeat (first | refine RO.Sv ?_ | refine RO.Yv ?_ | refine RO.no rfl (by decide) rfl ?_ | refine RO.nil ?_ | refine DW.region ?_ | refine DW.seq ?_ | refine DW.block ?_ | refine DW.skip ?_ | refine DW.exit ?_ | refine DW.condT rfl ?_ | refine DW.condF rfl ?_))
      exact ⟨(by repeat first | exact trivial | refine HasG.one rfl ?_ | refine HasN.one rfl ?_), rfl⟩
    rw [show (vecsCk r rank l == 0) = true by simpa using h1]
    by_cases h2 : (c.length : Int) ≠ l.length
    · rw [decide_eq_true ⟨h1, h2⟩]
      (repeat (first | refine RO.Sv ?_ | refine RO.Yv ?_ | refine RO.no rfl (by decide) rfl ?_ | refine RO.nil ?_ | refine DW.region ?_ | refine DW.seq ?_ | refine DW.block ?_ | refine DW.skip ?_ | refine DW.exit ?_ | refine DW.condT rfl ?_ | refine DW.condF rfl ?_))
      rw [show ((c.length : Int) != (l.length : Int)) = true by simpa using h2]
      (repeat (first | refine RO.Sv ?_ | refine RO.Yv ?_ | refine RO.no rfl (by decide) rfl ?_ | refine RO.nil ?_ | refine DW.region ?_ | refine DW.seq ?_ | refine DW.block ?_ | refine DW.skip ?_ | refine DW.exit ?_ | refine DW.condT rfl ?_ | refine DW.condF rfl ?_))
      exact ⟨(by repeat first | exact trivial | refine HasG.one rfl ?_ | refine HasN.one rfl ?_), rfl⟩
    · rw [decide_eq_false (fun h => h2 h.2)]
      (repeat (first | refine RO.Sv ?_ | refine RO.Yv ?_ | refine RO.no rfl (by decide) rfl ?_ | refine RO.nil ?_ | refine DW.region ?_ | refine DW.seq ?_ | refine DW.block ?_ | refine DW.skip ?_ | refine DW.exit ?_ | refine DW.condT rfl ?_ | refine DW.condF rfl ?_))
      rw [show ((c.length : Int) != (l.length : Int)) = false by simpa using h2]
      (repeat (first | refine RO.Sv ?_ | refine RO.Yv ?_ | refine RO.no rfl (by decide) rfl ?_ | refine RO.nil ?_ | refine DW.region ?_ | refine DW.seq ?_ | refine DW.block ?_ | refine DW.skip ?_ | refine DW.exit ?_ | refine DW.condT rfl ?_ | refine DW.condF rfl ?_))
      exact ⟨(by repeat first | exact trivial | refine HasG.one rfl ?_ | refine HasN.one rfl ?_), rfl⟩
  (repeat (first | refine RO.Sv ?_ | refine RO.Yv ?_ | refine RO.no rfl (by decide) rfl ?_ | refine RO.nil ?_ | refine DW.region ?_ | refine DW.seq ?_ | refine DW.block ?_ | refine DW.skip ?_ | refine DW.exit ?_ | refine DW.condT rfl ?_ | refine DW.condF rfl ?_))
  refine DW.cutg [(1, I rank), (2, vcD c), (3, vcsD l), (4, .ipt 4 [rgD r] 0 0), (9, I (combCk2 r rank c l))] H ?_ ?_
  rotate_left
  · by_cases h1 : vecsCk r rank l = 0
    case neg =>
      rw [(combCk2_a h1).1, decide_eq_false (fun h => h1 h.1)]
      (repeat (first | refine RO.Sv ?_ | refine RO.Yv ?_ | refine RO.no rfl (by decide) rfl ?_ | refine RO.nil ?_ | refine DW.region ?_ | refine DW.seq ?_ | refine DW.block ?_ | refine DW.skip ?_ | refine DW.exit ?_ | refine DW.condT rfl ?_ | refine DW.condF rfl ?_))
      exact ⟨Heap.sub_refl _, (by repeat first | exact trivial | refine HasG.one rfl ?_ | refine HasN.one rfl ?_)⟩
    by_cases h2 : (c.length : Int) ≠ l.length
    · rw [(combCk2_b h1 h2).1, decide_eq_true ⟨h1, h2⟩]
      (repeat (first | refine RO.Sv ?_ | refine RO.Yv ?_ | refine RO.no rfl (by decide) rfl ?_ | refine RO.nil ?_ | refine DW.region ?_ | refine DW.seq ?_ | refine DW.block ?_ | refine DW.skip ?_ | refine DW.exit ?_ | refine DW.condT rfl ?_ | refine DW.condF rfl ?_))
      exact ⟨Heap.sub_refl _, (by repeat first | exact trivial | refine HasG.one rfl ?_ | refine HasN.one rfl ?_)⟩
    · rw [(combCk2_c h1 h2).1, decide_eq_false (fun h => h2 h.2)]
      (repeat (first | refine RO.Sv ?_ | refine RO.Yv ?_ | refine RO.no rfl (by decide) rfl ?_ | refine RO.nil ?_ | refine DW.region ?_ | refine DW.seq ?_ | refine DW.block ?_ | refine DW.skip ?_ | refine DW.exit ?_ | refine DW.condT rfl ?_ | refine DW.condF rfl ?_))
      rw [h1]
      exact ⟨Heap.sub_refl _, (by repeat first | exact trivial | refine HasG.one rfl ?_ | refine HasN.one rfl ?_)⟩
  (repeat (first | refine RO.Sv ?_ | refine RO.Yv ?_ | refine RO.no rfl (by decide) rfl ?_ | refine RO.nil ?_ | refine DW.region ?_ | refine DW.seq ?_ | refine DW.block ?_ | refine DW.skip ?_ | refine DW.exit ?_ | refine DW.condT rfl ?_ | refine DW.condF rfl ?_))
  refine DW.cutg [(1, I rank), (2, vcD c), (3, vcsD l), (4, .ipt 4 [rgD r] 0 0), (9, I (combCk1 r rank c l))] H ?_ ?_
  rotate_left
  · by_cases h1 : vecsCk r rank l = 0
    case neg =>
      rw [(combCk2_a h1).1, (combCk2_a h1).2, show (vecsCk r rank l == 0) = false by simpa using h1]
      (repeat (first | refine RO.Sv ?_ | refine RO.Yv ?_ | refine RO.no rfl (by decide) rfl ?_ | refine RO.nil ?_ | refine DW.region ?_ | refine DW.seq ?_ | refine DW.block ?_ | refine DW.skip ?_ | refine DW.exit ?_ | refine DW.condT rfl ?_ | refine DW.condF rfl ?_))
      exact ⟨Heap.sub_refl _, (by repeat first | exact trivial | refine HasG.one rfl ?_ | refine HasN.one rfl ?_)⟩
    by_cases h2 : (c.length : Int) ≠ l.length
    · rw [(combCk2_b h1 h2).1, (combCk2_b h1 h2).2]
      (repeat (first | refine RO.Sv ?_ | refine RO.Yv ?_ | refine RO.no rfl (by decide) rfl ?_ | refine RO.nil ?_ | refine DW.region ?_ | refine DW.seq ?_ | refine DW.block ?_ | refine DW.skip ?_ | refine DW.exit ?_ | refine DW.condT rfl ?_ | refine DW.condF rfl ?_))
      exact ⟨Heap.sub_refl _, (by repeat first | exact trivial | refine HasG.one rfl ?_ | refine HasN.one rfl ?_)⟩
    · rw [(combCk2_c h1 h2).1, (combCk2_c h1 h2).2]
      (repeat (first | refine RO.Sv ?_ | refine RO.Yv ?_ | refine RO.no rfl (by decide) rfl ?_ | refine RO.nil ?_ | refine DW.region ?_ | refine DW.seq ?_ | refine DW.block ?_ | refine DW.skip ?_ | refine DW.exit ?_ | refine DW.condT rfl ?_ | refine DW.condF rfl ?_))
      refine RO.sta (sta_call rfl rfl (CheckPolys_pure r c hcl.1 hcl.2 _)) rfl ?_
      rw [show polysCk r c = polysGo r c from if_pos (vecsCk_ok h1).1]
      (repeat (first | refine RO.Sv ?_ | refine RO.Yv ?_ | refine RO.no rfl (by decide) rfl ?_ | refine RO.nil ?_ | refine DW.region ?_ | refine DW.seq ?_ | refine DW.block ?_ | refine DW.skip ?_ | refine DW.exit ?_ | refine DW.condT rfl ?_ | refine DW.condF rfl ?_))
      exact ⟨Heap.sub_refl _, (by repeat first | exact trivial | refine HasG.one rfl ?_ | refine HasN.one rfl ?_)⟩
  (repeat (first | refine RO.Sv ?_ | refine RO.Yv ?_ | refine RO.no rfl (by decide) rfl ?_ | refine RO.nil ?_ | refine DW.region ?_ | refine DW.seq ?_ | refine DW.block ?_ | refine DW.skip ?_ | refine DW.exit ?_ | refine DW.condT rfl ?_ | refine DW.condF rfl ?_))
  by_cases h1 : combCk1 r rank c l = 0
  case neg =>
    have hk : combCk r rank c l = combCk1 r rank c l := by unfold combCk; rw [combCk0_no h1, if_pos h1]
    refine DW.loopI (fun _ : Unit => True) (fun _ => [(9, I (combCk1 r rank c l)), (3, vcsD l), (10, I 0)]) (fun _ => H) (fun _ => 0) () trivial rfl ⟨rfl, rfl, rfl, trivial⟩ fun _ _ => ?_
    (repeat (first | refine RO.Sv ?_ | refine RO.Yv ?_ | refine RO.no rfl (by decide) rfl ?_ | refine RO.nil ?_ | refine DW.region ?_ | refine DW.seq ?_ | refine DW.block ?_ | refine DW.skip ?_ | refine DW.exit ?_ | refine DW.condT rfl ?_ | refine DW.condF rfl ?_))
    have hout : ∀ b : Bool, b = false → True := fun _ _ => trivial
    cases hb : decide ((0 : Int) < (l.length : Int))
    · (repeat (first | refine RO.Sv ?_ | refine RO.Yv ?_ | refine RO.no rfl (by decide) rfl ?_ | refine RO.nil ?_ | refine DW.region ?_ | refine DW.seq ?_ | refine DW.block ?_ | refine DW.skip ?_ | refine DW.exit ?_ | refine DW.condT rfl ?_ | refine DW.condF rfl ?_))
      rw [show (combCk1 r rank c l == 0) = false by simpa using h1]
      (repeat (first | refine RO.Sv ?_ | refine RO.Yv ?_ | refine RO.no rfl (by decide) rfl ?_ | refine RO.nil ?_ | refine DW.region ?_ | refine DW.seq ?_ | refine DW.block ?_ | refine DW.skip ?_ | refine DW.exit ?_ | refine DW.condT rfl ?_ | refine DW.condF rfl ?_))
      rw [hk]
      exact DW.ret ⟨.inl rfl, _, rfl, Over.refl _, .same _⟩
    · (repeat (first | refine RO.Sv ?_ | refine RO.Yv ?_ | refine RO.no rfl (by decide) rfl ?_ | refine RO.nil ?_ | refine DW.region ?_ | refine DW.seq ?_ | refine DW.block ?_ | refine DW.skip ?_ | refine DW.exit ?_ | refine DW.condT rfl ?_ | refine DW.condF rfl ?_))
      rw [show (combCk1 r rank c l == 0) = false by simpa using h1]
      (repeat (first | refine RO.Sv ?_ | refine RO.Yv ?_ | refine RO.no rfl (by decide) rfl ?_ | refine RO.nil ?_ | refine DW.region ?_ | refine DW.seq ?_ | refine DW.block ?_ | refine DW.skip ?_ | refine DW.exit ?_ | refine DW.condT rfl ?_ | refine DW.condF rfl ?_))
      rw [show (combCk1 r rank c l == 0) = false by simpa using h1]
      (repeat (first | refine RO.Sv ?_ | refine RO.Yv ?_ | refine RO.no rfl (by decide) rfl ?_ | refine RO.nil ?_ | refine DW.region ?_ | refine DW.seq ?_ | refine DW.block ?_ | refine DW.skip ?_ | refine DW.exit ?_ | refine DW.condT rfl ?_ | refine DW.condF rfl ?_))
      rw [hk]
      exact DW.ret ⟨.inl rfl, _, rfl, Over.refl _, .same _⟩
  obtain ⟨h, hk⟩ := combCk1_ok h1
  have hr2 := ringCk_ok h.ring
  have hp := ckP_ok hr2.1
  have hpr : Prm r.p := ckP_prm hr2.1
  have hrk1 := h.rank1
  have hrk2 := h.rank2
  have hlen := h.len
  have hcln := h.clen
  rw [h1]
  refine DW.loopI (fun k : Nat => k ≤ l.length ∧ badGo r (c.drop k) (l.drop k) = badGo r c l) (fun k => [(1, I rank), (2, vcD c), (3, vcsD l), (4, .ipt 4 [rgD r] 0 0), (9, I 0), (10, I k)]) (fun _ => H) (fun k => l.length - k) 0 ⟨Nat.zero_le _, rfl⟩ rfl ⟨rfl, rfl, rfl, rfl, rfl, rfl, trivial⟩ fun k ⟨hkl, hg⟩ => ?_
  (repeat (first | refine RO.Sv ?_ | refine RO.Yv ?_ | refine RO.no rfl (by decide) rfl ?_ | refine RO.nil ?_ | refine DW.region ?_ | refine DW.seq ?_ | refine DW.block ?_ | refine DW.skip ?_ | refine DW.exit ?_ | refine DW.condT rfl ?_ | refine DW.condF rfl ?_))
  cases hb : decide ((k : Int) < (l.length : Int))
  case true =>
    have hlt : k < l.length := by have := of_decide_eq_true hb; omega
    have hltc : k < c.length := by omega
    rw [badGo_drop hltc hlt] at hg
    clear hb
    have hv := h.vecs _ (List.getElem_mem hlt)
    have hf := h.polys _ (List.getElem_mem hltc)
    have hvl := hv.len
    have hfl := hf.len
    have hfm : ∀ t ∈ c[k], MOk t.e := fun t ht => (hf.ok.all t ht).mok (by omega) (by omega)
    (repeat (first | refine RO.Sv ?_ | refine RO.Yv ?_ | refine RO.no rfl (by decide) rfl ?_ | refine RO.nil ?_ | refine DW.region ?_ | refine DW.seq ?_ | refine DW.block ?_ | refine DW.skip ?_ | refine DW.exit ?_ | refine DW.condT rfl ?_ | refine DW.condF rfl ?_))
    refine DW.loopI (fun j : Nat => j ≤ l[k].length ∧ ((l[k].drop j).any (bad2T r c[k]) || badGo r (c.drop (k + 1)) (l.drop (k + 1))) = badGo r c l) (fun j => [(1, I rank), (2, vcD c), (3, vcsD l), (4, .ipt 4 [rgD r] 0 0), (9, I 0), (10, I k), (11, I j)]) (fun _ => H) (fun j => l[k].length - j) 0 ⟨Nat.zero_le _, hg⟩ rfl ⟨rfl, rfl, rfl, rfl, rfl, rfl, rfl, trivial⟩ fun j ⟨hj, hgj⟩ => ?_
    (repeat (first | refine RO.Sv ?_ | refine RO.Yv ?_ | refine RO.no rfl (by decide) rfl ?_ | refine RO.nil ?_ | refine DW.region ?_ | refine DW.seq ?_ | refine DW.block ?_ | refine DW.skip ?_ | refine DW.exit ?_ | refine DW.condT rfl ?_ | refine DW.condF rfl ?_))
    refine DW.cond rfl (fun hb => ?_) (fun hb => ?_)
    · have hjl : j < l[k].length := by have := of_decide_eq_true hb; omega
      clear hb
      obtain ⟨a1, a2⟩ := hv.vb _ (List.getElem_mem hjl)
      have hmul : c[k].length * l[k][j].length ≤ 2000 * 2000 := Nat.mul_le_mul hfl a2
      rw [any_drop hjl] at hgj
      have c1 := fun H' => TopOf_pure c[k] (by omega) hfm (topT_ge hf.ok) H'
      have c2 := fun H' => TopOf_pure l[k][j] (by omega) (fun t ht => (a1.all t ht).mok (by omega) (by omega)) (topT_ge a1) H'
      have c3 := fun H' => refProduct_pure r c[k] l[k][j] (n := r.n.toNat) (by omega) (B := 200) (C := 200) (by omega) (by omega) (by omega) hr2.1 hpr (by omega) hf.ok a1 (by omega) (by omega) H'
      have hpo := prodT_ok (o := r.order) (by omega) hpr a1 (C := 200) (by omega) (fun t ht => (hf.ok.all t ht).mono (by omega) (by omega))
      have hpl := prodT_length (o := r.order) (by omega) hpr a1 (C := 200) (by omega) (fun t ht => (hf.ok.all t ht).mono (by omega) (by omega))
      have c4 := fun H' => Great_pure (prodT r.p r.order c[k] l[k][j]) (by omega) (fun t ht => (hpo.all t ht).mok (by omega) (by omega)) (topT_ge hpo) H'
      have b1 : -1 ≤ topT c[k] ∧ topT c[k] ≤ 3000000 := topT_bounds hfm
      have b2 : -1 ≤ topT l[k][j] ∧ topT l[k][j] ≤ 3000000 := topT_bounds (fun t ht => (a1.all t ht).mok (by omega) (by omega))
      have hbig : bigT c[k] l[k][j] = (decide ((0 : Int) < (c[k].length : Int)) && (decide ((0 : Int) < (l[k][j].length : Int)) && decide (200 < topT c[k] + topT l[k][j]))) := by unfold bigT; rw [isEmpty_dec, isEmpty_dec]
      unfold bad2T at hgj
      rw [hbig] at hgj
      (repeat (first | refine RO.Sv ?_ | refine RO.Yv ?_ | refine RO.no rfl (by decide) rfl ?_ | refine RO.nil ?_ | refine DW.region ?_ | refine DW.seq ?_ | refine DW.block ?_ | refine DW.skip ?_ | refine DW.exit ?_ | refine DW.condT rfl ?_ | refine DW.condF rfl ?_))
      refine DW.drawS 50 Try.mixed (by kernel_rfl) (by decide) ?_
      dsimp only [List.take, List.drop]
      (repeat (first | refine RS.Sv ?_ | refine RS.Yv ?_ | refine RS.no rfl (by decide) rfl ?_ | refine RS.nil ?_))
      cases h1 : decide ((0 : Int) < (c[k].length : Int))
      case false =>
        rw [h1, Bool.false_and, Bool.false_or] at hgj
        (repeat (first | refine RS.Sv ?_ | refine RS.Yv ?_ | refine RS.no rfl (by decide) rfl ?_ | refine RS.nil ?_))
        refine RS.yes rfl (fun H' hov => sta_call rfl rfl (c3 _)) rfl ?_
        (repeat (first | refine RS.Sv ?_ | refine RS.Yv ?_ | refine RS.no rfl (by decide) rfl ?_ | refine RS.nil ?_))
        refine RS.yes rfl (fun H' hov => sta_call rfl rfl (c4 _)) rfl ?_
        cases hgr : greatT (prodT r.p r.order c[k] l[k][j])
        case false =>
          rw [hgr, Bool.false_or] at hgj
          (repeat (first | refine RS.Sv ?_ | refine RS.Yv ?_ | refine RS.no rfl (by decide) rfl ?_ | refine RS.nil ?_))
          (repeat (first | refine RO.Sv ?_ | refine RO.Yv ?_ | refine RO.no rfl (by decide) rfl ?_ | refine RO.nil ?_ | refine DW.region ?_ | refine DW.seq ?_ | refine DW.block ?_ | refine DW.skip ?_ | refine DW.exit ?_ | refine DW.condT rfl ?_ | refine DW.condF rfl ?_))
          exact ⟨j + 1, ⟨hjl, hgj⟩, by dsimp only; omega, rfl, rfl, rfl, rfl, rfl, rfl, rfl, rfl, trivial⟩
        rw [hgr, Bool.true_or] at hgj
        (repeat (first | refine RS.Sv ?_ | refine RS.Yv ?_ | refine RS.no rfl (by decide) rfl ?_ | refine RS.nil ?_))
        (repeat (first | refine RO.Sv ?_ | refine RO.Yv ?_ | refine RO.no rfl (by decide) rfl ?_ | refine RO.nil ?_ | refine DW.region ?_ | refine DW.seq ?_ | refine DW.block ?_ | refine DW.skip ?_ | refine DW.exit ?_ | refine DW.condT rfl ?_ | refine DW.condF rfl ?_))
        have hk2 : combCk r rank c l = 2 := by unfold combCk; rw [hk, ← hgj]; rfl
        rw [hk2]
        exact DW.ret ⟨.inl rfl, _, rfl, Over.refl _, .same _⟩
      rw [h1, Bool.true_and] at hgj
      (repeat (first | refine RS.Sv ?_ | refine RS.Yv ?_ | refine RS.no rfl (by decide) rfl ?_ | refine RS.nil ?_))
      cases h2 : decide ((0 : Int) < (l[k][j].length : Int))
      case false =>
        rw [h2, Bool.false_and, Bool.false_or] at hgj
        (repeat (first | refine RS.Sv ?_ | refine RS.Yv ?_ | refine RS.no rfl (by decide) rfl ?_ | refine RS.nil ?_))
        refine RS.yes rfl (fun H' hov => sta_call rfl rfl (c3 _)) rfl ?_
        (repeat (first | refine RS.Sv ?_ | refine RS.Yv ?_ | refine RS.no rfl (by decide) rfl ?_ | refine RS.nil ?_))
        refine RS.yes rfl (fun H' hov => sta_call rfl rfl (c4 _)) rfl ?_
        cases hgr : greatT (prodT r.p r.order c[k] l[k][j])
        case false =>
          rw [hgr, Bool.false_or] at hgj
          (repeat (first | refine RS.Sv ?_ | refine RS.Yv ?_ | refine RS.no rfl (by decide) rfl ?_ | refine RS.nil ?_))
          (repeat (first | refine RO.Sv ?_ | refine RO.Yv ?_ | refine RO.no rfl (by decide) rfl ?_ | refine RO.nil ?_ | refine DW.region ?_ | refine DW.seq ?_ | refine DW.block ?_ | refine DW.skip ?_ | refine DW.exit ?_ | refine DW.condT rfl ?_ | refine DW.condF rfl ?_))
          exact ⟨j + 1, ⟨hjl, hgj⟩, by dsimp only; omega, rfl, rfl, rfl, rfl, rfl, rfl, rfl, rfl, trivial⟩
        rw [hgr, Bool.true_or] at hgj
        (repeat (first | refine RS.Sv ?_ | refine RS.Yv ?_ | refine RS.no rfl (by decide) rfl ?_ | refine RS.nil ?_))
        (repeat (first | refine RO.Sv ?_ | refine RO.Yv ?_ | refine RO.no rfl (by decide) rfl ?_ | refine RO.nil ?_ | refine DW.region ?_ | refine DW.seq ?_ | refine DW.block ?_ | refine DW.skip ?_ | refine DW.exit ?_ | refine DW.condT rfl ?_ | refine DW.condF rfl ?_))
        have hk2 : combCk r rank c l = 2 := by unfold combCk; rw [hk, ← hgj]; rfl
        rw [hk2]
        exact DW.ret ⟨.inl rfl, _, rfl, Over.refl _, .same _⟩
      rw [h2, Bool.true_and] at hgj
      (repeat (first | refine RS.Sv ?_ | refine RS.Yv ?_ | refine RS.no rfl (by decide) rfl ?_ | refine RS.nil ?_))
      refine RS.yes rfl (fun H' hov => sta_call rfl rfl (c1 _)) rfl ?_
      (repeat (first | refine RS.Sv ?_ | refine RS.Yv ?_ | refine RS.no rfl (by decide) rfl ?_ | refine RS.nil ?_))
      refine RS.yes rfl (fun H' hov => sta_call rfl rfl (c2 _)) rfl ?_
      (repeat (first | refine RS.Sv ?_ | refine RS.Yv ?_ | refine RS.no rfl (by decide) rfl ?_ | refine RS.nil ?_))
      cases h3 : decide ((200 : Int) < topT c[k] + topT l[k][j])
      case false =>
        rw [h3, Bool.false_or] at hgj
        (repeat (first | refine RS.Sv ?_ | refine RS.Yv ?_ | refine RS.no rfl (by decide) rfl ?_ | refine RS.nil ?_))
        refine RS.yes rfl (fun H' hov => sta_call rfl rfl (c3 _)) rfl ?_
        (repeat (first | refine RS.Sv ?_ | refine RS.Yv ?_ | refine RS.no rfl (by decide) rfl ?_ | refine RS.nil ?_))
        refine RS.yes rfl (fun H' hov => sta_call rfl rfl (c4 _)) rfl ?_
        cases hgr : greatT (prodT r.p r.order c[k] l[k][j])
        case false =>
          rw [hgr, Bool.false_or] at hgj
          (repeat (first | refine RS.Sv ?_ | refine RS.Yv ?_ | refine RS.no rfl (by decide) rfl ?_ | refine RS.nil ?_))
          (repeat (first | refine RO.Sv ?_ | refine RO.Yv ?_ | refine RO.no rfl (by decide) rfl ?_ | refine RO.nil ?_ | refine DW.region ?_ | refine DW.seq ?_ | refine DW.block ?_ | refine DW.skip ?_ | refine DW.exit ?_ | refine DW.condT rfl ?_ | refine DW.condF rfl ?_))
          exact ⟨j + 1, ⟨hjl, hgj⟩, by dsimp only; omega, rfl, rfl, rfl, rfl, rfl, rfl, rfl, rfl, trivial⟩
        rw [hgr, Bool.true_or] at hgj
        (repeat (first | refine RS.Sv ?_ | refine RS.Yv ?_ | refine RS.no rfl (by decide) rfl ?_ | refine RS.nil ?_))
        (repeat (first | refine RO.Sv ?_ | refine RO.Yv ?_ | refine RO.no rfl (by decide) rfl ?_ | refine RO.nil ?_ | refine DW.region ?_ | refine DW.seq ?_ | refine DW.block ?_ | refine DW.skip ?_ | refine DW.exit ?_ | refine DW.condT rfl ?_ | refine DW.condF rfl ?_))
        have hk2 : combCk r rank c l = 2 := by unfold combCk; rw [hk, ← hgj]; rfl
        rw [hk2]
        exact DW.ret ⟨.inl rfl, _, rfl, Over.refl _, .same _⟩
      rw [h3, Bool.true_or, Bool.true_or] at hgj
      (repeat (first | refine RS.Sv ?_ | refine RS.Yv ?_ | refine RS.no rfl (by decide) rfl ?_ | refine RS.nil ?_))
      (repeat (first | refine RO.Sv ?_ | refine RO.Yv ?_ | refine RO.no rfl (by decide) rfl ?_ | refine RO.nil ?_ | refine DW.region ?_ | refine DW.seq ?_ | refine DW.block ?_ | refine DW.skip ?_ | refine DW.exit ?_ | refine DW.condT rfl ?_ | refine DW.condF rfl ?_))
      have hk2 : combCk r rank c l = 2 := by unfold combCk; rw [hk, ← hgj]; rfl
      rw [hk2]
      exact DW.ret ⟨.inl rfl, _, rfl, Over.refl _, .same _⟩
    · have hge : j = l[k].length := by have := of_decide_eq_false hb; omega
      rw [hge, List.drop_length] at hgj
      (repeat (first | refine RO.Sv ?_ | refine RO.Yv ?_ | refine RO.no rfl (by decide) rfl ?_ | refine RO.nil ?_ | refine DW.region ?_ | refine DW.seq ?_ | refine DW.block ?_ | refine DW.skip ?_ | refine DW.exit ?_ | refine DW.condT rfl ?_ | refine DW.condF rfl ?_))
      exact ⟨k + 1, ⟨hlt, hgj⟩, by dsimp only; omega, rfl, rfl, rfl, rfl, rfl, rfl, rfl, trivial⟩
  case false =>
    have hge : k = l.length := by have := of_decide_eq_false hb; omega
    subst hge
    rw [List.drop_length, badGo_end] at hg
    obtain ⟨n3, x1, x2, x3⟩ := combT_mok h
    rw [← hg] at hk
    have hk2 : combCk r rank c l = if vgreatT (combT r rank c l) = true then 2 else 0 := by unfold combCk; rw [hk]; rfl
    rw [hk2]
    (repeat (first | refine RO.Sv ?_ | refine RO.Yv ?_ | refine RO.no rfl (by decide) rfl ?_ | refine RO.nil ?_ | refine DW.region ?_ | refine DW.seq ?_ | refine DW.block ?_ | refine DW.skip ?_ | refine DW.exit ?_ | refine DW.condT rfl ?_ | refine DW.condF rfl ?_))
    refine RO.yes rfl rfl (OpD.of_sta (sta_call rfl rfl (CombineOf_pure r rank c l h _)) ?_)
    refine RO.yes rfl rfl (OpD.of_sta (sta_call rfl rfl (VGreat_pure (combT r rank c l) (by omega) (VB.mok3 x1 n3 (by omega) (by omega)) _)) ?_)
    cases hv : vgreatT (combT r rank c l)
    · (repeat (first | refine RO.Sv ?_ | refine RO.Yv ?_ | refine RO.no rfl (by decide) rfl ?_ | refine RO.nil ?_ | refine DW.region ?_ | refine DW.seq ?_ | refine DW.block ?_ | refine DW.skip ?_ | refine DW.exit ?_ | refine DW.condT rfl ?_ | refine DW.condF rfl ?_))
      exact DW.ret ⟨.inl rfl, _, rfl, Over.refl _, .same _⟩
    · (repeat (first | refine RO.Sv ?_ | refine RO.Yv ?_ | refine RO.no rfl (by decide) rfl ?_ | refine RO.nil ?_ | refine DW.region ?_ | refine DW.seq ?_ | refine DW.block ?_ | refine DW.skip ?_ | refine DW.exit ?_ | refine DW.condT rfl ?_ | refine DW.condF rfl ?_))
      exact DW.ret ⟨.inl rfl, _, rfl, Over.refl _, .same _⟩

end Go.Proofs.Ytblileclefbklaa

namespace Go.Proofs.Ytblileclefbklaa
open Go.RowKit
set_option linter.unusedVariables false
set_option linter.unusedSimpArgs false
set_option maxHeartbeats 8000000

theorem visT_comb (r : Rg) (rank : Int) (c : Vc) (l : List Vc) : visT (combCk0 r rank c l) (combT r rank c l) = visT (combCk r rank c l) (combT r rank c l) := by
  unfold combCk
  by_cases h : combCk0 r rank c l = 0
  · rw [if_neg (by simpa using h), h]
    by_cases hg : vgreatT (combT r rank c l) = true
    · rw [if_pos hg]
      show vdoneT _ = ([], 2)
      unfold vdoneT
      rw [if_pos hg]
    · rw [if_neg hg]
  · rw [if_pos h]

theorem combCk_ok {r : Rg} {rank : Int} {c : Vc} {l : List Vc} (h : combCk r rank c l = 0) : CombOk r rank c l := by
  unfold combCk at h
  split at h
  · contradiction
  · rename_i h1
    exact (combCk0_ok (by simpa using h1)).1

theorem comb_cmp (r : Rg) (rank : Int) (c : Vc) (l : List Vc) : Cmp (visT (combCk0 r rank c l) (combT r rank c l)).1 := by
  unfold visT
  by_cases h : combCk0 r rank c l = 0
  · rw [if_pos h]
    obtain ⟨n3, x1, x2, x3⟩ := combT_mok (combCk0_ok h).1
    exact (x1.cmp n3 (by omega) (by omega)).done
  · rw [if_neg h]; exact .nil

def degCk1 (r : Rg) (gs : List Int) (v : Vc) : Int := if alikeCk r [v] ≠ 0 then alikeCk r [v] else if gs.length ≠ v.length then 1 else 0

theorem degT_no {r : Rg} {gs : List Int} {v : Vc} (h : ¬ degCk1 r gs v = 0) : degT r gs v = (0, degCk1 r gs v) := by
  unfold degCk1 at h ⊢
  unfold degT
  by_cases h1 : alikeCk r [v] ≠ 0
  · rw [if_pos h1, if_pos h1]
  · rw [if_neg h1] at h ⊢
    rw [if_neg h1]
    by_cases h2 : gs.length ≠ v.length
    · rw [if_pos h2, if_pos h2]
    · rw [if_neg h2] at h; exact absurd rfl h

theorem degT_ok {r : Rg} {gs : List Int} {v : Vc} (h : degCk1 r gs v = 0) : alikeCk r [v] = 0 ∧ gs.length = v.length ∧ degT r gs v = if gs.any badDeg = true then (0, 3) else sameT gs v := by
  unfold degCk1 at h
  by_cases h1 : alikeCk r [v] ≠ 0
  · rw [if_pos h1] at h; exact absurd h h1
  · rw [if_neg h1] at h
    by_cases h2 : gs.length ≠ v.length
    · rw [if_pos h2] at h; cases h
    · refine ⟨by simpa using h1, by simpa using h2, ?_⟩
      unfold degT
      rw [if_neg h1, if_neg h2]

theorem vectorCombines_pure (r : Rg) (rank : Int) (c : Vc) (l : List Vc) (gs : List Int) (hcl : c.length ≤ 4611686018427387904 ∧ ∀ f ∈ c, f.length ≤ 4611686018427387904) (hl : l.length ≤ 4611686018427387904 ∧ ∀ v ∈ l, v.length ≤ 4611686018427387904 ∧ ∀ f ∈ v, f.length ≤ 4611686018427387904) (hgl : gs.length ≤ 4611686018427387904) :
    Pure Try.prog 5 [rgD r, I rank, vcD c, vcsD l, intsD gs] (.bool true) := by
  intro H
  refine PureH.of_body Try.func5 rfl (by decide) (Nat.le_of_ble_eq_true rfl) fun w0 => ?_
  (repeat (first | refine RO.Sv ?_ | refine RO.Yv ?_ | refine RO.no rfl (by decide) rfl ?_ | refine RO.nil ?_ | refine DW.region ?_ | refine DW.seq ?_ | refine DW.block ?_ | refine DW.skip ?_ | refine DW.exit ?_ | refine DW.condT rfl ?_ | refine DW.condF rfl ?_))
  refine RO.sta (sta_call rfl rfl (vCombine_pure r rank c l hcl hl _)) rfl ?_
  (repeat (first | refine RO.Sv ?_ | refine RO.Yv ?_ | refine RO.no rfl (by decide) rfl ?_ | refine RO.nil ?_ | refine DW.region ?_ | refine DW.seq ?_ | refine DW.block ?_ | refine DW.skip ?_ | refine DW.exit ?_ | refine DW.condT rfl ?_ | refine DW.condF rfl ?_))
  refine RO.sta (sta_call rfl rfl (CheckCombine_pure r rank c l hcl hl _)) rfl ?_
  (repeat (first | refine RO.Sv ?_ | refine RO.Yv ?_ | refine RO.no rfl (by decide) rfl ?_ | refine RO.nil ?_ | refine DW.region ?_ | refine DW.seq ?_ | refine DW.block ?_ | refine DW.skip ?_ | refine DW.exit ?_ | refine DW.condT rfl ?_ | refine DW.condF rfl ?_))
  refine DW.cutg [(3, vcsD l), (4, intsD gs), (5, .ipt 4 [rgD r] 0 0), (11, vcD (visT (combCk0 r rank c l) (combT r rank c l)).1), (12, I (visT (combCk0 r rank c l) (combT r rank c l)).2), (13, I (combCk r rank c l)), (14, vcD (wantT (combCk r rank c l) (combT r rank c l)))] H ?_ ?_
  rotate_left
  · by_cases hx : combCk r rank c l = 0
    · rw [wantT_yes hx, show (combCk r rank c l == 0) = true by simpa using hx]
      (repeat (first | refine RO.Sv ?_ | refine RO.Yv ?_ | refine RO.no rfl (by decide) rfl ?_ | refine RO.nil ?_ | refine DW.region ?_ | refine DW.seq ?_ | refine DW.block ?_ | refine DW.skip ?_ | refine DW.exit ?_ | refine DW.condT rfl ?_ | refine DW.condF rfl ?_))
      refine RO.sta (sta_call rfl rfl (CombineOf_pure r rank c l (combCk_ok hx) _)) rfl ?_
      (repeat (first | refine RO.Sv ?_ | refine RO.Yv ?_ | refine RO.no rfl (by decide) rfl ?_ | refine RO.nil ?_ | refine DW.region ?_ | refine DW.seq ?_ | refine DW.block ?_ | refine DW.skip ?_ | refine DW.exit ?_ | refine DW.condT rfl ?_ | refine DW.condF rfl ?_))
      exact ⟨Heap.sub_refl _, (by repeat first | exact trivial | refine HasG.one rfl ?_ | refine HasN.one rfl ?_)⟩
    · rw [wantT_no hx, show (combCk r rank c l == 0) = false by simpa using hx]
      (repeat (first | refine RO.Sv ?_ | refine RO.Yv ?_ | refine RO.no rfl (by decide) rfl ?_ | refine RO.nil ?_ | refine DW.region ?_ | refine DW.seq ?_ | refine DW.block ?_ | refine DW.skip ?_ | refine DW.exit ?_ | refine DW.condT rfl ?_ | refine DW.condF rfl ?_))
      refine ⟨Heap.sub_refl _, ?_⟩
      (repeat refine HasG.one rfl ?_)
      refine HasG.nil1 rfl ?_
      trivial
  have cA := fun H' => vis_call (H := H') (visT (combCk0 r rank c l) (combT r rank c l)) (combCk r rank c l) (combT r rank c l) (comb_cmp r rank c l) (fun hx => by
    obtain ⟨n3, x1, x2, x3⟩ := combT_mok (combCk_ok hx)
    exact ⟨_, _, _, _, n3, by omega, by omega, by omega, x1⟩) (visT_comb r rank c l)
  (repeat (first | refine RO.Sv ?_ | refine RO.Yv ?_ | refine RO.no rfl (by decide) rfl ?_ | refine RO.nil ?_ | refine DW.region ?_ | refine DW.seq ?_ | refine DW.block ?_ | refine DW.skip ?_ | refine DW.exit ?_ | refine DW.condT rfl ?_ | refine DW.condF rfl ?_))
  refine RO.sta (sta_call rfl rfl (vectorBegun_pure _)) rfl ?_
  (repeat (first | refine RO.Sv ?_ | refine RO.Yv ?_ | refine RO.no rfl (by decide) rfl ?_ | refine RO.nil ?_ | refine DW.region ?_ | refine DW.seq ?_ | refine DW.block ?_ | refine DW.skip ?_ | refine DW.exit ?_ | refine DW.condT rfl ?_ | refine DW.condF rfl ?_))
  refine RO.yes rfl rfl (OpD.of_sta (sta_call rfl rfl (cA _)) ?_)
  (repeat (first | refine RO.Sv ?_ | refine RO.Yv ?_ | refine RO.no rfl (by decide) rfl ?_ | refine RO.nil ?_ | refine DW.region ?_ | refine DW.seq ?_ | refine DW.block ?_ | refine DW.skip ?_ | refine DW.exit ?_ | refine DW.condT rfl ?_ | refine DW.condF rfl ?_))
  cases hl0 : ((l.length : Int) == 0)
  case true =>
    (repeat (first | refine RO.Sv ?_ | refine RO.Yv ?_ | refine RO.no rfl (by decide) rfl ?_ | refine RO.nil ?_ | refine DW.region ?_ | refine DW.seq ?_ | refine DW.block ?_ | refine DW.skip ?_ | refine DW.exit ?_ | refine DW.condT rfl ?_ | refine DW.condF rfl ?_))
    exact DW.ret ⟨.inl rfl, _, rfl, Over.refl _, .same _⟩
  have hl1 : 0 < l.length := by
    cases l with
    | nil => simp at hl0
    | cons v l => simp
  (repeat (first | refine RO.Sv ?_ | refine RO.Yv ?_ | refine RO.no rfl (by decide) rfl ?_ | refine RO.nil ?_ | refine DW.region ?_ | refine DW.seq ?_ | refine DW.block ?_ | refine DW.skip ?_ | refine DW.exit ?_ | refine DW.condT rfl ?_ | refine DW.condF rfl ?_))
  have hl2 := hl.2 _ (List.getElem_mem hl1)
  refine DW.drawS 11 Try.mixed (by kernel_rfl) (by decide) ?_
  dsimp only [List.take, List.drop]
  (repeat (first | refine RS.Sv ?_ | refine RS.Yv ?_ | refine RS.no rfl (by decide) rfl ?_ | refine RS.nil ?_))
  refine RS.sta (fun H' hov => sta_call rfl rfl (vDegree_pure r gs l[0] hgl hl2 _)) rfl ?_
  (repeat (first | refine RS.Sv ?_ | refine RS.Yv ?_ | refine RS.no rfl (by decide) rfl ?_ | refine RS.nil ?_))
  (repeat (first | refine RO.Sv ?_ | refine RO.Yv ?_ | refine RO.no rfl (by decide) rfl ?_ | refine RO.nil ?_ | refine DW.region ?_ | refine DW.seq ?_ | refine DW.block ?_ | refine DW.skip ?_ | refine DW.exit ?_ | refine DW.condT rfl ?_ | refine DW.condF rfl ?_))
  refine DW.drawS 8 Try.mixed (by kernel_rfl) (by decide) ?_
  dsimp only [List.take, List.drop]
  (repeat (first | refine RS.Sv ?_ | refine RS.Yv ?_ | refine RS.no rfl (by decide) rfl ?_ | refine RS.nil ?_))
  refine RS.sta (fun H' hov => sta_call rfl rfl (CheckAlike_pure r [l[0]] (by simp) (two_le (l := []) hl2) _)) rfl ?_
  (repeat (first | refine RS.Sv ?_ | refine RS.Yv ?_ | refine RS.no rfl (by decide) rfl ?_ | refine RS.nil ?_))
  (repeat (first | refine RO.Sv ?_ | refine RO.Yv ?_ | refine RO.no rfl (by decide) rfl ?_ | refine RO.nil ?_ | refine DW.region ?_ | refine DW.seq ?_ | refine DW.block ?_ | refine DW.skip ?_ | refine DW.exit ?_ | refine DW.condT rfl ?_ | refine DW.condF rfl ?_))
  refine RO.cut [(3, vcsD l), (4, intsD gs), (15, I (degT r gs l[0]).1), (16, I (degT r gs l[0]).2), (17, I (alikeCk r [l[0]])), (18, I 0), (78, .bool (decide (alikeCk r [l[0]] = 0 ∧ gs.length ≠ l[0].length)))] H ?_ ?_
  rotate_left
  · by_cases h1 : alikeCk r [l[0]] = 0
    case neg =>
      rw [show (alikeCk r [l[0]] == 0) = false by simpa using h1, decide_eq_false (fun h => h1 h.1)]
      (repeat (first | refine RO.Sv ?_ | refine RO.Yv ?_ | refine RO.no rfl (by decide) rfl ?_ | refine RO.nil ?_ | refine DW.region ?_ | refine DW.seq ?_ | refine DW.block ?_ | refine DW.skip ?_ | refine DW.exit ?_ | refine DW.condT rfl ?_ | refine DW.condF rfl ?_))
      exact ⟨(by repeat first | exact trivial | refine HasG.one rfl ?_ | refine HasN.one rfl ?_), rfl⟩
    rw [show (alikeCk r [l[0]] == 0) = true by simpa using h1]
    by_cases h2 : gs.length ≠ l[0].length
    · rw [decide_eq_true ⟨h1, h2⟩]
      (repeat (first | refine RO.Sv ?_ | refine RO.Yv ?_ | refine RO.no rfl (by decide) rfl ?_ | refine RO.nil ?_ | refine DW.region ?_ | refine DW.seq ?_ | refine DW.block ?_ | refine DW.skip ?_ | refine DW.exit ?_ | refine DW.condT rfl ?_ | refine DW.condF rfl ?_))
      rw [show ((gs.length : Int) != (l[0].length : Int)) = true by simp; omega]
      (repeat (first | refine RO.Sv ?_ | refine RO.Yv ?_ | refine RO.no rfl (by decide) rfl ?_ | refine RO.nil ?_ | refine DW.region ?_ | refine DW.seq ?_ | refine DW.block ?_ | refine DW.skip ?_ | refine DW.exit ?_ | refine DW.condT rfl ?_ | refine DW.condF rfl ?_))
      exact ⟨(by repeat first | exact trivial | refine HasG.one rfl ?_ | refine HasN.one rfl ?_), rfl⟩
    · rw [decide_eq_false (fun h => h2 h.2)]
      (repeat (first | refine RO.Sv ?_ | refine RO.Yv ?_ | refine RO.no rfl (by decide) rfl ?_ | refine RO.nil ?_ | refine DW.region ?_ | refine DW.seq ?_ | refine DW.block ?_ | refine DW.skip ?_ | refine DW.exit ?_ | refine DW.condT rfl ?_ | refine DW.condF rfl ?_))
      rw [show ((gs.length : Int) != (l[0].length : Int)) = false by simp; omega]
      (repeat (first | refine RO.Sv ?_ | refine RO.Yv ?_ | refine RO.no rfl (by decide) rfl ?_ | refine RO.nil ?_ | refine DW.region ?_ | refine DW.seq ?_ | refine DW.block ?_ | refine DW.skip ?_ | refine DW.exit ?_ | refine DW.condT rfl ?_ | refine DW.condF rfl ?_))
      exact ⟨(by repeat first | exact trivial | refine HasG.one rfl ?_ | refine HasN.one rfl ?_), rfl⟩
  (repeat (first | refine RO.Sv ?_ | refine RO.Yv ?_ | refine RO.no rfl (by decide) rfl ?_ | refine RO.nil ?_ | refine DW.region ?_ | refine DW.seq ?_ | refine DW.block ?_ | refine DW.skip ?_ | refine DW.exit ?_ | refine DW.condT rfl ?_ | refine DW.condF rfl ?_))
  refine DW.cutg [(3, vcsD l), (4, intsD gs), (15, I (degT r gs l[0]).1), (16, I (degT r gs l[0]).2), (17, I (degCk1 r gs l[0])), (18, I 0)] H ?_ ?_
  rotate_left
  · by_cases h1 : alikeCk r [l[0]] = 0
    case neg =>
      rw [show degCk1 r gs l[0] = alikeCk r [l[0]] from if_pos h1, decide_eq_false (fun h => h1 h.1)]
      (repeat (first | refine RO.Sv ?_ | refine RO.Yv ?_ | refine RO.no rfl (by decide) rfl ?_ | refine RO.nil ?_ | refine DW.region ?_ | refine DW.seq ?_ | refine DW.block ?_ | refine DW.skip ?_ | refine DW.exit ?_ | refine DW.condT rfl ?_ | refine DW.condF rfl ?_))
      exact ⟨Heap.sub_refl _, (by repeat first | exact trivial | refine HasG.one rfl ?_ | refine HasN.one rfl ?_)⟩
    by_cases h2 : gs.length ≠ l[0].length
    · rw [show degCk1 r gs l[0] = 1 by simp [degCk1, h1, h2], decide_eq_true ⟨h1, h2⟩]
      (repeat (first | refine RO.Sv ?_ | refine RO.Yv ?_ | refine RO.no rfl (by decide) rfl ?_ | refine RO.nil ?_ | refine DW.region ?_ | refine DW.seq ?_ | refine DW.block ?_ | refine DW.skip ?_ | refine DW.exit ?_ | refine DW.condT rfl ?_ | refine DW.condF rfl ?_))
      exact ⟨Heap.sub_refl _, (by repeat first | exact trivial | refine HasG.one rfl ?_ | refine HasN.one rfl ?_)⟩
    · rw [show degCk1 r gs l[0] = 0 by simp only [ne_eq, Decidable.not_not] at h2; simp [degCk1, h1, h2], decide_eq_false (fun h => h2 h.2), h1]
      (repeat (first | refine RO.Sv ?_ | refine RO.Yv ?_ | refine RO.no rfl (by decide) rfl ?_ | refine RO.nil ?_ | refine DW.region ?_ | refine DW.seq ?_ | refine DW.block ?_ | refine DW.skip ?_ | refine DW.exit ?_ | refine DW.condT rfl ?_ | refine DW.condF rfl ?_))
      exact ⟨Heap.sub_refl _, (by repeat first | exact trivial | refine HasG.one rfl ?_ | refine HasN.one rfl ?_)⟩
  (repeat (first | refine RO.Sv ?_ | refine RO.Yv ?_ | refine RO.no rfl (by decide) rfl ?_ | refine RO.nil ?_ | refine DW.region ?_ | refine DW.seq ?_ | refine DW.block ?_ | refine DW.skip ?_ | refine DW.exit ?_ | refine DW.condT rfl ?_ | refine DW.condF rfl ?_))
  by_cases h1 : degCk1 r gs l[0] = 0
  case neg =>
    rw [degT_no h1]
    refine DW.loopI (fun _ : Unit => True) (fun _ => [(4, intsD gs), (15, I 0), (16, I (degCk1 r gs l[0])), (17, I (degCk1 r gs l[0])), (18, I 0), (19, I 0)]) (fun _ => H) (fun _ => 0) () trivial rfl ⟨rfl, rfl, rfl, rfl, rfl, rfl, trivial⟩ fun _ _ => ?_
    (repeat (first | refine RO.Sv ?_ | refine RO.Yv ?_ | refine RO.no rfl (by decide) rfl ?_ | refine RO.nil ?_ | refine DW.region ?_ | refine DW.seq ?_ | refine DW.block ?_ | refine DW.skip ?_ | refine DW.exit ?_ | refine DW.condT rfl ?_ | refine DW.condF rfl ?_))
    cases hb : decide ((0 : Int) < (gs.length : Int))
    · (repeat (first | refine RO.Sv ?_ | refine RO.Yv ?_ | refine RO.no rfl (by decide) rfl ?_ | refine RO.nil ?_ | refine DW.region ?_ | refine DW.seq ?_ | refine DW.block ?_ | refine DW.skip ?_ | refine DW.exit ?_ | refine DW.condT rfl ?_ | refine DW.condF rfl ?_))
      rw [show (degCk1 r gs l[0] == 0) = false by simpa using h1]
      (repeat (first | refine RO.Sv ?_ | refine RO.Yv ?_ | refine RO.no rfl (by decide) rfl ?_ | refine RO.nil ?_ | refine DW.region ?_ | refine DW.seq ?_ | refine DW.block ?_ | refine DW.skip ?_ | refine DW.exit ?_ | refine DW.condT rfl ?_ | refine DW.condF rfl ?_))
      rw [show (degCk1 r gs l[0] == degCk1 r gs l[0]) = true by simp]
      (repeat (first | refine RO.Sv ?_ | refine RO.Yv ?_ | refine RO.no rfl (by decide) rfl ?_ | refine RO.nil ?_ | refine DW.region ?_ | refine DW.seq ?_ | refine DW.block ?_ | refine DW.skip ?_ | refine DW.exit ?_ | refine DW.condT rfl ?_ | refine DW.condF rfl ?_))
      exact DW.ret ⟨.inl rfl, _, rfl, Over.refl _, .same _⟩
    · (repeat (first | refine RO.Sv ?_ | refine RO.Yv ?_ | refine RO.no rfl (by decide) rfl ?_ | refine RO.nil ?_ | refine DW.region ?_ | refine DW.seq ?_ | refine DW.block ?_ | refine DW.skip ?_ | refine DW.exit ?_ | refine DW.condT rfl ?_ | refine DW.condF rfl ?_))
      rw [show (degCk1 r gs l[0] == 0) = false by simpa using h1]
      (repeat (first | refine RO.Sv ?_ | refine RO.Yv ?_ | refine RO.no rfl (by decide) rfl ?_ | refine RO.nil ?_ | refine DW.region ?_ | refine DW.seq ?_ | refine DW.block ?_ | refine DW.skip ?_ | refine DW.exit ?_ | refine DW.condT rfl ?_ | refine DW.condF rfl ?_))
      rw [show (degCk1 r gs l[0] == 0) = false by simpa using h1]
      (repeat (first | refine RO.Sv ?_ | refine RO.Yv ?_ | refine RO.no rfl (by decide) rfl ?_ | refine RO.nil ?_ | refine DW.region ?_ | refine DW.seq ?_ | refine DW.block ?_ | refine DW.skip ?_ | refine DW.exit ?_ | refine DW.condT rfl ?_ | refine DW.condF rfl ?_))
      rw [show (degCk1 r gs l[0] == degCk1 r gs l[0]) = true by simp]
      (repeat (first | refine RO.Sv ?_ | refine RO.Yv ?_ | refine RO.no rfl (by decide) rfl ?_ | refine RO.nil ?_ | refine DW.region ?_ | refine DW.seq ?_ | refine DW.block ?_ | refine DW.skip ?_ | refine DW.exit ?_ | refine DW.condT rfl ?_ | refine DW.condF rfl ?_))
      exact DW.ret ⟨.inl rfl, _, rfl, Over.refl _, .same _⟩
  obtain ⟨h2, h3, h4⟩ := degT_ok h1
  obtain ⟨hr, hal⟩ := alikeCk_ok h2
  obtain ⟨hv1, hv2, hv3⟩ := hal l[0] (by simp)
  have hr2 := ringCk_ok hr
  rw [h1]
  refine DW.loopI (fun x : Nat × Bool => x.1 ≤ gs.length ∧ (x.2 = true → gs.any badDeg = true) ∧ (x.2 = false → (gs.drop x.1).any badDeg = gs.any badDeg)) (fun x => [(3, vcsD l), (4, intsD gs), (15, I (degT r gs l[0]).1), (16, I (degT r gs l[0]).2), (17, I (if x.2 = true then 3 else 0)), (18, I 0), (19, I x.1)]) (fun _ => H) (fun x => gs.length - x.1) (0, false) ⟨Nat.zero_le _, by simp, by simp⟩ rfl ⟨rfl, rfl, rfl, rfl, rfl, rfl, rfl, trivial⟩ fun ⟨k, bad⟩ ⟨hk, hg1, hg2⟩ => ?_
  dsimp only at hk hg1 hg2
  dsimp only
  (repeat (first | refine RO.Sv ?_ | refine RO.Yv ?_ | refine RO.no rfl (by decide) rfl ?_ | refine RO.nil ?_ | refine DW.region ?_ | refine DW.seq ?_ | refine DW.block ?_ | refine DW.skip ?_ | refine DW.exit ?_ | refine DW.condT rfl ?_ | refine DW.condF rfl ?_))
  cases hb : decide ((k : Int) < (gs.length : Int))
  case true =>
    have hlt : k < gs.length := by have := of_decide_eq_true hb; omega
    clear hb
    cases bad with
    | true =>
      rw [hg1 rfl, if_pos rfl] at h4
      rw [h4]
      (repeat (first | refine RO.Sv ?_ | refine RO.Yv ?_ | refine RO.no rfl (by decide) rfl ?_ | refine RO.nil ?_ | refine DW.region ?_ | refine DW.seq ?_ | refine DW.block ?_ | refine DW.skip ?_ | refine DW.exit ?_ | refine DW.condT rfl ?_ | refine DW.condF rfl ?_))
      exact DW.ret ⟨.inl rfl, _, rfl, Over.refl _, .same _⟩
    | false =>
      have hgd := hg2 rfl
      rw [any_drop hlt] at hgd
      (repeat (first | refine RO.Sv ?_ | refine RO.Yv ?_ | refine RO.no rfl (by decide) rfl ?_ | refine RO.nil ?_ | refine DW.region ?_ | refine DW.seq ?_ | refine DW.block ?_ | refine DW.skip ?_ | refine DW.exit ?_ | refine DW.condT rfl ?_ | refine DW.condF rfl ?_))
      cases hd1 : decide (gs[k] < 0)
      case true =>
        have hbd : badDeg gs[k] = true := by unfold badDeg; rw [hd1]; rfl
        rw [hbd, Bool.true_or] at hgd
        (repeat (first | refine RO.Sv ?_ | refine RO.Yv ?_ | refine RO.no rfl (by decide) rfl ?_ | refine RO.nil ?_ | refine DW.region ?_ | refine DW.seq ?_ | refine DW.block ?_ | refine DW.skip ?_ | refine DW.exit ?_ | refine DW.condT rfl ?_ | refine DW.condF rfl ?_))
        exact ⟨(k + 1, true), ⟨hlt, fun _ => hgd.symm, fun h => by cases h⟩, by dsimp only; omega, rfl, rfl, rfl, rfl, rfl, rfl, rfl, rfl, trivial⟩
      (repeat (first | refine RO.Sv ?_ | refine RO.Yv ?_ | refine RO.no rfl (by decide) rfl ?_ | refine RO.nil ?_ | refine DW.region ?_ | refine DW.seq ?_ | refine DW.block ?_ | refine DW.skip ?_ | refine DW.exit ?_ | refine DW.condT rfl ?_ | refine DW.condF rfl ?_))
      cases hd2 : decide (200 < gs[k])
      case true =>
        have hbd : badDeg gs[k] = true := by unfold badDeg; rw [hd2]; simp
        rw [hbd, Bool.true_or] at hgd
        (repeat (first | refine RO.Sv ?_ | refine RO.Yv ?_ | refine RO.no rfl (by decide) rfl ?_ | refine RO.nil ?_ | refine DW.region ?_ | refine DW.seq ?_ | refine DW.block ?_ | refine DW.skip ?_ | refine DW.exit ?_ | refine DW.condT rfl ?_ | refine DW.condF rfl ?_))
        exact ⟨(k + 1, true), ⟨hlt, fun _ => hgd.symm, fun h => by cases h⟩, by dsimp only; omega, rfl, rfl, rfl, rfl, rfl, rfl, rfl, rfl, trivial⟩
      have hbd : badDeg gs[k] = false := by unfold badDeg; rw [hd1, hd2]; rfl
      rw [hbd, Bool.false_or] at hgd
      (repeat (first | refine RO.Sv ?_ | refine RO.Yv ?_ | refine RO.no rfl (by decide) rfl ?_ | refine RO.nil ?_ | refine DW.region ?_ | refine DW.seq ?_ | refine DW.block ?_ | refine DW.skip ?_ | refine DW.exit ?_ | refine DW.condT rfl ?_ | refine DW.condF rfl ?_))
      exact ⟨(k + 1, false), ⟨hlt, (fun h => by cases h), fun _ => hgd⟩, by dsimp only; omega, rfl, rfl, rfl, rfl, rfl, rfl, rfl, rfl, trivial⟩
  case false =>
    have hge : k = gs.length := by have := of_decide_eq_false hb; omega
    cases bad with
    | true =>
      rw [hg1 rfl, if_pos rfl] at h4
      rw [h4]
      (repeat (first | refine RO.Sv ?_ | refine RO.Yv ?_ | refine RO.no rfl (by decide) rfl ?_ | refine RO.nil ?_ | refine DW.region ?_ | refine DW.seq ?_ | refine DW.block ?_ | refine DW.skip ?_ | refine DW.exit ?_ | refine DW.condT rfl ?_ | refine DW.condF rfl ?_))
      exact DW.ret ⟨.inl rfl, _, rfl, Over.refl _, .same _⟩
    | false =>
      have hgd := hg2 rfl
      rw [hge, List.drop_length] at hgd
      have hnb : gs.any badDeg = false := hgd.symm
      rw [hnb, if_neg (by simp)] at h4
      rw [h4]
      have hgs : ∀ g ∈ gs, -1000000 ≤ g ∧ g ≤ 1000000 := fun g hg => by
        have := List.any_eq_false.1 hnb g hg
        unfold badDeg at this
        simp at this
        omega
      (repeat (first | refine RO.Sv ?_ | refine RO.Yv ?_ | refine RO.no rfl (by decide) rfl ?_ | refine RO.nil ?_ | refine DW.region ?_ | refine DW.seq ?_ | refine DW.block ?_ | refine DW.skip ?_ | refine DW.exit ?_ | refine DW.condT rfl ?_ | refine DW.condF rfl ?_))
      refine RO.sta (sta_call rfl rfl (VDegree_pure gs l[0] (by omega) h3 hgs (VB.mok hv3.vb (by omega) (by omega) (by omega)) _)) rfl ?_
      (repeat (first | refine RO.Sv ?_ | refine RO.Yv ?_ | refine RO.no rfl (by decide) rfl ?_ | refine RO.nil ?_ | refine DW.region ?_ | refine DW.seq ?_ | refine DW.block ?_ | refine DW.skip ?_ | refine DW.exit ?_ | refine DW.condT rfl ?_ | refine DW.condF rfl ?_))
      rw [show ((sameT gs l[0]).2 == (sameT gs l[0]).2) = true by simp]
      (repeat (first | refine RO.Sv ?_ | refine RO.Yv ?_ | refine RO.no rfl (by decide) rfl ?_ | refine RO.nil ?_ | refine DW.region ?_ | refine DW.seq ?_ | refine DW.block ?_ | refine DW.skip ?_ | refine DW.exit ?_ | refine DW.condT rfl ?_ | refine DW.condF rfl ?_))
      rw [show ((sameT gs l[0]).1 == (sameT gs l[0]).1) = true by simp]
      (repeat (first | refine RO.Sv ?_ | refine RO.Yv ?_ | refine RO.no rfl (by decide) rfl ?_ | refine RO.nil ?_ | refine DW.region ?_ | refine DW.seq ?_ | refine DW.block ?_ | refine DW.skip ?_ | refine DW.exit ?_ | refine DW.condT rfl ?_ | refine DW.condF rfl ?_))
      exact DW.ret ⟨.inl rfl, _, rfl, Over.refl _, .same _⟩

end Go.Proofs.Ytblileclefbklaa

namespace Go.Proofs.Ytblileclefbklaa
open Go.RowKit Go.ChangeShapes Go.WideShapes Go.ChangeAt
set_option linter.unusedVariables false

set_option maxRecDepth 100000 in
theorem vectorCombines_lifted (os : Os) (started : os.Started) (H : Type) (enc : TypeId × Value → H) :
    ReturnsInHanded {} Try.checked os 5 .any (Rows.vectorCombinesSpec.pre6 enc Try.prog Try.f5 Rows.vectorCombinesRow.domain false) (Rows.vectorCombinesSpec.post enc Try.prog Try.f5 false true false false) := by
  refine returnsInHanded_of_change_sized (C := Try.checked) Try.ownK started (by kernel_rfl) Try.func5
    (ChangeSpec.witness6 (enc := enc) (C := Try.checked) false ⟨#[], #[.agg #[.int .i64 0, .int .i64 0, .int .i64 0, .int .i64 0], .int .i64 0, .slice none 0 0, .slice none 0 0, .slice none 0 0], []⟩ 8 (by kernel_rfl) (by kernel_rfl) (by kernel_rfl) (by kernel_rfl)) ?_
  intro W base args ds gs before hval0 hW hcnd hwt _
  have hval : ∀ (j : Nat) t v, Try.f5.params[j]? = some t → args[j]? = some v → Value.okWide Try.prog W .any base t v := hval0
  have hW' := hW
  obtain ⟨p, q, hA0, hV, rfl, hfz, hnd⟩ := hW
  have hA : DataW.TrodAll enc Try.prog W 0 (fun _ => true) true Try.f5.params.toList args.toList ds p := hA0
  rw [Try.params5] at hA hval
  obtain ⟨v0, vs0, d0, ds0, p0, q0, hargs, rfl, rfl, h0, r0⟩ := trodAll_cons hA
  obtain ⟨v1, vs1, d1, ds1, p1, q1, rfl, rfl, rfl, h1, r1⟩ := trodAll_cons r0
  obtain ⟨v2, vs2, d2, ds2, p2, q2, rfl, rfl, rfl, h2, r2⟩ := trodAll_cons r1
  obtain ⟨v3, vs3, d3, ds3, p3, q3, rfl, rfl, rfl, h3, r3⟩ := trodAll_cons r2
  obtain ⟨v4, vs4, d4, ds4, p4, q4, rfl, rfl, rfl, h4, r4⟩ := trodAll_cons r3
  obtain ⟨rfl, rfl, rfl⟩ := trodAll_nil r4
  obtain rfl : args = #[v0, v1, v2, v3, v4] := by cases args; simp_all
  obtain ⟨rfl, rfl⟩ := trodVars_none hV
  rw [Try.params5] at hwt
  obtain ⟨w0, hwt⟩ := weights_head hwt
  obtain ⟨w1, hwt⟩ := weights_head hwt
  obtain ⟨w2, hwt⟩ := weights_head hwt
  obtain ⟨w3, hwt⟩ := weights_head hwt
  obtain ⟨w4, hwt⟩ := weights_head hwt
  obtain ⟨c0, rfl, _⟩ := okWide_struct Try.underlying23 (hval 0 _ v0 rfl rfl)
  obtain ⟨n1, rfl⟩ := okWide_int Try.underlying3 (hval 1 _ v1 rfl rfl)
  obtain ⟨s2, n2, k2, rfl⟩ := okWide_slice Try.underlying24 (hval 2 _ v2 rfl rfl)
  obtain ⟨s3, n3, k3, rfl⟩ := okWide_slice Try.underlying26 (hval 3 _ v3 rfl rfl)
  obtain ⟨s4, n4, k4, rfl⟩ := okWide_slice Try.underlying45 (hval 4 _ v4 rfl rfl)
  obtain ⟨x0, g0, b0⟩ := arg_agg Try.opensRing (fun _ => rfl) h0 w0
  obtain ⟨x1, g1, b1⟩ := arg_cell Try.opensInt (fun _ => rfl) (int_cells _ _) h1 w1
  obtain ⟨x2, g2, b2⟩ := arg_cell Try.opensPolys (fun _ => rfl) (slice_cells _ _ _) h2 w2
  obtain ⟨x3, g3, b3⟩ := arg_cell Try.opensVecs (fun _ => rfl) (slice_cells _ _ _) h3 w3
  obtain ⟨x4, g4, b4⟩ := arg_cell Try.opensInts (fun _ => rfl) (slice_cells _ _ _) h4 w4
  refine (law_calls (vectorCombines_pure x0 x1 x2 x3 x4 (vcLe b2) (vcsLe b3) (by have := len_le b4.2 Try.bytes_int; omega)) (.cons g0 (.cons g1 (.cons g2 (.cons g3 (.cons g4 .nil)))))).mono fun e W' ⟨he, hb⟩ => ?_
  subst he
  exact ⟨_, rfl, law_post hW' rfl Try.laidOutK (of_decide_eq_true (by kernel_rfl)) (tb := 4) rfl Try.underlying4 rfl rfl rfl hb⟩

theorem vectorCombines_holds : Rows.VectorCombinesSaid :=
  OpenClaim.holds_of_wide 5 Try.f5 rfl rfl rfl rfl rfl rfl rfl ⟨rfl, rfl, rfl, rfl, rfl⟩ rfl rfl rfl rfl rfl (by kernel_rfl) Try.func5 (by kernel_rfl)
    (of_decide_eq_true (by kernel_rfl)) (by unfold Func.isWrapper; first | (rw [if_pos (by decide +kernel)]; kernel_rfl) | (rw [if_neg (by decide +kernel)]; exact ⟨rfl, rfl⟩))
    (fun os started H enc _ => vectorCombines_lifted os started H enc)

end Go.Proofs.Ytblileclefbklaa
