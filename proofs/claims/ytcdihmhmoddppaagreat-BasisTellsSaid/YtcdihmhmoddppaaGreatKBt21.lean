/-
  Package basis: a run with one vector. No condition.
-/
import Derived.Test.YtcdihmhmoddppaaGreatKBt20
import Derived.Test.YtcdihmhmoddppaaGreatKBt8
import Derived.Test.YtcdihmhmoddppaaGreatKBt16
import Derived.Test.YtcdihmhmoddppaaGreatKBt7

namespace Go.Proofs.YtcdihmhmoddppaaGreat
open Go.RowKit
set_option linter.unusedVariables false
set_option linter.unusedSimpArgs false
set_option maxHeartbeats 8000000

instance : CellT Tryz.prog 98 := ⟨⟨_, Tryz.underlying98, rfl⟩⟩
instance : CellT Tryz.prog 121 := ⟨⟨_, Tryz.underlying121, rfl⟩⟩
instance : CellT Tryz.prog 120 := ⟨⟨_, Tryz.underlying120, rfl⟩⟩
instance : SliceT Tryz.prog 98 101 := ⟨Tryz.underlying98⟩
instance : SliceT Tryz.prog 121 137 := ⟨Tryz.underlying121⟩
instance : SliceT Tryz.prog 57 32 := ⟨Tryz.underlying57⟩
instance : ElT Tryz.prog 32 1 [.nil] 24 := .of (z := .slice none 0 0) (by kernel_rfl) rfl rfl rfl (by decide)
instance : ElT Tryz.prog 101 5 [.nil, I 0, I 0, .nil, .nil] 88 := .of (z := .agg #[.slice none 0 0, .int .i64 0, .int .i64 0, .slice none 0 0, .slice none 0 0]) (by kernel_rfl) rfl rfl rfl (by decide)
instance : ElT Tryz.prog 137 3 [I 0, I 0, .nil] 40 := .of (z := .agg #[.int .i64 0, .int .i64 0, .slice none 0 0]) (by kernel_rfl) rfl rfl rfl (by decide)
instance : AggT Tryz.prog 101 5 := .of Tryz.underlying101 rfl (by kernel_rfl)
instance : AggT Tryz.prog 123 6 := .of Tryz.underlying123 rfl (by kernel_rfl)
instance : FieldT Tryz.prog 101 0 0 := ⟨by kernel_rfl⟩
instance : FieldT Tryz.prog 101 1 4 := ⟨by kernel_rfl⟩
instance : FieldT Tryz.prog 123 0 0 := ⟨by kernel_rfl⟩
instance : FieldT Tryz.prog 123 1 4 := ⟨by kernel_rfl⟩
instance : FieldT Tryz.prog 123 2 5 := ⟨by kernel_rfl⟩
instance : SizeT Tryz.prog 101 5 := .of (by kernel_rfl)
instance : SizeT Tryz.prog 98 1 := .of (by kernel_rfl)
instance : BuildT Tryz.prog 101 [.nil, I 0, I 0, .nil, .nil] #[(0, 4), (4, 1)] := .of (by kernel_rfl) Tryz.underlying101 (by kernel_rfl) rfl
instance : BuildT Tryz.prog 123 [I 0, I 0, I 0, I 0, .nil, .nil] #[(0, 4), (4, 1), (5, 1)] := .of (by kernel_rfl) Tryz.underlying123 (by kernel_rfl) rfl

/-- Is a polynomial one that a basis may be asked for? -/
def smallP (f : Pl) : Bool := !(decide ((6 : Int) < (f.length : Int)) || decide (3 < topT f))
def smallT (rank : Int) (l : List Vc) : Bool := !(decide (3 < rank) || decide ((4 : Int) < (l.length : Int))) && l.all fun v => v.all smallP

theorem all_drop {α : Type} {p : α → Bool} {l : List α} {k : Nat} (h : k < l.length) : (l.drop k).all p = (p l[k] && (l.drop (k + 1)).all p) := by
  rw [List.drop_eq_getElem_cons h, List.all_cons]

theorem small_pure (rank : Int) (l : List Vc) (hl : l.length ≤ 1000000) (hv : ∀ v ∈ l, v.length ≤ 1000000 ∧ ∀ f ∈ v, f.length ≤ 4000000000000 ∧ ∀ t ∈ f, MOk t.e) : Pure Tryz.prog 65 [I rank, vcsD l] (.bool (smallT rank l)) := by
  intro H
  refine PureH.of_body Tryz.func65 rfl (by decide) (Nat.le_of_ble_eq_true rfl) fun w0 => ?_
  unfold smallT
  (repeat (first | refine RO.Sv ?_ | refine RO.Yv ?_ | refine RO.no rfl (by decide) rfl ?_ | refine RO.nil ?_ | refine DW.region ?_ | refine DW.seq ?_ | refine DW.block ?_ | refine DW.skip ?_ | refine DW.exit ?_ | refine DW.condT rfl ?_ | refine DW.condF rfl ?_))
  cases h1 : decide ((3 : Int) < rank)
  case true =>
    (repeat (first | refine RO.Sv ?_ | refine RO.Yv ?_ | refine RO.no rfl (by decide) rfl ?_ | refine RO.nil ?_ | refine DW.region ?_ | refine DW.seq ?_ | refine DW.block ?_ | refine DW.skip ?_ | refine DW.exit ?_ | refine DW.condT rfl ?_ | refine DW.condF rfl ?_))
    exact DW.ret ⟨.inl rfl, _, rfl, Over.refl _, .same _⟩
  (repeat (first | refine RO.Sv ?_ | refine RO.Yv ?_ | refine RO.no rfl (by decide) rfl ?_ | refine RO.nil ?_ | refine DW.region ?_ | refine DW.seq ?_ | refine DW.block ?_ | refine DW.skip ?_ | refine DW.exit ?_ | refine DW.condT rfl ?_ | refine DW.condF rfl ?_))
  cases h2 : decide ((4 : Int) < (l.length : Int))
  case true =>
    (repeat (first | refine RO.Sv ?_ | refine RO.Yv ?_ | refine RO.no rfl (by decide) rfl ?_ | refine RO.nil ?_ | refine DW.region ?_ | refine DW.seq ?_ | refine DW.block ?_ | refine DW.skip ?_ | refine DW.exit ?_ | refine DW.condT rfl ?_ | refine DW.condF rfl ?_))
    exact DW.ret ⟨.inl rfl, _, rfl, Over.refl _, .same _⟩
  rw [Bool.or_self, Bool.not_false, Bool.true_and]
  (repeat (first | refine RO.Sv ?_ | refine RO.Yv ?_ | refine RO.no rfl (by decide) rfl ?_ | refine RO.nil ?_ | refine DW.region ?_ | refine DW.seq ?_ | refine DW.block ?_ | refine DW.skip ?_ | refine DW.exit ?_ | refine DW.condT rfl ?_ | refine DW.condF rfl ?_))
  refine DW.loopI (fun k : Nat => k ≤ l.length ∧ ((l.drop k).all fun v => v.all smallP) = (l.all fun v => v.all smallP)) (fun k => [(16, vcsD l), (17, I l.length), (18, I k)]) (fun _ => H) (fun k => l.length - k) 0 ⟨Nat.zero_le _, rfl⟩ rfl ⟨rfl, rfl, rfl, trivial⟩ fun k ⟨hk, hg⟩ => ?_
  (repeat (first | refine RO.Sv ?_ | refine RO.Yv ?_ | refine RO.no rfl (by decide) rfl ?_ | refine RO.nil ?_ | refine DW.region ?_ | refine DW.seq ?_ | refine DW.block ?_ | refine DW.skip ?_ | refine DW.exit ?_ | refine DW.condT rfl ?_ | refine DW.condF rfl ?_))
  refine DW.cond rfl (fun hb => ?_) (fun hb => ?_)
  · have hlt : k < l.length := by have := of_decide_eq_true hb; omega
    clear hb
    obtain ⟨g1, g2⟩ := hv _ (List.getElem_mem hlt)
    rw [all_drop hlt] at hg
    (repeat (first | refine RO.Sv ?_ | refine RO.Yv ?_ | refine RO.no rfl (by decide) rfl ?_ | refine RO.nil ?_ | refine DW.region ?_ | refine DW.seq ?_ | refine DW.block ?_ | refine DW.skip ?_ | refine DW.exit ?_ | refine DW.condT rfl ?_ | refine DW.condF rfl ?_))
    refine DW.loopI (fun j : Nat => j ≤ l[k].length ∧ ((l[k].drop j).all smallP) = (l[k].all smallP)) (fun j => [(16, vcsD l), (17, I l.length), (18, I k), (22, vcD l[k]), (23, I l[k].length), (24, I j)]) (fun _ => H) (fun j => l[k].length - j) 0 ⟨Nat.zero_le _, rfl⟩ rfl ⟨rfl, rfl, rfl, rfl, rfl, rfl, trivial⟩ fun j ⟨hj, hgj⟩ => ?_
    (repeat (first | refine RO.Sv ?_ | refine RO.Yv ?_ | refine RO.no rfl (by decide) rfl ?_ | refine RO.nil ?_ | refine DW.region ?_ | refine DW.seq ?_ | refine DW.block ?_ | refine DW.skip ?_ | refine DW.exit ?_ | refine DW.condT rfl ?_ | refine DW.condF rfl ?_))
    refine DW.cond rfl (fun hb => ?_) (fun hb => ?_)
    · have hlj : j < l[k].length := by have := of_decide_eq_true hb; omega
      clear hb
      obtain ⟨g3, g4⟩ := g2 _ (List.getElem_mem hlj)
      rw [all_drop hlj] at hgj
      (repeat (first | refine RO.Sv ?_ | refine RO.Yv ?_ | refine RO.no rfl (by decide) rfl ?_ | refine RO.nil ?_ | refine DW.region ?_ | refine DW.seq ?_ | refine DW.block ?_ | refine DW.skip ?_ | refine DW.exit ?_ | refine DW.condT rfl ?_ | refine DW.condF rfl ?_))
      cases h3 : decide ((6 : Int) < (l[k][j].length : Int))
      case true =>
        have h5 : smallP l[k][j] = false := by unfold smallP; rw [h3]; rfl
        rw [h5, Bool.false_and] at hgj
        rw [← hgj, Bool.false_and] at hg
        rw [← hg]
        (repeat (first | refine RO.Sv ?_ | refine RO.Yv ?_ | refine RO.no rfl (by decide) rfl ?_ | refine RO.nil ?_ | refine DW.region ?_ | refine DW.seq ?_ | refine DW.block ?_ | refine DW.skip ?_ | refine DW.exit ?_ | refine DW.condT rfl ?_ | refine DW.condF rfl ?_))
        exact DW.ret ⟨.inl rfl, _, rfl, Over.refl _, .same _⟩
      (repeat (first | refine RO.Sv ?_ | refine RO.Yv ?_ | refine RO.no rfl (by decide) rfl ?_ | refine RO.nil ?_ | refine DW.region ?_ | refine DW.seq ?_ | refine DW.block ?_ | refine DW.skip ?_ | refine DW.exit ?_ | refine DW.condT rfl ?_ | refine DW.condF rfl ?_))
      refine RO.yes rfl rfl (OpD.of_sta (sta_call rfl rfl (top_pure l[k][j] g3 g4 _)) ?_)
      (repeat (first | refine RO.Sv ?_ | refine RO.Yv ?_ | refine RO.no rfl (by decide) rfl ?_ | refine RO.nil ?_ | refine DW.region ?_ | refine DW.seq ?_ | refine DW.block ?_ | refine DW.skip ?_ | refine DW.exit ?_ | refine DW.condT rfl ?_ | refine DW.condF rfl ?_))
      cases h4 : decide ((3 : Int) < topT l[k][j])
      case true =>
        have h5 : smallP l[k][j] = false := by unfold smallP; rw [h3, h4]; rfl
        rw [h5, Bool.false_and] at hgj
        rw [← hgj, Bool.false_and] at hg
        rw [← hg]
        (repeat (first | refine RO.Sv ?_ | refine RO.Yv ?_ | refine RO.no rfl (by decide) rfl ?_ | refine RO.nil ?_ | refine DW.region ?_ | refine DW.seq ?_ | refine DW.block ?_ | refine DW.skip ?_ | refine DW.exit ?_ | refine DW.condT rfl ?_ | refine DW.condF rfl ?_))
        exact DW.ret ⟨.inl rfl, _, rfl, Over.refl _, .same _⟩
      have h5 : smallP l[k][j] = true := by unfold smallP; rw [h3, h4]; rfl
      rw [h5, Bool.true_and] at hgj
      (repeat (first | refine RO.Sv ?_ | refine RO.Yv ?_ | refine RO.no rfl (by decide) rfl ?_ | refine RO.nil ?_ | refine DW.region ?_ | refine DW.seq ?_ | refine DW.block ?_ | refine DW.skip ?_ | refine DW.exit ?_ | refine DW.condT rfl ?_ | refine DW.condF rfl ?_))
      exact ⟨j + 1, ⟨hlj, hgj⟩, by dsimp only; omega, rfl, rfl, rfl, rfl, rfl, rfl, rfl, trivial⟩
    · have hge : j = l[k].length := by have := of_decide_eq_false hb; omega
      rw [hge, List.drop_length] at hgj
      have hgj' : l[k].all smallP = true := hgj.symm
      rw [hgj', Bool.true_and] at hg
      (repeat (first | refine RO.Sv ?_ | refine RO.Yv ?_ | refine RO.no rfl (by decide) rfl ?_ | refine RO.nil ?_ | refine DW.region ?_ | refine DW.seq ?_ | refine DW.block ?_ | refine DW.skip ?_ | refine DW.exit ?_ | refine DW.condT rfl ?_ | refine DW.condF rfl ?_))
      exact ⟨k + 1, ⟨hlt, hg⟩, by dsimp only; omega, rfl, rfl, rfl, rfl, trivial⟩
  · have hge : k = l.length := by have := of_decide_eq_false hb; omega
    rw [hge, List.drop_length] at hg
    rw [← hg]
    (repeat (first | refine RO.Sv ?_ | refine RO.Yv ?_ | refine RO.no rfl (by decide) rfl ?_ | refine RO.nil ?_ | refine DW.region ?_ | refine DW.seq ?_ | refine DW.block ?_ | refine DW.skip ?_ | refine DW.exit ?_ | refine DW.condT rfl ?_ | refine DW.condF rfl ?_))
    exact DW.ret ⟨.inl rfl, _, rfl, Over.refl _, .same _⟩

/-- What is wrong with a list that a basis is asked for. -/
def basCk (r : Rg) (rank : Int) (l : List Vc) : Int := if vecsCk r rank l = 0 then (if smallT rank l = true then 0 else 2) else vecsCk r rank l

theorem basisCheck_pure (r : Rg) (rank : Int) (l : List Vc) (hl : l.length ≤ 4611686018427387904) (hv : ∀ v ∈ l, v.length ≤ 4611686018427387904 ∧ ∀ f ∈ v, f.length ≤ 4611686018427387904) : Pure Tryz.prog 30 [rgD r, I rank, vcsD l] (I (basCk r rank l)) := by
  intro H
  refine PureH.of_body Tryz.func30 rfl (by decide) (Nat.le_of_ble_eq_true rfl) fun w0 => ?_
  unfold basCk
  (repeat (first | refine RO.Sv ?_ | refine RO.Yv ?_ | refine RO.no rfl (by decide) rfl ?_ | refine RO.nil ?_ | refine DW.region ?_ | refine DW.seq ?_ | refine DW.block ?_ | refine DW.skip ?_ | refine DW.exit ?_ | refine DW.condT rfl ?_ | refine DW.condF rfl ?_))
  refine RO.sta (sta_call rfl rfl (vCheck_pure r rank l hl hv _)) rfl ?_
  (repeat (first | refine RO.Sv ?_ | refine RO.Yv ?_ | refine RO.no rfl (by decide) rfl ?_ | refine RO.nil ?_ | refine DW.region ?_ | refine DW.seq ?_ | refine DW.block ?_ | refine DW.skip ?_ | refine DW.exit ?_ | refine DW.condT rfl ?_ | refine DW.condF rfl ?_))
  by_cases hck : vecsCk r rank l = 0
  case neg =>
    rw [if_neg hck, show (vecsCk r rank l != 0) = true by simpa using hck]
    (repeat (first | refine RO.Sv ?_ | refine RO.Yv ?_ | refine RO.no rfl (by decide) rfl ?_ | refine RO.nil ?_ | refine DW.region ?_ | refine DW.seq ?_ | refine DW.block ?_ | refine DW.skip ?_ | refine DW.exit ?_ | refine DW.condT rfl ?_ | refine DW.condF rfl ?_))
    exact DW.ret ⟨.inl rfl, _, rfl, Over.refl _, .same _⟩
  rw [if_pos hck, show (vecsCk r rank l != 0) = false by simpa using hck]
  obtain ⟨hr, hr1, hr2, hlen, hok⟩ := vecsCk_ok hck
  have hr3 := ringCk_ok hr
  (repeat (first | refine RO.Sv ?_ | refine RO.Yv ?_ | refine RO.no rfl (by decide) rfl ?_ | refine RO.nil ?_ | refine DW.region ?_ | refine DW.seq ?_ | refine DW.block ?_ | refine DW.skip ?_ | refine DW.exit ?_ | refine DW.condT rfl ?_ | refine DW.condF rfl ?_))
  refine RO.sta (sta_call rfl rfl (small_pure rank l (by omega) (fun v hv => ⟨by have := (hok v hv).len; omega, fun f hf => ⟨by have := ((hok v hv).all f hf).len; omega, fun t ht => (((hok v hv).all f hf).ok.all t ht).mok (by omega) (by omega)⟩⟩) _)) rfl ?_
  refine RO.sta (sta_not rfl) rfl ?_
  cases hs : smallT rank l
  case false =>
    (repeat (first | refine RO.Sv ?_ | refine RO.Yv ?_ | refine RO.no rfl (by decide) rfl ?_ | refine RO.nil ?_ | refine DW.region ?_ | refine DW.seq ?_ | refine DW.block ?_ | refine DW.skip ?_ | refine DW.exit ?_ | refine DW.condT rfl ?_ | refine DW.condF rfl ?_))
    exact DW.ret ⟨.inl rfl, _, rfl, Over.refl _, .same _⟩
  (repeat (first | refine RO.Sv ?_ | refine RO.Yv ?_ | refine RO.no rfl (by decide) rfl ?_ | refine RO.nil ?_ | refine DW.region ?_ | refine DW.seq ?_ | refine DW.block ?_ | refine DW.skip ?_ | refine DW.exit ?_ | refine DW.condT rfl ?_ | refine DW.condF rfl ?_))
  exact DW.ret ⟨.inl rfl, _, rfl, Over.refl _, .same _⟩

/-- The vector, and how it is made, with which the law begins. -/
def bgV0 : Vc := [[⟨2, [1, 0]⟩]]
def bgB0 : Vc := [[⟨1, [0, 0]⟩]]

theorem unit_pure : Pure Tryz.prog 95 [rgD xyR, I 1, I 0] (vcD bgB0) := by
  intro H
  refine PureH.of_body Tryz.func95 rfl (by decide) (Nat.le_of_ble_eq_true rfl) fun w0 => ?_
  (repeat (first | refine RO.Sv ?_ | refine RO.Yv ?_ | refine RO.no rfl (by decide) rfl ?_ | refine RO.nil ?_ | refine DW.region ?_ | refine DW.seq ?_ | refine DW.block ?_ | refine DW.skip ?_ | refine DW.exit ?_ | refine DW.condT rfl ?_ | refine DW.condF rfl ?_))
  refine RO.dyn rfl ((opD_call rfl rfl (nought_call 1 (by decide))).mono fun d H1 ⟨b, hb, hd, hH⟩ => ?_)
  subst hd; subst hH
  (repeat (first | refine RO.Sv ?_ | refine RO.Yv ?_ | refine RO.no rfl (by decide) rfl ?_ | refine RO.nil ?_ | refine DW.region ?_ | refine DW.seq ?_ | refine DW.block ?_ | refine DW.skip ?_ | refine DW.exit ?_ | refine DW.condT rfl ?_ | refine DW.condF rfl ?_))
  refine RO.sta (s_makeInts (n := 2) rfl rfl rfl (by decide) (by decide)) rfl ?_
  refine RO.sta (s_buildT (out := [I 1, intsD [0, 0]]) rfl rfl) rfl ?_
  (repeat (first | refine RO.Sv ?_ | refine RO.Yv ?_ | refine RO.no rfl (by decide) rfl ?_ | refine RO.nil ?_ | refine DW.region ?_ | refine DW.seq ?_ | refine DW.block ?_ | refine DW.skip ?_ | refine DW.exit ?_ | refine DW.condT rfl ?_ | refine DW.condF rfl ?_))
  refine RO.sta (s_ixRef (i := 0) rfl rfl (by decide) (by decide)) rfl ?_
  refine RO.dyn rfl (d_store (k := 1) rfl rfl rfl (Heap.set_self _ _ _) (by decide) (by simp [cellsOf, D.isCell]) ?_)
  rw [Heap.set_set]
  (repeat (first | refine RO.Sv ?_ | refine RO.Yv ?_ | refine RO.no rfl (by decide) rfl ?_ | refine RO.nil ?_ | refine DW.region ?_ | refine DW.seq ?_ | refine DW.block ?_ | refine DW.skip ?_ | refine DW.exit ?_ | refine DW.condT rfl ?_ | refine DW.condF rfl ?_))
  exact DW.ret ⟨.inl rfl, _, rfl, (Over.refl _).set hb, Frz.list (l := bgB0.map plD) (T := 31) (Heap.set_self _ _ _) hb (uni_pl _) rfl⟩

theorem Equal_pure (a b : List Int) (hl : a.length ≤ 1000000) : Pure Tryz.prog 137 [intsD a, intsD b] (.bool (a == b)) := by
  intro H
  refine PureH.of_body Tryz.func137 rfl (by decide) (Nat.le_of_ble_eq_true rfl) fun w0 => ?_
  (repeat (first | refine RO.Sv ?_ | refine RO.Yv ?_ | refine RO.no rfl (by decide) rfl ?_ | refine RO.nil ?_ | refine DW.region ?_ | refine DW.seq ?_ | refine DW.block ?_ | refine DW.skip ?_ | refine DW.exit ?_ | refine DW.condT rfl ?_ | refine DW.condF rfl ?_))
  by_cases hlen : a.length = b.length
  case neg =>
    have h1 : (a == b) = false := by
      cases hx : (a == b)
      · rfl
      · exact absurd (by rw [eq_of_beq hx]) hlen
    rw [h1, show ((a.length : Int) != (b.length : Int)) = true by simp; omega]
    (repeat (first | refine RO.Sv ?_ | refine RO.Yv ?_ | refine RO.no rfl (by decide) rfl ?_ | refine RO.nil ?_ | refine DW.region ?_ | refine DW.seq ?_ | refine DW.block ?_ | refine DW.skip ?_ | refine DW.exit ?_ | refine DW.condT rfl ?_ | refine DW.condF rfl ?_))
    exact DW.ret ⟨.inl rfl, _, rfl, Over.refl _, .same _⟩
  rw [show ((a.length : Int) != (b.length : Int)) = false by simp; omega]
  (repeat (first | refine RO.Sv ?_ | refine RO.Yv ?_ | refine RO.no rfl (by decide) rfl ?_ | refine RO.nil ?_ | refine DW.region ?_ | refine DW.seq ?_ | refine DW.block ?_ | refine DW.skip ?_ | refine DW.exit ?_ | refine DW.condT rfl ?_ | refine DW.condF rfl ?_))
  refine DW.loopI (fun k : Nat => k ≤ a.length ∧ (a.drop k == b.drop k) = (a == b)) (fun k => [(0, intsD a), (1, intsD b), (12, I a.length), (13, I k)]) (fun _ => H) (fun k => a.length - k) 0 ⟨Nat.zero_le _, rfl⟩ rfl ⟨rfl, rfl, rfl, rfl, trivial⟩ fun k ⟨hk, hg⟩ => ?_
  (repeat (first | refine RO.Sv ?_ | refine RO.Yv ?_ | refine RO.no rfl (by decide) rfl ?_ | refine RO.nil ?_ | refine DW.region ?_ | refine DW.seq ?_ | refine DW.block ?_ | refine DW.skip ?_ | refine DW.exit ?_ | refine DW.condT rfl ?_ | refine DW.condF rfl ?_))
  refine DW.cond rfl (fun hb => ?_) (fun hb => ?_)
  · have hlt : k < a.length := by have := of_decide_eq_true hb; omega
    have hlb : k < b.length := by omega
    clear hb
    rw [List.drop_eq_getElem_cons hlt, List.drop_eq_getElem_cons hlb] at hg
    have hg2 : ((a[k] == b[k]) && (a.drop (k + 1) == b.drop (k + 1))) = (a == b) := hg
    (repeat (first | refine RO.Sv ?_ | refine RO.Yv ?_ | refine RO.no rfl (by decide) rfl ?_ | refine RO.nil ?_ | refine DW.region ?_ | refine DW.seq ?_ | refine DW.block ?_ | refine DW.skip ?_ | refine DW.exit ?_ | refine DW.condT rfl ?_ | refine DW.condF rfl ?_))
    refine DW.drawS 9 Tryz.mixed (by kernel_rfl) (by decide) ?_
    dsimp only [List.take, List.drop]
    (repeat (first | refine RS.Sv ?_ | refine RS.Yv ?_ | refine RS.no rfl (by decide) rfl ?_ | refine RS.nil ?_))
    (repeat (first | refine RO.Sv ?_ | refine RO.Yv ?_ | refine RO.no rfl (by decide) rfl ?_ | refine RO.nil ?_ | refine DW.region ?_ | refine DW.seq ?_ | refine DW.block ?_ | refine DW.skip ?_ | refine DW.exit ?_ | refine DW.condT rfl ?_ | refine DW.condF rfl ?_))
    cases hq : (a[k] != b[k])
    case true =>
      have h3 : (a[k] == b[k]) = false := by simpa using hq
      rw [h3, Bool.false_and] at hg2
      rw [← hg2]
      (repeat (first | refine RO.Sv ?_ | refine RO.Yv ?_ | refine RO.no rfl (by decide) rfl ?_ | refine RO.nil ?_ | refine DW.region ?_ | refine DW.seq ?_ | refine DW.block ?_ | refine DW.skip ?_ | refine DW.exit ?_ | refine DW.condT rfl ?_ | refine DW.condF rfl ?_))
      exact DW.ret ⟨.inl rfl, _, rfl, Over.refl _, .same _⟩
    have h3 : (a[k] == b[k]) = true := by simpa using hq
    rw [h3, Bool.true_and] at hg2
    (repeat (first | refine RO.Sv ?_ | refine RO.Yv ?_ | refine RO.no rfl (by decide) rfl ?_ | refine RO.nil ?_ | refine DW.region ?_ | refine DW.seq ?_ | refine DW.block ?_ | refine DW.skip ?_ | refine DW.exit ?_ | refine DW.condT rfl ?_ | refine DW.condF rfl ?_))
    exact ⟨k + 1, ⟨hlt, hg2⟩, by dsimp only; omega, rfl, rfl, rfl, rfl, rfl, trivial⟩
  · have hge : k = a.length := by have := of_decide_eq_false hb; omega
    have h1 : (a == b) = true := by rw [← hg, hge, List.drop_length, hlen, List.drop_length]; rfl
    rw [h1]
    (repeat (first | refine RO.Sv ?_ | refine RO.Yv ?_ | refine RO.no rfl (by decide) rfl ?_ | refine RO.nil ?_ | refine DW.region ?_ | refine DW.seq ?_ | refine DW.block ?_ | refine DW.skip ?_ | refine DW.exit ?_ | refine DW.condT rfl ?_ | refine DW.condF rfl ?_))
    exact DW.ret ⟨.inl rfl, _, rfl, Over.refl _, .same _⟩

/-- A maker's cells; the one member's. -/
abbrev mkC (ms ps : D) : List D := [I 7, I 2, I 1, I 1, ms, ps]
abbrev memC (v : Vc) (c : Int) (e : List Int) (by' : Vc) : List D := [vcD v, I 0, I c, intsD e, vcD by']

theorem over_pureH {H : Heap} {bm : Nat} {T1 : TypeId} {ps : D} {v y : Vc} {c : Int} {e : List Int} (hm : H bm = some (T1, mkC (.list 5 [.agg (memC v c e y)]) ps)) (he : e.length ≤ 1000000) :
    PureH Tryz.prog H 117 [.ptr bm 0, I 0, .agg (memC v c e y)] (.bool false) := by
  refine PureH.of_body Tryz.func117 rfl (by decide) (Nat.le_of_ble_eq_true rfl) fun w0 => ?_
  refine DW.seq ?_
  refine DW.region ?_
  refine RO.sta (sta_box (k := 5) rfl rfl) rfl ?_
  (repeat (first | refine RO.Sv ?_ | refine RO.Yv ?_ | refine RO.no rfl (by decide) rfl ?_ | refine RO.nil ?_ | refine DW.region ?_ | refine DW.seq ?_ | refine DW.block ?_ | refine DW.skip ?_ | refine DW.exit ?_ | refine DW.condT rfl ?_ | refine DW.condF rfl ?_))
  refine RO.sta (s_nilCheck rfl) rfl ?_
  (repeat (first | refine RO.Sv ?_ | refine RO.Yv ?_ | refine RO.no rfl (by decide) rfl ?_ | refine RO.nil ?_ | refine DW.region ?_ | refine DW.seq ?_ | refine DW.block ?_ | refine DW.skip ?_ | refine DW.exit ?_ | refine DW.condT rfl ?_ | refine DW.condF rfl ?_))
  refine RO.sta (s_loadMut (d := .list 5 [.agg (memC v c e y)]) rfl hm rfl) rfl ?_
  (repeat (first | refine RO.Sv ?_ | refine RO.Yv ?_ | refine RO.no rfl (by decide) rfl ?_ | refine RO.nil ?_ | refine DW.region ?_ | refine DW.seq ?_ | refine DW.block ?_ | refine DW.skip ?_ | refine DW.exit ?_ | refine DW.condT rfl ?_ | refine DW.condF rfl ?_))
  refine DW.loopG (fun k : Nat => k ≤ 1) (fun k => [(1, I 0), (5, .ipt 5 [.agg (memC v c e y)] 0 0), (13, .list 5 [.agg (memC v c e y)]), (14, I 1), (15, I k)]) (fun _ => H) (fun k => 1 - k) 0 (Nat.zero_le _) (Heap.sub_refl _) (by repeat first | exact trivial | refine HasG.one rfl ?_ | refine HasN.one rfl ?_) fun k hk => ?_
  (repeat (first | refine RO.Sv ?_ | refine RO.Yv ?_ | refine RO.no rfl (by decide) rfl ?_ | refine RO.nil ?_ | refine DW.region ?_ | refine DW.seq ?_ | refine DW.block ?_ | refine DW.skip ?_ | refine DW.exit ?_ | refine DW.condT rfl ?_ | refine DW.condF rfl ?_))
  refine DW.cond rfl (fun hb => ?_) (fun hb => ?_)
  · have hlt : k = 0 := by have := of_decide_eq_true hb; omega
    subst hlt
    clear hb
    (repeat (first | refine RO.Sv ?_ | refine RO.Yv ?_ | refine RO.no rfl (by decide) rfl ?_ | refine RO.nil ?_ | refine DW.region ?_ | refine DW.seq ?_ | refine DW.block ?_ | refine DW.skip ?_ | refine DW.exit ?_ | refine DW.condT rfl ?_ | refine DW.condF rfl ?_))
    refine RO.sta (s_index (i := 0) (l := [.agg (memC v c e y)]) rfl rfl (by simp)) rfl ?_
    refine RO.sta (s_loadAgg (ds := memC v c e y) rfl rfl rfl) rfl ?_
    refine RO.dyn rfl (d_alloc fun b8 hb8 => ?_)
    (repeat (first | refine RO.Sv ?_ | refine RO.Yv ?_ | refine RO.no rfl (by decide) rfl ?_ | refine RO.nil ?_ | refine DW.region ?_ | refine DW.seq ?_ | refine DW.block ?_ | refine DW.skip ?_ | refine DW.exit ?_ | refine DW.condT rfl ?_ | refine DW.condF rfl ?_))
    refine RO.dyn rfl (d_store (k := 5) rfl rfl rfl (Heap.set_self _ _ _) (Nat.le_refl _) (by simp [cellsOf, D.isCell, vcD, intsD]) ?_)
    rw [Heap.set_set]
    (repeat (first | refine RO.Sv ?_ | refine RO.Yv ?_ | refine RO.no rfl (by decide) rfl ?_ | refine RO.nil ?_ | refine DW.region ?_ | refine DW.seq ?_ | refine DW.block ?_ | refine DW.skip ?_ | refine DW.exit ?_ | refine DW.condT rfl ?_ | refine DW.condF rfl ?_))
    refine RO.sta (sta_call rfl rfl (Equal_pure e e he _)) rfl ?_
    (repeat (first | refine RO.Sv ?_ | refine RO.Yv ?_ | refine RO.no rfl (by decide) rfl ?_ | refine RO.nil ?_ | refine DW.region ?_ | refine DW.seq ?_ | refine DW.block ?_ | refine DW.skip ?_ | refine DW.exit ?_ | refine DW.condT rfl ?_ | refine DW.condF rfl ?_))
    exact ⟨1, Nat.le_refl _, by decide, Heap.sub_set _ hb8, (by repeat first | exact trivial | refine HasG.one rfl ?_ | refine HasN.one rfl ?_)⟩
  · have hge : k = 1 := by have := of_decide_eq_false hb; omega
    (repeat (first | refine RO.Sv ?_ | refine RO.Yv ?_ | refine RO.no rfl (by decide) rfl ?_ | refine RO.nil ?_ | refine DW.region ?_ | refine DW.seq ?_ | refine DW.block ?_ | refine DW.skip ?_ | refine DW.exit ?_ | refine DW.condT rfl ?_ | refine DW.condF rfl ?_))
    exact DW.ret ⟨.inl rfl, _, rfl, Over.refl _, .same _⟩

theorem divisors_pureH {H : Heap} {bm b : Nat} {T1 : TypeId} {ps : D} (hm : H bm = some (T1, mkC (.ref b 0 0 5) ps)) : PureH Tryz.prog H 135 [.ptr bm 0] (dvsD xyR []) := by
  refine PureH.of_body Tryz.func135 rfl (by decide) (Nat.le_of_ble_eq_true rfl) fun w0 => ?_
  (repeat (first | refine RO.Sv ?_ | refine RO.Yv ?_ | refine RO.no rfl (by decide) rfl ?_ | refine RO.nil ?_ | refine DW.region ?_ | refine DW.seq ?_ | refine DW.block ?_ | refine DW.skip ?_ | refine DW.exit ?_ | refine DW.condT rfl ?_ | refine DW.condF rfl ?_))
  refine RO.sta (s_nilCheck rfl) rfl ?_
  (repeat (first | refine RO.Sv ?_ | refine RO.Yv ?_ | refine RO.no rfl (by decide) rfl ?_ | refine RO.nil ?_ | refine DW.region ?_ | refine DW.seq ?_ | refine DW.block ?_ | refine DW.skip ?_ | refine DW.exit ?_ | refine DW.condT rfl ?_ | refine DW.condF rfl ?_))
  refine RO.sta (s_loadMut (d := .ref b 0 0 5) rfl hm rfl) rfl ?_
  refine RO.sta (s_len rfl rfl) rfl ?_
  (repeat (first | refine RO.Sv ?_ | refine RO.Yv ?_ | refine RO.no rfl (by decide) rfl ?_ | refine RO.nil ?_ | refine DW.region ?_ | refine DW.seq ?_ | refine DW.block ?_ | refine DW.skip ?_ | refine DW.exit ?_ | refine DW.condT rfl ?_ | refine DW.condF rfl ?_))
  refine DW.loopI (fun k : Nat => k = 0) (fun k => [(3, .nil), (10, I 0), (11, I k)]) (fun _ => H) (fun k => 0) 0 rfl rfl ⟨rfl, rfl, rfl, trivial⟩ fun k hk => ?_
  subst hk
  (repeat (first | refine RO.Sv ?_ | refine RO.Yv ?_ | refine RO.no rfl (by decide) rfl ?_ | refine RO.nil ?_ | refine DW.region ?_ | refine DW.seq ?_ | refine DW.block ?_ | refine DW.skip ?_ | refine DW.exit ?_ | refine DW.condT rfl ?_ | refine DW.condF rfl ?_))
  exact DW.ret ⟨.inl rfl, _, rfl, Over.refl _, .nil _⟩

theorem grow_call {H : Heap} {bm : Nat} {T1 : TypeId} {ms : D} (hm : H bm = some (T1, mkC ms .nil)) : CallD Tryz.prog H 96 [.ptr bm 0] fun _ H' => H' = H := by
  refine CallD.of_body Tryz.func96 rfl (by decide) (Nat.le_of_ble_eq_true rfl) fun w0 => ?_
  (repeat (first | refine RO.Sv ?_ | refine RO.Yv ?_ | refine RO.no rfl (by decide) rfl ?_ | refine RO.nil ?_ | refine DW.region ?_ | refine DW.seq ?_ | refine DW.block ?_ | refine DW.skip ?_ | refine DW.exit ?_ | refine DW.condT rfl ?_ | refine DW.condF rfl ?_))
  refine DW.loopI (fun k : Nat => k = 0) (fun k => [(0, .ptr bm 0)]) (fun _ => H) (fun k => 0) 0 rfl rfl ⟨rfl, trivial⟩ fun k hk => ?_
  subst hk
  (repeat (first | refine RO.Sv ?_ | refine RO.Yv ?_ | refine RO.no rfl (by decide) rfl ?_ | refine RO.nil ?_ | refine DW.region ?_ | refine DW.seq ?_ | refine DW.block ?_ | refine DW.skip ?_ | refine DW.exit ?_ | refine DW.condT rfl ?_ | refine DW.condF rfl ?_))
  refine RO.sta (s_nilCheck rfl) rfl ?_
  (repeat (first | refine RO.Sv ?_ | refine RO.Yv ?_ | refine RO.no rfl (by decide) rfl ?_ | refine RO.nil ?_ | refine DW.region ?_ | refine DW.seq ?_ | refine DW.block ?_ | refine DW.skip ?_ | refine DW.exit ?_ | refine DW.condT rfl ?_ | refine DW.condF rfl ?_))
  refine RO.sta (s_loadMut (d := .nil) rfl hm rfl) rfl ?_
  refine RO.sta (s_len rfl rfl) rfl ?_
  (repeat (first | refine RO.Sv ?_ | refine RO.Yv ?_ | refine RO.no rfl (by decide) rfl ?_ | refine RO.nil ?_ | refine DW.region ?_ | refine DW.seq ?_ | refine DW.block ?_ | refine DW.skip ?_ | refine DW.exit ?_ | refine DW.condT rfl ?_ | refine DW.condF rfl ?_))
  exact ⟨.inr rfl, _, _, _, rfl, Heap.sub_refl _, .same _, rfl⟩

end Go.Proofs.YtcdihmhmoddppaaGreat

namespace Go.Proofs.YtcdihmhmoddppaaGreat
open Go.RowKit
set_option linter.unusedVariables false
set_option linter.unusedSimpArgs false
set_option maxHeartbeats 8000000

theorem uni_mem (v y : Vc) (c : Int) (e : List Int) : Uni 5 [.agg (memC v c e y)] := fun d hd => by
  rw [List.mem_singleton.1 hd]
  exact ⟨rfl, fun x hx => by simp [cellsOf] at hx; rcases hx with rfl | rfl | rfl | rfl | rfl <;> rfl⟩

theorem mclone_call {H : Heap} {b2 : Nat} {T2 : TypeId} {v y : Vc} {c : Int} {e : List Int} (hM : H b2 = some (T2, memC v c e y)) :
    CallD Tryz.prog H 119 [.ref b2 0 1 5] fun d H' => ∃ b3, H b3 = none ∧ d = .ref b3 0 1 5 ∧ H' b3 = some (101, memC v c e y) ∧ Over H H' := by
  refine CallD.of_body Tryz.func119 rfl (by decide) (Nat.le_of_ble_eq_true rfl) fun w0 => ?_
  (repeat (first | refine RO.Sv ?_ | refine RO.Yv ?_ | refine RO.no rfl (by decide) rfl ?_ | refine RO.nil ?_ | refine DW.region ?_ | refine DW.seq ?_ | refine DW.block ?_ | refine DW.skip ?_ | refine DW.exit ?_ | refine DW.condT rfl ?_ | refine DW.condF rfl ?_))
  refine RO.sta (s_eqNilRef rfl) rfl ?_
  (repeat (first | refine RO.Sv ?_ | refine RO.Yv ?_ | refine RO.no rfl (by decide) rfl ?_ | refine RO.nil ?_ | refine DW.region ?_ | refine DW.seq ?_ | refine DW.block ?_ | refine DW.skip ?_ | refine DW.exit ?_ | refine DW.condT rfl ?_ | refine DW.condF rfl ?_))
  refine RO.dyn rfl (d_appendRef (H0 := H) (l := []) (xs := [.agg (memC v c e y)]) rfl (Acc.nil _ _ _ _) (Over.refl _) rfl hM rfl (fun j x hx => by rw [Nat.zero_add]; simpa [cellsOf] using hx) (uni_mem v y c e) (by simp) (by simp) fun d' H' q1 q2 q3 => ?_)
  obtain ⟨b3, g1, g2, g3⟩ : ∃ b3, H b3 = none ∧ d' = .ref b3 0 1 5 ∧ H' b3 = some (101, memC v c e y) := by
    rcases q1.is with ⟨_, h⟩ | ⟨b3, h1, h2, h3⟩
    · cases h
    · exact ⟨b3, h1, h2, by simpa [cellsOf] using h3⟩
  (repeat (first | refine RO.Sv ?_ | refine RO.Yv ?_ | refine RO.no rfl (by decide) rfl ?_ | refine RO.nil ?_ | refine DW.region ?_ | refine DW.seq ?_ | refine DW.block ?_ | refine DW.skip ?_ | refine DW.exit ?_ | refine DW.condT rfl ?_ | refine DW.condF rfl ?_))
  exact DW.ret ⟨.inl rfl, _, d', H', rfl, fun _ _ h => h, .same _, b3, g1, g2, g3, q2⟩

set_option maxRecDepth 100000 in
theorem mdelete_call {H : Heap} {b3 : Nat} {T2 : TypeId} {cells : List D} (hM : H b3 = some (T2, cells)) (hl : cells.length = 5) :
    CallD Tryz.prog H 118 [.ref b3 0 1 5, I 0, I 1] fun d H' => d = .ref b3 0 0 5 ∧ H' = H.set b3 (T2, [.nil, I 0, I 0, .nil, .nil]) := by
  refine CallD.of_body Tryz.func118 rfl (by decide) (Nat.le_of_ble_eq_true rfl) fun w0 => ?_
  refine DW.seq ?_
  refine DW.region ?_
  (repeat (first | refine RO.Sv ?_ | refine RO.Yv ?_ | refine RO.no rfl (by decide) rfl ?_))
  refine RO.nil ?_
  refine DW.seq ?_
  refine DW.regionDead 5 (s := 13) [(0, .ref b3 0 1 5), (1, I 0), (2, I 1), (6, .nil)] rfl rfl rfl (fun t d h hh => by subst hh; cases h) ?_
  dsimp only [List.take, List.drop]
  (repeat (first | refine RO.Sv ?_ | refine RO.Yv ?_ | refine RO.no rfl (by decide) rfl ?_))
  refine RO.nil ?_
  refine ⟨?_, ⟨rfl, rfl, rfl, rfl, trivial⟩, ?_⟩
  · exact dead_slice3 rfl rfl rfl rfl
  (repeat (first | refine RO.Sv ?_ | refine RO.Yv ?_ | refine RO.no rfl (by decide) rfl ?_ | refine RO.nil ?_ | refine DW.region ?_ | refine DW.seq ?_ | refine DW.block ?_ | refine DW.skip ?_ | refine DW.exit ?_ | refine DW.condT rfl ?_ | refine DW.condF rfl ?_))
  (repeat (first | refine RO.Sv ?_ | refine RO.Yv ?_ | refine RO.no rfl (by decide) rfl ?_ | refine RO.nil ?_ | refine DW.region ?_ | refine DW.seq ?_ | refine DW.block ?_ | refine DW.skip ?_ | refine DW.exit ?_ | refine DW.condT rfl ?_ | refine DW.condF rfl ?_))
  refine DW.drawS 7 Tryz.mixed (by kernel_rfl) (by decide) ?_
  dsimp only [List.take, List.drop]
  (repeat (first | refine RS.Sv ?_ | refine RS.Yv ?_ | refine RS.no rfl (by decide) rfl ?_ | refine RS.nil ?_))
  refine RS.sta (fun H' hov => s_headRef (c := 0) (hov _ _ hM) (by omega) rfl rfl rfl) rfl ?_
  (repeat (first | refine RS.Sv ?_ | refine RS.Yv ?_ | refine RS.no rfl (by decide) rfl ?_ | refine RS.nil ?_))
  refine RS.sta (fun H' hov => s_fromRefEnd (n := 1) rfl rfl) rfl ?_
  refine RS.sta (fun H' hov => s_appendNone rfl rfl) rfl ?_
  (repeat (first | refine RS.Sv ?_ | refine RS.Yv ?_ | refine RS.no rfl (by decide) rfl ?_ | refine RS.nil ?_))
  (repeat (first | refine RO.Sv ?_ | refine RO.Yv ?_ | refine RO.no rfl (by decide) rfl ?_ | refine RO.nil ?_ | refine DW.region ?_ | refine DW.seq ?_ | refine DW.block ?_ | refine DW.skip ?_ | refine DW.exit ?_ | refine DW.condT rfl ?_ | refine DW.condF rfl ?_))
  (repeat (first | refine RO.Sv ?_ | refine RO.Yv ?_ | refine RO.no rfl (by decide) rfl ?_ | refine RO.nil ?_ | refine DW.region ?_ | refine DW.seq ?_ | refine DW.block ?_ | refine DW.skip ?_ | refine DW.exit ?_ | refine DW.condT rfl ?_ | refine DW.condF rfl ?_))
  refine RO.sta (s_headRef (c := 1) hM (by omega) rfl rfl rfl) rfl ?_
  refine RO.dyn rfl (opD_clear1 rfl hM hl ?_)
  (repeat (first | refine RO.Sv ?_ | refine RO.Yv ?_ | refine RO.no rfl (by decide) rfl ?_ | refine RO.nil ?_ | refine DW.region ?_ | refine DW.seq ?_ | refine DW.block ?_ | refine DW.skip ?_ | refine DW.exit ?_ | refine DW.condT rfl ?_ | refine DW.condF rfl ?_))
  exact DW.ret ⟨.inl rfl, _, _, _, rfl, fun _ _ h => h, .same _, rfl, rfl⟩

theorem add_call {H : Heap} {bm : Nat} {T1 : TypeId} {v y : Vc} {c : Int} {e : List Int} (hm : H bm = some (T1, mkC .nil .nil)) (hv : VD xyR 2 v) (ht : topV xyR v = some (0, ⟨c, e⟩)) :
    CallD Tryz.prog H 94 [.ptr bm 0, vcD v, vcD y] fun _ H' => H' bm = some (T1, mkC (.list 5 [.agg (memC v c e y)]) .nil) ∧ ∀ q z, q ≠ bm → H q = some z → H' q = some z := by
  refine CallD.of_body Tryz.func94 rfl (by decide) (Nat.le_of_ble_eq_true rfl) fun w0 => ?_
  have hof := dvOf_pure xyR v hv
  unfold dvD dvC at hof
  rw [ht] at hof
  (repeat (first | refine RO.Sv ?_ | refine RO.Yv ?_ | refine RO.no rfl (by decide) rfl ?_ | refine RO.nil ?_ | refine DW.region ?_ | refine DW.seq ?_ | refine DW.block ?_ | refine DW.skip ?_ | refine DW.exit ?_ | refine DW.condT rfl ?_ | refine DW.condF rfl ?_))
  refine RO.sta (s_nilCheck rfl) rfl ?_
  (repeat (first | refine RO.Sv ?_ | refine RO.Yv ?_ | refine RO.no rfl (by decide) rfl ?_ | refine RO.nil ?_ | refine DW.region ?_ | refine DW.seq ?_ | refine DW.block ?_ | refine DW.skip ?_ | refine DW.exit ?_ | refine DW.condT rfl ?_ | refine DW.condF rfl ?_))
  refine RO.sta (s_loadMutAgg (ds := [I 7, I 2, I 1, I 1]) rfl hm rfl rfl) rfl ?_
  (repeat (first | refine RO.Sv ?_ | refine RO.Yv ?_ | refine RO.no rfl (by decide) rfl ?_ | refine RO.nil ?_ | refine DW.region ?_ | refine DW.seq ?_ | refine DW.block ?_ | refine DW.skip ?_ | refine DW.exit ?_ | refine DW.condT rfl ?_ | refine DW.condF rfl ?_))
  refine RO.sta (sta_call rfl rfl (hof _)) rfl ?_
  (repeat (first | refine RO.Sv ?_ | refine RO.Yv ?_ | refine RO.no rfl (by decide) rfl ?_ | refine RO.nil ?_ | refine DW.region ?_ | refine DW.seq ?_ | refine DW.block ?_ | refine DW.skip ?_ | refine DW.exit ?_ | refine DW.condT rfl ?_ | refine DW.condF rfl ?_))
  refine RO.sta (s_buildT (out := memC v c e y) rfl rfl) rfl ?_
  refine RO.dyn rfl (d_alloc fun b6 hb6 => ?_)
  have hne : b6 ≠ bm := fun h => by rw [h, hm] at hb6; cases hb6
  (repeat (first | refine RO.Sv ?_ | refine RO.Yv ?_ | refine RO.no rfl (by decide) rfl ?_ | refine RO.nil ?_ | refine DW.region ?_ | refine DW.seq ?_ | refine DW.block ?_ | refine DW.skip ?_ | refine DW.exit ?_ | refine DW.condT rfl ?_ | refine DW.condF rfl ?_))
  refine RO.dyn rfl (d_store (k := 5) rfl rfl rfl (Heap.set_self _ _ _) (Nat.le_refl _) (by simp [cellsOf, D.isCell, vcD, intsD]) ?_)
  rw [Heap.set_set]
  refine RO.nil ?_
  refine DW.asH (fun H2 => H2 bm = some (T1, mkC .nil .nil) ∧ H2 b6 = some (101, memC v c e y) ∧ Over H H2) ⟨by rw [Heap.set_other _ _ hne.symm]; exact hm, by rw [Heap.set_self]; rfl, (Over.refl H).set hb6⟩ fun H2 ⟨gm, g6, gov⟩ => ?_
  (repeat (first | refine RO.Sv ?_ | refine RO.Yv ?_ | refine RO.no rfl (by decide) rfl ?_ | refine RO.nil ?_ | refine DW.region ?_ | refine DW.seq ?_ | refine DW.block ?_ | refine DW.skip ?_ | refine DW.exit ?_ | refine DW.condT rfl ?_ | refine DW.condF rfl ?_))
  refine RO.sta (s_nilCheck rfl) rfl ?_
  (repeat (first | refine RO.Sv ?_ | refine RO.Yv ?_ | refine RO.no rfl (by decide) rfl ?_ | refine RO.nil ?_ | refine DW.region ?_ | refine DW.seq ?_ | refine DW.block ?_ | refine DW.skip ?_ | refine DW.exit ?_ | refine DW.condT rfl ?_ | refine DW.condF rfl ?_))
  refine RO.sta (s_loadMut (d := .nil) rfl gm rfl) rfl ?_
  (repeat (first | refine RO.Sv ?_ | refine RO.Yv ?_ | refine RO.no rfl (by decide) rfl ?_ | refine RO.nil ?_ | refine DW.region ?_ | refine DW.seq ?_ | refine DW.block ?_ | refine DW.skip ?_ | refine DW.exit ?_ | refine DW.condT rfl ?_ | refine DW.condF rfl ?_))
  refine DW.loopI (fun k : Nat => k = 0) (fun k => [(0, .ptr bm 0), (6, .ptr b6 0), (21, I 0), (22, I k)]) (fun _ => H2) (fun k => 0) 0 rfl rfl ⟨rfl, rfl, rfl, rfl, trivial⟩ fun k hk => ?_
  subst hk
  (repeat (first | refine RO.Sv ?_ | refine RO.Yv ?_ | refine RO.no rfl (by decide) rfl ?_ | refine RO.nil ?_ | refine DW.region ?_ | refine DW.seq ?_ | refine DW.block ?_ | refine DW.skip ?_ | refine DW.exit ?_ | refine DW.condT rfl ?_ | refine DW.condF rfl ?_))
  refine DW.drawS 10 Tryz.mixed (by kernel_rfl) (by decide) ?_
  dsimp only [List.take, List.drop]
  (repeat (first | refine RS.Sv ?_ | refine RS.Yv ?_ | refine RS.no rfl (by decide) rfl ?_ | refine RS.nil ?_))
  refine RS.sta (fun H' hov => s_nilCheck rfl) rfl ?_
  (repeat (first | refine RS.Sv ?_ | refine RS.Yv ?_ | refine RS.no rfl (by decide) rfl ?_ | refine RS.nil ?_))
  refine RS.sta (r_loadMut (d := .nil) rfl gm rfl) rfl ?_
  refine RS.sta (r_loadMutAgg (ds := memC v c e y) rfl g6 rfl rfl) rfl ?_
  refine RS.sta (fun H' hov => s_lit1 (k := 5) (by decide) rfl rfl) rfl ?_
  refine RS.sta (fun H' hov => s_appendNil (xs := [.agg (memC v c e y)]) rfl rfl (.inl rfl) (uni_mem v y c e) (by simp) (by simp)) rfl ?_
  refine RS.sta (fun H' hov => s_nilCheck rfl) rfl ?_
  (repeat (first | refine RS.Sv ?_ | refine RS.Yv ?_ | refine RS.no rfl (by decide) rfl ?_ | refine RS.nil ?_))
  refine RO.dyn rfl (d_store (k := 1) rfl rfl rfl gm (by show 0 + 4 + 1 ≤ 6; omega) (by simp [cellsOf, D.isCell]) ?_)
  (repeat (first | refine RO.Sv ?_ | refine RO.Yv ?_ | refine RO.no rfl (by decide) rfl ?_ | refine RO.nil ?_ | refine DW.region ?_ | refine DW.seq ?_ | refine DW.block ?_ | refine DW.skip ?_ | refine DW.exit ?_ | refine DW.condT rfl ?_ | refine DW.condF rfl ?_))
  exact ⟨.inr rfl, _, _, _, rfl, Heap.sub_refl _, .same _, Heap.set_self _ _ _, fun q z hq hz => by rw [Heap.set_other _ _ hq]; exact gov q z hz⟩

theorem told_none {r : Rg} {H : Heap} {f : FuncId} {caps : List D} : Told r [] H (fun _ => False) f caps (fun _ _ => True) :=
  ⟨fun c h => h.elim, trivial, fun _ _ _ _ _ => trivial, fun σ H i t _ _ hi _ _ => absurd hi (Nat.not_lt_zero _)⟩

theorem left_none {r : Rg} {rank : Nat} {v : Vc} {H : Heap} {f : FuncId} {caps : List D} (hl : DL r rank []) (hv : VIn r rank v) :
    PureH Tryz.prog H 52 [rgD r, vcD v, dvsD r [], .fn f caps] (vcD (divT r rank [] v).left) := by
  have h := left_call (H0 := H) (own := fun _ => False) (f := f) (caps := caps) (R := fun _ _ => True) hl hv told_none
  refine ⟨h.body, fun w args ho hr => (h.calls w args ho hr).mono fun en w' ⟨u, d, H', h1, ⟨h2, _, _, _, h5⟩, h6, h7, h8⟩ => ?_⟩
  have hH : H' = H := funext fun c => h5 c (fun h => h)
  subst hH
  subst h2
  exact ⟨u, h1, h6, h7, h8⟩

theorem reduced_pureH {H : Heap} {bm b : Nat} {T1 : TypeId} {ps : D} {v y : Vc} (hm : H bm = some (T1, mkC (.ref b 0 0 5) ps)) (hv : VIn xyR 1 v) (hl : (divT xyR 1 [] v).left = v) :
    PureH Tryz.prog H 116 [.ptr bm 0, vcD v, vcD y] (.tup [vcD v, vcD y]) := by
  have hdl : DL xyR 1 [] := ⟨by kernel_rfl, by decide, by decide, by decide, fun d hd => by cases hd⟩
  have hleft : ∀ (H' : Heap) (f : FuncId) (caps : List D), PureH Tryz.prog H' 52 [rgD xyR, vcD v, dvsD xyR [], .fn f caps] (vcD v) := fun H' f caps => by
    have := left_none (H := H') (f := f) (caps := caps) hdl hv
    rwa [hl] at this
  refine PureH.of_body Tryz.func116 rfl (by decide) (Nat.le_of_ble_eq_true rfl) fun w0 => ?_
  (repeat (first | refine RO.Sv ?_ | refine RO.Yv ?_ | refine RO.no rfl (by decide) rfl ?_ | refine RO.nil ?_ | refine DW.region ?_ | refine DW.seq ?_ | refine DW.block ?_ | refine DW.skip ?_ | refine DW.exit ?_ | refine DW.condT rfl ?_ | refine DW.condF rfl ?_))
  refine DW.drawS 9 Tryz.mixed (by kernel_rfl) (by decide) ?_
  dsimp only [List.take, List.drop]
  (repeat (first | refine RS.Sv ?_ | refine RS.Yv ?_ | refine RS.no rfl (by decide) rfl ?_ | refine RS.nil ?_))
  refine RS.sta (fun H' hov => s_nilCheck rfl) rfl ?_
  (repeat (first | refine RS.Sv ?_ | refine RS.Yv ?_ | refine RS.no rfl (by decide) rfl ?_ | refine RS.nil ?_))
  refine RS.sta (r_loadMutAgg (ds := [I 7, I 2, I 1, I 1]) rfl hm rfl rfl) rfl ?_
  (repeat (first | refine RS.Sv ?_ | refine RS.Yv ?_ | refine RS.no rfl (by decide) rfl ?_ | refine RS.nil ?_))
  refine RS.sta (fun H' hov => sta_call rfl rfl (divisors_pureH (hov _ _ hm))) rfl ?_
  (repeat (first | refine RS.Sv ?_ | refine RS.Yv ?_ | refine RS.no rfl (by decide) rfl ?_ | refine RS.nil ?_))
  refine RS.sta (fun H' hov => sta_call rfl rfl (hleft H' _ _)) rfl ?_
  (repeat (first | refine RS.Sv ?_ | refine RS.Yv ?_ | refine RS.no rfl (by decide) rfl ?_ | refine RS.nil ?_))
  (repeat (first | refine RO.Sv ?_ | refine RO.Yv ?_ | refine RO.no rfl (by decide) rfl ?_ | refine RO.nil ?_ | refine DW.region ?_ | refine DW.seq ?_ | refine DW.block ?_ | refine DW.skip ?_ | refine DW.exit ?_ | refine DW.condT rfl ?_ | refine DW.condF rfl ?_))
  refine DW.drawS 4 Tryz.mixed (by kernel_rfl) (by decide) ?_
  dsimp only [List.take, List.drop]
  (repeat (first | refine RS.Sv ?_ | refine RS.Yv ?_ | refine RS.no rfl (by decide) rfl ?_ | refine RS.nil ?_))
  (repeat (first | refine RO.Sv ?_ | refine RO.Yv ?_ | refine RO.no rfl (by decide) rfl ?_ | refine RO.nil ?_ | refine DW.region ?_ | refine DW.seq ?_ | refine DW.block ?_ | refine DW.skip ?_ | refine DW.exit ?_ | refine DW.condT rfl ?_ | refine DW.condF rfl ?_))
  exact DW.ret ⟨.inl rfl, _, rfl, Over.refl _, .same _⟩

theorem bitsLen1_pure : Pure Tryz.prog 139 [.int .u64 1] (I (Lib.bitLen (1 : Int).toNat)) :=
  pure_of_calls ⟨_, Tryz.func139, rfl, rfl⟩ fun H w args ho hr => by
    obtain ⟨hs, hv⟩ := hr
    obtain ⟨v, hv0, hrep⟩ := hv 0 _ rfl
    have hv' := rep_int hrep
    subst hv'
    obtain rfl : args = #[.int .u64 1] := by
      apply Array.ext_getElem?
      intro j
      cases j with
      | zero => rw [hv0]; rfl
      | succ j => rw [Array.getElem?_eq_none (by rw [hs]; simp), Array.getElem?_eq_none (by simp)]
    refine (Tryz.bits_Len 1 w (by decide) (by decide)).mono ?_
    rintro e w' ⟨rfl, rfl⟩
    exact ⟨_, rfl, .int _ _, Below.refl _ _⟩

theorem insSort_call {H : Heap} {b : Nat} {f : D} : CallD Tryz.prog H 148 [.ref b 0 1 5, I 0, I 1, f] fun _ H' => H' = H := by
  refine CallD.of_body Tryz.func148 rfl (by decide) (Nat.le_of_ble_eq_true rfl) fun w0 => ?_
  (repeat (first | refine RO.Sv ?_ | refine RO.Yv ?_ | refine RO.no rfl (by decide) rfl ?_ | refine RO.nil ?_ | refine DW.region ?_ | refine DW.seq ?_ | refine DW.block ?_ | refine DW.skip ?_ | refine DW.exit ?_ | refine DW.condT rfl ?_ | refine DW.condF rfl ?_))
  refine DW.loopI (fun k : Nat => k = 1) (fun k => [(8, I k), (2, I 1)]) (fun _ => H) (fun k => 0) 1 rfl rfl ⟨rfl, rfl, trivial⟩ fun k hk => ?_
  subst hk
  (repeat (first | refine RO.Sv ?_ | refine RO.Yv ?_ | refine RO.no rfl (by decide) rfl ?_ | refine RO.nil ?_ | refine DW.region ?_ | refine DW.seq ?_ | refine DW.block ?_ | refine DW.skip ?_ | refine DW.exit ?_ | refine DW.condT rfl ?_ | refine DW.condF rfl ?_))
  exact ⟨.inr rfl, _, _, _, rfl, Heap.sub_refl _, .same _, rfl⟩

theorem pdq_call {H : Heap} {b : Nat} {f n : D} : CallD Tryz.prog H 138 [.ref b 0 1 5, I 0, I 1, n, f] fun _ H' => H' = H := by
  refine CallD.of_body Tryz.func138 rfl (by decide) (Nat.le_of_ble_eq_true rfl) fun w0 => ?_
  (repeat (first | refine RO.Sv ?_ | refine RO.Yv ?_ | refine RO.no rfl (by decide) rfl ?_ | refine RO.nil ?_ | refine DW.region ?_ | refine DW.seq ?_ | refine DW.block ?_ | refine DW.skip ?_ | refine DW.exit ?_ | refine DW.condT rfl ?_ | refine DW.condF rfl ?_))
  refine DW.loopI (fun k : Nat => k = 0) (fun k => [(0, .ref b 0 1 5), (1, I 0), (2, I 1), (4, f)]) (fun _ => H) (fun k => 0) 0 rfl rfl ⟨rfl, rfl, rfl, rfl, trivial⟩ fun k hk => ?_
  subst hk
  (repeat (first | refine RO.Sv ?_ | refine RO.Yv ?_ | refine RO.no rfl (by decide) rfl ?_ | refine RO.nil ?_ | refine DW.region ?_ | refine DW.seq ?_ | refine DW.block ?_ | refine DW.skip ?_ | refine DW.exit ?_ | refine DW.condT rfl ?_ | refine DW.condF rfl ?_))
  refine RO.dyn rfl ((opD_call rfl rfl insSort_call).mono fun d H1 hH => ?_)
  subst hH
  (repeat (first | refine RO.Sv ?_ | refine RO.Yv ?_ | refine RO.no rfl (by decide) rfl ?_ | refine RO.nil ?_ | refine DW.region ?_ | refine DW.seq ?_ | refine DW.block ?_ | refine DW.skip ?_ | refine DW.exit ?_ | refine DW.condT rfl ?_ | refine DW.condF rfl ?_))
  exact DW.ret ⟨.inl rfl, _, _, _, rfl, Heap.sub_refl _, .same _, rfl⟩

theorem sortFunc_call {H : Heap} {b : Nat} {f : D} : CallD Tryz.prog H 120 [.ref b 0 1 5, f] fun _ H' => H' = H := by
  refine CallD.of_body Tryz.func120 rfl (by decide) (Nat.le_of_ble_eq_true rfl) fun w0 => ?_
  (repeat (first | refine RO.Sv ?_ | refine RO.Yv ?_ | refine RO.no rfl (by decide) rfl ?_ | refine RO.nil ?_ | refine DW.region ?_ | refine DW.seq ?_ | refine DW.block ?_ | refine DW.skip ?_ | refine DW.exit ?_ | refine DW.condT rfl ?_ | refine DW.condF rfl ?_))
  refine RO.sta (s_uint (n := 1) Tryz.underlying135 Tryz.underlying3 rfl (by decide)) rfl ?_
  refine RO.sta (sta_call rfl rfl (bitsLen1_pure _)) rfl ?_
  (repeat (first | refine RO.Sv ?_ | refine RO.Yv ?_ | refine RO.no rfl (by decide) rfl ?_ | refine RO.nil ?_ | refine DW.region ?_ | refine DW.seq ?_ | refine DW.block ?_ | refine DW.skip ?_ | refine DW.exit ?_ | refine DW.condT rfl ?_ | refine DW.condF rfl ?_))
  refine RO.dyn rfl ((opD_call rfl rfl pdq_call).mono fun d H1 hH => ?_)
  subst hH
  (repeat (first | refine RO.Sv ?_ | refine RO.Yv ?_ | refine RO.no rfl (by decide) rfl ?_ | refine RO.nil ?_ | refine DW.region ?_ | refine DW.seq ?_ | refine DW.block ?_ | refine DW.skip ?_ | refine DW.exit ?_ | refine DW.condT rfl ?_ | refine DW.condF rfl ?_))
  exact ⟨.inr rfl, _, _, _, rfl, Heap.sub_refl _, .same _, rfl⟩

/-- What the one member becomes. -/
def bgV1 : Vc := [[⟨1, [1, 0]⟩]]
def bgB1 : Vc := [[⟨4, [0, 0]⟩]]

theorem vd_one {t : Tm} (h : TB 1 7 2 8000 t) (hd : t.e.sum ≤ 200) : VD xyR 2 [[t]] :=
  ⟨by decide, by simp, fun i hi => by
    have h0 : i = 0 := by simp at hi; omega
    subst h0
    exact PB.one h, fun i hi => by
    have h0 : i = 0 := by simp at hi; omega
    subst h0
    intro s hs
    rw [List.mem_singleton.1 (show s ∈ [t] from hs)]
    exact hd⟩

theorem vdV0 : VD xyR 2 bgV0 := vd_one ⟨by decide, by decide, rfl, by decide⟩ (by decide)
theorem vdV1 : VD xyR 2 bgV1 := vd_one ⟨by decide, by decide, rfl, by decide⟩ (by decide)
theorem vdB0 : VD xyR 2 bgB0 := vd_one ⟨by decide, by decide, rfl, by decide⟩ (by decide)

theorem turn72 : Pure Tryz.prog 83 [I 7, I 2] (I 4) := by
  have h := turn_pure 7 2 (by decide) (by decide) (by decide) (by decide)
  rwa [show turnP 7 2 = 4 by kernel_rfl] at h

theorem byV0 : Pure Tryz.prog 82 [rgD xyR, vcD bgV0, tmD ⟨4, [0, 0]⟩] (vcD bgV1) := by
  have h := vBy_pure xyR bgV0 ⟨4, [0, 0]⟩ (n := 2) (B := 8000) (C := 0) (L := 512192024001) (by decide) (by decide) (by decide) (by decide) (by decide) (by decide) vdV0.vb ⟨by decide, by decide, rfl, by decide⟩
  rwa [show vbyT xyR bgV0 ⟨4, [0, 0]⟩ = bgV1 by kernel_rfl] at h

theorem byB0 : Pure Tryz.prog 82 [rgD xyR, vcD bgB0, tmD ⟨4, [0, 0]⟩] (vcD bgB1) := by
  have h := vBy_pure xyR bgB0 ⟨4, [0, 0]⟩ (n := 2) (B := 8000) (C := 0) (L := 512192024001) (by decide) (by decide) (by decide) (by decide) (by decide) (by decide) vdB0.vb ⟨by decide, by decide, rfl, by decide⟩
  rwa [show vbyT xyR bgB0 ⟨4, [0, 0]⟩ = bgB1 by kernel_rfl] at h

theorem ofV1 : Pure Tryz.prog 79 [rgD xyR, vcD bgV1] (.agg [vcD bgV1, I 0, I 1, intsD [1, 0]]) := by
  have h := dvOf_pure xyR bgV1 vdV1
  unfold dvD dvC at h
  rwa [show topV xyR bgV1 = some (0, ⟨1, [1, 0]⟩) by kernel_rfl] at h

abbrev bgM0 : List D := memC bgV0 2 [1, 0] bgB0
abbrev bgM1 : List D := memC bgV1 1 [1, 0] bgB1

end Go.Proofs.YtcdihmhmoddppaaGreat
