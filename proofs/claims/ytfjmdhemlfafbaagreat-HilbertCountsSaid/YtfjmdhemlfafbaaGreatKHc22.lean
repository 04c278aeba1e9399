/-
  Package basis: reduced. No condition.
-/
import Derived.Test.YtfjmdhemlfafbaaGreatKHc21
import Derived.Test.YtfjmdhemlfafbaaGreatKHc8
set_option linter.unusedVariables false
set_option linter.unusedSimpArgs false

namespace Go.Proofs.YtfjmdhemlfafbaaGreat
section
open Go.RowKit
set_option maxHeartbeats 8000000

instance : CellT Tryz.prog 63 := ⟨⟨_, Tryz.underlying63, rfl⟩⟩

instance : CellT Tryz.prog 81 := ⟨⟨_, Tryz.underlying81, rfl⟩⟩

instance : CellT Tryz.prog 80 := ⟨⟨_, Tryz.underlying80, rfl⟩⟩

instance : SliceT Tryz.prog 63 68 := ⟨Tryz.underlying63⟩

instance : SliceT Tryz.prog 81 93 := ⟨Tryz.underlying81⟩

instance : ElT Tryz.prog 49 1 [.nil] 24 := .of (z := .slice none 0 0) (by kernel_rfl) rfl rfl rfl (by decide)

instance : ElT Tryz.prog 68 5 [.nil, I 0, I 0, .nil, .nil] 88 := .of (z := .agg #[.slice none 0 0, .int .i64 0, .int .i64 0, .slice none 0 0, .slice none 0 0]) (by kernel_rfl) rfl rfl rfl (by decide)

instance : ElT Tryz.prog 93 3 [I 0, I 0, .nil] 40 := .of (z := .agg #[.int .i64 0, .int .i64 0, .slice none 0 0]) (by kernel_rfl) rfl rfl rfl (by decide)

instance : AggT Tryz.prog 68 5 := .of Tryz.underlying68 rfl (by kernel_rfl)

instance : AggT Tryz.prog 83 6 := .of Tryz.underlying83 rfl (by kernel_rfl)

instance : FieldT Tryz.prog 68 0 0 := ⟨by kernel_rfl⟩

instance : FieldT Tryz.prog 68 1 4 := ⟨by kernel_rfl⟩

instance : FieldT Tryz.prog 83 0 0 := ⟨by kernel_rfl⟩

instance : FieldT Tryz.prog 83 1 4 := ⟨by kernel_rfl⟩

instance : FieldT Tryz.prog 83 2 5 := ⟨by kernel_rfl⟩

instance : SizeT Tryz.prog 68 5 := .of (by kernel_rfl)

instance : SizeT Tryz.prog 63 1 := .of (by kernel_rfl)

instance : BuildT Tryz.prog 68 [.nil, I 0, I 0, .nil, .nil] #[(0, 4), (4, 1)] := .of (by kernel_rfl) Tryz.underlying68 (by kernel_rfl) rfl

instance : BuildT Tryz.prog 83 [I 0, I 0, I 0, I 0, .nil, .nil] #[(0, 4), (4, 1), (5, 1)] := .of (by kernel_rfl) Tryz.underlying83 (by kernel_rfl) rfl

def smallP (f : Pl) : Bool := !(decide ((6 : Int) < (f.length : Int)) || decide (3 < topT f))
def smallT (rank : Int) (l : List Vc) : Bool := !(decide (3 < rank) || decide ((4 : Int) < (l.length : Int))) && l.all fun v => v.all smallP

theorem all_drop {α : Type} {p : α → Bool} {l : List α} {k : Nat} (h : k < l.length) : (l.drop k).all p = (p l[k] && (l.drop (k + 1)).all p) := by
 rw [List.drop_eq_getElem_cons h, List.all_cons]

theorem small_pure (rank : Int) (l : List Vc) (hl : l.length ≤ 1000000) (hv : ∀ v ∈ l, v.length ≤ 1000000 ∧ ∀ f ∈ v, f.length ≤ 4000000000000 ∧ ∀ t ∈ f, MOk t.e) : Pure Tryz.prog 40 [I rank, vcsD l] (.bool (smallT rank l)) := by
 intro H
 refine PureH.of_body Tryz.func40 rfl (by decide) (Nat.le_of_ble_eq_true rfl) fun w0 => ?_
 unfold smallT
 (repeat(first|refine zA ?_|refine zB ?_|refine zE rfl (by decide) rfl ?_|refine zF ?_|refine zG ?_|refine zH ?_|refine zI ?_|refine zJ ?_|refine zK ?_|refine zL rfl ?_|refine zM rfl ?_))
 cases h1 : decide ((3 : Int) < rank)
 case true =>
  (repeat(first|refine zA ?_|refine zB ?_|refine zE rfl (by decide) rfl ?_|refine zF ?_|refine zG ?_|refine zH ?_|refine zI ?_|refine zJ ?_|refine zK ?_|refine zL rfl ?_|refine zM rfl ?_))
  exact DW.ret ⟨.inl rfl, _, rfl, Over.refl _, .same _⟩
 (repeat(first|refine zA ?_|refine zB ?_|refine zE rfl (by decide) rfl ?_|refine zF ?_|refine zG ?_|refine zH ?_|refine zI ?_|refine zJ ?_|refine zK ?_|refine zL rfl ?_|refine zM rfl ?_))
 cases h2 : decide ((4 : Int) < (l.length : Int))
 case true =>
  (repeat(first|refine zA ?_|refine zB ?_|refine zE rfl (by decide) rfl ?_|refine zF ?_|refine zG ?_|refine zH ?_|refine zI ?_|refine zJ ?_|refine zK ?_|refine zL rfl ?_|refine zM rfl ?_))
  exact DW.ret ⟨.inl rfl, _, rfl, Over.refl _, .same _⟩
 rw [Bool.or_self, Bool.not_false, Bool.true_and]
 (repeat(first|refine zA ?_|refine zB ?_|refine zE rfl (by decide) rfl ?_|refine zF ?_|refine zG ?_|refine zH ?_|refine zI ?_|refine zJ ?_|refine zK ?_|refine zL rfl ?_|refine zM rfl ?_))
 refine DW.loopI (fun k : Nat => k ≤ l.length ∧ ((l.drop k).all fun v => v.all smallP) = (l.all fun v => v.all smallP)) (fun k => [(16, vcsD l), (17, I l.length), (18, I k)]) (fun _ => H) (fun k => l.length - k) 0 ⟨Nat.zero_le _, rfl⟩ rfl ⟨rfl, rfl, rfl, trivial⟩ fun k ⟨hk, hg⟩ => ?_
 (repeat(first|refine zA ?_|refine zB ?_|refine zE rfl (by decide) rfl ?_|refine zF ?_|refine zG ?_|refine zH ?_|refine zI ?_|refine zJ ?_|refine zK ?_|refine zL rfl ?_|refine zM rfl ?_))
 refine DW.cond rfl (fun hb => ?_) (fun hb => ?_)
 ·have hlt : k < l.length := by have := of_decide_eq_true hb; omega
  clear hb
  obtain ⟨g1, g2⟩ := hv _ (List.getElem_mem hlt)
  rw [all_drop hlt] at hg
  (repeat(first|refine zA ?_|refine zB ?_|refine zE rfl (by decide) rfl ?_|refine zF ?_|refine zG ?_|refine zH ?_|refine zI ?_|refine zJ ?_|refine zK ?_|refine zL rfl ?_|refine zM rfl ?_))
  refine DW.loopI (fun j : Nat => j ≤ l[k].length ∧ ((l[k].drop j).all smallP) = (l[k].all smallP)) (fun j => [(16, vcsD l), (17, I l.length), (18, I k), (22, vcD l[k]), (23, I l[k].length), (24, I j)]) (fun _ => H) (fun j => l[k].length - j) 0 ⟨Nat.zero_le _, rfl⟩ rfl ⟨rfl, rfl, rfl, rfl, rfl, rfl, trivial⟩ fun j ⟨hj, hgj⟩ => ?_
  (repeat(first|refine zA ?_|refine zB ?_|refine zE rfl (by decide) rfl ?_|refine zF ?_|refine zG ?_|refine zH ?_|refine zI ?_|refine zJ ?_|refine zK ?_|refine zL rfl ?_|refine zM rfl ?_))
  refine DW.cond rfl (fun hb => ?_) (fun hb => ?_)
  ·have hlj : j < l[k].length := by have := of_decide_eq_true hb; omega
   clear hb
   obtain ⟨g3, g4⟩ := g2 _ (List.getElem_mem hlj)
   rw [all_drop hlj] at hgj
   (repeat(first|refine zA ?_|refine zB ?_|refine zE rfl (by decide) rfl ?_|refine zF ?_|refine zG ?_|refine zH ?_|refine zI ?_|refine zJ ?_|refine zK ?_|refine zL rfl ?_|refine zM rfl ?_))
   cases h3 : decide ((6 : Int) < (l[k][j].length : Int))
   case true =>
    have h5 : smallP l[k][j] = false := by unfold smallP; rw [h3]; rfl
    rw [h5, Bool.false_and] at hgj
    rw [← hgj, Bool.false_and] at hg
    rw [← hg]
    (repeat(first|refine zA ?_|refine zB ?_|refine zE rfl (by decide) rfl ?_|refine zF ?_|refine zG ?_|refine zH ?_|refine zI ?_|refine zJ ?_|refine zK ?_|refine zL rfl ?_|refine zM rfl ?_))
    exact DW.ret ⟨.inl rfl, _, rfl, Over.refl _, .same _⟩
   (repeat(first|refine zA ?_|refine zB ?_|refine zE rfl (by decide) rfl ?_|refine zF ?_|refine zG ?_|refine zH ?_|refine zI ?_|refine zJ ?_|refine zK ?_|refine zL rfl ?_|refine zM rfl ?_))
   refine RO.yes rfl rfl (OpD.of_sta (sta_call rfl rfl (top_pure l[k][j] g3 g4 _)) ?_)
   (repeat(first|refine zA ?_|refine zB ?_|refine zE rfl (by decide) rfl ?_|refine zF ?_|refine zG ?_|refine zH ?_|refine zI ?_|refine zJ ?_|refine zK ?_|refine zL rfl ?_|refine zM rfl ?_))
   cases h4 : decide ((3 : Int) < topT l[k][j])
   case true =>
    have h5 : smallP l[k][j] = false := by unfold smallP; rw [h3, h4]; rfl
    rw [h5, Bool.false_and] at hgj
    rw [← hgj, Bool.false_and] at hg
    rw [← hg]
    (repeat(first|refine zA ?_|refine zB ?_|refine zE rfl (by decide) rfl ?_|refine zF ?_|refine zG ?_|refine zH ?_|refine zI ?_|refine zJ ?_|refine zK ?_|refine zL rfl ?_|refine zM rfl ?_))
    exact DW.ret ⟨.inl rfl, _, rfl, Over.refl _, .same _⟩
   have h5 : smallP l[k][j] = true := by unfold smallP; rw [h3, h4]; rfl
   rw [h5, Bool.true_and] at hgj
   (repeat(first|refine zA ?_|refine zB ?_|refine zE rfl (by decide) rfl ?_|refine zF ?_|refine zG ?_|refine zH ?_|refine zI ?_|refine zJ ?_|refine zK ?_|refine zL rfl ?_|refine zM rfl ?_))
   exact ⟨j + 1, ⟨hlj, hgj⟩, by dsimp only; omega, rfl, rfl, rfl, rfl, rfl, rfl, rfl, trivial⟩
  ·have hge : j = l[k].length := by have := of_decide_eq_false hb; omega
   rw [hge, List.drop_length] at hgj
   have hgj' : l[k].all smallP = true := hgj.symm
   rw [hgj', Bool.true_and] at hg
   (repeat(first|refine zA ?_|refine zB ?_|refine zE rfl (by decide) rfl ?_|refine zF ?_|refine zG ?_|refine zH ?_|refine zI ?_|refine zJ ?_|refine zK ?_|refine zL rfl ?_|refine zM rfl ?_))
   exact ⟨k + 1, ⟨hlt, hg⟩, by dsimp only; omega, rfl, rfl, rfl, rfl, trivial⟩
 ·have hge : k = l.length := by have := of_decide_eq_false hb; omega
  rw [hge, List.drop_length] at hg
  rw [← hg]
  (repeat(first|refine zA ?_|refine zB ?_|refine zE rfl (by decide) rfl ?_|refine zF ?_|refine zG ?_|refine zH ?_|refine zI ?_|refine zJ ?_|refine zK ?_|refine zL rfl ?_|refine zM rfl ?_))
  exact DW.ret ⟨.inl rfl, _, rfl, Over.refl _, .same _⟩

def basCk (r : Rg) (rank : Int) (l : List Vc) : Int := if vecsCk r rank l = 0 then (if smallT rank l = true then 0 else 2) else vecsCk r rank l

theorem basisCheck_pure (r : Rg) (rank : Int) (l : List Vc) (hl : l.length ≤ 4611686018427387904) (hv : ∀ v ∈ l, v.length ≤ 4611686018427387904 ∧ ∀ f ∈ v, f.length ≤ 4611686018427387904) : Pure Tryz.prog 21 [rgD r, I rank, vcsD l] (I (basCk r rank l)) := by
 intro H
 refine PureH.of_body Tryz.func21 rfl (by decide) (Nat.le_of_ble_eq_true rfl) fun w0 => ?_
 unfold basCk
 (repeat(first|refine zA ?_|refine zB ?_|refine zE rfl (by decide) rfl ?_|refine zF ?_|refine zG ?_|refine zH ?_|refine zI ?_|refine zJ ?_|refine zK ?_|refine zL rfl ?_|refine zM rfl ?_))
 refine RO.sta (sta_call rfl rfl (vCheck_pure r rank l hl hv _)) rfl ?_
 (repeat(first|refine zA ?_|refine zB ?_|refine zE rfl (by decide) rfl ?_|refine zF ?_|refine zG ?_|refine zH ?_|refine zI ?_|refine zJ ?_|refine zK ?_|refine zL rfl ?_|refine zM rfl ?_))
 by_cases hck : vecsCk r rank l = 0
 case neg =>
  rw [if_neg hck, show (vecsCk r rank l != 0) = true by simpa using hck]
  (repeat(first|refine zA ?_|refine zB ?_|refine zE rfl (by decide) rfl ?_|refine zF ?_|refine zG ?_|refine zH ?_|refine zI ?_|refine zJ ?_|refine zK ?_|refine zL rfl ?_|refine zM rfl ?_))
  exact DW.ret ⟨.inl rfl, _, rfl, Over.refl _, .same _⟩
 rw [if_pos hck, show (vecsCk r rank l != 0) = false by simpa using hck]
 obtain ⟨hr, hr1, hr2, hlen, hok⟩ := vecsCk_ok hck
 have hr3 := ringCk_ok hr
 (repeat(first|refine zA ?_|refine zB ?_|refine zE rfl (by decide) rfl ?_|refine zF ?_|refine zG ?_|refine zH ?_|refine zI ?_|refine zJ ?_|refine zK ?_|refine zL rfl ?_|refine zM rfl ?_))
 refine RO.sta (sta_call rfl rfl (small_pure rank l (by omega) (fun v hv => ⟨by have := (hok v hv).len; omega, fun f hf => ⟨by have := ((hok v hv).all f hf).len; omega, fun t ht => (((hok v hv).all f hf).ok.all t ht).mok (by omega) (by omega)⟩⟩) _)) rfl ?_
 refine RO.sta (sta_not rfl) rfl ?_
 cases hs : smallT rank l
 case false =>
  (repeat(first|refine zA ?_|refine zB ?_|refine zE rfl (by decide) rfl ?_|refine zF ?_|refine zG ?_|refine zH ?_|refine zI ?_|refine zJ ?_|refine zK ?_|refine zL rfl ?_|refine zM rfl ?_))
  exact DW.ret ⟨.inl rfl, _, rfl, Over.refl _, .same _⟩
 (repeat(first|refine zA ?_|refine zB ?_|refine zE rfl (by decide) rfl ?_|refine zF ?_|refine zG ?_|refine zH ?_|refine zI ?_|refine zJ ?_|refine zK ?_|refine zL rfl ?_|refine zM rfl ?_))
 exact DW.ret ⟨.inl rfl, _, rfl, Over.refl _, .same _⟩

theorem Equal_pure (a b : List Int) (hl : a.length ≤ 1000000) : Pure Tryz.prog 89 [intsD a, intsD b] (.bool (a == b)) := by
 intro H
 refine PureH.of_body Tryz.func89 rfl (by decide) (Nat.le_of_ble_eq_true rfl) fun w0 => ?_
 (repeat(first|refine zA ?_|refine zB ?_|refine zE rfl (by decide) rfl ?_|refine zF ?_|refine zG ?_|refine zH ?_|refine zI ?_|refine zJ ?_|refine zK ?_|refine zL rfl ?_|refine zM rfl ?_))
 by_cases hlen : a.length = b.length
 case neg =>
  have h1 : (a == b) = false := by
   cases hx : (a == b)
   ·rfl
   ·exact absurd (by rw [eq_of_beq hx]) hlen
  rw [h1, show ((a.length : Int) != (b.length : Int)) = true by simp; omega]
  (repeat(first|refine zA ?_|refine zB ?_|refine zE rfl (by decide) rfl ?_|refine zF ?_|refine zG ?_|refine zH ?_|refine zI ?_|refine zJ ?_|refine zK ?_|refine zL rfl ?_|refine zM rfl ?_))
  exact DW.ret ⟨.inl rfl, _, rfl, Over.refl _, .same _⟩
 rw [show ((a.length : Int) != (b.length : Int)) = false by simp; omega]
 (repeat(first|refine zA ?_|refine zB ?_|refine zE rfl (by decide) rfl ?_|refine zF ?_|refine zG ?_|refine zH ?_|refine zI ?_|refine zJ ?_|refine zK ?_|refine zL rfl ?_|refine zM rfl ?_))
 refine DW.loopI (fun k : Nat => k ≤ a.length ∧ (a.drop k == b.drop k) = (a == b)) (fun k => [(0, intsD a), (1, intsD b), (12, I a.length), (13, I k)]) (fun _ => H) (fun k => a.length - k) 0 ⟨Nat.zero_le _, rfl⟩ rfl ⟨rfl, rfl, rfl, rfl, trivial⟩ fun k ⟨hk, hg⟩ => ?_
 (repeat(first|refine zA ?_|refine zB ?_|refine zE rfl (by decide) rfl ?_|refine zF ?_|refine zG ?_|refine zH ?_|refine zI ?_|refine zJ ?_|refine zK ?_|refine zL rfl ?_|refine zM rfl ?_))
 refine DW.cond rfl (fun hb => ?_) (fun hb => ?_)
 ·have hlt : k < a.length := by have := of_decide_eq_true hb; omega
  have hlb : k < b.length := by omega
  clear hb
  rw [List.drop_eq_getElem_cons hlt, List.drop_eq_getElem_cons hlb] at hg
  have hg2 : ((a[k] == b[k]) && (a.drop (k + 1) == b.drop (k + 1))) = (a == b) := hg
  (repeat(first|refine zA ?_|refine zB ?_|refine zE rfl (by decide) rfl ?_|refine zF ?_|refine zG ?_|refine zH ?_|refine zI ?_|refine zJ ?_|refine zK ?_|refine zL rfl ?_|refine zM rfl ?_))
  refine DW.drawS 9 Tryz.mixed (by kernel_rfl) (by decide) ?_
  dsimp only [List.take, List.drop]
  (repeat(first|refine zN ?_|refine zO ?_|refine zR rfl (by decide) rfl ?_|refine zS ?_))
  (repeat(first|refine zA ?_|refine zB ?_|refine zE rfl (by decide) rfl ?_|refine zF ?_|refine zG ?_|refine zH ?_|refine zI ?_|refine zJ ?_|refine zK ?_|refine zL rfl ?_|refine zM rfl ?_))
  cases hq : (a[k] != b[k])
  case true =>
   have h3 : (a[k] == b[k]) = false := by simpa using hq
   rw [h3, Bool.false_and] at hg2
   rw [← hg2]
   (repeat(first|refine zA ?_|refine zB ?_|refine zE rfl (by decide) rfl ?_|refine zF ?_|refine zG ?_|refine zH ?_|refine zI ?_|refine zJ ?_|refine zK ?_|refine zL rfl ?_|refine zM rfl ?_))
   exact DW.ret ⟨.inl rfl, _, rfl, Over.refl _, .same _⟩
  have h3 : (a[k] == b[k]) = true := by simpa using hq
  rw [h3, Bool.true_and] at hg2
  (repeat(first|refine zA ?_|refine zB ?_|refine zE rfl (by decide) rfl ?_|refine zF ?_|refine zG ?_|refine zH ?_|refine zI ?_|refine zJ ?_|refine zK ?_|refine zL rfl ?_|refine zM rfl ?_))
  exact ⟨k + 1, ⟨hlt, hg2⟩, by dsimp only; omega, rfl, rfl, rfl, rfl, rfl, trivial⟩
 ·have hge : k = a.length := by have := of_decide_eq_false hb; omega
  have h1 : (a == b) = true := by rw [← hg, hge, List.drop_length, hlen, List.drop_length]; rfl
  rw [h1]
  (repeat(first|refine zA ?_|refine zB ?_|refine zE rfl (by decide) rfl ?_|refine zF ?_|refine zG ?_|refine zH ?_|refine zI ?_|refine zJ ?_|refine zK ?_|refine zL rfl ?_|refine zM rfl ?_))
  exact DW.ret ⟨.inl rfl, _, rfl, Over.refl _, .same _⟩

def mbC (x : Mb) : List D := [vcD x.v, I (x.a : Nat), I x.u.c, intsD x.u.e, vcD x.y]
def mbD (x : Mb) : D := .agg (mbC x)
def prC (p : Pr) : List D := [I (p.i : Nat), I (p.k : Nat), intsD p.e]
def prD (p : Pr) : D := .agg (prC p)
abbrev mkCs (r : Rg) (ms ps : D) : List D := [I r.p, I r.n, I r.order, I r.over, ms, ps]

theorem uni_mb (l : List Mb) : Uni 5 (l.map mbD) := fun d hd => by
 obtain ⟨x, _, rfl⟩ := List.mem_map.1 hd
 exact ⟨rfl, fun y hy => by simp [cellsOf, mbD, mbC] at hy; rcases hy with rfl | rfl | rfl | rfl | rfl <;> rfl⟩

theorem uni_pr (l : List Pr) : Uni 3 (l.map prD) := fun d hd => by
 obtain ⟨x, _, rfl⟩ := List.mem_map.1 hd
 exact ⟨rfl, fun y hy => by simp [cellsOf, prD, prC] at hy; rcases hy with rfl | rfl | rfl <;> rfl⟩

def RowAt (H : Heap) (b k : Nat) (cs : List (List D)) : Prop := ∃ T cells, H b = some (T, cells) ∧ cs.length * k ≤ cells.length ∧ ∀ (i : Nat) (h : i < cs.length), (cells.drop (0 + i * k)).take k = cs[i]

theorem flat_at {k : Nat} : ∀ {cs : List (List D)} {i : Nat} (h : i < cs.length), (∀ c ∈ cs, c.length = k) → (cs.flatten.drop (i * k)).take k = cs[i]
 | c :: cs, 0, _, hk => by
  have := hk c (by simp)
  simp [← this]
 | c :: cs, i + 1, h, hk => by
  have h1 := hk c (by simp)
  have := flat_at (cs := cs) (i := i) (by simpa using h) fun x hx => hk x (by simp [hx])
  rw [List.flatten_cons, Nat.add_mul, Nat.one_mul, Nat.add_comm, ← List.drop_drop, ← h1, List.drop_left, h1, this]
  rfl

theorem flat_len {k : Nat} : ∀ {cs : List (List D)}, (∀ c ∈ cs, c.length = k) → cs.flatten.length = cs.length * k
 | [], _ => by simp
 | c :: cs, h => by
  have h1 := h c (by simp)
  have := flat_len (cs := cs) fun x hx => h x (by simp [hx])
  rw [List.flatten_cons, List.length_append, this, h1, List.length_cons, Nat.add_mul]; omega

theorem flat_map {α : Type} (f : α → List D) (l : List α) : (l.map fun x => D.agg (f x)).flatMap cellsOf = (l.map f).flatten := by
 rw [List.flatMap_map, List.flatMap_def]
 rfl

theorem Acc.rowAt {α : Type} {H0 H : Heap} {d : D} {k : Nat} {T : TypeId} {f : α → List D} {l : List α} (h : Acc H0 H d k T (l.map fun x => D.agg (f x))) (hk : ∀ x, (f x).length = k) (h0 : 0 < l.length) : ∃ b, H0 b = none ∧ d = .ref b 0 l.length k ∧ RowAt H b k (l.map f) ∧ H b = some (T, (l.map f).flatten) := by
 obtain ⟨b, h1, h2, h3⟩ := h.ref (by simpa using h0)
 rw [flat_map] at h3
 have hall : ∀ c ∈ l.map f, c.length = k := fun c hc => by
  obtain ⟨x, _, rfl⟩ := List.mem_map.1 hc
  exact hk x
 refine ⟨b, h1, by simpa using h2, ⟨T, _, h3, by rw [flat_len hall]; exact Nat.le_refl _, fun i hi => ?_⟩, h3⟩
 rw [Nat.zero_add]
 exact flat_at hi hall

theorem RowAt.over {H H' : Heap} {b k : Nat} {cs : List (List D)} (h : RowAt H b k cs) (ho : Over H H') : RowAt H' b k cs := by
 obtain ⟨T, cells, h1, h2⟩ := h
 exact ⟨T, cells, ho _ _ h1, h2⟩

theorem unitT_pure (r : Rg) (n i : Nat) (hi : i < n) (hn : n ≤ 1000000) (hr : 0 ≤ r.n ∧ r.n ≤ 3) : Pure Tryz.prog 51 [rgD r, I n, I i] (vcD (unitT r n i)) := by
 intro H
 refine PureH.of_body Tryz.func51 rfl (by decide) (Nat.le_of_ble_eq_true rfl) fun w0 => ?_
 (repeat(first|refine zA ?_|refine zB ?_|refine zE rfl (by decide) rfl ?_|refine zF ?_|refine zG ?_|refine zH ?_|refine zI ?_|refine zJ ?_|refine zK ?_|refine zL rfl ?_|refine zM rfl ?_))
 refine RO.dyn rfl ((opD_call rfl rfl (nought_call n hn)).mono fun d H1 ⟨b, hb, hd, hH⟩ => ?_)
 subst hd; subst hH
 (repeat(first|refine zA ?_|refine zB ?_|refine zE rfl (by decide) rfl ?_|refine zF ?_|refine zG ?_|refine zH ?_|refine zI ?_|refine zJ ?_|refine zK ?_|refine zL rfl ?_|refine zM rfl ?_))
 refine RO.sta (s_makeInts (n := r.n.toNat) rfl rfl (by omega) (by omega) (by omega)) rfl ?_
 refine RO.sta (s_buildT (out := [I 1, intsD (List.replicate r.n.toNat 0)]) rfl rfl) rfl ?_
 (repeat(first|refine zA ?_|refine zB ?_|refine zE rfl (by decide) rfl ?_|refine zF ?_|refine zG ?_|refine zH ?_|refine zI ?_|refine zJ ?_|refine zK ?_|refine zL rfl ?_|refine zM rfl ?_))
 refine RO.sta (s_ixRef (i := i) rfl rfl (by omega) (by omega)) rfl ?_
 refine RO.dyn rfl (d_store (k := 1) rfl rfl rfl (Heap.set_self _ _ _) (by simp [cellsOf]; omega) (by simp [cellsOf, D.isCell]) ?_)
 rw [Heap.set_set]
 (repeat(first|refine zA ?_|refine zB ?_|refine zE rfl (by decide) rfl ?_|refine zF ?_|refine zG ?_|refine zH ?_|refine zI ?_|refine zJ ?_|refine zK ?_|refine zL rfl ?_|refine zM rfl ?_))
 have e : setMany (List.replicate n .nil) (0 + (i : Int).toNat) (cellsOf (D.list 2 [D.agg [I 1, intsD (List.replicate r.n.toNat 0)]])) = ((List.replicate n D.nil).set i (plD [⟨1, List.replicate r.n.toNat 0⟩])) := by
  rw [show 0 + (i : Int).toNat = i by omega]
  exact setManyD _ i (plD [⟨1, List.replicate r.n.toNat 0⟩]) rfl (by simpa using hi)
 have hfl : ((unitT r n i).map plD).flatMap cellsOf = (unitT r n i).map plD := by
  rw [List.flatMap_map]
  induction unitT r n i with
  | nil => rfl
  | cons f v ih => rw [List.flatMap_cons, ih]; rfl
 refine DW.ret ⟨.inl rfl, _, rfl, (Over.refl _).set hb, ?_⟩
 refine Frz.row (l := (unitT r n i).map plD) (Heap.set_self _ _ _) hb (uni_pl _) (by simp [unitT]) ?_ fun j x y hx hy => ?_
 ·rw [hfl]
  show _ = (setMany (List.replicate n .nil) (0 + (i : Int).toNat) (cellsOf (D.list 2 [D.agg [I 1, intsD (List.replicate r.n.toNat 0)]]))).length
  rw [e]; simp [unitT]
 ·rw [hfl] at hy
  have hx' : (setMany (List.replicate n .nil) (0 + (i : Int).toNat) (cellsOf (D.list 2 [D.agg [I 1, intsD (List.replicate r.n.toNat 0)]])))[j]? = some x := hx
  rw [e] at hx'
  unfold unitT at hy
  rw [List.map_set, List.map_replicate] at hy
  rw [List.getElem?_set] at hx' hy
  split at hx'
  ·rename_i hij
   rw [if_pos hij] at hy
   split at hx'
   ·split at hy
    ·cases hx'; cases hy; exact .same _
    ·cases hy
   ·cases hx'
  ·rename_i hij
   rw [if_neg hij] at hy
   rw [List.getElem?_replicate] at hx' hy
   split at hx'
   ·rename_i hj
    rw [if_pos hj] at hy
    cases hx'; cases hy
    exact .nil 2
   ·cases hx'

def overOne (ms : List Mb) (i : Nat) (x : Mb) (k : Nat) : Bool := decide (k ≠ i) && ((x.a == (ms.getD k default).a) && (goesM x.u.e (ms.getD k default).u.e && (!(x.u.e == (ms.getD k default).u.e) || decide (k < i))))

theorem no_lt {k : Nat} {f : Nat → Bool} (h : ∀ j, j < k → f j = false) (hk : f k = false) : ∀ j, j < k + 1 → f j = false := fun j hj => by
 by_cases hjk : j = k
 ·subst hjk; exact hk
 ·exact h j (by omega)

theorem any_range_no {n : Nat} {f : Nat → Bool} (h : ∀ j, j < n → f j = false) : (List.range n).any f = false := by
 rw [List.any_eq_false]
 intro j hj
 rw [h j (List.mem_range.1 hj)]
 simp

theorem any_range_yes {n j : Nat} {f : Nat → Bool} (hj : j < n) (h : f j = true) : (List.range n).any f = true := List.any_eq_true.2 ⟨j, List.mem_range.2 hj, h⟩

theorem beq_nat_int (a b : Nat) : ((a : Int) == (b : Int)) = (a == b) := by
 by_cases h : a = b
 ·subst h; simp
 ·rw [show (a == b) = false by simpa using h]; simp; omega

theorem overM_pureH {H : Heap} {bm b : Nat} {T1 : TypeId} {r : Rg} {dp : D} {ms : List Mb} {x : Mb} {i : Nat} (hm : H bm = some (T1, mkCs r (.ref b 0 ms.length 5) dp)) (hrow : RowAt H b 5 (ms.map mbC)) (hl : ms.length ≤ 1000000000)
  (he : ∀ y ∈ ms, y.u.e.length = x.u.e.length) (h3 : x.u.e.length ≤ 3) : PureH Tryz.prog H 70 [.ptr bm 0, I i, mbD x] (.bool (overT ms i x)) := by
 obtain ⟨T2, cells, hb, hcl, hcell⟩ := hrow
 refine PureH.of_body Tryz.func70 rfl (by decide) (Nat.le_of_ble_eq_true rfl) fun w0 => ?_
 refine DW.seq ?_
 refine DW.region ?_
 refine RO.sta (sta_box (k := 5) rfl rfl) rfl ?_
 (repeat(first|refine zA ?_|refine zB ?_|refine zE rfl (by decide) rfl ?_|refine zF ?_|refine zG ?_|refine zH ?_|refine zI ?_|refine zJ ?_|refine zK ?_|refine zL rfl ?_|refine zM rfl ?_))
 refine RO.sta (s_nilCheck rfl) rfl ?_
 (repeat(first|refine zA ?_|refine zB ?_|refine zE rfl (by decide) rfl ?_|refine zF ?_|refine zG ?_|refine zH ?_|refine zI ?_|refine zJ ?_|refine zK ?_|refine zL rfl ?_|refine zM rfl ?_))
 refine RO.sta (s_loadMut (d := .ref b 0 ms.length 5) rfl hm rfl) rfl ?_
 (repeat(first|refine zA ?_|refine zB ?_|refine zE rfl (by decide) rfl ?_|refine zF ?_|refine zG ?_|refine zH ?_|refine zI ?_|refine zJ ?_|refine zK ?_|refine zL rfl ?_|refine zM rfl ?_))
 refine DW.loopG (fun k : Nat => k ≤ ms.length ∧ ∀ j, j < k → overOne ms i x j = false) (fun k => [(1, I i), (5, .ipt 5 [mbD x] 0 0), (13, .ref b 0 ms.length 5), (14, I ms.length), (15, I k)]) (fun _ => H) (fun k => ms.length - k) 0 ⟨Nat.zero_le _, fun j hj => by omega⟩ (Heap.sub_refl _) (by repeat first | exact trivial | refine HasG.one rfl ?_ | refine HasN.one rfl ?_) fun k ⟨hk, hno⟩ => ?_
 (repeat(first|refine zA ?_|refine zB ?_|refine zE rfl (by decide) rfl ?_|refine zF ?_|refine zG ?_|refine zH ?_|refine zI ?_|refine zJ ?_|refine zK ?_|refine zL rfl ?_|refine zM rfl ?_))
 refine DW.cond rfl (fun hb => ?_) (fun hb => ?_)
 ·have hlt : k < ms.length := by have := of_decide_eq_true hb; omega
  have hxk := he _ (List.getElem_mem hlt)
  have hgd : ms.getD k default = ms[k] := getD_lt hlt
  have hck : (cells.drop (0 + k * 5)).take 5 = mbC ms[k] := by rw [hcell k (by simpa using hlt)]; simp
  clear hb
  (repeat(first|refine zA ?_|refine zB ?_|refine zE rfl (by decide) rfl ?_|refine zF ?_|refine zG ?_|refine zH ?_|refine zI ?_|refine zJ ?_|refine zK ?_|refine zL rfl ?_|refine zM rfl ?_))
  refine RO.sta (s_indexRef (i := k) rfl rfl hlt) rfl ?_
  refine RO.sta (s_loadMutAgg (ds := mbC ms[k]) rfl ‹H b = some (T2, cells)› hck rfl) rfl ?_
  refine RO.dyn rfl (d_alloc fun b8 hb8 => ?_)
  (repeat(first|refine zA ?_|refine zB ?_|refine zE rfl (by decide) rfl ?_|refine zF ?_|refine zG ?_|refine zH ?_|refine zI ?_|refine zJ ?_|refine zK ?_|refine zL rfl ?_|refine zM rfl ?_))
  refine RO.dyn rfl (d_store (k := 5) rfl rfl rfl (Heap.set_self _ _ _) (Nat.le_refl _) (by simp [cellsOf, mbC, D.isCell, vcD, intsD]) ?_)
  rw [Heap.set_set]
  (repeat(first|refine zA ?_|refine zB ?_|refine zE rfl (by decide) rfl ?_|refine zF ?_|refine zG ?_|refine zH ?_|refine zI ?_|refine zJ ?_|refine zK ?_|refine zL rfl ?_|refine zM rfl ?_))
  refine RO.sta (sta_call rfl rfl (Equal_pure x.u.e ms[k].u.e (by omega) _)) rfl ?_
  (repeat(first|refine zA ?_|refine zB ?_|refine zE rfl (by decide) rfl ?_|refine zF ?_|refine zG ?_|refine zH ?_|refine zI ?_|refine zJ ?_|refine zK ?_|refine zL rfl ?_|refine zM rfl ?_))
  cases h1 : ((k : Int) != (i : Int))
  case false =>
   have hf : overOne ms i x k = false := by
    unfold overOne
    have : k = i := by
     have : (k : Int) = (i : Int) := by simpa using h1
     omega
    subst this
    simp
   (repeat(first|refine zA ?_|refine zB ?_|refine zE rfl (by decide) rfl ?_|refine zF ?_|refine zG ?_|refine zH ?_|refine zI ?_|refine zJ ?_|refine zK ?_|refine zL rfl ?_|refine zM rfl ?_))
   exact ⟨k + 1, ⟨hlt, no_lt hno hf⟩, by dsimp only; omega, Heap.sub_set _ hb8, (by repeat first | exact trivial | refine HasG.one rfl ?_ | refine HasN.one rfl ?_)⟩
  have q1 : decide (k ≠ i) = true := by
   rw [decide_eq_true_eq]
   intro h
   subst h
   simp at h1
  (repeat(first|refine zA ?_|refine zB ?_|refine zE rfl (by decide) rfl ?_|refine zF ?_|refine zG ?_|refine zH ?_|refine zI ?_|refine zJ ?_|refine zK ?_|refine zL rfl ?_|refine zM rfl ?_))
  cases h2 : ((x.a : Int) == (ms[k].a : Int))
  case false =>
   rw [beq_nat_int] at h2
   have hf : overOne ms i x k = false := by unfold overOne; rw [hgd, h2]; simp
   (repeat(first|refine zA ?_|refine zB ?_|refine zE rfl (by decide) rfl ?_|refine zF ?_|refine zG ?_|refine zH ?_|refine zI ?_|refine zJ ?_|refine zK ?_|refine zL rfl ?_|refine zM rfl ?_))
   exact ⟨k + 1, ⟨hlt, no_lt hno hf⟩, by dsimp only; omega, Heap.sub_set _ hb8, (by repeat first | exact trivial | refine HasG.one rfl ?_ | refine HasN.one rfl ?_)⟩
  rw [beq_nat_int] at h2
  (repeat(first|refine zA ?_|refine zB ?_|refine zE rfl (by decide) rfl ?_|refine zF ?_|refine zG ?_|refine zH ?_|refine zI ?_|refine zJ ?_|refine zK ?_|refine zL rfl ?_|refine zM rfl ?_))
  refine RO.yes rfl rfl (OpD.of_sta (sta_call rfl rfl (Goes_pure (a := x.u.e) (b := ms[k].u.e) hxk.symm (by omega) _)) ?_)
  (repeat(first|refine zA ?_|refine zB ?_|refine zE rfl (by decide) rfl ?_|refine zF ?_|refine zG ?_|refine zH ?_|refine zI ?_|refine zJ ?_|refine zK ?_|refine zL rfl ?_|refine zM rfl ?_))
  cases h3' : goesM x.u.e ms[k].u.e
  case false =>
   have hf : overOne ms i x k = false := by unfold overOne; rw [hgd, h3']; simp
   (repeat(first|refine zA ?_|refine zB ?_|refine zE rfl (by decide) rfl ?_|refine zF ?_|refine zG ?_|refine zH ?_|refine zI ?_|refine zJ ?_|refine zK ?_|refine zL rfl ?_|refine zM rfl ?_))
   exact ⟨k + 1, ⟨hlt, no_lt hno hf⟩, by dsimp only; omega, Heap.sub_set _ hb8, (by repeat first | exact trivial | refine HasG.one rfl ?_ | refine HasN.one rfl ?_)⟩
  (repeat(first|refine zA ?_|refine zB ?_|refine zE rfl (by decide) rfl ?_|refine zF ?_|refine zG ?_|refine zH ?_|refine zI ?_|refine zJ ?_|refine zK ?_|refine zL rfl ?_|refine zM rfl ?_))
  cases h4 : (x.u.e == ms[k].u.e)
  case false =>
   have hf : overOne ms i x k = true := by unfold overOne; rw [hgd, q1, h2, h3', h4]; rfl
   rw [show overT ms i x = true from any_range_yes hlt hf]
   (repeat(first|refine zA ?_|refine zB ?_|refine zE rfl (by decide) rfl ?_|refine zF ?_|refine zG ?_|refine zH ?_|refine zI ?_|refine zJ ?_|refine zK ?_|refine zL rfl ?_|refine zM rfl ?_))
   exact DW.ret ⟨.inl rfl, _, rfl, (Over.refl _).set hb8, .same _⟩
  (repeat(first|refine zA ?_|refine zB ?_|refine zE rfl (by decide) rfl ?_|refine zF ?_|refine zG ?_|refine zH ?_|refine zI ?_|refine zJ ?_|refine zK ?_|refine zL rfl ?_|refine zM rfl ?_))
  cases h5 : decide ((k : Int) < (i : Int))
  case false =>
   have hf : overOne ms i x k = false := by
    unfold overOne
    rw [hgd, h4]
    have : decide (k < i) = false := by have := of_decide_eq_false h5; exact decide_eq_false (by omega)
    rw [this]; simp
   (repeat(first|refine zA ?_|refine zB ?_|refine zE rfl (by decide) rfl ?_|refine zF ?_|refine zG ?_|refine zH ?_|refine zI ?_|refine zJ ?_|refine zK ?_|refine zL rfl ?_|refine zM rfl ?_))
   exact ⟨k + 1, ⟨hlt, no_lt hno hf⟩, by dsimp only; omega, Heap.sub_set _ hb8, (by repeat first | exact trivial | refine HasG.one rfl ?_ | refine HasN.one rfl ?_)⟩
  have hf : overOne ms i x k = true := by
   unfold overOne
   rw [hgd, q1, h2, h3', h4]
   have : decide (k < i) = true := by have := of_decide_eq_true h5; exact decide_eq_true (by omega)
   rw [this]; rfl
  rw [show overT ms i x = true from any_range_yes hlt hf]
  (repeat(first|refine zA ?_|refine zB ?_|refine zE rfl (by decide) rfl ?_|refine zF ?_|refine zG ?_|refine zH ?_|refine zI ?_|refine zJ ?_|refine zK ?_|refine zL rfl ?_|refine zM rfl ?_))
  exact DW.ret ⟨.inl rfl, _, rfl, (Over.refl _).set hb8, .same _⟩
 ·have hge : k = ms.length := by have := of_decide_eq_false hb; omega
  subst hge
  rw [show overT ms i x = false from any_range_no hno]
  (repeat(first|refine zA ?_|refine zB ?_|refine zE rfl (by decide) rfl ?_|refine zF ?_|refine zG ?_|refine zH ?_|refine zI ?_|refine zJ ?_|refine zK ?_|refine zL rfl ?_|refine zM rfl ?_))
  exact DW.ret ⟨.inl rfl, _, rfl, Over.refl _, .same _⟩

theorem divisorsM_pureH {H : Heap} {bm b : Nat} {T1 : TypeId} {r : Rg} {dp : D} {ms : List Mb} (hm : H bm = some (T1, mkCs r (.ref b 0 ms.length 5) dp)) (hrow : RowAt H b 5 (ms.map mbC)) (hl : ms.length ≤ 1000000000)
  (ht : ∀ x ∈ ms, topV r x.v = some (x.a, x.u)) : PureH Tryz.prog H 86 [.ptr bm 0] (dvsD r (vsOf ms)) := by
 obtain ⟨T2, cells, hb, hcl, hcell⟩ := hrow
 refine PureH.of_body Tryz.func86 rfl (by decide) (Nat.le_of_ble_eq_true rfl) fun w0 => ?_
 (repeat(first|refine zA ?_|refine zB ?_|refine zE rfl (by decide) rfl ?_|refine zF ?_|refine zG ?_|refine zH ?_|refine zI ?_|refine zJ ?_|refine zK ?_|refine zL rfl ?_|refine zM rfl ?_))
 refine RO.sta (s_nilCheck rfl) rfl ?_
 (repeat(first|refine zA ?_|refine zB ?_|refine zE rfl (by decide) rfl ?_|refine zF ?_|refine zG ?_|refine zH ?_|refine zI ?_|refine zJ ?_|refine zK ?_|refine zL rfl ?_|refine zM rfl ?_))
 refine RO.sta (s_loadMut (d := .ref b 0 ms.length 5) rfl hm rfl) rfl ?_
 (repeat(first|refine zA ?_|refine zB ?_|refine zE rfl (by decide) rfl ?_|refine zF ?_|refine zG ?_|refine zH ?_|refine zI ?_|refine zJ ?_|refine zK ?_|refine zL rfl ?_|refine zM rfl ?_))
 refine DW.loopG (fun x : Nat × Heap × D => x.1 ≤ ms.length ∧ Over H x.2.1 ∧ Acc H x.2.1 x.2.2 4 66 (((vsOf ms).take x.1).map (dvD r))) (fun x => [(3, x.2.2), (9, .ref b 0 ms.length 5), (10, I ms.length), (11, I x.1)]) (fun x => x.2.1) (fun x => ms.length - x.1) (0, H, .nil) ⟨Nat.zero_le _, Over.refl _, Acc.nil _ _ _ _⟩ (Heap.sub_refl _) (by repeat first | exact trivial | refine HasG.one rfl ?_ | refine HasN.one rfl ?_) fun ⟨k, Hk, dk⟩ ⟨hk, hov, hacc⟩ => ?_
 dsimp only at hk hov hacc ⊢
 (repeat(first|refine zA ?_|refine zB ?_|refine zE rfl (by decide) rfl ?_|refine zF ?_|refine zG ?_|refine zH ?_|refine zI ?_|refine zJ ?_|refine zK ?_|refine zL rfl ?_|refine zM rfl ?_))
 refine DW.cond rfl (fun hb => ?_) (fun hb => ?_)
 ·have hlt : k < ms.length := by have := of_decide_eq_true hb; omega
  have hck : (cells.drop (0 + k * 5)).take 5 = mbC ms[k] := by rw [hcell k (by simpa using hlt)]; simp
  have hvs : (vsOf ms).take (k + 1) = (vsOf ms).take k ++ [ms[k].v] := by
   rw [List.take_succ_eq_append_getElem (by simpa [vsOf] using hlt)]
   simp [vsOf]
  have hdv : dvD r ms[k].v = .agg [vcD ms[k].v, I (ms[k].a : Nat), I ms[k].u.c, intsD ms[k].u.e] := by
   unfold dvD dvC
   rw [ht _ (List.getElem_mem hlt)]
   rfl
  clear hb
  (repeat(first|refine zA ?_|refine zB ?_|refine zE rfl (by decide) rfl ?_|refine zF ?_|refine zG ?_|refine zH ?_|refine zI ?_|refine zJ ?_|refine zK ?_|refine zL rfl ?_|refine zM rfl ?_))
  refine RO.sta (s_indexRef (i := k) rfl rfl hlt) rfl ?_
  refine RO.sta (s_loadMutAgg (ds := mbC ms[k]) rfl (hov _ _ ‹H b = some (T2, cells)›) hck rfl) rfl ?_
  refine RO.dyn rfl (d_alloc fun b5 hb5 => ?_)
  (repeat(first|refine zA ?_|refine zB ?_|refine zE rfl (by decide) rfl ?_|refine zF ?_|refine zG ?_|refine zH ?_|refine zI ?_|refine zJ ?_|refine zK ?_|refine zL rfl ?_|refine zM rfl ?_))
  refine RO.dyn rfl (d_store (k := 5) rfl rfl rfl (Heap.set_self _ _ _) (Nat.le_refl _) (by simp [cellsOf, mbC, D.isCell, vcD, intsD]) ?_)
  rw [Heap.set_set]
  (repeat(first|refine zA ?_|refine zB ?_|refine zE rfl (by decide) rfl ?_|refine zF ?_|refine zG ?_|refine zH ?_|refine zI ?_|refine zJ ?_|refine zK ?_|refine zL rfl ?_|refine zM rfl ?_))
  have huni : Uni 4 [D.agg [vcD ms[k].v, I (ms[k].a : Nat), I ms[k].u.c, intsD ms[k].u.e]] := by rw [← hdv]; exact uni_dv r [ms[k].v]
  refine RO.sta (s_lit1 (k := 4) (by decide) rfl rfl) rfl ?_
  refine RO.dyn rfl (d_append (H0 := H) (l := ((vsOf ms).take k).map (dvD r)) (xs := [D.agg [vcD ms[k].v, I (ms[k].a : Nat), I ms[k].u.c, intsD ms[k].u.e]]) rfl (hacc.over' ((Over.refl _).set hb5)) (fun c z h => ((Over.refl Hk).set hb5) c z (hov c z h)) rfl (.inl rfl) huni (by simp [vsOf]; omega) (by simp [vsOf]; omega) fun d' H' q1 q2 q3 => ?_)
  (repeat(first|refine zA ?_|refine zB ?_|refine zE rfl (by decide) rfl ?_|refine zF ?_|refine zG ?_|refine zH ?_|refine zI ?_|refine zJ ?_|refine zK ?_|refine zL rfl ?_|refine zM rfl ?_))
  rw [← hdv, ← List.map_singleton, ← List.map_append, ← hvs] at q1
  exact ⟨(k + 1, H', d'), ⟨hlt, q2, q1⟩, by dsimp only; omega, Heap.sub_refl _, (by repeat first | exact trivial | refine HasG.one rfl ?_ | refine HasN.one rfl ?_)⟩
 ·have hge : k = ms.length := by have := of_decide_eq_false hb; omega
  subst hge
  rw [List.take_of_length_le (by simp [vsOf])] at hacc
  (repeat(first|refine zA ?_|refine zB ?_|refine zE rfl (by decide) rfl ?_|refine zF ?_|refine zG ?_|refine zH ?_|refine zI ?_|refine zJ ?_|refine zK ?_|refine zL rfl ?_|refine zM rfl ?_))
  exact DW.ret ⟨.inl rfl, _, rfl, hov, hacc.frz fun c hc => by
   rcases hacc.is with ⟨h, _⟩ | ⟨b', h1, h2, h3⟩
   ·rw [h] at hc; cases hc
   ·rw [h2] at hc
    cases hc
    exact h1⟩
end
section
open Go.RowKit
set_option maxHeartbeats 8000000

section
variable {P : Program} {H : Heap} {e : Env} {dst : Option Tmp} {ty : TypeId} {pos : String} {af : Array Edge} {gd : Option (Nat × Bool)}

theorem s_nilCheckI {x : Operand} {k : Nat} {l : List D} {i j : Nat} (hx : e.ev x = some (.ipt k l i j)) : Sta P H e ⟨dst, .nilCheck x, ty, pos, af, gd⟩ (.ipt k l i j) := .mk fun ρ w ha ho => by
 have h := ha x _ hx
 generalize hv : ρ x = v at h
 cases h with
 | ipt vals h1 h2 h3 =>
  simp [OpTo, execOp, hv, Sem.run]
  exact ⟨.ipt vals h1 h2 h3, ho, .refl _ _⟩

end

theorem cmp_pureH {H : Heap} (r : Rg) (x y : Mb) (hx : MOk x.u.e) (hy : MOk y.u.e) (hxy : x.u.e.length = y.u.e.length) :
  PureH Tryz.prog H 76 [mbD x, mbD y, .ipt 1 [.ipt 4 [rgD r] 0 0] 0 0] (I (if firstT r x.a x.u.e y.a y.u.e then -1 else 1)) := by
 refine PureH.of_body Tryz.func76 rfl (by decide) (Nat.le_of_ble_eq_true rfl) fun w0 => ?_
 have hf := First_pure r (x.a : Nat) (y.a : Nat) hx hy hxy
 refine DW.seq ?_
 refine DW.region ?_
 refine RO.sta (sta_box (k := 5) rfl rfl) rfl ?_
 refine RO.sta (sta_box (k := 5) rfl rfl) rfl ?_
 (repeat(first|refine zA ?_|refine zB ?_|refine zE rfl (by decide) rfl ?_|refine zF ?_|refine zG ?_|refine zH ?_|refine zI ?_|refine zJ ?_|refine zK ?_|refine zL rfl ?_|refine zM rfl ?_))
 refine DW.drawX (List.range 19) [] H Tryz.mixed (by kernel_rfl) (Over.refl _) ?_
 (repeat(first|refine RX.A ?_|refine RX.nil ?_))
 refine RX.any (fun H' => s_nilCheckI rfl) rfl ?_
 (repeat(first|refine RX.A ?_|refine RX.nil ?_))
 refine RX.any (fun H' => sta_call rfl rfl (hf _)) rfl ?_
 (repeat(first|refine RX.A ?_|refine RX.nil ?_))
 refine RY.nil ?_
 cases h : firstT r x.a x.u.e y.a y.u.e
 ·(repeat(first|refine zA ?_|refine zB ?_|refine zE rfl (by decide) rfl ?_|refine zF ?_|refine zG ?_|refine zH ?_|refine zI ?_|refine zJ ?_|refine zK ?_|refine zL rfl ?_|refine zM rfl ?_))
  exact DW.ret ⟨.inl rfl, _, rfl, Over.refl _, .same _⟩
 ·(repeat(first|refine zA ?_|refine zB ?_|refine zE rfl (by decide) rfl ?_|refine zF ?_|refine zG ?_|refine zH ?_|refine zI ?_|refine zJ ?_|refine zK ?_|refine zL rfl ?_|refine zM rfl ?_))
  exact DW.ret ⟨.inl rfl, _, rfl, Over.refl _, .same _⟩
end
section
open Go.RowKit
set_option maxHeartbeats 8000000

theorem RowAt.cell {H : Heap} {b k : Nat} {cs : List (List D)} (h : RowAt H b k cs) {i j : Nat} (hi : i < cs.length) {d : D} (hj : cs[i][j]? = some d) (hjk : j < k) : ∃ T cells, H b = some (T, cells) ∧ cells[0 + i * k + j]? = some d := by
 obtain ⟨T, cells, h1, h2, h3⟩ := h
 refine ⟨T, cells, h1, ?_⟩
 have := h3 i hi
 rw [← this, List.getElem?_take_of_lt hjk, List.getElem?_drop] at hj
 exact hj

structure MsOk (r : Rg) (k : Nat) (δ : Nat → Int) (m : Nat) (d : Nat → Int) (ms : List Mb) : Prop where
 cx : Cx r k δ
 cxY : Cx r m d
 len : ms.length ≤ 1000000000
 ok : ∀ x ∈ ms, MbOk r k δ x
 ys : ∀ x ∈ ms, HV r m d (x.dg δ) x.y

theorem MsOk.hl {r : Rg} {k : Nat} {δ : Nat → Int} {m : Nat} {d : Nat → Int} {ms : List Mb} (h : MsOk r k δ m d ms) : HL r k δ (vsOf ms) :=
 ⟨h.cx, fun v hv => by
  obtain ⟨x, hx, rfl⟩ := List.mem_map.1 hv
  exact ⟨_, (h.ok x hx).hv⟩⟩

theorem SigOk.mb {r : Rg} {k : Nat} {δ : Nat → Int} {m : Nat} {d : Nat → Int} {ms : List Mb} (h : MsOk r k δ m d ms) {τ C : Int} {i : Nat} {t : Tm} (hs : SigOk r k δ (vsOf ms) τ C (i, t)) : ∃ hi : i < ms.length, t.e.sum + ms[i].dg δ = τ := by
 obtain ⟨h1, h2, h3, b, w, h4, h5, h6⟩ := hs
 have hlt : i < ms.length := by simpa [vsOf] using h1
 refine ⟨hlt, ?_⟩
 have e1 : (vsOf ms).getD i [] = ms[i].v := by rw [getD_lt h1]; simp [vsOf]
 have h4' : topV r ((vsOf ms).getD i []) = some (b, w) := h4
 rw [e1] at h4'
 have h7 := (h.ok _ (List.getElem_mem hlt)).top
 rw [h4'] at h7
 obtain ⟨rfl, rfl⟩ := Prod.mk.inj (Option.some.inj h7)
 have h5' : t.e.sum + ms[i].u.e.sum + δ ms[i].a = τ := h5
 unfold Mb.dg
 omega

theorem toldM {H0 : Heap} {bm b b5 : Nat} {T1 : TypeId} {r : Rg} {k : Nat} {δ : Nat → Int} {m : Nat} {d : Nat → Int} {dp : D} {ms : List Mb} {y : Vc} {τ C : Int} (hms : MsOk r k δ m d ms) (hm : H0 bm = some (T1, mkCs r (.ref b 0 ms.length 5) dp)) (hrow : RowAt H0 b 5 (ms.map mbC))
  (hb5 : H0 b5 = some (50, [vcD y])) (h1 : bm ≠ b5) (h2 : b ≠ b5) (hy : HV r m d τ y) :
  ToldH r k δ (vsOf ms) τ C H0 (fun c => c = b5) 87 [.ipt 1 [.ptr bm 0] 0 0, .ptr b5 0] (fun σ H => H b5 = some (50, [vcD (tellY r ms y σ)])) := by
 refine ⟨fun c hc => by rw [hc, hb5]; simp, hb5, fun σ H H' hR hc => by rw [hc b5 rfl]; exact hR, fun σ H i t hR hown hkeep hσ hs => ?_⟩
 obtain ⟨hi, hdeg⟩ := SigOk.mb hms hs
 obtain ⟨hp, hn3, hn1, hpr, hck⟩ := hms.cx.rg
 have hm' := hkeep _ _ hm h1
 have hrow' : RowAt H b 5 (ms.map mbC) := by
  obtain ⟨T, cells, g1, g2⟩ := hrow
  exact ⟨T, cells, hkeep _ _ g1 h2, g2⟩
 obtain ⟨T2, cells, gb, gc⟩ := hrow'.cell (i := i) (j := 4) (d := vcD ms[i].y) (by simpa using hi) (by simp [mbC]) (by omega)
 have hme : ME r.n.toNat t.e := hs.me
 have htb : TB 1 r.p r.n.toNat 8000 t := hs.tb
 have htn := (negT_ok htb).zero
 have tl := htb.lo
 have th := htb.hi
 have hyi := hms.ys _ (List.getElem_mem hi)
 have hyb := hyi.vb hms.cxY
 have hys : HV r m d τ (tellY r ms y σ) := GInv.tell (s := ⟨ms, []⟩) hms.cxY hms.ok hms.ys σ y hy hσ
 have hysb := hys.vb hms.cxY
 have hl1 := hyi.len
 have hl2 := hys.len
 have hm40 := hms.cxY.k40
 refine CallD.of_body Tryz.func87 rfl (by decide) (Nat.le_of_ble_eq_true rfl) fun w0 => ?_
 refine DW.seq ?_
 refine DW.region ?_
 (repeat(first|refine zA ?_|refine zB ?_|refine zE rfl (by decide) rfl ?_|refine zF ?_|refine zG ?_|refine zH ?_|refine zI ?_|refine zJ ?_|refine zK ?_|refine zL rfl ?_|refine zM rfl ?_))
 refine DW.drawS 30 Tryz.mixed (by kernel_rfl) (by decide) ?_
 dsimp only [List.take, List.drop]
 (repeat(first|refine zN ?_|refine zO ?_|refine zR rfl (by decide) rfl ?_|refine zS ?_))
 refine RS.sta (fun H' hov => s_nilCheck rfl) rfl ?_
 (repeat(first|refine zN ?_|refine zO ?_|refine zR rfl (by decide) rfl ?_|refine zS ?_))
 refine RS.sta (r_loadMutAgg (ds := [I r.p, I r.n, I r.order, I r.over]) rfl hm' rfl rfl) rfl ?_
 refine RS.sta (r_loadMut (d := vcD (tellY r ms y σ)) rfl hR rfl) rfl ?_
 (repeat(first|refine zN ?_|refine zO ?_|refine zR rfl (by decide) rfl ?_|refine zS ?_))
 refine RS.sta (fun H' hov => s_nilCheck rfl) rfl ?_
 (repeat(first|refine zN ?_|refine zO ?_|refine zR rfl (by decide) rfl ?_|refine zS ?_))
 refine RS.sta (r_loadMutAgg (ds := [I r.p, I r.n, I r.order, I r.over]) rfl hm' rfl rfl) rfl ?_
 (repeat(first|refine zN ?_|refine zO ?_|refine zR rfl (by decide) rfl ?_|refine zS ?_))
 refine RS.sta (fun H' hov => s_nilCheck rfl) rfl ?_
 (repeat(first|refine zN ?_|refine zO ?_|refine zR rfl (by decide) rfl ?_|refine zS ?_))
 refine RS.sta (r_loadMut (d := .ref b 0 ms.length 5) rfl hm' rfl) rfl ?_
 (repeat(first|refine zN ?_|refine zO ?_|refine zR rfl (by decide) rfl ?_|refine zS ?_))
 refine RS.sta (fun H' hov => s_indexRef (i := i) rfl rfl hi) rfl ?_
 (repeat(first|refine zN ?_|refine zO ?_|refine zR rfl (by decide) rfl ?_|refine zS ?_))
 refine RS.sta (r_loadMut (d := vcD ms[i].y) rfl gb gc) rfl ?_
 (repeat(first|refine zN ?_|refine zO ?_|refine zR rfl (by decide) rfl ?_|refine zS ?_))
 refine RS.sta (fun H' hov => s_nilCheck rfl) rfl ?_
 (repeat(first|refine zN ?_|refine zO ?_|refine zR rfl (by decide) rfl ?_|refine zS ?_))
 refine RS.sta (r_loadMut (d := I r.p) rfl hm' rfl) rfl ?_
 (repeat(first|refine zN ?_|refine zO ?_|refine zR rfl (by decide) rfl ?_|refine zS ?_))
 refine RS.sta (fun H' hov => s_buildT (out := [I (negT r t).c, intsD (negT r t).e]) rfl rfl) rfl ?_
 refine RS.sta (fun H' hov => sta_call rfl rfl (vBy_pure r ms[i].y (negT r t) (n := r.n.toNat) (B := 8000) (C := 8000) (L := 512192024001) hn3 (by omega) (by omega) hp (by omega) (by omega) hyb htn _)) rfl ?_
 refine RS.sta (fun H' hov => sta_call rfl rfl (vSum_pure r (tellY r ms y σ) (vbyT r ms[i].y (negT r t)) (n := r.n.toNat) (B := 16000) (L := 512192024001) (M := 512192024001) hn3 (by omega) hp (by omega) (by rw [hl2]; simp [vbyT, hl1]) (by omega) (hysb.mono (by omega) (Nat.le_refl _)) (VB.by (by omega) hpr hyb htn) _)) rfl ?_
 refine RS.nil ?_
 have hsn : vsumT r (tellY r ms y σ) (vbyT r ms[i].y (negT r t)) = tellY r ms y (σ ++ [(i, t)]) := by
  rw [tellY_snoc]
  dsimp only
  rw [getD_lt hi]
 rw [hsn]
 refine RO.dyn rfl (d_store (k := 1) rfl rfl rfl hR (Nat.le_refl _) (by simp [cellsOf, D.isCell, vcD]) ?_)
 (repeat(first|refine zA ?_|refine zB ?_|refine zE rfl (by decide) rfl ?_|refine zF ?_|refine zG ?_|refine zH ?_|refine zI ?_|refine zJ ?_|refine zK ?_|refine zL rfl ?_|refine zM rfl ?_))
 refine ⟨.inr rfl, _, _, _, rfl, Heap.sub_refl _, .same _, Heap.set_self _ _ _, fun c hc => by rw [hc, Heap.set_self]; simp, fun c z hc hn => by rw [Heap.set_other _ _ hn]; exact hc⟩

theorem reducedM_pureH {H : Heap} {bm b : Nat} {T1 : TypeId} {r : Rg} {k : Nat} {δ : Nat → Int} {m : Nat} {d : Nat → Int} {dp : D} {ms : List Mb} {v y : Vc} {τ C : Int} (hms : MsOk r k δ m d ms) (hm : H bm = some (T1, mkCs r (.ref b 0 ms.length 5) dp)) (hrow : RowAt H b 5 (ms.map mbC))
  (hv : HV r k δ τ v) (hC : ∀ (j : Nat) (h : j < v.length), ∀ t ∈ v[j], code2 r j t.e ≤ C) (hy : HV r m d τ y) :
  PureH Tryz.prog H 68 [.ptr bm 0, vcD v, vcD y] (.tup [vcD (hdiv r k (vsOf ms) v).left, vcD (tellY r ms y (hdiv r k (vsOf ms) v).σ)]) := by
 refine PureH.of_body Tryz.func68 rfl (by decide) (Nat.le_of_ble_eq_true rfl) fun w0 => ?_
 refine DW.seq ?_
 refine DW.region ?_
 refine RO.sta (sta_box (k := 1) rfl rfl) rfl ?_
 refine RO.dyn rfl (opD_box rfl (by simp [cellsOf, D.isCell, vcD]) fun b5 hb5 => ?_)
 (repeat(first|refine zA ?_|refine zB ?_|refine zE rfl (by decide) rfl ?_|refine zF ?_|refine zG ?_|refine zH ?_|refine zI ?_|refine zJ ?_|refine zK ?_|refine zL rfl ?_|refine zM rfl ?_))
 obtain ⟨T2, cells, gb, gl, gc⟩ := hrow
 have h1 : bm ≠ b5 := fun h => by rw [h, hb5] at hm; cases hm
 have h2 : b ≠ b5 := fun h => by rw [h, hb5] at gb; cases gb
 have hm' : (H.set b5 (50, cellsOf (vcD y))) bm = some (T1, mkCs r (.ref b 0 ms.length 5) dp) := by rw [Heap.set_other _ _ h1]; exact hm
 have hrow' : RowAt (H.set b5 (50, cellsOf (vcD y))) b 5 (ms.map mbC) := ⟨T2, cells, by rw [Heap.set_other _ _ h2]; exact gb, gl, gc⟩
 have hself : (H.set b5 (50, cellsOf (vcD y))) b5 = some (50, [vcD y]) := Heap.set_self _ _ _
 have hover : Over H (H.set b5 (50, cellsOf (vcD y))) := (Over.refl H).set hb5
 generalize H.set b5 (50, cellsOf (vcD y)) = H1 at *
 refine DW.drawS 8 Tryz.mixed (by kernel_rfl) (by decide) ?_
 dsimp only [List.take, List.drop]
 (repeat(first|refine zN ?_|refine zO ?_|refine zR rfl (by decide) rfl ?_|refine zS ?_))
 refine RS.sta (fun H' hov => s_nilCheck rfl) rfl ?_
 (repeat(first|refine zN ?_|refine zO ?_|refine zR rfl (by decide) rfl ?_|refine zS ?_))
 refine RS.sta (r_loadMutAgg (ds := [I r.p, I r.n, I r.order, I r.over]) rfl hm' rfl rfl) rfl ?_
 (repeat(first|refine zN ?_|refine zO ?_|refine zR rfl (by decide) rfl ?_|refine zS ?_))
 refine RS.sta (fun H' hov => sta_call rfl rfl (divisorsM_pureH (hov _ _ hm') (hrow'.over hov) hms.len (fun x hx => (hms.ok x hx).top))) rfl ?_
 (repeat(first|refine zN ?_|refine zO ?_|refine zR rfl (by decide) rfl ?_|refine zS ?_))
 refine RO.dyn rfl ((opD_call rfl rfl (leftH_call hms.hl (by simp [vsOf]; exact hms.len) hv hC (toldM hms hm' hrow' hself h1 h2 hy))).mono fun dr H4 ⟨hdr, hR4, hk4⟩ => ?_)
 subst hdr
 (repeat(first|refine zA ?_|refine zB ?_|refine zE rfl (by decide) rfl ?_|refine zF ?_|refine zG ?_|refine zH ?_|refine zI ?_|refine zJ ?_|refine zK ?_|refine zL rfl ?_|refine zM rfl ?_))
 refine DW.drawS 4 Tryz.mixed (by kernel_rfl) (by decide) ?_
 dsimp only [List.take, List.drop]
 (repeat(first|refine zN ?_|refine zO ?_|refine zR rfl (by decide) rfl ?_|refine zS ?_))
 refine RS.sta (r_loadMut (d := vcD (tellY r ms y (hdiv r k (vsOf ms) v).σ)) rfl hR4 rfl) rfl ?_
 (repeat(first|refine zN ?_|refine zO ?_|refine zR rfl (by decide) rfl ?_|refine zS ?_))
 (repeat(first|refine zA ?_|refine zB ?_|refine zE rfl (by decide) rfl ?_|refine zF ?_|refine zG ?_|refine zH ?_|refine zI ?_|refine zJ ?_|refine zK ?_|refine zL rfl ?_|refine zM rfl ?_))
 refine DW.ret ⟨.inl rfl, _, rfl, fun c z hc => ?_, .same _⟩
 rw [hk4 c (fun h => by rw [h, hb5] at hc; cases hc)]
 exact hover c z hc
end
end Go.Proofs.YtfjmdhemlfafbaaGreat
