/-
  Leads of what a few vectors of small degree make: behind degree 513 nothing new comes. No condition.
-/
import Derived.Test.YtfjmdhemlfafbaaGreatKHc17
import Derived.Test.YtfjmdhemlfafbaaGreatKHc11
import Derived.Test.YtfjmdhemlfafbaaGreatKHc12
import Derived.Test.YtfjmdhemlfafbaaGreatKHc8
set_option linter.unusedVariables false
set_option linter.unusedSimpArgs false

namespace Go.Proofs.YtfjmdhemlfafbaaGreat
section
open Go.RowKit
set_option maxHeartbeats 8000000

theorem s_two {P : Program} {H : Heap} {e : Env} {dst : Option Tmp} {ty : TypeId} {pos : String} {af : Array Edge} {gd : Option (Nat × Bool)} {t E : TypeId} {x y : Operand} {a b : Int} {bytes : Nat} {zd : List D} [SliceT P t E] [ElT P E 1 zd bytes] (hx : e.ev x = some (I a)) (hy : e.ev y = some (I b)) :
  Sta P H e ⟨dst, .buildSlice t 2 #[(0, x), (1, y)], ty, pos, af, gd⟩ (intsD [a, b]) := by
 have hz : zd.length = 1 := (ElT.z (P := P) (E := E) (k := 1) (zd := zd) (bytes := bytes)).len
 obtain ⟨z, rfl⟩ : ∃ z, zd = [z] := by
  match zd, hz with
  | [z], _ => exact ⟨z, rfl⟩
 exact s_lit (P := P) (t := t) (E := E) (bytes := bytes) (zd := [z]) (pd := [(0, I a), (1, I b)]) (ds := [I a, I b]) (by decide) (by decide) (by simp [evParts, hx, hy]) rfl (fun d hd => by simp at hd; rcases hd with rfl | rfl <;> rfl) rfl
end
section
open Go.RowKit
set_option maxHeartbeats 8000000
end
section
open Go.RowKit
set_option maxHeartbeats 8000000

instance : SizeT Tryz.prog 66 4 := .of (by kernel_rfl)
instance : BuildT Tryz.prog 66 [.nil, I 0, I 0, .nil] #[(0, 1), (1, 1), (2, 2)] := .of (by kernel_rfl) Tryz.underlying66 (by kernel_rfl) rfl

def dvC (r : Rg) (v : Vc) : List D := [vcD v, I (atOf (topV r v)), I (tmOf (topV r v)).c, intsD (tmOf (topV r v)).e]
def dvD (r : Rg) (v : Vc) : D := .agg (dvC r v)
def dvsD (r : Rg) (l : List Vc) : D := .list 4 (l.map (dvD r))

theorem uni_dv (r : Rg) (l : List Vc) : Uni 4 (l.map (dvD r)) := by
 intro d hd
 obtain ⟨a, _, rfl⟩ := List.mem_map.1 hd
 exact ⟨rfl, fun x hx => by simp [dvD, dvC, cellsOf] at hx; rcases hx with rfl | rfl | rfl | rfl <;> rfl⟩
end
section
open Go.RowKit
set_option maxHeartbeats 8000000

theorem goesT_at {r : Rg} {l : List Vc} {a : Nat} {m : List Int} {k : Nat} (h : ∀ (j : Nat) (hj : j < l.length), j < k → goesIn r a m l[j] = false) (hk : k < l.length) (hg : goesIn r a m l[k] = true) : goesT r l a m = some k :=
 List.findIdx?_eq_some_iff_getElem.2 ⟨hk, hg, fun j hj => by rw [h j (by omega) hj]; simp⟩

theorem goesT_not {r : Rg} {l : List Vc} {a : Nat} {m : List Int} (h : ∀ (j : Nat) (hj : j < l.length), goesIn r a m l[j] = false) : goesT r l a m = none :=
 List.findIdx?_eq_none_iff.2 fun x hx => by
  obtain ⟨j, hj, rfl⟩ := List.getElem_of_mem hx
  exact h j hj

theorem no_succ {P : Nat → Prop} {k : Nat} (h : ∀ j, j < k → P j) (hk : P k) : ∀ j, j < k + 1 → P j := fun j hj => by
 by_cases he : j = k
 ·rw [he]; exact hk
 ·exact h j (by omega)
end
section
open Go.RowKit
set_option maxHeartbeats 8000000

abbrev tmCl (t : Tm) : List D := [I t.c, intsD t.e]

def tmsD (v : Vc) : List (List D) := v.map fun f => f.map tmD

theorem tmsD_vc (v : Vc) : D.list 1 ((tmsD v).map (D.list 2)) = vcD v := by
 unfold tmsD vcD
 rw [List.map_map]
 rfl

theorem leftOne_pureH {H : Heap} (b at_ k : Nat) (f : Pl) (hH : H b = some (3, [I at_])) (hf : k = at_ → 0 < f.length) : PureH Tryz.prog H 100 [I k, plD f, .ptr b 0] (plD (if k = at_ then f.tail else f)) := by
 refine PureH.of_body Tryz.func100 rfl (by decide) (Nat.le_of_ble_eq_true rfl) fun w0 => ?_
 (repeat(first|refine zA ?_|refine zB ?_|refine zE rfl (by decide) rfl ?_|refine zF ?_|refine zG ?_|refine zH ?_|refine zI ?_|refine zJ ?_|refine zK ?_|refine zL rfl ?_|refine zM rfl ?_))
 refine RO.sta (s_loadMut rfl hH rfl) rfl ?_
 (repeat(first|refine zA ?_|refine zB ?_|refine zE rfl (by decide) rfl ?_|refine zF ?_|refine zG ?_|refine zH ?_|refine zI ?_|refine zJ ?_|refine zK ?_|refine zL rfl ?_|refine zM rfl ?_))
 by_cases hk : k = at_
 ·have hl := hf hk
  rw [if_pos hk, show ((k : Int) == (at_ : Int)) = true by simp; omega]
  (repeat(first|refine zA ?_|refine zB ?_|refine zE rfl (by decide) rfl ?_|refine zF ?_|refine zG ?_|refine zH ?_|refine zI ?_|refine zJ ?_|refine zK ?_|refine zL rfl ?_|refine zM rfl ?_))
  refine RO.sta (s_fromM rfl rfl (by omega) (by show (1 : Nat) ≤ f.length; omega)) rfl ?_
  (repeat(first|refine zA ?_|refine zB ?_|refine zE rfl (by decide) rfl ?_|refine zF ?_|refine zG ?_|refine zH ?_|refine zI ?_|refine zJ ?_|refine zK ?_|refine zL rfl ?_|refine zM rfl ?_))
  rw [show f.tail = f.drop (Int.toNat 1) by simp]
  exact DW.ret ⟨.inl rfl, _, rfl, Over.refl _, .same _⟩
 ·rw [if_neg hk, show ((k : Int) == (at_ : Int)) = false by simp; omega]
  (repeat(first|refine zA ?_|refine zB ?_|refine zE rfl (by decide) rfl ?_|refine zF ?_|refine zG ?_|refine zH ?_|refine zI ?_|refine zJ ?_|refine zK ?_|refine zL rfl ?_|refine zM rfl ?_))
  exact DW.ret ⟨.inl rfl, _, rfl, Over.refl _, .same _⟩

theorem cellAt_dv {r : Rg} {l : List Vc} {i j : Nat} (h : i < l.length) : cellAt (l.map (dvD r)) i j = (dvC r l[i])[j]? := by
 unfold cellAt
 rw [List.getElem?_map, List.getElem?_eq_getElem h]
 rfl

theorem VB.by {r : Rg} {n : Nat} {B C : Int} {L : Nat} {v : Vc} {t : Tm} (hp : 1 < r.p) (hpr : Prm r.p) (hv : VB r n B L v) (ht : TB 0 r.p n C t) : VB r n (B + C) L (vbyT r v t) := fun f hf => by
 unfold vbyT at hf
 obtain ⟨g, hg, rfl⟩ := List.mem_map.1 hf
 obtain ⟨g1, g2⟩ := hv g hg
 exact ⟨byT_ok hp hpr g1 ht, Nat.le_trans (byT_length _ _ _) g2⟩

theorem Over.other {H : Heap} {b : Nat} {x : TypeId × List D} (hb : H b = Option.none) : Over H (H.set b x) := (Over.refl H).set hb
end
section
open Go.RowKit
set_option maxHeartbeats 8000000
end
section
open Go.RowKit

theorem nodup_leG {α : Type} [DecidableEq α] : ∀ {l m : List α}, l.Nodup → (∀ x ∈ l, x ∈ m) → l.length ≤ m.length
 | [], m, _, _ => Nat.zero_le _
 | x :: l, m, h, hs => by
  have hx : x ∈ m := hs x (by simp)
  obtain ⟨h1, h2⟩ := List.nodup_cons.1 h
  have := nodup_leG (m := m.erase x) h2 fun y hy => by
   have hne : y ≠ x := fun e => h1 (e ▸ hy)
   exact (List.mem_erase_of_ne hne).2 (hs y (by simp [hy]))
  rw [List.length_erase_of_mem hx] at this
  have hpos : 0 < m.length := List.length_pos_of_mem hx
  simp only [List.length_cons]
  omega

theorem LvGo_congr {ψ φ : Ps} : ∀ {v : Vc} {j : Nat}, (∀ (i : Nat) (h : i < v.length), ∀ t ∈ v[i], ψ (j + i) t.e = φ (j + i) t.e) → LvGo ψ j v = LvGo φ j v
 | [], j, _ => rfl
 | f :: v, j, h => by
  have h1 : ∀ g : Pl, (∀ t ∈ g, ψ j t.e = φ j t.e) → Lf (ψ j) g = Lf (φ j) g := fun g => by
   induction g with
   | nil => intro _; rfl
   | cons t g ih => intro hg; rw [Lf_cons, Lf_cons, hg t (by simp), ih fun x hx => hg x (by simp [hx])]
  have h2 : LvGo ψ (j + 1) v = LvGo φ (j + 1) v := LvGo_congr fun i hi t ht => by
   have := h (i + 1) (by simp; omega) t (by simpa using ht)
   rwa [show j + (i + 1) = j + 1 + i by omega] at this
  show Lf (ψ j) f + LvGo ψ (j + 1) v = Lf (φ j) f + LvGo φ (j + 1) v
  rw [h1 f (h 0 (by simp)), h2]

theorem add_zero_e : ∀ {e z : List Int}, z.length = e.length → (∀ x ∈ z, x = 0) → zipE (· + ·) e z = e
 | [], [], _, _ => rfl
 | x :: e, y :: z, h, hz => by
  have := add_zero_e (e := e) (z := z) (by simpa using h) fun w hw => hz w (by simp [hw])
  show (x + y) :: zipE (· + ·) e z = x :: e
  rw [this, hz y (by simp), Int.add_zero]

theorem mul_zero_ev {r : Rg} {k : Nat} {δ : Nat → Int} {τ : Int} {v : Vc} (h : HV r k δ τ v) {z : List Int} (hl : z.length = r.n.toNat) (hz : ∀ x ∈ z, x = 0) : mulF z (ev v) = ev v := by
 funext ψ
 exact LvGo_congr fun i hi t ht => by
  show ψ (0 + i) (zipE (· + ·) t.e z) = ψ (0 + i) t.e
  rw [add_zero_e (by rw [hl, ((h.all i hi).all t ht).len]) hz]

theorem sub_self_e : ∀ (e : List Int), ∀ x ∈ zipE (· - ·) e e, x = 0
 | [], x, h => by cases h
 | y :: e, x, h => by
  have e1 : zipE (· - ·) (y :: e) (y :: e) = (y - y) :: zipE (· - ·) e e := rfl
  rw [e1] at h
  rcases List.mem_cons.1 h with rfl | h
  ·omega
  ·exact sub_self_e e x h

theorem Els.reduce {r : Rg} {k : Nat} {δ : Nat → Int} {τ : Int} {E : List Vc} (hc : Cx r k δ) (hE : Els r k δ τ E) : ∀ (N : Nat) (v : Vc), HV r k δ τ v → (∀ a u, topV r v = some (a, u) → (code2 r a u.e).toNat < N) →
  ∃ v', HV r k δ τ v' ∧ Sp r.p (fun X => ∃ e ∈ E, X = ev e) (fun ψ => ev v ψ - ev v' ψ) ∧ (topV r v' = none ∨ ∀ e ∈ E, keyOf (topV r v') ≠ keyOf (topV r e))
 | N, v, hv, hN => by
  have self : Sp r.p (fun X => ∃ e ∈ E, X = ev e) (fun ψ => ev v ψ - ev v ψ) := .zero fun ψ => dz (by omega)
  cases hx : topV r v with
  | none => exact ⟨v, hv, self, .inl hx⟩
  | some x =>
   obtain ⟨a, u⟩ := x
   by_cases hk : ∃ e ∈ E, keyOf (topV r v) = keyOf (topV r e)
   ·obtain ⟨e, he, hke⟩ := hk
    rw [hx] at hke
    obtain ⟨w, hw, hwe'⟩ := keyOf_some hke.symm
    have hwe : w.e = u.e := hwe'
    have hlt := hN a u hx
    obtain ⟨hp2, hn3, hn1, hpr, hck⟩ := hc.rg
    have hee := hE.hv e he
    have t1 := hv.top hc hx
    have t2 := hee.top hc hw
    have hg : goesM u.e w.e = true := by rw [hwe]; exact goes_self _
    obtain ⟨h1, h2⟩ := reduce_hom hc hv hee hx hw hg
    obtain ⟨b1, b2, b3, b4, b5⟩ := byOf_ok hck t1.2.1 t1.2.2.1 t2.2.1 t2.2.2.1 hg
    have hz : ∀ y ∈ (negT r (byOf r u w)).e, y = 0 := by
     show ∀ y ∈ zipE (· - ·) u.e w.e, y = 0
     rw [hwe]
     exact sub_self_e _
    have htm : TM r (negT r (byOf r u w)) := ⟨by have := (negT_ok b1).lo; omega, (negT_ok b1).hi, ⟨b2.len, b2.pos⟩⟩
    have hzs : (negT r (byOf r u w)).e.sum = 0 := by
     show (byOf r u w).e.sum = 0
     rw [b4, hwe]; omega
    have hby := hee.by hc htm (by rw [hzs]; have := hee.t8; omega)
    rw [hzs, Int.add_zero] at hby
    have hev := hv.ev_sum hc hby
    have hev2 := ev_by (r := r) e (negT r (byOf r u w))
    rw [mul_zero_ev hee (z := (negT r (byOf r u w)).e) b2.len hz] at hev2
    match N, hlt with
    | N + 1, hlt =>
     obtain ⟨v', hv', hs, hd⟩ := Els.reduce hc hE N _ h1 fun b x hbx => by
      have ib := topV_isM (h1.vm hc) hbx
      obtain ⟨f, hf⟩ := ib.at_
      have h3 := h2 b ib.lt x (by rw [hf]; simp)
      have hk40 := hc.k40
      have h4 := code2_range (r := r) (i := b) ib.me (by have := ib.lt; have := h1.len; omega)
      omega
     refine ⟨v', hv', (hs.sub ((Sp.mem (P := fun X => ∃ e ∈ E, X = ev e) ⟨e, he, rfl⟩).smul (negT r (byOf r u w)).c)).congr fun ψ => ?_, hd⟩
     have d1 := hev ψ
     have d2 := hev2 ψ
     refine dv (Int.dvd_add d1 d2) ?_
     dsimp only
     omega
   ·exact ⟨v, hv, self, .inr fun e he h => hk ⟨e, he, h⟩⟩

def before (x y : Nat × List Int) : Prop := x.1 < y.1 ∨ (x.1 = y.1 ∧ lexC x.2 y.2 < 0)

def rowF (G : List Mb) (y : Nat × List Int) : Fu := mulF y.2 (ev (G.getD y.1 default).v)

def dgAt (δ : Nat → Int) (G : List Mb) (i : Nat) : Int := (G.getD i default).dg δ

def Dep (r : Rg) (δ : Nat → Int) (G : List Mb) (y : Nat × List Int) : Prop :=
 Sp r.p (fun X => ∃ z, z.1 < G.length ∧ Mn r.n.toNat z.2 ∧ z.2.sum + dgAt δ G z.1 = y.2.sum + dgAt δ G y.1 ∧ before z y ∧ X = rowF G z) (rowF G y)

def InN (r : Rg) (k : Nat) (δ : Nat → Int) (G : List Mb) (y : Nat × List Int) : Prop :=
 ∃ v, HV r k δ (y.2.sum + δ y.1) v ∧ Sp r.p (Row r δ G (y.2.sum + δ y.1)) (ev v) ∧ keyOf (topV r v) = some y

theorem monosT_sorted : ∀ (n t : Nat), (monosT n t).Pairwise fun a b => lexC a b < 0
 | 0, t => by unfold monosT; split <;> simp
 | 1, t => by unfold monosT; simp
 | n + 2, t => by
  unfold monosT
  rw [List.pairwise_flatMap]
  refine ⟨fun i _ => ?_, ?_⟩
  ·rw [List.pairwise_map]
   exact (monosT_sorted (n + 1) (t - i)).imp fun {a b} h => by
    show (if (i : Int) < i then -1 else if (i : Int) < i then 1 else lexC a b) < 0
    rw [if_neg (by omega), if_neg (by omega)]
    exact h
  ·have hr : (List.range (t + 1)).Pairwise fun i j => i < j := List.pairwise_lt_range
   refine hr.imp fun {i j} hij x hx y hy => ?_
   obtain ⟨f, _, rfl⟩ := List.mem_map.1 hx
   obtain ⟨g, _, rfl⟩ := List.mem_map.1 hy
   show (if (i : Int) < j then -1 else if (j : Int) < i then 1 else lexC f g) < 0
   rw [if_pos (by omega)]
   omega

theorem keysT_sorted (n k : Nat) (δ : Nat → Int) (τ : Int) : (keysT n k δ τ).Pairwise before := by
 unfold keysT
 rw [List.pairwise_flatMap]
 refine ⟨fun a _ => ?_, ?_⟩
 ·rw [List.pairwise_map]
  have h : (if δ a ≤ τ then monosT n (τ - δ a).toNat else []).Pairwise fun a b => lexC a b < 0 := by
   split
   ·exact monosT_sorted _ _
   ·simp
  exact h.imp fun h => .inr ⟨rfl, h⟩
 ·have hr : (List.range k).Pairwise fun i j => i < j := List.pairwise_lt_range
  refine hr.imp fun {i j} hij x hx y hy => ?_
  obtain ⟨f, _, rfl⟩ := List.mem_map.1 hx
  obtain ⟨g, _, rfl⟩ := List.mem_map.1 hy
  exact .inl hij

theorem before_asymm {x y : Nat × List Int} (h : before x y) (k : before y x) : False := by
 have := lexC_anti x.2 y.2
 rcases h with h | ⟨h1, h2⟩ <;> rcases k with k | ⟨k1, k2⟩ <;> omega

theorem before_irrefl {x : Nat × List Int} (h : before x x) : False := before_asymm h h

structure Gens (r : Rg) (k : Nat) (δ : Nat → Int) (G : List Mb) : Prop where
 cx : Cx r k δ
 ok : ∀ x ∈ G, MbOk r k δ x

theorem Gens.at {r : Rg} {k : Nat} {δ : Nat → Int} {G : List Mb} (h : Gens r k δ G) {i : Nat} (hi : i < G.length) : G.getD i default ∈ G ∧ MbOk r k δ (G.getD i default) := by
 have e : G.getD i default = G[i] := by rw [List.getD_eq_getElem?_getD, List.getElem?_eq_getElem hi]; rfl
 rw [e]
 exact ⟨List.getElem_mem hi, h.ok _ (List.getElem_mem hi)⟩

theorem Gens.dg0 {r : Rg} {k : Nat} {δ : Nat → Int} {G : List Mb} (h : Gens r k δ G) {i : Nat} (hi : i < G.length) : 0 ≤ dgAt δ G i := by
 have h1 := (h.at hi).2.ld h.cx
 have := h1.2.2.mn.sum0
 have := h.cx.pos (G.getD i default).a
 unfold dgAt Mb.dg
 omega

theorem Gens.row {r : Rg} {k : Nat} {δ : Nat → Int} {G : List Mb} (h : Gens r k δ G) {τ : Int} (h8 : τ ≤ 8000) {y : Nat × List Int} (hy : y ∈ keysT r.n.toNat G.length (dgAt δ G) τ) :
  HV r k δ τ (vbyT r (G.getD y.1 default).v ⟨1, y.2⟩) ∧ CongF r.p (ev (vbyT r (G.getD y.1 default).v ⟨1, y.2⟩)) (rowF G y) := by
 have hn1 := h.cx.rg.2.2.1
 obtain ⟨h1, h2, h3⟩ := (keysT_mem (by omega)).1 (show (y.1, y.2) ∈ _ from hy)
 have hm := (h.at h1).2
 have h3' : y.2.sum + (G.getD y.1 default).dg δ = τ := h3
 have h4 := hm.hv.by h.cx (tm_one h.cx h2) (by show (G.getD y.1 default).dg δ + y.2.sum ≤ 8000; omega)
 have h5 : (G.getD y.1 default).dg δ + y.2.sum = τ := by omega
 exact ⟨by rw [← h5]; exact h4, ev_one _ _⟩

theorem Gens.ech {r : Rg} {k : Nat} {δ : Nat → Int} {G : List Mb} (h : Gens r k δ G) {τ : Int} (h8 : τ ≤ 8000) (bD : Nat × List Int → Bool) (hD : ∀ y, bD y = true ↔ ¬ Dep r δ G y) :
  ∀ n, n ≤ (keysT r.n.toNat G.length (dgAt δ G) τ).length → ∃ E, Els r k δ τ E ∧
   (∀ e ∈ E, Sp r.p (fun X => ∃ y ∈ (keysT r.n.toNat G.length (dgAt δ G) τ).take n, X = rowF G y) (ev e)) ∧ (∀ y ∈ (keysT r.n.toNat G.length (dgAt δ G) τ).take n, Sp r.p (fun X => ∃ e ∈ E, X = ev e) (rowF G y)) ∧
   E.length = (((keysT r.n.toNat G.length (dgAt δ G) τ).take n).filter bD).length
 | 0, _ => ⟨[], ⟨fun e he => (by cases he), fun e he => (by cases he), by simp⟩, fun e he => (by cases he), fun y hy => (by simp at hy), by simp⟩
 | n + 1, hn => by
  obtain ⟨E, hE, e1, e2, e3⟩ := Gens.ech h h8 bD hD n (by omega)
  have hsort := keysT_sorted r.n.toNat G.length (dgAt δ G) τ
  have hkm : ∀ y ∈ keysT r.n.toNat G.length (dgAt δ G) τ, y.1 < G.length ∧ Mn r.n.toNat y.2 ∧ y.2.sum + dgAt δ G y.1 = τ := fun y hy => by
   have hn1 := h.cx.rg.2.2.1
   exact (keysT_mem (by omega)).1 (show (y.1, y.2) ∈ _ from hy)
  have hrow := fun y => h.row h8 (y := y)
  have hKm : ∀ z : Nat × List Int, z.1 < G.length → Mn r.n.toNat z.2 → z.2.sum + dgAt δ G z.1 = τ → z ∈ keysT r.n.toNat G.length (dgAt δ G) τ := fun z z1 z2 z3 => by
   have hn1 := h.cx.rg.2.2.1
   exact (keysT_mem (by omega)).2 ⟨z1, z2, z3⟩
  generalize keysT r.n.toNat G.length (dgAt δ G) τ = K at *
  have hnK : n < K.length := by omega
  have htk : K.take (n + 1) = K.take n ++ [K[n]] := List.take_succ_eq_append_getElem hnK
  have hxK : K[n] ∈ K := List.getElem_mem hnK
  have hbef : ∀ z, z ∈ K.take n ↔ z ∈ K ∧ before z K[n] := fun z => by
   rw [List.pairwise_iff_getElem] at hsort
   constructor
   ·intro hz
    obtain ⟨i, hi, rfl⟩ := List.getElem_of_mem hz
    rw [List.length_take] at hi
    rw [List.getElem_take]
    exact ⟨List.getElem_mem _, hsort i n (by omega) hnK (by omega)⟩
   ·rintro ⟨hz, hb⟩
    obtain ⟨i, hi, rfl⟩ := List.getElem_of_mem hz
    have hin : i < n := by
     rcases Nat.lt_trichotomy i n with h1 | h1 | h1
     ·exact h1
     ·subst h1; exact absurd hb before_irrefl
     ·exact (before_asymm hb (hsort n i hnK hi h1)).elim
    have : K[i] = (K.take n)[i]'(by rw [List.length_take]; omega) := by rw [List.getElem_take]
    rw [this]
    exact List.getElem_mem _
  obtain ⟨x1, x2, x3⟩ := hkm _ hxK
  have hdep : Dep r δ G K[n] ↔ Sp r.p (fun X => ∃ y ∈ K.take n, X = rowF G y) (rowF G K[n]) := by
   unfold Dep
   constructor
   ·intro hd
    exact hd.mono fun X ⟨z, z1, z2, z3, z4, z5⟩ => ⟨z, (hbef z).2 ⟨hKm z z1 z2 (by omega), z4⟩, z5⟩
   ·intro hs
    refine hs.mono fun X ⟨y, hy, hX⟩ => ?_
    obtain ⟨y1, y2⟩ := (hbef y).1 hy
    obtain ⟨k1, k2, k3⟩ := hkm y y1
    exact ⟨y, k1, k2, by omega, y2, hX⟩
  have hup : ∀ X, (∃ y ∈ K.take n, X = rowF G y) → ∃ y ∈ K.take (n + 1), X = rowF G y := fun X ⟨y, hy, hX⟩ => ⟨y, by rw [htk]; exact List.mem_append_left _ hy, hX⟩
  have hlen : ((K.take (n + 1)).filter bD).length = ((K.take n).filter bD).length + (if bD K[n] = true then 1 else 0) := by
   rw [htk, List.filter_append, List.length_append]
   congr 1
   by_cases hb : bD K[n] = true
   ·rw [if_pos hb, List.filter_cons, if_pos hb]; rfl
   ·rw [if_neg hb, List.filter_cons, if_neg hb]; rfl
  by_cases hd : Dep r δ G K[n]
  ·refine ⟨E, hE, fun e he => (e1 e he).mono hup, fun y hy => ?_, ?_⟩
   ·rw [htk] at hy
    rcases List.mem_append.1 hy with hy | hy
    ·exact e2 y hy
    ·rw [List.mem_singleton.1 hy]
     exact (hdep.1 hd).trans fun X ⟨z, hz, hX⟩ => hX ▸ e2 z hz
   ·rw [hlen, e3, if_neg (fun hb => (hD _).1 hb hd)]; omega
  ·obtain ⟨hv, hev⟩ := hrow _ hxK
   have hev' := hev.symm
   generalize hvv : vbyT r (G.getD K[n].1 default).v ⟨1, K[n].2⟩ = v at *
   obtain ⟨v', hv', hs, hcase⟩ := hE.reduce h.cx ((match topV r v with | none => 0 | some x => (code2 r x.1 x.2.e).toNat) + 1) v hv fun a u hu => by rw [hu]; exact Nat.lt_succ_self _
   have hnone : topV r v' ≠ none := fun h0 => hd (hdep.2 (by
    have hz := topV_noneM (hv'.vm h.cx) h0
    have h1 : Sp r.p (fun X => ∃ e ∈ E, X = ev e) (rowF G K[n]) := (hs.congr fun ψ => dz (by have := ev_nil hz ψ; omega)).congr hev
    exact h1.trans fun X ⟨e, he, hX⟩ => hX ▸ e1 e he))
   have hnew := hcase.resolve_left hnone
   refine ⟨E ++ [v'], ⟨fun e he => ?_, fun e he => ?_, ?_⟩, fun e he => ?_, fun y hy => ?_, ?_⟩
   ·rcases List.mem_append.1 he with he | he
    ·exact hE.hv e he
    ·rw [List.mem_singleton.1 he]; exact hv'
   ·rcases List.mem_append.1 he with he | he
    ·exact hE.top e he
    ·rw [List.mem_singleton.1 he]; exact hnone
   ·rw [List.map_append]
    refine List.nodup_append.2 ⟨hE.nodup, by simp, fun x hx y hy hxy => ?_⟩
    obtain ⟨e, he, rfl⟩ := List.mem_map.1 hx
    rw [List.map_singleton, List.mem_singleton] at hy
    subst hy
    exact hnew e he hxy.symm
   ·rcases List.mem_append.1 he with he | he
    ·exact (e1 e he).mono hup
    ·rw [List.mem_singleton.1 he]
     have h1 : Sp r.p (fun X => ∃ y ∈ K.take (n + 1), X = rowF G y) (rowF G K[n]) := .mem ⟨K[n], by rw [htk]; exact List.mem_append_right _ (List.mem_singleton.2 rfl), rfl⟩
     have h2 : Sp r.p (fun X => ∃ y ∈ K.take (n + 1), X = rowF G y) (fun ψ => ev v ψ - ev v' ψ) := hs.trans fun X ⟨e, he, hX⟩ => hX ▸ (e1 e he).mono hup
     exact ((h1.congr hev').sub h2).congr fun ψ => dz (by dsimp only; omega)
   ·rw [htk] at hy
    have hE2 : ∀ X, (∃ e ∈ E, X = ev e) → ∃ e ∈ E ++ [v'], X = ev e := fun X ⟨e, he, hX⟩ => ⟨e, by simp [he], hX⟩
    rcases List.mem_append.1 hy with hy | hy
    ·exact (e2 y hy).mono hE2
    ·rw [List.mem_singleton.1 hy]
     have h1 : Sp r.p (fun X => ∃ e ∈ E ++ [v'], X = ev e) (ev v') := .mem ⟨v', by simp, rfl⟩
     exact (((hs.mono hE2).add h1).congr fun ψ => dz (by omega)).congr hev
   ·rw [hlen, if_pos ((hD _).2 hd), List.length_append, e3]; rfl

theorem Gens.rank {r : Rg} {k : Nat} {δ : Nat → Int} {G : List Mb} (h : Gens r k δ G) {τ : Int} (h8 : τ ≤ 8000) (bD bN : Nat × List Int → Bool) (hD : ∀ y, bD y = true ↔ ¬ Dep r δ G y) (hN : ∀ y, bN y = true ↔ InN r k δ G y) :
  ((keysT r.n.toNat k δ τ).filter bN).length = ((keysT r.n.toNat G.length (dgAt δ G) τ).filter bD).length := by
 have hn1 := h.cx.rg.2.2.1
 obtain ⟨E, hE, e1, e2, e3⟩ := h.ech h8 bD hD _ (Nat.le_refl _)
 rw [List.take_length] at e1 e2 e3
 rw [← e3]
 have hrows : ∀ X, Row r δ G τ X ↔ ∃ y ∈ keysT r.n.toNat G.length (dgAt δ G) τ, X = rowF G y := fun X => by
  constructor
  ·rintro ⟨x, hx, m, hm, hd, rfl⟩
   obtain ⟨i, hi, rfl⟩ := List.getElem_of_mem hx
   have e : G.getD i default = G[i] := by rw [List.getD_eq_getElem?_getD, List.getElem?_eq_getElem hi]; rfl
   refine ⟨(i, m), (keysT_mem (by omega)).2 ⟨hi, hm, by unfold dgAt; rw [e]; exact hd⟩, ?_⟩
   unfold rowF
   rw [e]
  ·rintro ⟨y, hy, rfl⟩
   obtain ⟨h1, h2, h3⟩ := (keysT_mem (by omega)).1 (show (y.1, y.2) ∈ _ from hy)
   exact ⟨_, (h.at h1).1, y.2, h2, h3, rfl⟩
 have hmem : ∀ x, x ∈ ((keysT r.n.toNat k δ τ).filter bN).map some ↔ x ∈ E.map fun e => keyOf (topV r e) := fun x => by
  constructor
  ·intro hx
   obtain ⟨y, hy, rfl⟩ := List.mem_map.1 hx
   obtain ⟨h1, h2⟩ := List.mem_filter.1 hy
   obtain ⟨k1, k2, k3⟩ := (keysT_mem (by omega)).1 (show (y.1, y.2) ∈ _ from h1)
   obtain ⟨v, v1, v2, v3⟩ := (hN y).1 h2
   rw [k3] at v1 v2
   rcases hE.lead h.cx v1 (v2.trans fun X hX => by
    obtain ⟨z, hz, rfl⟩ := (hrows X).1 hX
    exact e2 z hz) with h0 | ⟨e, he, hk⟩
   ·rw [h0] at v3; cases v3
   ·exact List.mem_map.2 ⟨e, he, by rw [← hk, v3]⟩
  ·intro hx
   obtain ⟨e, he, rfl⟩ := List.mem_map.1 hx
   cases ht : topV r e with
   | none => exact absurd ht (hE.top e he)
   | some x =>
    obtain ⟨a, u⟩ := x
    obtain ⟨t1, t2, t3, t4⟩ := (hE.hv e he).top h.cx ht
    refine List.mem_map.2 ⟨(a, u.e), List.mem_filter.2 ⟨(keysT_mem (by omega)).2 ⟨t1, t3.mn, t4⟩, (hN _).2 ⟨e, ?_, ?_, by rw [ht]; rfl⟩⟩, rfl⟩
    ·dsimp only; rw [t4]; exact hE.hv e he
    ·dsimp only; rw [t4]
     exact (e1 e he).mono fun X hX => (hrows X).2 hX
 have n1 : (((keysT r.n.toNat k δ τ).filter bN).map some).Nodup := by
  unfold List.Nodup
  rw [List.pairwise_map]
  exact ((keysT_nodup r.n.toNat k δ τ).filter _).imp fun hne he => hne (Option.some.inj he)
 have a := nodup_leG n1 fun x hx => (hmem x).1 hx
 have b := nodup_leG hE.nodup fun x hx => (hmem x).2 hx
 rw [List.length_map, List.length_map] at a
 rw [List.length_map, List.length_map] at b
 omega

theorem Gens.inN_mul {r : Rg} {k : Nat} {δ : Nat → Int} {G : List Mb} (h : Gens r k δ G) {a : Nat} {e m : List Int} (hm : Mn r.n.toNat m) (h8 : e.sum + m.sum + δ a ≤ 8000) (hy : InN r k δ G (a, e)) : InN r k δ G (a, zipE (· + ·) e m) := by
 obtain ⟨v, v1, v2, v3⟩ := hy
 obtain ⟨u, hu, hue⟩ := keyOf_some v3
 have v1' : HV r k δ (e.sum + δ a) v := v1
 have htm := tm_one h.cx hm
 have t := v1'.top h.cx hu
 have hel : e.length = r.n.toNat := by rw [← hue]; exact t.2.2.1.len
 have hs : (zipE (· + ·) e m).sum = e.sum + m.sum := zipE_sum (by rw [hel, hm.len])
 have h1 := v1'.by h.cx htm (by show e.sum + δ a + m.sum ≤ 8000; omega)
 have h2 := v1'.by_top h.cx htm (by show (1 : Int) ≠ 0; omega) (by show e.sum + δ a + m.sum ≤ 8000; omega) hu
 have ee : e.sum + δ a + m.sum = (zipE (· + ·) e m).sum + δ a := by omega
 refine ⟨vbyT r v ⟨1, m⟩, ?_, ?_, ?_⟩
 ·show HV r k δ ((zipE (· + ·) e m).sum + δ a) _
  rw [← ee]
  exact h1
 ·refine (Sp.mul m v2 (Q := Row r δ G ((zipE (· + ·) e m).sum + δ a)) fun X ⟨x, hx, m', hm', hd, hX⟩ => ⟨x, hx, zipE (· + ·) m' m, hm'.add hm, ?_, by rw [hX, mulF_mulF]⟩).congr (ev_one v m).symm
  rw [hm'.sum_add hm]
  have hd' : m'.sum + x.dg δ = e.sum + δ a := hd
  omega
 ·rw [h2]
  show some (a, zipE (· + ·) u.e m) = some (a, zipE (· + ·) e m)
  rw [hue]

theorem Dep.mul {r : Rg} {k : Nat} {δ : Nat → Int} {G : List Mb} (h : Gens r k δ G) {i : Nat} {e m : List Int} (he : Mn r.n.toNat e) (hm : Mn r.n.toNat m) (hy : Dep r δ G (i, e)) : Dep r δ G (i, zipE (· + ·) e m) := by
 unfold Dep at hy ⊢
 have h1 := Sp.mul m hy (Q := fun X => ∃ z, z.1 < G.length ∧ Mn r.n.toNat z.2 ∧ z.2.sum + dgAt δ G z.1 = (zipE (· + ·) e m).sum + dgAt δ G i ∧ before z (i, zipE (· + ·) e m) ∧ X = rowF G z) fun X ⟨z, z1, z2, z3, z4, z5⟩ => by
  refine ⟨(z.1, zipE (· + ·) z.2 m), z1, z2.add hm, ?_, ?_, ?_⟩
  ·dsimp only at z3 ⊢
   rw [z2.sum_add hm, he.sum_add hm]
   omega
  ·rcases z4 with z4 | ⟨z4, z6⟩
   ·exact .inl z4
   ·refine .inr ⟨z4, ?_⟩
    show lexC (zipE (· + ·) z.2 m) (zipE (· + ·) e m) < 0
    rw [lexC_add (by rw [z2.len, he.len]) (by rw [he.len, hm.len])]
    exact z6
  ·rw [z5]
   exact mulF_mulF _ _ _
 have e2 : mulF m (rowF G (i, e)) = rowF G (i, zipE (· + ·) e m) := mulF_mulF _ _ _
 rw [e2] at h1
 exact h1
end
section
open Go.RowKit

def lst (n i j k : Nat) : List Int := if n = 3 then [(i : Int), (j : Int), (k : Int)] else if n = 2 then [(j : Int), (k : Int)] else [(k : Int)]

def triF (n : Nat) (P : List Int → Bool) : M3 := fun i j k => P (lst n i j k)

def cntM (n : Nat) (P : List Int → Bool) (t : Nat) : Nat := ((monosT n t).filter P).length

def cyl (h : Nat → Nat) (t : Nat) : Nat := sumN (t + 1) fun i => h (t - i)

def shS (h : Nat → Nat) (s τ : Nat) : Nat := if s ≤ τ then h (τ - s) else 0

theorem sum_range (f : Nat → Nat) : ∀ n, ((List.range n).map f).sum = sumN n f
 | 0 => rfl
 | n + 1 => by rw [List.range_succ, List.map_append, List.sum_append, sum_range f n]; simp [sumN]

theorem sumN_ite (f : Nat → Bool) : ∀ n, (sumN n fun i => if f i = true then 1 else 0) = cnt n f
 | 0 => rfl
 | n + 1 => by unfold sumN cnt; rw [sumN_ite f n]

theorem filter_flat {α β : Type} (f : α → List β) (P : β → Bool) : ∀ l : List α, ((l.flatMap f).filter P).length = (l.map fun x => ((f x).filter P).length).sum
 | [] => rfl
 | x :: l => by rw [List.flatMap_cons, List.filter_append, List.length_append, filter_flat f P l]; rfl

theorem cntM_two (n : Nat) (P : List Int → Bool) (t : Nat) : cntM (n + 2) P t = sumN (t + 1) fun i => cntM (n + 1) (fun e => P ((i : Int) :: e)) (t - i) := by
 unfold cntM
 rw [show monosT (n + 2) t = (List.range (t + 1)).flatMap fun i => (monosT (n + 1) (t - i)).map fun e => (i : Int) :: e from rfl, filter_flat, sum_range]
 refine sumN_congr fun i _ => ?_
 rw [List.filter_map, List.length_map]
 rfl

theorem cntM_one (P : List Int → Bool) (t : Nat) : cntM 1 P t = if P [(t : Int)] = true then 1 else 0 := by
 unfold cntM monosT
 rw [List.filter_cons]
 split <;> rfl

theorem cntM2 (P : List Int → Bool) (t : Nat) : cntM 2 P t = cnt (t + 1) fun j => P [(j : Int), ((t - j : Nat) : Int)] := by
 rw [cntM_two 0, ← sumN_ite]
 exact sumN_congr fun i _ => cntM_one _ _

theorem hil_three (P : List Int → Bool) (t : Nat) : hil (triF 3 P) t = cntM 3 P t := by
 rw [cntM_two 1]
 refine sumN_congr fun i hi => ?_
 rw [cntM2]
 unfold rowc
 rw [show t + 1 - i = t - i + 1 by omega]
 rfl

theorem hil_two (P : List Int → Bool) (t : Nat) : hil (triF 2 P) t = cyl (cntM 2 P) t := by
 refine sumN_congr fun i hi => ?_
 rw [cntM2]
 unfold rowc
 rw [show t + 1 - i = t - i + 1 by omega]
 rfl

theorem hil_one (P : List Int → Bool) (t : Nat) : hil (triF 1 P) t = cyl (cyl (cntM 1 P)) t := by
 refine sumN_congr fun i hi => ?_
 unfold rowc cyl
 rw [show t + 1 - i = t - i + 1 by omega, ← sumN_ite]
 exact sumN_congr fun j _ => (cntM_one _ _).symm

theorem sumN_zero : ∀ n, (sumN n fun _ => 0) = 0
 | 0 => rfl
 | n + 1 => by show sumN n (fun _ => 0) + 0 = 0; rw [sumN_zero n]

theorem sumNat_plus {α : Type} (f h : α → Nat) : ∀ l : List α, (l.map fun x => f x + h x).sum = (l.map f).sum + (l.map h).sum
 | [] => rfl
 | x :: l => by simp only [List.map_cons, List.sum_cons, sumNat_plus f h l]; omega

theorem shS_cyl (h : Nat → Nat) (s τ : Nat) : shS (cyl h) s τ = cyl (shS h s) τ := by
 by_cases hs : s ≤ τ
 ·obtain ⟨d, rfl⟩ : ∃ d, τ = s + d := ⟨τ - s, by omega⟩
  have e1 : shS (cyl h) s (s + d) = sumN (d + 1) fun i => h (d - i) := by
   unfold shS cyl
   rw [if_pos hs, show s + d - s = d by omega]
  have e2 : cyl (shS h s) (s + d) = sumN (d + 1 + s) fun i => shS h s (s + d - i) := by
   unfold cyl
   rw [show s + d + 1 = d + 1 + s by omega]
  rw [e1, e2, sumN_add (d + 1) s]
  have h1 : (sumN s fun j => shS h s (s + d - (d + 1 + j))) = 0 := by
   have : (sumN s fun j => shS h s (s + d - (d + 1 + j))) = sumN s fun _ => 0 := sumN_congr fun j hj => if_neg (by omega)
   rw [this, sumN_zero]
  rw [h1, Nat.add_zero]
  exact sumN_congr fun i hi => by unfold shS; rw [if_pos (by omega), show s + d - i - s = d - i by omega]
 ·have : cyl (shS h s) τ = sumN (τ + 1) fun _ => 0 := sumN_congr fun i hi => if_neg (by omega)
  rw [this, sumN_zero]
  exact if_neg hs

theorem cyl_sum {α : Type} (g : α → Nat → Nat) (l : List α) (τ : Nat) : (l.map fun x => cyl (g x) τ).sum = cyl (fun t => (l.map fun x => g x t).sum) τ := by
 unfold cyl
 have : ∀ n, (l.map fun x => sumN n fun i => g x (τ - i)).sum = sumN n fun i => (l.map fun x => g x (τ - i)).sum := fun n => by
  induction n with
  | zero =>
   show (l.map fun _ => 0).sum = 0
   induction l with
   | nil => rfl
   | cons x l ih => simp [ih]
  | succ n ih =>
   show (l.map fun x => sumN n (fun i => g x (τ - i)) + g x (τ - n)).sum = (sumN n fun i => (l.map fun x => g x (τ - i)).sum) + (l.map fun x => g x (τ - n)).sum
   rw [← ih, sumNat_plus]
 exact this _

theorem tri_sums {α β : Type} {n : Nat} (hn : 1 ≤ n ∧ n ≤ 3) (s : α → Nat) (P : α → List Int → Bool) (s' : β → Nat) (P' : β → List Int → Bool) (l : List α) (l' : List β) (τ : Nat)
  (h : ∀ t, t ≤ τ → (l.map fun x => shS (cntM n (P x)) (s x) t).sum = (l'.map fun x => shS (cntM n (P' x)) (s' x) t).sum) :
  (l.map fun x => shS (hil (triF n (P x))) (s x) τ).sum = (l'.map fun x => shS (hil (triF n (P' x))) (s' x) τ).sum := by
 have h3 : ∀ Q : List Int → Bool, hil (triF 3 Q) = cntM 3 Q := fun Q => funext fun t => hil_three Q t
 have h2 : ∀ Q : List Int → Bool, hil (triF 2 Q) = cyl (cntM 2 Q) := fun Q => funext fun t => hil_two Q t
 have h1 : ∀ Q : List Int → Bool, hil (triF 1 Q) = cyl (cyl (cntM 1 Q)) := fun Q => funext fun t => hil_one Q t
 have cc : ∀ {f g : Nat → Nat} {T : Nat}, (∀ t, t ≤ T → f t = g t) → cyl f T = cyl g T := fun {f g T} hfg => sumN_congr fun i _ => hfg _ (by omega)
 obtain h | h | h : n = 1 ∨ n = 2 ∨ n = 3 := by omega
 ·subst h
  simp only [h1, shS_cyl]
  have hc : ∀ Q s, cyl (shS (cyl (cntM 1 Q)) s) = cyl (cyl (shS (cntM 1 Q) s)) := fun Q s => by
   congr 1
   exact funext fun t => shS_cyl _ _ _
  simp only [hc]
  rw [cyl_sum, cyl_sum]
  refine cc fun t ht => ?_
  rw [cyl_sum, cyl_sum]
  exact cc fun t' ht' => h t' (by omega)
 ·subst h
  simp only [h2, shS_cyl]
  rw [cyl_sum, cyl_sum]
  exact cc fun t ht => h t (by omega)
 ·subst h
  simp only [h3]
  exact h τ (Nat.le_refl _)
end
section
open Go.RowKit

structure Small (r : Rg) (k : Nat) (δ : Nat → Int) (G : List Mb) : Prop where
 d6 : ∀ a, a < k → δ a ≤ 6
 d9 : ∀ x ∈ G, x.dg δ ≤ 9
 m4 : G.length ≤ 4
 near : ∀ x ∈ G, ∀ (a : Nat) (h : a < x.v.length), x.v[a] ≠ [] → x.dg δ ≤ δ a + 3

theorem sum9 : ∀ {D : List Int}, (∀ d ∈ D, d ≤ 9) → D.sum ≤ 9 * D.length
 | [], _ => by simp
 | d :: D, h => by
  have := sum9 (D := D) fun x hx => h x (by simp [hx])
  have := h d (by simp)
  rw [List.sum_cons, List.length_cons]
  omega

theorem sum9' : ∀ {D : List Int}, (∀ d ∈ D, d ≤ 9) → (∃ d ∈ D, d ≤ 3) → D.sum + 6 ≤ 9 * D.length
 | [], _, ⟨_, h, _⟩ => by cases h
 | d :: D, h, ⟨x, hx, h3⟩ => by
  have hd := h d (by simp)
  rw [List.sum_cons, List.length_cons]
  rcases List.mem_cons.1 hx with rfl | hx
  ·have := sum9 (D := D) fun x hx => h x (by simp [hx])
   omega
  ·have := sum9' (D := D) (fun x hx => h x (by simp [hx])) ⟨x, hx, h3⟩
   omega

theorem min_of : ∀ {D : List Int}, D ≠ [] → ∃ m ∈ D, ∀ d ∈ D, m ≤ d
 | [d], _ => ⟨d, by simp, fun x hx => by rw [List.mem_singleton.1 hx]; exact Int.le_refl _⟩
 | d :: e :: D, _ => by
  obtain ⟨m, hm, h⟩ := min_of (D := e :: D) (by simp)
  by_cases hd : d ≤ m
  ·exact ⟨d, by simp, fun x hx => by
    rcases List.mem_cons.1 hx with rfl | hx
    ·exact Int.le_refl _
    ·have := h x hx; omega⟩
  ·exact ⟨m, by simp [hm], fun x hx => by
    rcases List.mem_cons.1 hx with rfl | hx
    ·omega
    ·exact h x hx⟩

theorem low_c {D : List Int} (h0 : ∀ d ∈ D, 0 ≤ d ∧ d ≤ 9) (h4 : D.length ≤ 4) : ∃ c : Nat, c ≤ 6 ∧ (∀ d ∈ D, (c : Int) ≤ d) ∧ (D.map fun d => d - (c : Int)).sum ≤ 30 ∧ (c = 0 ∨ ∀ d ∈ D, (c : Int) + 3 ≤ d) := by
 by_cases hD : D = []
 ·subst hD
  exact ⟨0, by omega, fun d h => (by cases h), by simp, .inl rfl⟩
 ·obtain ⟨m, hm, hmin⟩ := min_of hD
  have hm0 := h0 m hm
  by_cases h3 : m ≤ 3
  ·refine ⟨0, by omega, fun d hd => (h0 d hd).1, ?_, .inl rfl⟩
   have := sum9' (fun d hd => (h0 d hd).2) ⟨m, hm, h3⟩
   have e : (D.map fun d => d - ((0 : Nat) : Int)) = D := by simp
   rw [e]; omega
  ·refine ⟨(m - 3).toNat, by omega, fun d hd => by have := hmin d hd; omega, ?_, .inr fun d hd => by have := hmin d hd; omega⟩
   have := sum9' (D := D.map fun d => d - (((m - 3).toNat : Nat) : Int)) (fun d hd => by
    obtain ⟨e, he, rfl⟩ := List.mem_map.1 hd
    have := (h0 e he).2
    omega) ⟨m - (((m - 3).toNat : Nat) : Int), List.mem_map.2 ⟨m, hm, rfl⟩, by omega⟩
   rw [List.length_map] at this
   omega

theorem Sp.at0 {p : Int} {P : Fu → Prop} {u : Fu} {ψ : Ps} (h : Sp p P u) (hP : ∀ e, P e → p ∣ e ψ) : p ∣ u ψ := by
 induction h with
 | zero h => exact h ψ
 | step c he h ih =>
  rename_i u e
  exact dv (Int.dvd_add ih (Int.dvd_trans (hP _ he) (Int.dvd_mul_left _ _))) (show u ψ - c * e ψ + c * e ψ = u ψ by omega)

theorem Gens.untouched {r : Rg} {k : Nat} {δ : Nat → Int} {G : List Mb} (h : Gens r k δ G) {a : Nat} (hu : ∀ x ∈ G, ∀ (h : a < x.v.length), x.v[a] = []) {e : List Int} : ¬ InN r k δ G (a, e) := by
 rintro ⟨v, v1, v2, v3⟩
 obtain ⟨u, hu2, hue⟩ := keyOf_some v3
 obtain ⟨hp2, hn3, hn1, hpr, hck⟩ := h.cx.rg
 have hk := h.cx.k40
 have hl := fv_led (by omega) (v1.vm h.cx) hu2
 have iv := topV_isM (v1.vm h.cx) hu2
 refine hl.1 ?_
 have e1 : fv r v (colN r a u.e) = ev v fun j f => if j = a then colF r (colN r a u.e) j f else 0 := by
  refine LvGo_congr fun i hi t ht => ?_
  rw [Nat.zero_add]
  by_cases hia : i = a
  ·rw [if_pos hia]
  ·rw [if_neg hia]
   refine if_neg fun heq => hia ?_
   exact (colN_eq (r := r) ((v1.vm h.cx).me hi t ht) iv.me (by have := v1.len; omega) (by have := iv.lt; have := v1.len; omega) heq).1
 rw [e1]
 refine v2.at0 fun X ⟨x, hx, m, hm, hd, hX⟩ => ?_
 rw [hX]
 refine dz (LvGo_zero fun i hi t ht => ?_)
 rw [Nat.zero_add]
 show (if i = a then _ else (0 : Int)) = 0
 by_cases hia : i = a
 ·subst hia
  rw [hu x hx hi] at ht
  cases ht
 ·rw [if_neg hia]

theorem tri_closed {n N : Nat} (hn : 1 ≤ n ∧ n ≤ 3) {b : List Int → Bool} (hb : ∀ e m, Mn n e → Mn n m → e.sum + m.sum ≤ N → b (zipE (· + ·) e m) = true → b e = true) {i j k : Nat} (hs : i + j + k ≤ N) (h : triF n b i j k = true) : upb (triF n b) i j k = true := by
 have key : ∀ i' j' k' x y z : Nat, i' + x = i → j' + y = j → k' + z = k → triF n b i' j' k' = true := fun i' j' k' x y z h1 h2 h3 => by
  unfold triF at h ⊢
  refine hb _ (lst n x y z) ?_ ?_ ?_ ?_
  ·obtain hh | hh | hh : n = 1 ∨ n = 2 ∨ n = 3 := by omega
   all_goals
    subst hh
    exact ⟨rfl, by simp [lst]⟩
  ·obtain hh | hh | hh : n = 1 ∨ n = 2 ∨ n = 3 := by omega
   all_goals
    subst hh
    exact ⟨rfl, by simp [lst]⟩
  ·obtain hh | hh | hh : n = 1 ∨ n = 2 ∨ n = 3 := by omega
   all_goals
    subst hh
    simp [lst]
    omega
  ·have : zipE (· + ·) (lst n i' j' k') (lst n x y z) = lst n i j k := by
    obtain hh | hh | hh : n = 1 ∨ n = 2 ∨ n = 3 := by omega
    all_goals
     subst hh
     simp [lst, zipE]
     omega
   rw [this]
   exact h
 unfold upb
 simp only [Bool.and_eq_true, Bool.or_eq_true, beq_iff_eq]
 refine ⟨?_, ?_, ?_⟩
 ·by_cases h0 : i = 0
  ·exact .inl h0
  ·exact .inr (key (i - 1) j k 1 0 0 (by omega) (by omega) (by omega))
 ·by_cases h0 : j = 0
  ·exact .inl h0
  ·exact .inr (key i (j - 1) k 0 1 0 (by omega) (by omega) (by omega))
 ·by_cases h0 : k = 0
  ·exact .inl h0
  ·exact .inr (key i j (k - 1) 0 0 1 (by omega) (by omega) (by omega))

theorem lenK {n k : Nat} {δ : Nat → Int} (hδ : ∀ a, a < k → 0 ≤ δ a) (b : Nat × List Int → Bool) (t : Nat) : ((keysT n k δ (t : Int)).filter b).length = ((List.range k).map fun a => shS (cntM n fun e => b (a, e)) (δ a).toNat t).sum := by
 unfold keysT
 rw [filter_flat]
 congr 1
 refine List.map_congr_left fun a ha => ?_
 have h0 := hδ a (List.mem_range.1 ha)
 rw [List.filter_map, List.length_map]
 unfold shS cntM
 by_cases h : δ a ≤ t
 ·rw [if_pos h, if_pos (by omega), show ((t : Int) - δ a).toNat = t - (δ a).toNat by omega]
  rfl
 ·rw [if_neg h, if_neg (by omega)]
  rfl

theorem cntM_not (n : Nat) (b : List Int → Bool) (t : Nat) : (cntM n fun e => !b e) t + cntM n b t = (cntM n fun _ => true) t := by
 unfold cntM
 induction monosT n t with
 | nil => rfl
 | cons e l ih =>
  simp only [List.filter_cons]
  cases b e <;> simp <;> omega

theorem int_sum {α : Type} (g : α → Nat) : ∀ l : List α, (l.map fun x => (g x : Int)).sum = (((l.map g).sum : Nat) : Int)
 | [] => rfl
 | x :: l => by simp only [List.map_cons, List.sum_cons, int_sum g l]; omega

theorem Gens.last {r : Rg} {k : Nat} {δ : Nat → Int} {G : List Mb} (h : Gens r k δ G) (hs : Small r k δ G) {a : Nat} (ha : a < k) {e : List Int} (he : Mn r.n.toNat e) (h513 : 514 ≤ e.sum + δ a) (h8 : e.sum + δ a ≤ 8000) (hin : InN r k δ G (a, e)) :
  ∃ e' m, Mn r.n.toNat e' ∧ Mn r.n.toNat m ∧ m.sum = 1 ∧ zipE (· + ·) e' m = e ∧ InN r k δ G (a, e') := by
 classical
 obtain ⟨hp2, hn3, hn1, hpr, hck⟩ := h.cx.rg
 have hδ := h.cx.pos
 have hn : 1 ≤ r.n.toNat ∧ r.n.toNat ≤ 3 := by omega
 obtain ⟨bN, hN⟩ : ∃ bN : Nat × List Int → Bool, ∀ y, bN y = true ↔ InN r k δ G y := ⟨fun y => decide (InN r k δ G y), fun y => decide_eq_true_iff⟩
 obtain ⟨bD, hD⟩ : ∃ bD : Nat × List Int → Bool, ∀ y, bD y = true ↔ ¬ Dep r δ G y := ⟨fun y => decide (¬ Dep r δ G y), fun y => decide_eq_true_iff⟩
 have hdg : ∀ i, i < G.length → 0 ≤ dgAt δ G i ∧ dgAt δ G i ≤ 9 := fun i hi => ⟨h.dg0 hi, hs.d9 _ (h.at hi).1⟩
 obtain ⟨c, c6, c1, c2, c3⟩ := low_c (D := (List.range G.length).map (dgAt δ G)) (fun d hd => by
  obtain ⟨i, hi, rfl⟩ := List.mem_map.1 hd
  exact hdg i (List.mem_range.1 hi)) (by rw [List.length_map, List.length_range]; exact hs.m4)
 let PL : List (Nat × (List Int → Bool)) := (List.range k).map fun a => ((δ a).toNat, fun e => !bN (a, e))
 let VL : List (Nat × (List Int → Bool)) := (List.range G.length).map fun i => ((dgAt δ G i).toNat, fun e => bD (i, e))
 let Q : Nat × (List Int → Bool) → Fm := fun x => (x.1, triF r.n.toNat x.2)
 have hF : Fams (PL.map Q) (VL.map Q) c := by
  refine ⟨fun f hf i j k' hsum hx => ?_, fun τ hτ => ?_, fun f hf => ?_, fun f hf => ?_, fun f hf => ?_, ?_, c6⟩
  ·rcases List.mem_append.1 hf with hf | hf
   ·obtain ⟨x, hx2, rfl⟩ := List.mem_map.1 hf
    obtain ⟨b, hb, rfl⟩ := List.mem_map.1 hx2
    have hb0 := hδ b
    refine tri_closed (b := fun e => !bN (b, e)) (i := i) (j := j) (k := k') (N := 8000 - (δ b).toNat) hn (fun e m he hm hle hbe => ?_) (by have : i + j + k' + (δ b).toNat ≤ 8000 := hsum; omega) hx
    cases hc : bN (b, e) with
    | false => rfl
    | true =>
     have g1 := he.sum0
     have g2 := hm.sum0
     have g3 := hs.d6 b (List.mem_range.1 hb)
     have h1 := h.inN_mul hm (by omega) ((hN _).1 hc)
     have h2 := (hN _).2 h1
     rw [h2] at hbe
     cases hbe
   ·obtain ⟨x, hx2, rfl⟩ := List.mem_map.1 hf
    obtain ⟨i', hi', rfl⟩ := List.mem_map.1 hx2
    refine tri_closed (b := fun e => bD (i', e)) (i := i) (j := j) (k := k') (N := 8000) hn (fun e m he hm hle hbe => ?_) (by have : i + j + k' + (dgAt δ G i').toNat ≤ 8000 := hsum; omega) hx
    refine (hD _).2 fun hdep => ?_
    exact (hD _).1 hbe (hdep.mul h he hm)
  ·have key := tri_sums (n := r.n.toNat) hn (fun x : Nat × (List Int → Bool) => x.1) (fun x => x.2) (fun x : Nat × (List Int → Bool) => x.1) (fun x => x.2) (PL ++ VL) ((List.range k).map fun a => ((δ a).toNat, fun _ => true)) τ fun t ht => by
    rw [List.map_append, List.sum_append, List.map_map, List.map_map, List.map_map]
    have hr := h.rank (τ := (t : Int)) (by omega) bD bN hD hN
    rw [lenK (fun a _ => hδ a), lenK (fun i hi => (hdg i hi).1)] at hr
    have e1 : ((List.range k).map fun a => shS (cntM r.n.toNat fun _ => true) (δ a).toNat t).sum = ((List.range k).map fun a => shS (cntM r.n.toNat fun e => !bN (a, e)) (δ a).toNat t).sum + ((List.range k).map fun a => shS (cntM r.n.toNat fun e => bN (a, e)) (δ a).toNat t).sum := by
     rw [← sumNat_plus]
     congr 1
     refine List.map_congr_left fun a _ => ?_
     unfold shS
     split
     ·exact (cntM_not _ _ _).symm
     ·rfl
    show ((List.range k).map fun a => shS (cntM r.n.toNat fun e => !bN (a, e)) (δ a).toNat t).sum + ((List.range G.length).map fun i => shS (cntM r.n.toNat fun e => bD (i, e)) (dgAt δ G i).toNat t).sum = ((List.range k).map fun a => shS (cntM r.n.toNat fun _ => true) (δ a).toNat t).sum
    rw [e1, hr]
   rw [int_sum, int_sum, ← List.map_append, List.map_map, List.map_map]
   have k2 : ((PL ++ VL).map (hilS τ ∘ Q)).sum = (((List.range k).map fun a => ((δ a).toNat, fun _ : List Int => true)).map fun x : Nat × (List Int → Bool) => shS (hil (triF r.n.toNat x.2)) x.1 τ).sum := key
   rw [k2, List.map_map]
   congr 2
   show ((List.range k).map fun a => shS (hil (triF r.n.toNat fun _ => true)) (δ a).toNat τ) = List.map (fullS τ ∘ Q) ((List.range k).map fun a => ((δ a).toNat, fun e => !bN (a, e)))
   rw [List.map_map]
   refine List.map_congr_left fun a _ => ?_
   show (if (δ a).toNat ≤ τ then hil (triF r.n.toNat fun _ => true) (τ - (δ a).toNat) else 0) = if (δ a).toNat ≤ τ then full (τ - (δ a).toNat) else 0
   split
   ·exact hil_full fun i j k _ => rfl
   ·rfl
  ·rcases List.mem_append.1 hf with hf | hf
   ·obtain ⟨x, hx2, rfl⟩ := List.mem_map.1 hf
    obtain ⟨b, hb, rfl⟩ := List.mem_map.1 hx2
    have := hs.d6 b (List.mem_range.1 hb)
    show (δ b).toNat ≤ 9
    omega
   ·obtain ⟨x, hx2, rfl⟩ := List.mem_map.1 hf
    obtain ⟨i', hi', rfl⟩ := List.mem_map.1 hx2
    have := (hdg i' (List.mem_range.1 hi')).2
    show (dgAt δ G i').toNat ≤ 9
    omega
  ·obtain ⟨x, hx2, rfl⟩ := List.mem_map.1 hf
   obtain ⟨b, hb, rfl⟩ := List.mem_map.1 hx2
   by_cases hu : ∀ x ∈ G, ∀ (h : b < x.v.length), x.v[b] = []
   ·refine .inr fun i j k' => ?_
    show (!bN (b, lst r.n.toNat i j k')) = true
    cases hc : bN (b, lst r.n.toNat i j k') with
    | false => rfl
    | true => exact absurd ((hN _).1 hc) (h.untouched hu)
   ·left
    show c ≤ (δ b).toNat
    obtain ⟨x, hx⟩ := Classical.not_forall.1 hu
    obtain ⟨hxG, hx⟩ := Classical.not_forall.1 hx
    obtain ⟨hxl, hx⟩ := Classical.not_forall.1 hx
    have h1 := hs.near x hxG b hxl hx
    rcases c3 with c3 | c3
    ·omega
    ·obtain ⟨i, hi, rfl⟩ := List.getElem_of_mem hxG
     have e : G.getD i default = G[i] := by rw [List.getD_eq_getElem?_getD, List.getElem?_eq_getElem hi]; rfl
     have := c3 (dgAt δ G i) (List.mem_map.2 ⟨i, List.mem_range.2 hi, rfl⟩)
     unfold dgAt at this
     rw [e] at this
     have := hδ b
     omega
  ·obtain ⟨x, hx2, rfl⟩ := List.mem_map.1 hf
   obtain ⟨i', hi', rfl⟩ := List.mem_map.1 hx2
   have := c1 (dgAt δ G i') (List.mem_map.2 ⟨i', hi', rfl⟩)
   show c ≤ (dgAt δ G i').toNat
   omega
  ·rw [List.map_map] at c2 ⊢
   rw [List.map_map]
   have e1 : ((List.range G.length).map (((fun f : Fm => (f.1 : Int) - c) ∘ Q) ∘ fun i => ((dgAt δ G i).toNat, fun e => bD (i, e)))) = (List.range G.length).map ((fun d => d - (c : Int)) ∘ dgAt δ G) := List.map_congr_left fun i hi => by
    have := (hdg i (List.mem_range.1 hi)).1
    show (((dgAt δ G i).toNat : Nat) : Int) - c = dgAt δ G i - c
    omega
   rw [e1]
   exact c2
 -- the term, in three variables
 have hel := he.len
 have hpos := he.pos
 have hδa := hδ a
 have hes := he.sum0
 have hfm : Q ((δ a).toNat, fun e => !bN (a, e)) ∈ PL.map Q := List.mem_map.2 ⟨_, List.mem_map.2 ⟨a, List.mem_range.2 ha, rfl⟩, rfl⟩
 have hbe : bN (a, e) = true := (hN _).2 hin
 have dn : ∀ (i j k' : Nat), lst r.n.toNat i j k' = e → i + j + k' = e.sum.toNat → upb (triF r.n.toNat fun e => !bN (a, e)) i j k' ≠ true := fun i j k' hl hsum hup => by
  have := hF.done (τ := (e.sum + δ a).toNat - 1) (by omega) (by omega) hfm (i := i) (j := j) (k := k') (by show i + j + k' + (δ a).toNat = (e.sum + δ a).toNat - 1 + 1; omega) hup
  have h2 : (!bN (a, lst r.n.toNat i j k')) = true := this
  rw [hl, hbe] at h2
  cases h2
 have up3 : ∀ (i j k' : Nat), upb (triF r.n.toNat fun e => !bN (a, e)) i j k' ≠ true → (i ≠ 0 ∧ bN (a, lst r.n.toNat (i - 1) j k') = true) ∨ (j ≠ 0 ∧ bN (a, lst r.n.toNat i (j - 1) k') = true) ∨ (k' ≠ 0 ∧ bN (a, lst r.n.toNat i j (k' - 1)) = true) := fun i j k' hu => by
  unfold upb triF at hu
  simp only [Bool.and_eq_true, Bool.or_eq_true, beq_iff_eq, Bool.not_eq_true', ne_eq] at hu
  refine Classical.byContradiction fun hno => hu ?_
  simp only [not_or, not_and, Bool.not_eq_true] at hno
  obtain ⟨n1, n2, n3⟩ := hno
  exact ⟨by by_cases h0 : i = 0; exact .inl h0; exact .inr (n1 h0), by by_cases h0 : j = 0; exact .inl h0; exact .inr (n2 h0), by by_cases h0 : k' = 0; exact .inl h0; exact .inr (n3 h0)⟩
 obtain hh | hh | hh : r.n.toNat = 1 ∨ r.n.toNat = 2 ∨ r.n.toNat = 3 := by omega
 ·rw [hh] at hel dn up3 ⊢
  match e, hel, hpos, hbe with
  | [x], _, hpos, hbe =>
   have hx := hpos x (by simp)
   obtain ⟨k', rfl⟩ : ∃ k' : Nat, x = k' := ⟨x.toNat, by omega⟩
   rcases up3 0 0 k' (dn 0 0 k' rfl (by simp)) with ⟨h0, _⟩ | ⟨h0, _⟩ | ⟨h0, h1⟩
   ·exact absurd rfl h0
   ·exact absurd rfl h0
   ·exact ⟨[((k' - 1 : Nat) : Int)], [1], ⟨rfl, by simp⟩, ⟨rfl, by simp⟩, by simp, by simp [zipE]; omega, (hN _).1 h1⟩
 ·rw [hh] at hel dn up3 ⊢
  match e, hel, hpos, hbe with
  | [x, y], _, hpos, hbe =>
   have hx := hpos x (by simp)
   have hy := hpos y (by simp)
   obtain ⟨j', rfl⟩ : ∃ k' : Nat, x = k' := ⟨x.toNat, by omega⟩
   obtain ⟨k', rfl⟩ : ∃ k' : Nat, y = k' := ⟨y.toNat, by omega⟩
   rcases up3 0 j' k' (dn 0 j' k' rfl (by simp; omega)) with ⟨h0, _⟩ | ⟨h0, h1⟩ | ⟨h0, h1⟩
   ·exact absurd rfl h0
   ·exact ⟨[((j' - 1 : Nat) : Int), (k' : Int)], [1, 0], ⟨rfl, by simp⟩, ⟨rfl, by simp⟩, by simp, by simp [zipE]; omega, (hN _).1 h1⟩
   ·exact ⟨[(j' : Int), ((k' - 1 : Nat) : Int)], [0, 1], ⟨rfl, by simp⟩, ⟨rfl, by simp⟩, by simp, by simp [zipE]; omega, (hN _).1 h1⟩
 ·rw [hh] at hel dn up3 ⊢
  match e, hel, hpos, hbe with
  | [x, y, z], _, hpos, hbe =>
   have hx := hpos x (by simp)
   have hy := hpos y (by simp)
   have hz := hpos z (by simp)
   obtain ⟨i', rfl⟩ : ∃ k' : Nat, x = k' := ⟨x.toNat, by omega⟩
   obtain ⟨j', rfl⟩ : ∃ k' : Nat, y = k' := ⟨y.toNat, by omega⟩
   obtain ⟨k', rfl⟩ : ∃ k' : Nat, z = k' := ⟨z.toNat, by omega⟩
   rcases up3 i' j' k' (dn i' j' k' rfl (by simp; omega)) with ⟨h0, h1⟩ | ⟨h0, h1⟩ | ⟨h0, h1⟩
   ·exact ⟨[((i' - 1 : Nat) : Int), (j' : Int), (k' : Int)], [1, 0, 0], ⟨rfl, by simp⟩, ⟨rfl, by simp⟩, by simp, by simp [zipE]; omega, (hN _).1 h1⟩
   ·exact ⟨[(i' : Int), ((j' - 1 : Nat) : Int), (k' : Int)], [0, 1, 0], ⟨rfl, by simp⟩, ⟨rfl, by simp⟩, by simp, by simp [zipE]; omega, (hN _).1 h1⟩
   ·exact ⟨[(i' : Int), (j' : Int), ((k' - 1 : Nat) : Int)], [0, 0, 1], ⟨rfl, by simp⟩, ⟨rfl, by simp⟩, by simp, by simp [zipE]; omega, (hN _).1 h1⟩

theorem Gens.low {r : Rg} {k : Nat} {δ : Nat → Int} {G : List Mb} (h : Gens r k δ G) (hs : Small r k δ G) {a : Nat} (ha : a < k) : ∀ (N : Nat) {e : List Int}, Mn r.n.toNat e → e.sum + δ a ≤ N → e.sum + δ a ≤ 8000 → InN r k δ G (a, e) →
  ∃ e', Mn r.n.toNat e' ∧ goesM e e' = true ∧ e'.sum + δ a ≤ 513 ∧ InN r k δ G (a, e')
 | 0, e, he, hN, h8, hin => ⟨e, he, goes_self _, by omega, hin⟩
 | N + 1, e, he, hN, h8, hin => by
  by_cases h513 : e.sum + δ a ≤ 513
  ·exact ⟨e, he, goes_self _, h513, hin⟩
  ·obtain ⟨e1, m, h1, h2, h3, h4, h5⟩ := h.last hs ha he (by omega) h8 hin
   have hsum : e.sum = e1.sum + 1 := by rw [← h4, h1.sum_add h2, h3]
   obtain ⟨e', g1, g2, g3, g4⟩ := Gens.low h hs ha N h1 (by omega) (by omega) h5
   refine ⟨e', g1, ?_, g3, g4⟩
   have : goesM e e1 = true := by rw [← h4]; exact goes_add (by rw [h1.len, h2.len]) h2.pos
   exact goes_trans (by rw [he.len, h1.len]) (by rw [h1.len, g1.len]) this g2
end
end Go.Proofs.YtfjmdhemlfafbaaGreat
