/-
  The document's DivideOf. No condition.
-/
import Derived.Test.YtcdihmhmoddppaaGreatKRc25
import Derived.Test.YtcdihmhmoddppaaGreatKRc10

namespace Go.Proofs.YtcdihmhmoddppaaGreat
open Go.RowKit
set_option linter.unusedVariables false
set_option linter.unusedSimpArgs false
set_option maxHeartbeats 8000000

/-- A term's cells. -/
abbrev tmCl (t : Tm) : List D := [I t.c, intsD t.e]

/-- The quotients, by what was told. -/
def qOf (r : Rg) (n : Nat) (σ : List (Nat × Tm)) : Vc := σ.foldl (fun q x => q.set x.1 (sumT r.p r.order (q.getD x.1 []) [x.2])) (List.replicate n [])

theorem qOf_snoc (r : Rg) (n : Nat) (σ : List (Nat × Tm)) (i : Nat) (t : Tm) : qOf r n (σ ++ [(i, t)]) = (qOf r n σ).set i (sumT r.p r.order ((qOf r n σ).getD i []) [t]) := by
  unfold qOf
  rw [List.foldl_append]
  rfl

/-- What a function does that is told of a division's steps: own are its blocks, R is what holds of memory behind these steps. -/
structure Told (r : Rg) (l : List Vc) (H0 : Heap) (own : Nat → Prop) (f : FuncId) (caps : List D) (R : List (Nat × Tm) → Heap → Prop) : Prop where
  owned : ∀ c, own c → H0 c ≠ none
  start : R [] H0
  stays : ∀ σ H H', R σ H → (∀ c, own c → H' c = H c) → R σ H'
  call : ∀ σ H i t, R σ H → (∀ c, own c → H c ≠ none) → i < l.length → TB 1 r.p r.n.toNat 8000 t → ME r.n.toNat t.e → CallD Tryz.prog H f (I (i : Nat) :: tmD t :: caps) fun d H' => R (σ ++ [(i, t)]) H' ∧ (∀ c, own c → H' c ≠ none) ∧ ∀ c z, H c = some z → ¬ own c → H' c = some z

def tmsD (v : Vc) : List (List D) := v.map fun f => f.map tmD

theorem tmsD_vc (v : Vc) : D.list 1 ((tmsD v).map (D.list 2)) = vcD v := by
  unfold tmsD vcD
  rw [List.map_map]
  rfl

structure LInv (r : Rg) (rank : Nat) (l : List Vc) (v : Vc) (H0 : Heap) (own : Nat → Prop) (R : List (Nat × Tm) → Heap → Prop) (bL : Nat) (s : DS) (σ : List (Nat × Tm)) (H : Heap) (ds : List D) : Prop where
  at_ : DAt r rank l v s
  rel : R σ H
  q : s.q = qOf r l.length σ
  owned : ∀ c, own c → H c ≠ none
  keep : ∀ c z, H0 c = some z → ¬ own c → H c = some z
  rows : RowsOk (fun c => H0 c ≠ none) H bL 31 50 2 (tmsD s.left) ds

theorem leftOne_pureH {H : Heap} (b at_ k : Nat) (f : Pl) (hH : H b = some (3, [I at_])) (hf : k = at_ → 0 < f.length) : PureH Tryz.prog H 87 [I k, plD f, .ptr b 0] (plD (if k = at_ then f.tail else f)) := by
  refine PureH.of_body Tryz.func87 rfl (by decide) (Nat.le_of_ble_eq_true rfl) fun w0 => ?_
  (repeat (first | refine RO.Sv ?_ | refine RO.Yv ?_ | refine RO.no rfl (by decide) rfl ?_ | refine RO.nil ?_ | refine DW.region ?_ | refine DW.seq ?_ | refine DW.block ?_ | refine DW.skip ?_ | refine DW.exit ?_ | refine DW.condT rfl ?_ | refine DW.condF rfl ?_))
  refine RO.sta (s_loadMut rfl hH rfl) rfl ?_
  (repeat (first | refine RO.Sv ?_ | refine RO.Yv ?_ | refine RO.no rfl (by decide) rfl ?_ | refine RO.nil ?_ | refine DW.region ?_ | refine DW.seq ?_ | refine DW.block ?_ | refine DW.skip ?_ | refine DW.exit ?_ | refine DW.condT rfl ?_ | refine DW.condF rfl ?_))
  by_cases hk : k = at_
  · have hl := hf hk
    rw [if_pos hk, show ((k : Int) == (at_ : Int)) = true by simp; omega]
    (repeat (first | refine RO.Sv ?_ | refine RO.Yv ?_ | refine RO.no rfl (by decide) rfl ?_ | refine RO.nil ?_ | refine DW.region ?_ | refine DW.seq ?_ | refine DW.block ?_ | refine DW.skip ?_ | refine DW.exit ?_ | refine DW.condT rfl ?_ | refine DW.condF rfl ?_))
    refine RO.sta (s_fromM rfl rfl (by omega) (by show (1 : Nat) ≤ f.length; omega)) rfl ?_
    (repeat (first | refine RO.Sv ?_ | refine RO.Yv ?_ | refine RO.no rfl (by decide) rfl ?_ | refine RO.nil ?_ | refine DW.region ?_ | refine DW.seq ?_ | refine DW.block ?_ | refine DW.skip ?_ | refine DW.exit ?_ | refine DW.condT rfl ?_ | refine DW.condF rfl ?_))
    rw [show f.tail = f.drop (Int.toNat 1) by simp]
    exact DW.ret ⟨.inl rfl, _, rfl, Over.refl _, .same _⟩
  · rw [if_neg hk, show ((k : Int) == (at_ : Int)) = false by simp; omega]
    (repeat (first | refine RO.Sv ?_ | refine RO.Yv ?_ | refine RO.no rfl (by decide) rfl ?_ | refine RO.nil ?_ | refine DW.region ?_ | refine DW.seq ?_ | refine DW.block ?_ | refine DW.skip ?_ | refine DW.exit ?_ | refine DW.condT rfl ?_ | refine DW.condF rfl ?_))
    exact DW.ret ⟨.inl rfl, _, rfl, Over.refl _, .same _⟩

theorem cellAt_dv {r : Rg} {l : List Vc} {i j : Nat} (h : i < l.length) : cellAt (l.map (dvD r)) i j = (dvC r l[i])[j]? := by
  unfold cellAt
  rw [List.getElem?_map, List.getElem?_eq_getElem h]
  rfl

theorem VB.by {r : Rg} {n : Nat} {B C : Int} {L : Nat} {v : Vc} {t : Tm} (hp : 1 < r.p) (hpr : Prm r.p) (hv : VB r n B L v) (ht : TB 0 r.p n C t) : VB r n (B + C) L (vbyT r v t) := fun f hf => by
  unfold vbyT at hf
  obtain ⟨g, hg, rfl⟩ := List.mem_map.1 hf
  obtain ⟨g1, g2⟩ := hv g hg
  exact ⟨byT_ok hp hpr g1 ht, Nat.le_trans (byT_length _ _ _) g2⟩

theorem Over.other {H : Heap} {b : Nat} {x : TypeId × List D} (hb : H b = Option.none) : Over H (H.set b x) := (Over.refl H).set hb

theorem left_call {r : Rg} {rank : Nat} {l : List Vc} {v : Vc} {H0 : Heap} {own : Nat → Prop} {f : FuncId} {caps : List D} {R : List (Nat × Tm) → Heap → Prop} (hl : DL r rank l) (hv : VIn r rank v) (ht : Told r l H0 own f caps R) :
    CallD Tryz.prog H0 52 [rgD r, vcD v, dvsD r l, .fn f caps] (fun d H' => d = vcD (divT r rank l v).left ∧ ∃ σ, qOf r l.length σ = (divT r rank l v).q ∧ R σ H' ∧ ∀ c, ¬ own c → H' c = H0 c) := by
  obtain ⟨hp, hn3, hn1, hpr, hck⟩ := hl.rg
  have hrk := hl.rank2
  have hll := hl.len
  have hd : ∀ d ∈ l, VD r r.n.toNat d := fun d hd => (hl.vecs d hd).vd hn3 hrk
  have hvl := hv.len
  refine CallD.of_body Tryz.func52 rfl (by decide) (Nat.le_of_ble_eq_true rfl) fun w0 => ?_
  (repeat (first | refine RO.Sv ?_ | refine RO.Yv ?_ | refine RO.no rfl (by decide) rfl ?_ | refine RO.nil ?_ | refine DW.region ?_ | refine DW.seq ?_ | refine DW.block ?_ | refine DW.skip ?_ | refine DW.exit ?_ | refine DW.condT rfl ?_ | refine DW.condF rfl ?_))
  refine RO.dyn rfl ((opD_call rfl rfl (nought_call v.length (by omega))).mono fun d H1 ⟨bL, hbL, hd1, hH⟩ => ?_)
  subst hd1; subst hH
  (repeat (first | refine RO.Sv ?_ | refine RO.Yv ?_ | refine RO.no rfl (by decide) rfl ?_ | refine RO.nil ?_ | refine DW.region ?_ | refine DW.seq ?_ | refine DW.block ?_ | refine DW.skip ?_ | refine DW.exit ?_ | refine DW.condT rfl ?_ | refine DW.condF rfl ?_))
  have hownL : ∀ c, own c → c ≠ bL := fun c hc e => ht.owned c hc (by rw [e]; exact hbL)
  refine DW.loopG (fun x : DS × List (Nat × Tm) × Heap × List D => LInv r rank l v H0 own R bL x.1 x.2.1 x.2.2.1 x.2.2.2) (fun x => [(1, vcD x.1.v), (2, dvsD r l), (3, .fn f caps), (4, .ipt 4 [rgD r] 0 0), (9, .ref bL 0 v.length 1)]) (fun x => x.2.2.1) (fun x => muT r x.1.v) (divInit rank l v, [], H0.set bL (31, List.replicate v.length .nil), List.replicate v.length .nil)
    ⟨.init hl hv, ht.stays _ _ _ ht.start (fun c hc => Heap.set_other _ _ (hownL c hc)), rfl, fun c hc => by dsimp only; rw [Heap.set_other _ _ (hownL c hc)]; exact ht.owned c hc, fun c z hc _ => Over.other hbL c z hc, by
      rw [show tmsD (divInit rank l v).left = List.replicate v.length [] by simp [tmsD, divInit, hvl]]
      exact .init (Heap.set_self _ _ _)⟩ (Heap.sub_refl _) (by repeat first | exact trivial | refine HasG.one rfl ?_ | refine HasN.one rfl ?_) fun ⟨s, σ, Hk, ds⟩ hi => ?_
  dsimp only at hi ⊢
  have hinv := hi.at_.inv
  have hvd := hinv.vd
  have hsl := hvd.len
  have hsv := hinv.vlen
  (repeat (first | refine RO.Sv ?_ | refine RO.Yv ?_ | refine RO.no rfl (by decide) rfl ?_ | refine RO.nil ?_ | refine DW.region ?_ | refine DW.seq ?_ | refine DW.block ?_ | refine DW.skip ?_ | refine DW.exit ?_ | refine DW.condT rfl ?_ | refine DW.condF rfl ?_))
  refine RO.sta (sta_call rfl rfl (vTop_pure r s.v (n := r.n.toNat) (B := 8000) (L := 512192024001) (by omega) (by omega) (by omega) hvd.vb _)) rfl ?_
  (repeat (first | refine RO.Sv ?_ | refine RO.Yv ?_ | refine RO.no rfl (by decide) rfl ?_ | refine RO.nil ?_ | refine DW.region ?_ | refine DW.seq ?_ | refine DW.block ?_ | refine DW.skip ?_ | refine DW.exit ?_ | refine DW.condT rfl ?_ | refine DW.condF rfl ?_))
  refine RO.dyn rfl (d_alloc fun b10 hb10 => ?_)
  (repeat (first | refine RO.Sv ?_ | refine RO.Yv ?_ | refine RO.no rfl (by decide) rfl ?_ | refine RO.nil ?_ | refine DW.region ?_ | refine DW.seq ?_ | refine DW.block ?_ | refine DW.skip ?_ | refine DW.exit ?_ | refine DW.condT rfl ?_ | refine DW.condF rfl ?_))
  refine RO.dyn rfl (d_alloc fun b11 hb11 => ?_)
  have hne : b10 ≠ b11 := fun e => by rw [← e, Heap.set_self] at hb11; cases hb11
  have hb11' : Hk b11 = none := Heap.none_of_set hne hb11
  (repeat (first | refine RO.Sv ?_ | refine RO.Yv ?_ | refine RO.no rfl (by decide) rfl ?_ | refine RO.nil ?_ | refine DW.region ?_ | refine DW.seq ?_ | refine DW.block ?_ | refine DW.skip ?_ | refine DW.exit ?_ | refine DW.condT rfl ?_ | refine DW.condF rfl ?_))
  refine RO.dyn rfl (d_store (k := 1) rfl rfl rfl (by rw [Heap.set_other _ _ hne, Heap.set_self]) (Nat.le_refl _) (by simp [cellsOf, D.isCell]) ?_)
  (repeat (first | refine RO.Sv ?_ | refine RO.Yv ?_ | refine RO.no rfl (by decide) rfl ?_ | refine RO.nil ?_ | refine DW.region ?_ | refine DW.seq ?_ | refine DW.block ?_ | refine DW.skip ?_ | refine DW.exit ?_ | refine DW.condT rfl ?_ | refine DW.condF rfl ?_))
  refine RO.dyn rfl (d_storeTm (tm := tmOf (topV r s.v)) rfl rfl (by rw [Heap.set_other _ _ hne.symm, Heap.set_self]) rfl ?_)
  refine RO.nil ?_
  refine DW.asH (fun H2 => H2 b10 = some (3, [I (atOf (topV r s.v))]) ∧ H2 b11 = some (50, tmCl (tmOf (topV r s.v))) ∧ Over Hk H2) ⟨by rw [Heap.set_other _ _ hne, Heap.set_self]; rfl, Heap.set_self _ _ _, (((Over.other hb10).set hb11').set hb10).set hb11'⟩ fun H2 ⟨g10, g11, gov⟩ => ?_
  have hown2 : ∀ c, own c → H2 c = Hk c := fun c hc => by
    cases hx : Hk c with
    | none => exact absurd hx (hi.owned c hc)
    | some z => exact gov c z hx
  have hrows := hi.rows.over gov
  have hR2 : R σ H2 := ht.stays _ _ _ hi.rel hown2
  have howned2 : ∀ c, own c → H2 c ≠ none := fun c hc => by rw [hown2 c hc]; exact hi.owned c hc
  have hkeep2 : ∀ c z, H0 c = some z → ¬ own c → H2 c = some z := fun c z hc hn => gov c z (hi.keep c z hc hn)
  have hD2 : ∀ c, H0 c ≠ none → H2 c ≠ none := fun c hc => by
    by_cases ho : own c
    · exact howned2 c ho
    · cases hx : H0 c with
      | none => exact absurd hx hc
      | some z => rw [hkeep2 c z hx ho]; simp
  have hlen := hrows.len
  have hlen2 : (tmsD s.left).length = rank := by simp [tmsD, hinv.llen]
  (repeat (first | refine RO.Sv ?_ | refine RO.Yv ?_ | refine RO.no rfl (by decide) rfl ?_ | refine RO.nil ?_ | refine DW.region ?_ | refine DW.seq ?_ | refine DW.block ?_ | refine DW.skip ?_ | refine DW.exit ?_ | refine DW.condT rfl ?_ | refine DW.condF rfl ?_))
  refine RO.sta (s_loadMut rfl g10 rfl) rfl ?_
  (repeat (first | refine RO.Sv ?_ | refine RO.Yv ?_ | refine RO.no rfl (by decide) rfl ?_ | refine RO.nil ?_ | refine DW.region ?_ | refine DW.seq ?_ | refine DW.block ?_ | refine DW.skip ?_ | refine DW.exit ?_ | refine DW.condT rfl ?_ | refine DW.condF rfl ?_))
  cases hx : topV r s.v with
  | none =>
    rw [hi.at_.done hx]
    (repeat (first | refine RO.Sv ?_ | refine RO.Yv ?_ | refine RO.no rfl (by decide) rfl ?_ | refine RO.nil ?_ | refine DW.region ?_ | refine DW.seq ?_ | refine DW.block ?_ | refine DW.skip ?_ | refine DW.exit ?_ | refine DW.condT rfl ?_ | refine DW.condF rfl ?_))
    refine DW.ret ⟨.inl rfl, _, vcD s.left, fun c => if H0 c ≠ none then H2 c else none, rfl, fun c z hc => ?_, ?_, rfl, σ, hi.q.symm, ?_, fun c hc => ?_⟩
    · dsimp only at hc
      split at hc
      · exact hc
      · cases hc
    · rw [← tmsD_vc]
      exact hrows.frz (by rw [hlen2]; exact hvl) (if_neg (by simpa using hbL)) fun b hb => if_neg hb
    · exact ht.stays _ _ _ hR2 fun c hc => if_pos (ht.owned c hc)
    · dsimp only
      split
      · rename_i h
        cases hz : H0 c with
        | none => exact absurd hz h
        | some z => exact hkeep2 c z hz hc
      · rename_i h
        cases hz : H0 c with
        | none => rfl
        | some z => exact absurd (by rw [hz]; simp) h
  | some x =>
    obtain ⟨a, u⟩ := x
    rw [hx] at g10 g11
    have hat : atOf (some (a, u)) = (a : Int) := rfl
    have hneg : decide ((a : Int) < 0) = false := decide_eq_false (by omega)
    have iv := topV_is hvd hx
    have ha := iv.lt
    rw [hat]
    rw [hat] at g10
    rw [hneg]
    (repeat (first | refine RO.Sv ?_ | refine RO.Yv ?_ | refine RO.no rfl (by decide) rfl ?_ | refine RO.nil ?_ | refine DW.region ?_ | refine DW.seq ?_ | refine DW.block ?_ | refine DW.skip ?_ | refine DW.exit ?_ | refine DW.condT rfl ?_ | refine DW.condF rfl ?_))
    refine RO.sta (s_loadMut rfl g10 rfl) rfl ?_
    refine RO.sta (s_loadMutAgg (ds := tmCl u) rfl g11 rfl rfl) rfl ?_
    refine RO.sta (sta_call rfl rfl (goes_pure r l a u (by omega) hd iv.me _)) rfl ?_
    (repeat (first | refine RO.Sv ?_ | refine RO.Yv ?_ | refine RO.no rfl (by decide) rfl ?_ | refine RO.nil ?_ | refine DW.region ?_ | refine DW.seq ?_ | refine DW.block ?_ | refine DW.skip ?_ | refine DW.exit ?_ | refine DW.condT rfl ?_ | refine DW.condF rfl ?_))
    have ha2 : a < ds.length := by rw [hlen, hlen2, ← hsv]; exact ha
    have ha3 : a < s.left.length := by rw [hinv.llen, ← hsv]; exact ha
    have ha4 : a < (tmsD s.left).length := by rw [hlen2, ← hsv]; exact ha
    have hbLk : Hk bL ≠ none := by rw [hi.rows.row]; simp
    have hL10 : b10 ≠ bL := fun e => hbLk (by rw [← e]; exact hb10)
    have hownN : ∀ c, own c → H0 c ≠ none := ht.owned
    have hbLn : ¬ own bL := fun h => ht.owned bL h hbL
    cases hg : goesT r l a u.e with
    | none =>
      obtain ⟨n1, n2⟩ := hi.at_.stepA hl hx hg
      obtain ⟨l1, l2⟩ := hinv.left a ha3
      have hlong := len_le8 l1 l2 hn3 (degB_range r (by omega)).2
      have hta : (tmsD s.left)[a] = s.left[a].map tmD := by simp [tmsD]
      (repeat (first | refine RO.Sv ?_ | refine RO.Yv ?_ | refine RO.no rfl (by decide) rfl ?_ | refine RO.nil ?_ | refine DW.region ?_ | refine DW.seq ?_ | refine DW.block ?_ | refine DW.skip ?_ | refine DW.exit ?_ | refine DW.condT rfl ?_ | refine DW.condF rfl ?_))
      have hHs : Over (Heap.set (fun _ => none) b10 (3, [I a])) H2 := fun c z hc => by
        by_cases h : c = b10
        · subst h; rw [Heap.set_self] at hc; rw [← hc]; exact g10
        · rw [Heap.set_other _ _ h] at hc; cases hc
      refine DW.drawX [0, 1, 2, 3, 4, 5, 6, 7] [0, 1] (Heap.set (fun _ => none) b10 (3, [I a])) Tryz.mixed (by kernel_rfl) hHs ?_
      (repeat (first | refine RX.A ?_ | refine RX.nil ?_))
      refine RX.fre hHs (fun H' hs => s_loadMut rfl (hs _ _ (Heap.set_self _ _ _)) rfl) rfl ?_
      (repeat (first | refine RX.A ?_ | refine RX.nil ?_))
      refine RX.sta rfl (r_loadMut rfl g10 rfl) rfl ?_
      refine RX.any (fun H' => s_indexRef (i := a) rfl rfl (by omega)) rfl ?_
      refine RX.sta rfl (r_loadMut (d := ds[a]) rfl hrows.row (by rw [show 0 + a * 1 = a by omega, List.getElem?_eq_getElem ha2])) rfl ?_
      refine RX.sta rfl (r_loadMutAgg (ds := tmCl u) rfl g11 rfl rfl) rfl ?_
      (repeat (first | refine RX.A ?_ | refine RX.nil ?_))
      refine RY.dyn rfl (d_append (H0 := butBlk H2 ds[a]) (l := (tmsD s.left)[a]) (xs := [tmD u]) rfl (hrows.acc ha2 ha4) (butBlk_over _ _) rfl (.inl rfl) (uni_tm [u]) (by rw [hta, List.length_map]; simp; omega) (by rw [hta, List.length_map]; simp; omega) fun d' H' q1 q2 q3 => ?_)
      have hov' : Over (Heap.set (fun _ => none) b10 (3, [I a])) H' := fun c z hc => by
        by_cases h : c = b10
        · subst h; exact q3 _ _ (hHs _ _ hc) fun hb => (hi.rows.blk ha2 hb).2.2 hb10
        · rw [Heap.set_other _ _ h] at hc; cases hc
      refine ⟨hov', ?_⟩
      have hHL : H' bL = some (31, ds) := q3 _ _ hrows.row fun hb => (hrows.blk ha2 hb).2.1 rfl
      refine RY.sta hov' (s_indexRef (i := a) rfl rfl (by omega)) rfl ?_
      refine RY.dyn rfl (d_store (k := 1) rfl rfl (by rw [q1.cell.1]; rfl) hHL (by rw [q1.cell.1]; show 0 + a * 1 + 1 ≤ ds.length; omega) (by rw [q1.cell.1]; intro z hz; rw [List.mem_singleton.1 hz]; exact q1.cell.2) ⟨hov'.set (by rw [Heap.set_other _ _ hL10.symm]), ?_⟩)
      refine RY.nil ?_
      have hset : setMany ds (0 + a * 1) (cellsOf d') = ds.set a d' := by rw [show 0 + a * 1 = a by omega]; exact setManyD ds a d' q1.cell.1 ha2
      rw [hset]
      have hrows2 := hrows.put hD2 ha2 q1 (fun b hb => by
        unfold butBlk at hb
        split at hb
        · exact .inr (by assumption)
        · exact .inl hb) q3
      have hpres : ∀ c z, H2 c = some z → c ≠ bL → ds[a].blk ≠ some c → (H'.set bL (31, ds.set a d')) c = some z := fun c z hc hne2 hbk => by rw [Heap.set_other _ _ hne2]; exact q3 c z hc hbk
      have hnb : ∀ c, H0 c ≠ none → ds[a].blk ≠ some c := fun c hc hb => (hrows.blk ha2 hb).1 hc
      have g10' : (H'.set bL (31, ds.set a d')) b10 = some (3, [I a]) := hpres _ _ g10 hL10 fun hb => (hi.rows.blk ha2 hb).2.2 hb10
      generalize hH3 : H'.set bL (31, ds.set a d') = H3 at *
      have hsa : (stepA s a u).left = s.left.set a (s.left[a] ++ [u]) := by
        unfold stepA
        rw [List.getD_eq_getElem?_getD, List.getD_eq_getElem?_getD, List.getElem?_eq_getElem ha3]; rfl
      have hva : (s.v.getD a []).tail = s.v[a].tail := by rw [List.getD_eq_getElem?_getD, List.getElem?_eq_getElem ha]; rfl
      have hown3 : ∀ c, own c → H3 c = H2 c := fun c hc => by
        cases hz : H2 c with
        | none => exact absurd hz (howned2 c hc)
        | some z => exact hpres c z hz (hownL c hc) (hnb c (ht.owned c hc))
      (repeat (first | refine RO.Sv ?_ | refine RO.Yv ?_ | refine RO.no rfl (by decide) rfl ?_ | refine RO.nil ?_ | refine DW.region ?_ | refine DW.seq ?_ | refine DW.block ?_ | refine DW.skip ?_ | refine DW.exit ?_ | refine DW.condT rfl ?_ | refine DW.condF rfl ?_))
      refine RO.sta (sta_call rfl rfl (vEach_pureH s.v (s.v.set a (s.v.getD a []).tail) (by omega) (by simp) fun H'' hov'' i h1 h2 => ?_)) rfl ?_
      · have := leftOne_pureH (H := H'') b10 a i s.v[i] (hov'' _ _ g10') (fun e => by
          obtain ⟨f', hf'⟩ := iv.at_
          subst e
          rw [hf']; simp)
        have he : (s.v.set a (s.v.getD a []).tail)[i] = if i = a then s.v[i].tail else s.v[i] := by
          rw [List.getElem_set]
          by_cases hia : i = a
          · subst hia; rw [if_pos rfl, if_pos rfl, hva]
          · rw [if_neg hia, if_neg fun e => hia e.symm]
        rw [he]
        exact this
      (repeat (first | refine RO.Sv ?_ | refine RO.Yv ?_ | refine RO.no rfl (by decide) rfl ?_ | refine RO.nil ?_ | refine DW.region ?_ | refine DW.seq ?_ | refine DW.block ?_ | refine DW.skip ?_ | refine DW.exit ?_ | refine DW.condT rfl ?_ | refine DW.condF rfl ?_))
      refine ⟨(stepA s a u, σ, H3, ds.set a d'), ⟨n1, ht.stays _ _ _ hR2 hown3, hi.q, fun c hc => by dsimp only; rw [hown3 c hc]; exact howned2 c hc, fun c z hc hn => hpres c z (hkeep2 c z hc hn) (fun e => by rw [e, hbL] at hc; cases hc) (hnb c (by rw [hc]; simp)), ?_⟩, n2, Heap.sub_refl _, (by repeat first | exact trivial | refine HasG.one rfl ?_ | refine HasN.one rfl ?_)⟩
      dsimp only
      rw [hsa, show tmsD (s.left.set a (s.left[a] ++ [u])) = (tmsD s.left).set a ((tmsD s.left)[a] ++ [tmD u]) by simp [tmsD, List.map_set]]
      exact hrows2
    | some i =>
      have hgi : goIdx (some i) = (i : Int) := rfl
      have hneg2 : decide ((i : Int) < 0) = false := decide_eq_false (by omega)
      rw [hgi, hneg2]
      obtain ⟨n1, n2, hil, w, htd, hgm, hby, tb, me⟩ := stepB_ok hl hi.at_.inv hx hg
      have hdi := hd _ (List.getElem_mem hil)
      have hdl := (hl.vecs _ (List.getElem_mem hil))
      have iw := topV_is hdi htd
      obtain ⟨fu, hfu⟩ := iv.at_
      obtain ⟨fw, hfw⟩ := iw.at_
      have tu : TB 1 r.p r.n.toNat 8000 u := (hvd.all a ha).all u (by rw [hfu]; simp)
      have tw : TB 1 r.p r.n.toNat 8000 w := (hdi.all a iw.lt).all w (by rw [hfw]; simp)
      have hu1 := tu.lo
      have hu2 := tu.hi
      have hw1 := tw.lo
      have hw2 := tw.hi
      have htr := turnP_in hp.1 w.c
      have hmul : 0 ≤ u.c * turnP r.p w.c ∧ u.c * turnP r.p w.c ≤ 101 * 101 := ⟨Int.mul_nonneg (by omega) htr.1, Int.mul_le_mul (by omega) (by omega) htr.1 (by omega)⟩
      have hdc : dvC r l[i] = [vcD l[i], I (a : Int), I w.c, intsD w.e] := by unfold dvC; rw [htd]; rfl
      have hload : ∀ (j : Nat) (d : D), [vcD l[i], I (a : Int), I w.c, intsD w.e][j]? = some d → cellAt (l.map (dvD r)) i j = some d := fun j d h => by rw [cellAt_dv hil, hdc]; exact h
      have hlen3 : u.e.length = w.e.length := by rw [iv.me.len, iw.me.len]
      (repeat (first | refine RO.Sv ?_ | refine RO.Yv ?_ | refine RO.no rfl (by decide) rfl ?_ | refine RO.nil ?_ | refine DW.region ?_ | refine DW.seq ?_ | refine DW.block ?_ | refine DW.skip ?_ | refine DW.exit ?_ | refine DW.condT rfl ?_ | refine DW.condF rfl ?_))
      refine DW.drawA 25 Tryz.mixed (by kernel_rfl) rfl rfl ?_
      dsimp only [List.take, List.drop]
      (repeat (first | refine RS.Sv ?_ | refine RS.Yv ?_ | refine RS.no rfl (by decide) rfl ?_ | refine RS.nil ?_))
      refine RS.sta (r_loadMut (d := I u.c) rfl g11 rfl) rfl ?_
      (repeat (first | refine RS.Sv ?_ | refine RS.Yv ?_ | refine RS.no rfl (by decide) rfl ?_ | refine RS.nil ?_))
      refine RS.sta (fun H' hov => s_load rfl (hload _ (I w.c) rfl)) rfl ?_
      refine RS.sta (fun H' hov => sta_call rfl rfl (turn_pure r.p w.c hp.1 hp.2 (by omega) hw2 _)) rfl ?_
      (repeat (first | refine RS.Sv ?_ | refine RS.Yv ?_ | refine RS.no rfl (by decide) rfl ?_ | refine RS.nil ?_))
      refine RS.sta (r_loadMut (d := intsD u.e) rfl g11 rfl) rfl ?_
      (repeat (first | refine RS.Sv ?_ | refine RS.Yv ?_ | refine RS.no rfl (by decide) rfl ?_ | refine RS.nil ?_))
      refine RS.sta (fun H' hov => s_load rfl (hload _ (intsD w.e) rfl)) rfl ?_
      refine RS.sta (fun H' hov => sta_call rfl rfl (Quotient_pure (tu.mok hn3 (by omega)) (tw.mok hn3 (by omega)) hlen3 _)) rfl ?_
      refine RS.sta (fun H' hov => s_buildT (out := [I (byOf r u w).c, intsD (byOf r u w).e]) rfl rfl) rfl ?_
      refine RS.nil ?_
      intro b13 hb13
      refine RO.dyn rfl (d_storeTm (tm := byOf r u w) rfl rfl (Heap.set_self _ _ _) rfl ?_)
      rw [Heap.set_set]
      have hown3 : ∀ c, own c → (H2.set b13 (50, tmCl (byOf r u w))) c = H2 c := fun c hc => Heap.set_other _ _ fun e => howned2 c hc (by rw [e]; exact hb13)
      have hn13 : ¬ own b13 := fun h => howned2 b13 h hb13
      (repeat (first | refine RO.Sv ?_ | refine RO.Yv ?_ | refine RO.no rfl (by decide) rfl ?_ | refine RO.nil ?_ | refine DW.region ?_ | refine DW.seq ?_ | refine DW.block ?_ | refine DW.skip ?_ | refine DW.exit ?_ | refine DW.condT rfl ?_ | refine DW.condF rfl ?_))
      refine RO.dyn rfl ((opD_call rfl rfl (ht.call σ _ i (byOf r u w) (ht.stays _ _ _ hR2 hown3) (fun c hc => by rw [hown3 c hc]; exact howned2 c hc) hil tb me)).mono fun dr H4 ⟨hR4, hown4, hfr4⟩ => ?_)
      have g13 : H4 b13 = some (50, tmCl (byOf r u w)) := hfr4 _ _ (Heap.set_self _ _ _) hn13
      have hpres : ∀ c z, H2 c = some z → ¬ own c → H4 c = some z := fun c z hc hn => hfr4 c z (Over.other hb13 c z hc) hn
      have tb1 := tb.lo
      have tb2 := tb.hi
      have tn := (negT_ok tb).zero
      (repeat (first | refine RO.Sv ?_ | refine RO.Yv ?_ | refine RO.no rfl (by decide) rfl ?_ | refine RO.nil ?_ | refine DW.region ?_ | refine DW.seq ?_ | refine DW.block ?_ | refine DW.skip ?_ | refine DW.exit ?_ | refine DW.condT rfl ?_ | refine DW.condF rfl ?_))
      refine DW.drawS 18 Tryz.mixed (by kernel_rfl) (by decide) ?_
      dsimp only [List.take, List.drop]
      (repeat (first | refine RS.Sv ?_ | refine RS.Yv ?_ | refine RS.no rfl (by decide) rfl ?_ | refine RS.nil ?_))
      refine RS.sta (fun H' hov => s_load rfl (hload _ (vcD l[i]) rfl)) rfl ?_
      (repeat (first | refine RS.Sv ?_ | refine RS.Yv ?_ | refine RS.no rfl (by decide) rfl ?_ | refine RS.nil ?_))
      refine RS.sta (r_loadMut (d := I (byOf r u w).c) rfl g13 rfl) rfl ?_
      (repeat (first | refine RS.Sv ?_ | refine RS.Yv ?_ | refine RS.no rfl (by decide) rfl ?_ | refine RS.nil ?_))
      refine RS.sta (r_loadMut (d := intsD (byOf r u w).e) rfl g13 rfl) rfl ?_
      refine RS.sta (fun H' hov => s_buildT (out := [I (negT r (byOf r u w)).c, intsD (negT r (byOf r u w)).e]) rfl rfl) rfl ?_
      refine RS.sta (fun H' hov => sta_call rfl rfl (vBy_pure r l[i] (negT r (byOf r u w)) (n := r.n.toNat) (B := 8000) (C := 8000) (L := 512192024001) hn3 (by omega) (by omega) hp (by have := hdi.len; omega) (by omega) hdi.vb tn _)) rfl ?_
      refine RS.sta (fun H' hov => sta_call rfl rfl (vSum_pure r s.v (vbyT r l[i] (negT r (byOf r u w))) (n := r.n.toNat) (B := 16000) (L := 512192024001) (M := 512192024001) hn3 (by omega) hp (by omega) (by rw [hsv]; simp [vbyT, hdl.len]) (by omega) (hvd.vb.mono (by omega) (Nat.le_refl _)) (VB.by (by omega) hpr hdi.vb tn) _)) rfl ?_
      refine RS.nil ?_
      have hvs : (stepB r l s u i).v = vsumT r s.v (vbyT r l[i] (negT r (byOf r u w))) := by
        unfold stepB
        rw [hby, List.getD_eq_getElem?_getD, List.getElem?_eq_getElem hil]; rfl
      have hqs : (stepB r l s u i).q = qOf r l.length (σ ++ [(i, byOf r u w)]) := by
        rw [qOf_snoc, ← hi.q]
        unfold stepB
        rw [hby]
      rw [← hvs]
      (repeat (first | refine RO.Sv ?_ | refine RO.Yv ?_ | refine RO.no rfl (by decide) rfl ?_ | refine RO.nil ?_ | refine DW.region ?_ | refine DW.seq ?_ | refine DW.block ?_ | refine DW.skip ?_ | refine DW.exit ?_ | refine DW.condT rfl ?_ | refine DW.condF rfl ?_))
      refine ⟨(stepB r l s u i, σ ++ [(i, byOf r u w)], H4, ds), ⟨(hi.at_.stepB hl hx hg).1, hR4, hqs, hown4, fun c z hc hn => hpres c z (hkeep2 c z hc hn) hn, ?_⟩, n2, Heap.sub_refl _, (by repeat first | exact trivial | refine HasG.one rfl ?_ | refine HasN.one rfl ?_)⟩
      exact hrows.frame fun c z hc hh => hpres c z hc (hh.elim (fun e => by rw [e]; exact hbLn) fun hn ho => hn (ht.owned c ho))

end Go.Proofs.YtcdihmhmoddppaaGreat

namespace Go.Proofs.YtcdihmhmoddppaaGreat
open Go.RowKit
set_option linter.unusedVariables false
set_option linter.unusedSimpArgs false
set_option maxHeartbeats 8000000

/-- What Normal answers. -/
def normE (r : Rg) (rank : Int) (v : Vc) (l : List Vc) : Bool × Int := if readyCk r rank v l ≠ 0 then (false, readyCk r rank v l) else (normalT r l v, 0)
def boolE (x : Bool × Int) : D := .tup [.bool x.1, I x.2]

end Go.Proofs.YtcdihmhmoddppaaGreat

namespace Go.Proofs.YtcdihmhmoddppaaGreat
open Go.RowKit
set_option linter.unusedVariables false
set_option linter.unusedSimpArgs false
set_option maxHeartbeats 8000000

instance : ElT Tryz.prog 32 1 [.nil] 24 := .of (z := .slice none 0 0) (by kernel_rfl) rfl rfl rfl (by decide)
instance : SizeT Tryz.prog 32 1 := .of (by kernel_rfl)

theorem set_map_pl (q : Vc) (i : Nat) (f : Pl) (h : i < q.length) : setMany (q.map plD) (0 + i * 1) (cellsOf (plD f)) = (q.set i f).map plD := by
  rw [show 0 + i * 1 = i by omega, setManyD _ _ _ rfl (by simpa using h), List.map_set]

/-- What Divide's function has written. -/
structure DvR (r : Rg) (n bv bq : Nat) (σ : List (Nat × Tm)) (H : Heap) : Prop where
  var : H bv = some (32, [.ref bq 0 n 1])
  row : H bq = some (31, (qOf r n σ).map plD)
  len : (qOf r n σ).length = n
  all : ∀ f ∈ qOf r n σ, PB 1 r.p r.order r.n.toNat 8000 f ∧ DB 8000 f

def divE (x : Vc × Vc × Int) : D := .tup [vcD x.1, vcD x.2.1, I x.2.2]

theorem vgreat_any (v : Vc) : vgreatT v = v.any greatT := rfl

end Go.Proofs.YtcdihmhmoddppaaGreat

namespace Go.Proofs.YtcdihmhmoddppaaGreat
open Go.RowKit
set_option linter.unusedVariables false
set_option linter.unusedSimpArgs false
set_option maxHeartbeats 8000000

theorem inv_all : ((List.range 102).all fun p => ckP (p : Int) != 0 || ((List.range p).all fun a => a == 0 || (invT p a == turnP p a))) = true := by decide +kernel

theorem invT_turn {p a : Int} (hp : ckP p = 0) (h0 : 0 < a) (h1 : a < p) : invT p a = turnP p a := by
  have h2 := ckP_ok hp
  obtain ⟨q, rfl⟩ := Int.eq_ofNat_of_zero_le (show 0 ≤ p by omega)
  obtain ⟨b, rfl⟩ := Int.eq_ofNat_of_zero_le (show 0 ≤ a by omega)
  have h3 := List.all_eq_true.1 inv_all q (List.mem_range.2 (by omega))
  rw [hp] at h3
  have h4 : ((List.range q).all fun a => a == 0 || (invT q a == turnP q a)) = true := h3
  have h5 := List.all_eq_true.1 h4 b (List.mem_range.2 (by omega))
  simp only [Bool.or_eq_true, beq_iff_eq] at h5
  exact h5.resolve_left (by omega)

/-- What is taken away with the lead. -/
def awayT (r : Rg) (m a : Nat) (u : Tm) : Vc := (List.replicate m []).set a [negT r u]

theorem vsum_away {r : Rg} {v : Vc} {a : Nat} {u : Tm} {f : Pl} (ha : a < v.length) (hf : v[a] = u :: f) (hp : 0 < r.p) : vsumT r v (awayT r v.length a u) = v.set a (v.getD a []).tail := by
  have hg : (v.getD a []).tail = f := by rw [List.getD_eq_getElem?_getD, List.getElem?_eq_getElem ha]; show (v[a]).tail = f; rw [hf]; rfl
  rw [hg]
  refine List.ext_getElem (by simp [vsumT, awayT]) fun i h1 h2 => ?_
  have hi : i < v.length := by simpa using h2
  have e1 : (vsumT r v (awayT r v.length a u))[i] = sumT r.p r.order v[i] (if a = i then [negT r u] else []) := by
    simp only [vsumT, awayT, List.getElem_zipWith]
    rw [List.getElem_set]
    simp
  rw [e1, List.getElem_set]
  by_cases hia : a = i
  · subst hia
    rw [if_pos rfl, if_pos rfl, hf, sumT_cancel (u := u) (v := negT r u) rfl (by show (u.c + (r.p - u.c)) % r.p = 0; rw [show u.c + (r.p - u.c) = r.p by omega]; exact Int.emod_self), sumT_nil']
  · rw [if_neg hia, if_neg hia, sumT_nil']

structure DOInv (r : Rg) (rank : Nat) (l : List Vc) (v : Vc) (H0 : Heap) (bq bL : Nat) (s : DS) (H : Heap) (ds : List D) : Prop where
  at_ : DAt r rank l v s
  row : H bq = some (31, s.q.map plD)
  keep : Over H0 H
  rows : RowsOk (fun c => H0 c ≠ none ∨ c = bq) H bL 31 50 2 (tmsD s.left) ds

def divPairD (s : DS) : D := .tup [vcD s.q, vcD s.left]

theorem DivideOf_pure (r : Rg) {rank : Nat} (v : Vc) (l : List Vc) (hl : DL r rank l) (hv : VIn r rank v) : Pure Tryz.prog 24 [rgD r, vcD v, vcsD l] (divPairD (divT r rank l v)) := by
  intro H0
  obtain ⟨hp, hn3, hn1, hpr, hck⟩ := hl.rg
  have hrk := hl.rank2
  have hll := hl.len
  have hd : ∀ d ∈ l, VD r r.n.toNat d := fun d hd => (hl.vecs d hd).vd hn3 hrk
  have hvl := hv.len
  refine PureH.of_body Tryz.func24 rfl (by decide) (Nat.le_of_ble_eq_true rfl) fun w0 => ?_
  (repeat (first | refine RO.Sv ?_ | refine RO.Yv ?_ | refine RO.no rfl (by decide) rfl ?_ | refine RO.nil ?_ | refine DW.region ?_ | refine DW.seq ?_ | refine DW.block ?_ | refine DW.skip ?_ | refine DW.exit ?_ | refine DW.condT rfl ?_ | refine DW.condF rfl ?_))
  refine RO.dyn rfl (d_make rfl rfl (Nat.le_refl _) (by omega) (by omega) fun bq hbq => ?_)
  rw [flatten_replicate1]
  (repeat (first | refine RO.Sv ?_ | refine RO.Yv ?_ | refine RO.no rfl (by decide) rfl ?_ | refine RO.nil ?_ | refine DW.region ?_ | refine DW.seq ?_ | refine DW.block ?_ | refine DW.skip ?_ | refine DW.exit ?_ | refine DW.condT rfl ?_ | refine DW.condF rfl ?_))
  refine RO.dyn rfl (d_make rfl rfl (Nat.le_refl _) (by omega) (by omega) fun bL hbL => ?_)
  rw [flatten_replicate1]
  have hneL : bq ≠ bL := fun e => by rw [← e, Heap.set_self] at hbL; cases hbL
  have hbL' : H0 bL = none := Heap.none_of_set hneL hbL
  (repeat (first | refine RO.Sv ?_ | refine RO.Yv ?_ | refine RO.no rfl (by decide) rfl ?_))
  refine RO.nil ?_
  refine DW.seeCells ((List.replicate l.length []).map plD) (by rw [Heap.set_other _ _ hneL, Heap.set_self]) (by simp) (fun j x x' hx hx' => by
    have hj : j < l.length := by have := (List.getElem?_eq_some_iff.1 hx).1; simpa using this
    rw [List.getElem?_replicate, if_pos hj] at hx
    rw [List.getElem?_map, List.getElem?_replicate, if_pos hj] at hx'
    cases hx; cases hx'
    exact ⟨rfl, .inr ⟨rfl, 2, rfl⟩⟩) ?_
  refine DW.asH (fun H2 => DOInv r rank l v H0 bq bL (divInit rank l v) H2 (List.replicate v.length .nil)) ⟨.init hl hv, Heap.set_self _ _ _, fun c z hc => by
    have c1 : c ≠ bq := fun e => by rw [e, hbq] at hc; cases hc
    have c2 : c ≠ bL := fun e => by rw [e, hbL'] at hc; cases hc
    rw [Heap.set_other _ _ c1, Heap.set_other _ _ c2, Heap.set_other _ _ c1]; exact hc, by
    rw [show tmsD (divInit rank l v).left = List.replicate v.length [] by simp [tmsD, divInit, hvl]]
    exact .init (by rw [Heap.set_other _ _ hneL.symm, Heap.set_self])⟩ fun H2 hinit => ?_
  (repeat (first | refine RO.Sv ?_ | refine RO.Yv ?_ | refine RO.no rfl (by decide) rfl ?_ | refine RO.nil ?_ | refine DW.region ?_ | refine DW.seq ?_ | refine DW.block ?_ | refine DW.skip ?_ | refine DW.exit ?_ | refine DW.condT rfl ?_ | refine DW.condF rfl ?_))
  refine DW.loopG (fun x : DS × Heap × List D => DOInv r rank l v H0 bq bL x.1 x.2.1 x.2.2) (fun x => [(1, vcD x.1.v), (2, vcsD l), (3, .ipt 4 [rgD r] 0 0), (8, .ref bq 0 l.length 1), (9, .ref bL 0 v.length 1)]) (fun x => x.2.1) (fun x => muT r x.1.v) (divInit rank l v, H2, List.replicate v.length .nil)
    hinit (Heap.sub_refl _) (by repeat first | exact trivial | refine HasG.one rfl ?_ | refine HasN.one rfl ?_) fun ⟨s, Hk, ds⟩ hi => ?_
  dsimp only at hi ⊢
  clear hinit
  have hinv := hi.at_.inv
  have hvd := hinv.vd
  have hsl := hvd.len
  have hsv := hinv.vlen
  have hql := hinv.qlen
  (repeat (first | refine RO.Sv ?_ | refine RO.Yv ?_ | refine RO.no rfl (by decide) rfl ?_ | refine RO.nil ?_ | refine DW.region ?_ | refine DW.seq ?_ | refine DW.block ?_ | refine DW.skip ?_ | refine DW.exit ?_ | refine DW.condT rfl ?_ | refine DW.condF rfl ?_))
  refine RO.sta (sta_call rfl rfl (LeadOf_pure r s.v (n := r.n.toNat) (B := 8000) (L := 512192024001) (by omega) (by omega) (by omega) (by omega) hvd.vb _)) rfl ?_
  (repeat (first | refine RO.Sv ?_ | refine RO.Yv ?_ | refine RO.no rfl (by decide) rfl ?_ | refine RO.nil ?_ | refine DW.region ?_ | refine DW.seq ?_ | refine DW.block ?_ | refine DW.skip ?_ | refine DW.exit ?_ | refine DW.condT rfl ?_ | refine DW.condF rfl ?_))
  refine RO.dyn rfl (d_alloc fun b11 hb11 => ?_)
  (repeat (first | refine RO.Sv ?_ | refine RO.Yv ?_ | refine RO.no rfl (by decide) rfl ?_ | refine RO.nil ?_ | refine DW.region ?_ | refine DW.seq ?_ | refine DW.block ?_ | refine DW.skip ?_ | refine DW.exit ?_ | refine DW.condT rfl ?_ | refine DW.condF rfl ?_))
  refine RO.dyn rfl (d_storeTm (tm := tmOf (topV r s.v)) rfl rfl (Heap.set_self _ _ _) rfl ?_)
  rw [Heap.set_set]
  refine RO.nil ?_
  refine DW.asH (fun H2 => H2 b11 = some (50, tmCl (tmOf (topV r s.v))) ∧ Over Hk H2) ⟨Heap.set_self _ _ _, Over.other hb11⟩ fun H2 ⟨g11, gov⟩ => ?_
  have hrows := hi.rows.over gov
  have hkeep2 : Over H0 H2 := fun c z hc => gov _ _ (hi.keep c z hc)
  have hrow2 := gov _ _ hi.row
  have hD2 : ∀ c, (H0 c ≠ none ∨ c = bq) → H2 c ≠ none := fun c hc => by
    rcases hc with hc | rfl
    · cases hx : H0 c with
      | none => exact absurd hx hc
      | some z => rw [hkeep2 c z hx]; simp
    · rw [hrow2]; simp
  have hlen := hrows.len
  have hlen2 : (tmsD s.left).length = rank := by simp [tmsD, hinv.llen]
  (repeat (first | refine RO.Sv ?_ | refine RO.Yv ?_ | refine RO.no rfl (by decide) rfl ?_ | refine RO.nil ?_ | refine DW.region ?_ | refine DW.seq ?_ | refine DW.block ?_ | refine DW.skip ?_ | refine DW.exit ?_ | refine DW.condT rfl ?_ | refine DW.condF rfl ?_))
  cases hx : topV r s.v with
  | none =>
    rw [hi.at_.done hx]
    (repeat (first | refine RO.Sv ?_ | refine RO.Yv ?_ | refine RO.no rfl (by decide) rfl ?_ | refine RO.nil ?_ | refine DW.region ?_ | refine DW.seq ?_ | refine DW.block ?_ | refine DW.skip ?_ | refine DW.exit ?_ | refine DW.condT rfl ?_ | refine DW.condF rfl ?_))
    refine DW.ret ⟨.inl rfl, _, rfl, hkeep2, .tup2 (Frz.list (T := 31) (by rw [hrow2, flat_cells1 (fun _ => rfl)]) hbq (uni_pl _) (by simp [hql])) ?_⟩
    rw [← tmsD_vc]
    exact hrows.frz (by rw [hlen2]; exact hvl) hbL' fun b hb => by
      cases hz : H0 b with
      | none => rfl
      | some z => exact absurd (.inl (by rw [hz]; simp)) hb
  | some x =>
    obtain ⟨a, u⟩ := x
    rw [hx] at g11
    have hat : atOf (some (a, u)) = (a : Int) := rfl
    have hneg : decide ((a : Int) < 0) = false := decide_eq_false (by omega)
    have iv := topV_is hvd hx
    have ha := iv.lt
    obtain ⟨fu, hfu⟩ := iv.at_
    have tu : TB 1 r.p r.n.toNat 8000 u := (hvd.all a ha).all u (by rw [hfu]; simp)
    have hu1 := tu.lo
    have hu2 := tu.hi
    rw [hat, hneg]
    (repeat (first | refine RO.Sv ?_ | refine RO.Yv ?_ | refine RO.no rfl (by decide) rfl ?_ | refine RO.nil ?_ | refine DW.region ?_ | refine DW.seq ?_ | refine DW.block ?_ | refine DW.skip ?_ | refine DW.exit ?_ | refine DW.condT rfl ?_ | refine DW.condF rfl ?_))
    refine RO.dyn rfl (d_make rfl rfl (Nat.le_refl _) (by omega) (by omega) fun b12 hb12 => ?_)
    rw [flatten_replicate1]
    (repeat (first | refine RO.Sv ?_ | refine RO.Yv ?_ | refine RO.no rfl (by decide) rfl ?_))
    refine RO.nil ?_
    refine DW.seeCells ((List.replicate s.v.length []).map plD) (Heap.set_self _ _ _) (by simp) (fun j x x' hx hx' => by
      have hj : j < s.v.length := by have := (List.getElem?_eq_some_iff.1 hx).1; simpa using this
      rw [List.getElem?_replicate, if_pos hj] at hx
      rw [List.getElem?_map, List.getElem?_replicate, if_pos hj] at hx'
      cases hx; cases hx'
      exact ⟨rfl, .inr ⟨rfl, 2, rfl⟩⟩) ?_
    rw [Heap.set_set]
    refine DW.asH (fun H3 => H3 b12 = some (31, (List.replicate s.v.length []).map plD) ∧ Over H2 H3) ⟨Heap.set_self _ _ _, Over.other hb12⟩ fun H3 ⟨g12, gov3⟩ => ?_
    have g11' := gov3 _ _ g11
    (repeat (first | refine RO.Sv ?_ | refine RO.Yv ?_ | refine RO.no rfl (by decide) rfl ?_ | refine RO.nil ?_ | refine DW.region ?_ | refine DW.seq ?_ | refine DW.block ?_ | refine DW.skip ?_ | refine DW.exit ?_ | refine DW.condT rfl ?_ | refine DW.condF rfl ?_))
    refine RO.sta (s_loadMutAgg (ds := tmCl u) rfl g11' rfl rfl) rfl ?_
    refine RO.sta (sta_call rfl rfl (Divisor_pure r l a u (by omega) hd iv.me _)) rfl ?_
    (repeat (first | refine RO.Sv ?_ | refine RO.Yv ?_ | refine RO.no rfl (by decide) rfl ?_ | refine RO.nil ?_ | refine DW.region ?_ | refine DW.seq ?_ | refine DW.block ?_ | refine DW.skip ?_ | refine DW.exit ?_ | refine DW.condT rfl ?_ | refine DW.condF rfl ?_))
    have ha2 : a < ds.length := by rw [hlen, hlen2, ← hsv]; exact ha
    have ha3 : a < s.left.length := by rw [hinv.llen, ← hsv]; exact ha
    have ha4 : a < (tmsD s.left).length := by rw [hlen2, ← hsv]; exact ha
    have hrows3 := hrows.over gov3
    have hkeep3 : Over H0 H3 := fun c z hc => gov3 _ _ (hkeep2 c z hc)
    have hrow3 := gov3 _ _ hrow2
    have hD3 : ∀ c, (H0 c ≠ none ∨ c = bq) → H3 c ≠ none := fun c hc => by
      cases hx : H2 c with
      | none => exact absurd hx (hD2 c hc)
      | some z => rw [gov3 c z hx]; simp
    have h12bq : b12 ≠ bq := fun e => by rw [e, hrow2] at hb12; cases hb12
    have h12L : b12 ≠ bL := fun e => by rw [e, hrows.row] at hb12; cases hb12
    have h11L : b11 ≠ bL := fun e => by rw [e, hi.rows.row] at hb11; cases hb11
    cases hg : goesT r l a u.e with
    | none =>
      obtain ⟨n1, n2⟩ := hi.at_.stepA hl hx hg
      obtain ⟨l1, l2⟩ := hinv.left a ha3
      have hlong := len_le8 l1 l2 hn3 (degB_range r (by omega)).2
      have hta : (tmsD s.left)[a] = s.left[a].map tmD := by simp [tmsD]
      have hrows3' := (hrows.more hb12).over gov3
      have hD3' : ∀ c, ((H0 c ≠ none ∨ c = bq) ∨ c = b12) → H3 c ≠ none := fun c hc => by
        rcases hc with hc | rfl
        · exact hD3 c hc
        · rw [g12]; simp
      have hHs : Over (Heap.set (fun _ => none) b11 (50, tmCl u)) H3 := fun c z hc => by
        by_cases h : c = b11
        · subst h; rw [Heap.set_self] at hc; rw [← hc]; exact g11'
        · rw [Heap.set_other _ _ h] at hc; cases hc
      (repeat (first | refine RO.Sv ?_ | refine RO.Yv ?_ | refine RO.no rfl (by decide) rfl ?_ | refine RO.nil ?_ | refine DW.region ?_ | refine DW.seq ?_ | refine DW.block ?_ | refine DW.skip ?_ | refine DW.exit ?_ | refine DW.condT rfl ?_ | refine DW.condF rfl ?_))
      refine DW.drawX [0, 1, 2, 3, 4, 5, 6, 8, 9] [0, 1, 8, 9] (Heap.set (fun _ => none) b11 (50, tmCl u)) Tryz.mixed (by kernel_rfl) hHs ?_
      (repeat (first | refine RX.A ?_ | refine RX.nil ?_))
      refine RX.any (fun H' => s_indexRef (i := a) rfl rfl (by omega)) rfl ?_
      refine RX.sta rfl (r_loadMut (d := ds[a]) rfl hrows3.row (by rw [show 0 + a * 1 = a by omega, List.getElem?_eq_getElem ha2])) rfl ?_
      refine RX.fre hHs (fun H' hs => s_loadMutAgg (ds := tmCl u) rfl (hs _ _ (Heap.set_self _ _ _)) rfl rfl) rfl ?_
      (repeat (first | refine RX.A ?_ | refine RX.nil ?_))
      refine RY.dyn rfl (d_appendSrc (H0 := H3) (l := []) (xs := (tmsD s.left)[a]) rfl (Acc.nil _ _ _ _) (Over.refl _) rfl (SrcOk.acc (hrows3.acc ha2 ha4)) (hrows3.acc ha2 ha4).uni (by rw [hta, List.length_map]; simp; omega) (by rw [hta, List.length_map]; simp; omega) fun d1 H4 q1 q2 _ => ⟨fun c z hc => q2 c z (hHs c z hc), ?_⟩)
      refine RY.dyn rfl (d_append (H0 := H3) (xs := [tmD u]) rfl q1 q2 rfl (.inl rfl) (uni_tm [u]) (by rw [hta]; simp; omega) (by rw [hta]; simp; omega) fun d2 H5 s1 s2 _ => ⟨fun c z hc => s2 c z (hHs c z hc), ?_⟩)
      refine RY.sta (fun c z hc => s2 c z (hHs c z hc)) (s_indexRef (i := a) rfl rfl (by omega)) rfl ?_
      refine RY.dyn rfl (d_store (k := 1) rfl rfl (by rw [s1.cell.1]; rfl) (s2 _ _ hrows3.row) (by rw [s1.cell.1]; show 0 + a * 1 + 1 ≤ ds.length; omega) (by rw [s1.cell.1]; intro z hz; rw [List.mem_singleton.1 hz]; exact s1.cell.2) ⟨(show Over _ _ from fun c z hc => s2 c z (hHs c z hc)).set (by rw [Heap.set_other _ _ h11L.symm]), ?_⟩)
      have hset : setMany ds (0 + a * 1) (cellsOf d2) = ds.set a d2 := by rw [show 0 + a * 1 = a by omega]; exact setManyD ds a d2 s1.cell.1 ha2
      rw [hset]
      refine RY.nil ?_
      have hrows6 := hrows3'.put hD3' ha2 s1 (fun b hb => .inl hb) fun c z hc _ => s2 c z hc
      have hp6 : ∀ c z, H3 c = some z → c ≠ bL → (H5.set bL (31, ds.set a d2)) c = some z := fun c z hc h => by rw [Heap.set_other _ _ h]; exact s2 c z hc
      refine DW.asH (fun H6 => RowsOk (fun c => (H0 c ≠ none ∨ c = bq) ∨ c = b12) H6 bL 31 50 2 ((tmsD s.left).set a ([] ++ (tmsD s.left)[a] ++ [tmD u])) (ds.set a d2) ∧ ∀ c z, H3 c = some z → c ≠ bL → H6 c = some z) ⟨hrows6, hp6⟩ fun H6 ⟨hrows6, hp6⟩ => ?_
      have g11'' := hp6 _ _ g11' h11L
      have g12' := hp6 _ _ g12 h12L
      (repeat (first | refine RO.Sv ?_ | refine RO.Yv ?_ | refine RO.no rfl (by decide) rfl ?_ | refine RO.nil ?_ | refine DW.region ?_ | refine DW.seq ?_ | refine DW.block ?_ | refine DW.skip ?_ | refine DW.exit ?_ | refine DW.condT rfl ?_ | refine DW.condF rfl ?_))
      refine RO.sta (s_loadMut (d := I u.c) rfl g11'' rfl) rfl ?_
      (repeat (first | refine RO.Sv ?_ | refine RO.Yv ?_ | refine RO.no rfl (by decide) rfl ?_ | refine RO.nil ?_ | refine DW.region ?_ | refine DW.seq ?_ | refine DW.block ?_ | refine DW.skip ?_ | refine DW.exit ?_ | refine DW.condT rfl ?_ | refine DW.condF rfl ?_))
      refine RO.sta (s_loadMut (d := intsD u.e) rfl g11'' rfl) rfl ?_
      refine RO.sta (s_buildT (out := [I (negT r u).c, intsD (negT r u).e]) rfl rfl) rfl ?_
      (repeat (first | refine RO.Sv ?_ | refine RO.Yv ?_ | refine RO.no rfl (by decide) rfl ?_ | refine RO.nil ?_ | refine DW.region ?_ | refine DW.seq ?_ | refine DW.block ?_ | refine DW.skip ?_ | refine DW.exit ?_ | refine DW.condT rfl ?_ | refine DW.condF rfl ?_))
      refine RO.sta (s_indexRef (i := a) rfl rfl ha) rfl ?_
      refine RO.dyn rfl (d_store (k := 1) (d := plD [negT r u]) rfl rfl rfl g12' (by simp [cellsOf, plD]; omega) (by simp [cellsOf, D.isCell, plD]) ?_)
      rw [set_map_pl _ _ _ (by simpa using ha)]
      refine RO.nil ?_
      (repeat (first | refine RO.Sv ?_ | refine RO.Yv ?_ | refine RO.no rfl (by decide) rfl ?_ | refine RO.nil ?_ | refine DW.region ?_ | refine DW.seq ?_ | refine DW.block ?_ | refine DW.skip ?_ | refine DW.exit ?_ | refine DW.condT rfl ?_ | refine DW.condF rfl ?_))
      have haw : (List.replicate s.v.length []).set a [negT r u] = awayT r s.v.length a u := rfl
      rw [haw]
      have hawl : (awayT r s.v.length a u).length = s.v.length := by simp [awayT]
      have hawb : VB r r.n.toNat 8000 1 (awayT r s.v.length a u) := fun f hf => by
        rcases List.mem_or_eq_of_mem_set hf with hf | rfl
        · rw [List.eq_of_mem_replicate hf]; exact ⟨PB.nil _ _ _ _ _, by simp⟩
        · exact ⟨PB.one (negT_ok tu), Nat.le_refl _⟩
      refine RO.dyn rfl (opD_callF (ds' := [rgD r, vcD s.v, vcD (awayT r s.v.length a u)]) (H' := Heap.del (Heap.set H6 b12 (31, (awayT r s.v.length a u).map plD)) b12) rfl rfl (Heap.sub_del _ _) (.cons (.same _) (.cons (.same _) (.cons (Frz.list (T := 31) (by rw [Heap.set_self, flat_cells1 (fun _ => rfl)]) (by simp [Heap.del]) (uni_pl _) (by simp [hawl])) .nil))) (VSum_pure r s.v (awayT r s.v.length a u) (n := r.n.toNat) (B := 8000) (L := 512192024001) (M := 1) hn3 (by omega) hp (by omega) hawl.symm (by omega) hvd.vb hawb _) ?_)
      have hfin : ∀ c z, H6 c = some z → c ≠ b12 → Heap.del (Heap.set H6 b12 (31, (awayT r s.v.length a u).map plD)) b12 c = some z := fun c z hc h => by
        simp only [Heap.del]
        rw [if_neg h, Heap.set_other _ _ h]; exact hc
      rw [vsum_away ha hfu (by omega)]
      have hsa : (stepA s a u).left = s.left.set a (s.left[a] ++ [u]) := by
        unfold stepA
        rw [List.getD_eq_getElem?_getD, List.getD_eq_getElem?_getD, List.getElem?_eq_getElem ha3]; rfl
      (repeat (first | refine RO.Sv ?_ | refine RO.Yv ?_ | refine RO.no rfl (by decide) rfl ?_ | refine RO.nil ?_ | refine DW.region ?_ | refine DW.seq ?_ | refine DW.block ?_ | refine DW.skip ?_ | refine DW.exit ?_ | refine DW.condT rfl ?_ | refine DW.condF rfl ?_))
      refine ⟨(stepA s a u, _, ds.set a d2), ⟨n1, hfin _ _ (hp6 _ _ hrow3 hneL) h12bq.symm, fun c z hc => hfin c z (hp6 c z (hkeep3 c z hc) (fun e => by rw [e, hbL'] at hc; cases hc)) (fun e => by rw [e] at hc; rw [hkeep2 _ _ hc] at hb12; cases hb12), ?_⟩, n2, Heap.sub_refl _, (by repeat first | exact trivial | refine HasG.one rfl ?_ | refine HasN.one rfl ?_)⟩
      dsimp only
      rw [hsa, show tmsD (s.left.set a (s.left[a] ++ [u])) = (tmsD s.left).set a ([] ++ (tmsD s.left)[a] ++ [tmD u]) by simp [tmsD, List.map_set]]
      exact (hrows6.frame fun c z hc hh => hfin c z hc fun e => hh.elim (fun h => h12L (e.symm.trans h)) fun h => h (.inr e)).less fun c hc => .inl hc
    | some i =>
      have hgi : goIdx (some i) = (i : Int) := rfl
      have hneg2 : decide ((i : Int) < 0) = false := decide_eq_false (by omega)
      rw [hgi, hneg2]
      obtain ⟨n1, n2, hil, w, htd, hgm, hby, tb, me⟩ := stepB_ok hl hi.at_.inv hx hg
      have hdi := hd _ (List.getElem_mem hil)
      have hdil := hdi.len
      have hdl := (hl.vecs _ (List.getElem_mem hil))
      have iw := topV_is hdi htd
      obtain ⟨fw, hfw⟩ := iw.at_
      have tw : TB 1 r.p r.n.toNat 8000 w := (hdi.all a iw.lt).all w (by rw [hfw]; simp)
      have hw1 := tw.lo
      have hw2 := tw.hi
      have htr := turnP_in hp.1 w.c
      have hmul : 0 ≤ u.c * turnP r.p w.c ∧ u.c * turnP r.p w.c ≤ 101 * 101 := ⟨Int.mul_nonneg (by omega) htr.1, Int.mul_le_mul (by omega) (by omega) htr.1 (by omega)⟩
      have hlen3 : u.e.length = w.e.length := by rw [iv.me.len, iw.me.len]
      have tb1 := tb.lo
      have tb2 := tb.hi
      have tn := negT_ok tb
      have hiq : i < s.q.length := by omega
      obtain ⟨q1, q2⟩ := hinv.q _ (List.getElem_mem hiq)
      have ql := len_le8 q1 q2 hn3 (by omega)
      have cL := fun H' => LeadOf_pure r l[i] (n := r.n.toNat) (B := 8000) (L := 512192024001) (by omega) (by omega) (by omega) (by omega) hdi.vb H'
      rw [htd] at cL
      have cI := fun H' => inverseOf_pure r.p w.c hp.1 hp.2 (by omega) hw2 H'
      rw [invT_turn hck (by omega) hw2] at cI
      have cP := fun H' => Put_pure 2 (tu.mok hn3 (by omega)) (tw.mok hn3 (by omega)) hlen3 H'
      rw [show zipE (putE 2) u.e w.e = (byOf r u w).e from rfl] at cP
      have cT := fun H' => VTimes_pure r [negT r (byOf r u w)] l[i] (n := r.n.toNat) (B := 8000) (C := 8000) (L := 512192024001) hn3 (by omega) (by omega) (by omega) hck hpr (by omega) (by simp) (by omega) (by simp) (PB.one tn) hdi.vb H'
      rw [show vtimesT r [negT r (byOf r u w)] l[i] = vbyT r l[i] (negT r (byOf r u w)) from rfl] at cT
      (repeat (first | refine RO.Sv ?_ | refine RO.Yv ?_ | refine RO.no rfl (by decide) rfl ?_ | refine RO.nil ?_ | refine DW.region ?_ | refine DW.seq ?_ | refine DW.block ?_ | refine DW.skip ?_ | refine DW.exit ?_ | refine DW.condT rfl ?_ | refine DW.condF rfl ?_))
      refine DW.drawX [0, 1, 2, 3, 4, 5, 6, 7, 8] [0, 1, 2, 3, 4, 5, 6, 7, 8] (fun _ => none) Tryz.mixed (by kernel_rfl) (Over.nul _) ?_
      (repeat (first | refine RX.A ?_ | refine RX.nil ?_))
      refine RX.any (fun H' => sta_call rfl rfl (cL _)) rfl ?_
      (repeat (first | refine RX.A ?_ | refine RX.nil ?_))
      refine RY.dyn rfl (d_alloc fun b15 hb15 => ⟨Over.nul _, ?_⟩)
      (repeat (first | refine RY.S ?_ | refine RY.nil ?_))
      refine RY.dyn rfl (d_storeTm (tm := w) rfl rfl (Heap.set_self _ _ _) rfl ⟨Over.nul _, ?_⟩)
      rw [Heap.set_set]
      refine RY.nil ?_
      refine DW.asH (fun H4 => H4 b15 = some (50, tmCl w) ∧ Over H3 H4) ⟨Heap.set_self _ _ _, Over.other hb15⟩ fun H4 ⟨g15, gov4⟩ => ?_
      have g11q := gov4 _ _ g11'
      (repeat (first | refine RO.Sv ?_ | refine RO.Yv ?_ | refine RO.no rfl (by decide) rfl ?_ | refine RO.nil ?_ | refine DW.region ?_ | refine DW.seq ?_ | refine DW.block ?_ | refine DW.skip ?_ | refine DW.exit ?_ | refine DW.condT rfl ?_ | refine DW.condF rfl ?_))
      refine DW.drawA 17 Tryz.mixed (by kernel_rfl) rfl rfl ?_
      dsimp only [List.take, List.drop]
      (repeat (first | refine RS.Sv ?_ | refine RS.Yv ?_ | refine RS.no rfl (by decide) rfl ?_ | refine RS.nil ?_))
      refine RS.sta (r_loadMut (d := I u.c) rfl g11q rfl) rfl ?_
      (repeat (first | refine RS.Sv ?_ | refine RS.Yv ?_ | refine RS.no rfl (by decide) rfl ?_ | refine RS.nil ?_))
      refine RS.sta (r_loadMut (d := I w.c) rfl g15 rfl) rfl ?_
      refine RS.sta (fun H' hov => sta_call rfl rfl (cI _)) rfl ?_
      (repeat (first | refine RS.Sv ?_ | refine RS.Yv ?_ | refine RS.no rfl (by decide) rfl ?_ | refine RS.nil ?_))
      refine RS.sta (r_loadMut (d := intsD u.e) rfl g11q rfl) rfl ?_
      (repeat (first | refine RS.Sv ?_ | refine RS.Yv ?_ | refine RS.no rfl (by decide) rfl ?_ | refine RS.nil ?_))
      refine RS.sta (r_loadMut (d := intsD w.e) rfl g15 rfl) rfl ?_
      refine RS.sta (fun H' hov => sta_call rfl rfl (cP _)) rfl ?_
      refine RS.sta (fun H' hov => s_buildT (out := [I (byOf r u w).c, intsD (byOf r u w).e]) rfl rfl) rfl ?_
      refine RS.nil ?_
      intro b16 hb16
      refine RO.dyn rfl (d_storeTm (tm := byOf r u w) rfl rfl (Heap.set_self _ _ _) rfl ?_)
      rw [Heap.set_set]
      refine RO.nil ?_
      refine DW.asH (fun H5 => H5 b16 = some (50, tmCl (byOf r u w)) ∧ Over H3 H5) ⟨Heap.set_self _ _ _, fun c z hc => Over.other hb16 c z (gov4 c z hc)⟩ fun H5 ⟨g16, gov5⟩ => ?_
      have hrow5 := gov5 _ _ hrow3
      (repeat (first | refine RO.Sv ?_ | refine RO.Yv ?_ | refine RO.no rfl (by decide) rfl ?_ | refine RO.nil ?_ | refine DW.region ?_ | refine DW.seq ?_ | refine DW.block ?_ | refine DW.skip ?_ | refine DW.exit ?_ | refine DW.condT rfl ?_ | refine DW.condF rfl ?_))
      refine DW.drawS 10 Tryz.mixed (by kernel_rfl) (by decide) ?_
      dsimp only [List.take, List.drop]
      (repeat (first | refine RS.Sv ?_ | refine RS.Yv ?_ | refine RS.no rfl (by decide) rfl ?_ | refine RS.nil ?_))
      refine RS.sta (fun H' hov => s_indexRef (i := i) rfl rfl hil) rfl ?_
      refine RS.sta (r_loadMut (d := plD s.q[i]) rfl hrow5 (by rw [show 0 + i * 1 = i by omega, List.getElem?_map, List.getElem?_eq_getElem hiq]; rfl)) rfl ?_
      refine RS.sta (r_loadMutAgg (ds := tmCl (byOf r u w)) rfl g16 rfl rfl) rfl ?_
      (repeat (first | refine RS.Sv ?_ | refine RS.Yv ?_ | refine RS.no rfl (by decide) rfl ?_ | refine RS.nil ?_))
      refine RS.sta (fun H' hov => sta_call rfl rfl (refSum_pure r s.q[i] [byOf r u w] (n := r.n.toNat) (B := 8000) hn3 (by omega) hp (by simp; omega) q1 (PB.one tb) _)) rfl ?_
      refine RS.nil ?_
      refine RO.sta (s_indexRef (i := i) rfl rfl hil) rfl ?_
      refine RO.dyn rfl (d_store (k := 1) rfl rfl rfl hrow5 (by simp [cellsOf, plD]; omega) (by simp [cellsOf, D.isCell, plD]) ?_)
      rw [set_map_pl _ _ _ hiq]
      refine RO.nil ?_
      have h16bq : b16 ≠ bq := fun e => by rw [e, gov4 _ _ hrow3] at hb16; cases hb16
      have hqs : (stepB r l s u i).q = s.q.set i (sumT r.p r.order s.q[i] [byOf r u w]) := by
        unfold stepB
        rw [hby, List.getD_eq_getElem?_getD, List.getD_eq_getElem?_getD, List.getElem?_eq_getElem hiq]; rfl
      rw [← hqs]
      refine DW.asH (fun H6 => H6 bq = some (31, (stepB r l s u i).q.map plD) ∧ ∀ c z, H5 c = some z → c ≠ bq → H6 c = some z) ⟨Heap.set_self _ _ _, fun c z hc h => by rw [Heap.set_other _ _ h]; exact hc⟩ fun H6 ⟨hrow6, hp6⟩ => ?_
      have g16' := hp6 _ _ g16 h16bq
      (repeat (first | refine RO.Sv ?_ | refine RO.Yv ?_ | refine RO.no rfl (by decide) rfl ?_ | refine RO.nil ?_ | refine DW.region ?_ | refine DW.seq ?_ | refine DW.block ?_ | refine DW.skip ?_ | refine DW.exit ?_ | refine DW.condT rfl ?_ | refine DW.condF rfl ?_))
      refine DW.drawS 15 Tryz.mixed (by kernel_rfl) (by decide) ?_
      dsimp only [List.take, List.drop]
      (repeat (first | refine RS.Sv ?_ | refine RS.Yv ?_ | refine RS.no rfl (by decide) rfl ?_ | refine RS.nil ?_))
      refine RS.sta (r_loadMut (d := I (byOf r u w).c) rfl g16' rfl) rfl ?_
      (repeat (first | refine RS.Sv ?_ | refine RS.Yv ?_ | refine RS.no rfl (by decide) rfl ?_ | refine RS.nil ?_))
      refine RS.sta (r_loadMut (d := intsD (byOf r u w).e) rfl g16' rfl) rfl ?_
      refine RS.sta (fun H' hov => s_buildT (out := [I (negT r (byOf r u w)).c, intsD (negT r (byOf r u w)).e]) rfl rfl) rfl ?_
      (repeat (first | refine RS.Sv ?_ | refine RS.Yv ?_ | refine RS.no rfl (by decide) rfl ?_ | refine RS.nil ?_))
      refine RS.sta (fun H' hov => sta_call rfl rfl (cT _)) rfl ?_
      (repeat (first | refine RS.Sv ?_ | refine RS.Yv ?_ | refine RS.no rfl (by decide) rfl ?_ | refine RS.nil ?_))
      (repeat (first | refine RO.Sv ?_ | refine RO.Yv ?_ | refine RO.no rfl (by decide) rfl ?_ | refine RO.nil ?_ | refine DW.region ?_ | refine DW.seq ?_ | refine DW.block ?_ | refine DW.skip ?_ | refine DW.exit ?_ | refine DW.condT rfl ?_ | refine DW.condF rfl ?_))
      refine RO.sta (sta_call rfl rfl (VSum_pure r s.v (vbyT r l[i] (negT r (byOf r u w))) (n := r.n.toNat) (B := 16000) (L := 512192024001) (M := 512192024001) hn3 (by omega) hp (by omega) (by rw [hsv]; simp [vbyT, hdl.len]) (by omega) (hvd.vb.mono (by omega) (Nat.le_refl _)) (VB.by (by omega) hpr hdi.vb tn.zero) _)) rfl ?_
      have hvs : (stepB r l s u i).v = vsumT r s.v (vbyT r l[i] (negT r (byOf r u w))) := by
        unfold stepB
        rw [hby, List.getD_eq_getElem?_getD, List.getElem?_eq_getElem hil]; rfl
      rw [← hvs]
      (repeat (first | refine RO.Sv ?_ | refine RO.Yv ?_ | refine RO.no rfl (by decide) rfl ?_ | refine RO.nil ?_ | refine DW.region ?_ | refine DW.seq ?_ | refine DW.block ?_ | refine DW.skip ?_ | refine DW.exit ?_ | refine DW.condT rfl ?_ | refine DW.condF rfl ?_))
      refine ⟨(stepB r l s u i, H6, ds), ⟨(hi.at_.stepB hl hx hg).1, hrow6, fun c z hc => hp6 c z (gov5 _ _ (hkeep3 c z hc)) (fun e => by rw [e, hbq] at hc; cases hc), ?_⟩, n2, Heap.sub_refl _, (by repeat first | exact trivial | refine HasG.one rfl ?_ | refine HasN.one rfl ?_)⟩
      exact (hrows3.over gov5).frame fun c z hc hh => hp6 c z hc fun e => hh.elim (fun h => hneL (e.symm.trans h)) fun h => h (.inr e)

end Go.Proofs.YtcdihmhmoddppaaGreat
