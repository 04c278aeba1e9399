/-
  Package vector: Combine; the document's CheckCombine. No condition.
-/
import Derived.Test.YtblileclefbklaaKVc19
import Derived.Test.YtblileclefbklaaKVc7

namespace Go.Proofs.Ytblileclefbklaa
open Go.RowKit
set_option linter.unusedVariables false

/-- A sum's monomials come from one of the two. -/
theorem sumT_mem {p o : Int} : ∀ (f g : Pl), ∀ s ∈ sumT p o f g, (∃ t ∈ f, t.e = s.e) ∨ ∃ t ∈ g, t.e = s.e :=
  sumT_ind (p := p) (o := o) (M := fun f g => ∀ s ∈ sumT p o f g, (∃ t ∈ f, t.e = s.e) ∨ ∃ t ∈ g, t.e = s.e)
    (fun g s hs => .inr ⟨s, by rwa [sumT_nil] at hs, rfl⟩)
    (fun a f s hs => .inl ⟨s, by rwa [sumT_nil'] at hs, rfl⟩)
    fun a b f g h1 h2 h3 s hs => by
      have w1 : ((∃ t ∈ f, t.e = s.e) ∨ ∃ t ∈ b :: g, t.e = s.e) → (∃ t ∈ a :: f, t.e = s.e) ∨ ∃ t ∈ b :: g, t.e = s.e := fun h => h.imp (fun ⟨t, ht, he⟩ => ⟨t, by simp [ht], he⟩) id
      have w2 : ((∃ t ∈ a :: f, t.e = s.e) ∨ ∃ t ∈ g, t.e = s.e) → (∃ t ∈ a :: f, t.e = s.e) ∨ ∃ t ∈ b :: g, t.e = s.e := fun h => h.imp id fun ⟨t, ht, he⟩ => ⟨t, by simp [ht], he⟩
      have w3 : ((∃ t ∈ f, t.e = s.e) ∨ ∃ t ∈ g, t.e = s.e) → (∃ t ∈ a :: f, t.e = s.e) ∨ ∃ t ∈ b :: g, t.e = s.e := fun h => h.imp (fun ⟨t, ht, he⟩ => ⟨t, by simp [ht], he⟩) fun ⟨t, ht, he⟩ => ⟨t, by simp [ht], he⟩
      rw [sumT_cons] at hs
      split at hs
      · rcases List.mem_cons.1 hs with rfl | hs
        · exact .inl ⟨s, by simp, rfl⟩
        · exact w1 (h1 s hs)
      · split at hs
        · rcases List.mem_cons.1 hs with rfl | hs
          · exact .inr ⟨s, by simp, rfl⟩
          · exact w2 (h2 s hs)
        · split at hs
          · rcases List.mem_cons.1 hs with rfl | hs
            · exact .inl ⟨a, by simp, rfl⟩
            · exact w3 (h3 s hs)
          · exact w3 (h3 s hs)

theorem byT_mem {p : Int} {f : Pl} {t : Tm} : ∀ s ∈ byT p f t, ∃ u ∈ f, s.e = zipE (· + ·) u.e t.e := fun s hs => by
  unfold byT at hs
  split at hs
  · cases hs
  · obtain ⟨u, hu, rfl⟩ := List.mem_map.1 hs
    exact ⟨u, hu, rfl⟩

theorem prodT_mem {p o : Int} {g : Pl} : ∀ (f out : Pl), ∀ s ∈ f.foldl (fun out t => sumT p o out (byT p g t)) out, (∃ u ∈ out, u.e = s.e) ∨ ∃ t ∈ f, ∃ u ∈ g, s.e = zipE (· + ·) u.e t.e
  | [], out, s, hs => .inl ⟨s, hs, rfl⟩
  | t :: f, out, s, hs => by
    rw [List.foldl_cons] at hs
    rcases prodT_mem f _ s hs with ⟨u, hu, he⟩ | ⟨t', ht', u, hu, he⟩
    · rcases sumT_mem _ _ u hu with ⟨w, hw, hwe⟩ | ⟨w, hw, hwe⟩
      · exact .inl ⟨w, hw, hwe.trans he⟩
      · obtain ⟨x, hx, hxe⟩ := byT_mem w hw
        exact .inr ⟨t, by simp, x, hx, by rw [← he, ← hwe, hxe]⟩
    · exact .inr ⟨t', by simp [ht'], u, hu, he⟩

/-- Degrees of at most d. -/
def DB (d : Int) (f : Pl) : Prop := ∀ t ∈ f, t.e.sum ≤ d

theorem DB.mono {d d' : Int} {f : Pl} (h : DB d f) (hd : d ≤ d') : DB d' f := fun t ht => by have := h t ht; omega

theorem DB.sum {p o d : Int} {f g : Pl} (hf : DB d f) (hg : DB d g) : DB d (sumT p o f g) := fun s hs => by
  rcases sumT_mem f g s hs with ⟨t, ht, he⟩ | ⟨t, ht, he⟩
  · rw [← he]; exact hf t ht
  · rw [← he]; exact hg t ht

theorem DB.byT {p d : Int} {f : Pl} {t : Tm} (hf : DB d f) (hl : ∀ u ∈ f, u.e.length = t.e.length) : DB (d + t.e.sum) (byT p f t) := fun s hs => by
  obtain ⟨u, hu, he⟩ := byT_mem s hs
  rw [he, zipE_sum (hl u hu)]
  have := hf u hu
  omega

theorem DB.prod {p o a b : Int} {f g : Pl} (hf : DB a f) (hg : DB b g) (hl : ∀ t ∈ f, ∀ u ∈ g, u.e.length = t.e.length) : DB (a + b) (prodT p o f g) := fun s hs => by
  rcases prodT_mem f [] s hs with ⟨u, hu, _⟩ | ⟨t, ht, u, hu, he⟩
  · cases hu
  · rw [he, zipE_sum (hl t ht u hu)]
    have := hf t ht
    have := hg u hu
    omega

theorem topT_le {d : Int} {f : Pl} (h : DB d f) (hd : -1 ≤ d) : topT f ≤ d := by
  cases f with
  | nil => exact hd
  | cons t f => exact h t (by simp)

/-- Two that may not be multiplied. -/
def bad2T (r : Rg) (f g : Pl) : Bool := bigT f g || greatT (prodT r.p r.order f g)

theorem bad2_eq {r : Rg} {n : Nat} {B C : Int} {f g : Pl} (hf : PB 1 r.p r.order n C f) (hg : PB 1 r.p r.order n B g) : bad2T r f g = (bigT f g || decide (2000 < (prodT r.p r.order f g).length)) := by
  unfold bad2T
  cases hb : bigT f g
  · rw [Bool.false_or, Bool.false_or]
    unfold greatT
    have : topT (prodT r.p r.order f g) ≤ 200 := by
      cases f with
      | nil => exact (by decide : (-1 : Int) ≤ 200)
      | cons t f =>
        cases g with
        | nil =>
          have h1 := prodT_mem (p := r.p) (o := r.order) (g := []) (t :: f) []
          refine topT_le (fun s hs => ?_) (by omega)
          rcases h1 s hs with ⟨u, hu, _⟩ | ⟨t, ht, u, hu, he⟩
          · cases hu
          · cases hu
        | cons u g =>
          refine topT_le (d := 200) ?_ (by omega)
          have hsum : ¬ 200 < topT (t :: f) + topT (u :: g) := by simpa [bigT] using hb
          exact (DB.prod (topT_ge hf) (topT_ge hg) (fun x hx y hy => by rw [(hf.all x hx).len, (hg.all y hy).len])).mono (by omega)
    rw [decide_eq_false (show ¬ 200 < topT (prodT r.p r.order f g) by omega), Bool.false_or]
  · rfl

def badGo (r : Rg) : Vc → List Vc → Bool
  | f :: c, v :: l => v.any (bad2T r f) || badGo r c l
  | _, _ => false

theorem badGo_drop {r : Rg} {c : Vc} {l : List Vc} {k : Nat} (h : k < c.length) (h2 : k < l.length) : badGo r (c.drop k) (l.drop k) = (l[k].any (bad2T r c[k]) || badGo r (c.drop (k + 1)) (l.drop (k + 1))) := by
  rw [List.drop_eq_getElem_cons h, List.drop_eq_getElem_cons h2]; rfl

theorem badGo_end {r : Rg} {c : Vc} : badGo r c [] = false := by cases c <;> rfl

/-- Made of the first k of a list. -/
def madeT (r : Rg) (rank : Nat) (c : Vc) (l : List Vc) : Nat → Vc
  | 0 => List.replicate rank []
  | k + 1 => vsumT r (madeT r rank c l k) (vtimesT r (c.getD k []) (l.getD k []))

theorem madeT_succ {r : Rg} {rank : Nat} {c : Vc} {l : List Vc} {k : Nat} (h : k < c.length) (h2 : k < l.length) : madeT r rank c l (k + 1) = vsumT r (madeT r rank c l k) (vtimesT r c[k] l[k]) := by
  show vsumT r (madeT r rank c l k) (vtimesT r (c.getD k []) (l.getD k [])) = _
  rw [List.getD_eq_getElem?_getD, List.getElem?_eq_getElem h, List.getD_eq_getElem?_getD, List.getElem?_eq_getElem h2]; rfl

/-- What is wrong with what Combine is handed, but for what comes. -/
def combCk0 (r : Rg) (rank : Int) (c : Vc) (l : List Vc) : Int :=
  if vecsCk r rank l ≠ 0 then vecsCk r rank l else if (c.length : Int) ≠ l.length then 1 else if polysGo r c ≠ 0 then polysGo r c else if badGo r c l = true then 2 else 0

def combT (r : Rg) (rank : Int) (c : Vc) (l : List Vc) : Vc := madeT r rank.toNat c l l.length

def combCk (r : Rg) (rank : Int) (c : Vc) (l : List Vc) : Int := if combCk0 r rank c l ≠ 0 then combCk0 r rank c l else if vgreatT (combT r rank c l) = true then 2 else 0

/-- What is right with what Combine is handed, up to the products. -/
structure CombOk (r : Rg) (rank : Int) (c : Vc) (l : List Vc) : Prop where
  ring : ringCk r = 0
  rank1 : 1 ≤ rank
  rank2 : rank ≤ 40
  len : l.length ≤ 60
  vecs : ∀ v ∈ l, VOk r rank.toNat v
  clen : c.length = l.length
  polys : ∀ f ∈ c, POk r f

theorem combOk {r : Rg} {rank : Int} {c : Vc} {l : List Vc} (h1 : vecsCk r rank l = 0) (h2 : ¬ (c.length : Int) ≠ l.length) (h3 : polysGo r c = 0) : CombOk r rank c l := by
  obtain ⟨a, b, d, e, f⟩ := vecsCk_ok h1
  exact ⟨a, b, d, e, f, by omega, polysGo_ok a h3⟩

theorem combCk0_ok {r : Rg} {rank : Int} {c : Vc} {l : List Vc} (h : combCk0 r rank c l = 0) : CombOk r rank c l ∧ badGo r c l = false := by
  unfold combCk0 at h
  split at h
  · contradiction
  · rename_i h1
    split at h
    · cases h
    · rename_i h2
      split at h
      · contradiction
      · rename_i h3
        split at h
        · cases h
        · rename_i h4
          exact ⟨combOk (by simpa using h1) h2 (by simpa using h3), by simpa using h4⟩

theorem VB.times {r : Rg} (hr : ringCk r = 0) (hpr : Prm r.p) (hp : 1 < r.p) {f : Pl} (hf : POk r f) {k : Nat} {v : Vc} (hv : VOk r k v) : VB r r.n.toNat 400 4000000 (vtimesT r f v) := fun g hg => by
  obtain ⟨u, hu, rfl⟩ := List.mem_map.1 hg
  obtain ⟨a1, a2⟩ := hv.vb u hu
  have hfl := hf.len
  have hmul : f.length * u.length ≤ 2000 * 2000 := Nat.mul_le_mul hfl a2
  have h0 : ∀ t ∈ f, TB 0 r.p r.n.toNat 200 t := fun t ht => (hf.ok.all t ht).mono (by omega) (by omega)
  exact ⟨prodT_ok hp hpr a1 (by omega) h0, Nat.le_trans (prodT_length hp hpr a1 (by omega) h0) hmul⟩

theorem vtimesT_len (r : Rg) (f : Pl) (v : Vc) : (vtimesT r f v).length = v.length := by simp [vtimesT]

theorem vsumT_len' {r : Rg} {v w : Vc} (h : v.length = w.length) : (vsumT r v w).length = v.length := by unfold vsumT; rw [List.length_zipWith]; omega

theorem VB.sum' {r : Rg} {n : Nat} {B : Int} {L M : Nat} {v w : Vc} (hp : 0 < r.p) (hv : VB r n B L v) (hw : VB r n B M w) : VB r n B (L + M) (vsumT r v w) := fun f hf => by
  unfold vsumT at hf
  obtain ⟨i, hi, rfl⟩ := List.getElem_of_mem hf
  rw [List.length_zipWith] at hi
  have h1 := hv _ (List.getElem_mem (show i < v.length by omega))
  have h2 := hw _ (List.getElem_mem (show i < w.length by omega))
  rw [List.getElem_zipWith]
  exact ⟨sumT_ok hp _ _ h1.1 h2.1, by have := sumT_length (p := r.p) (o := r.order) (v[i]'(by omega)) (w[i]'(by omega)); omega⟩

theorem VB.nils {r : Rg} {n : Nat} {B : Int} {L k : Nat} : VB r n B L (List.replicate k []) := fun f hf => by
  rw [List.eq_of_mem_replicate hf]; exact ⟨PB.nil _ _ _ _ _, Nat.zero_le _⟩

theorem madeT_vb {r : Rg} {rank : Int} {c : Vc} {l : List Vc} (h : CombOk r rank c l) (hpr : Prm r.p) (hp : 1 < r.p) : ∀ k, k ≤ l.length → VB r r.n.toNat 400 (4000000 * k) (madeT r rank.toNat c l k) ∧ (madeT r rank.toNat c l k).length = rank.toNat
  | 0, _ => ⟨VB.nils, by simp [madeT]⟩
  | k + 1, hk => by
    obtain ⟨h1, h2⟩ := madeT_vb h hpr hp k (by omega)
    have hc := h.clen
    have hv := h.vecs _ (List.getElem_mem (show k < l.length by omega))
    have hf := h.polys _ (List.getElem_mem (show k < c.length by omega))
    rw [madeT_succ (show k < c.length by omega) (show k < l.length by omega)]
    have hl := hv.len
    refine ⟨?_, by rw [vsumT_len' (by rw [vtimesT_len]; omega)]; exact h2⟩
    rw [show 4000000 * (k + 1) = 4000000 * k + 4000000 by omega]
    exact VB.sum' (by omega) h1 (VB.times h.ring hpr hp hf hv)

end Go.Proofs.Ytblileclefbklaa

namespace Go.Proofs.Ytblileclefbklaa
open Go.RowKit
set_option linter.unusedVariables false
set_option linter.unusedSimpArgs false
set_option maxHeartbeats 8000000

/-- A slice made of nothing but nil, as a vector of polynomials without terms. -/
theorem s_makeVc {P : Program} {H : Heap} {e : Env} {dst : Option Tmp} {ty : TypeId} {pos : String} {af : Array Edge} {gd : Option (Nat × Bool)} {t E : TypeId} {x y : Operand} {n bytes : Nat} [SliceT P t E] [ElT P E 1 [.nil] bytes] (hx : e.ev x = some (I n)) (hy : e.ev y = some (I n)) (hb : bytes * n ≤ 281474976710656) (hc : n ≤ 4611686018427387904) :
    Sta P H e ⟨dst, .makeSlice t x y, ty, pos, af, gd⟩ (vcD (List.replicate n [])) := by
  have h := s_make (P := P) (H := H) (dst := dst) (ty := ty) (pos := pos) (af := af) (gd := gd) (t := t) (E := E) (bytes := bytes) (zd := [.nil]) (el := .nil) rfl hx hy hb hc
  refine h.seen_list (l' := (List.replicate n []).map plD) (by simp) fun i d d' h1 h2 => ?_
  have hi : i < n := by have := (List.getElem?_eq_some_iff.1 h1).1; simpa using this
  rw [List.getElem?_replicate, if_pos hi] at h1
  rw [List.getElem?_map, List.getElem?_replicate, if_pos hi] at h2
  cases h1; cases h2
  refine ⟨rfl, fun j a b ha hb => ?_⟩
  match j, ha, hb with
  | 0, ha, hb => cases ha; cases hb; exact .inr ⟨rfl, 2, rfl⟩
  | j + 1, ha, hb => simp [cellsOf] at ha

theorem vMade1_pureH {H : Heap} (r : Rg) (c : Vc) (k b : Nat) (i : Int) (f g : Pl) (hk : k < c.length) (hH : H b = some (3, [I k])) (hs : PureH Try.prog H 56 [rgD r, plD c[k], plD f] (plD g)) :
    PureH Try.prog H 93 [I i, plD f, .ipt 4 [rgD r] 0 0, .ipt 1 [vcD c] 0 0, .ptr b 0] (plD g) := by
  refine PureH.of_body Try.func93 rfl (by decide) (Nat.le_of_ble_eq_true rfl) fun w0 => ?_
  (repeat (first | refine RO.Sv ?_ | refine RO.Yv ?_ | refine RO.no rfl (by decide) rfl ?_ | refine RO.nil ?_ | refine DW.region ?_ | refine DW.seq ?_ | refine DW.block ?_ | refine DW.skip ?_ | refine DW.exit ?_ | refine DW.condT rfl ?_ | refine DW.condF rfl ?_))
  refine DW.drawS 6 Try.mixed (by kernel_rfl) (by decide) ?_
  dsimp only [List.take, List.drop]
  (repeat (first | refine RS.Sv ?_ | refine RS.Yv ?_ | refine RS.no rfl (by decide) rfl ?_ | refine RS.nil ?_))
  refine RS.sta (r_loadMut rfl hH rfl) rfl ?_
  (repeat (first | refine RS.Sv ?_ | refine RS.Yv ?_ | refine RS.no rfl (by decide) rfl ?_ | refine RS.nil ?_))
  refine RO.sta (sta_call rfl rfl hs) rfl ?_
  (repeat (first | refine RO.Sv ?_ | refine RO.Yv ?_ | refine RO.no rfl (by decide) rfl ?_ | refine RO.nil ?_ | refine DW.region ?_ | refine DW.seq ?_ | refine DW.block ?_ | refine DW.skip ?_ | refine DW.exit ?_ | refine DW.condT rfl ?_ | refine DW.condF rfl ?_))
  exact DW.ret ⟨.inl rfl, _, rfl, Over.refl _, .same _⟩

theorem vMade_pure (r : Rg) (rank : Int) (c : Vc) (l : List Vc) (h : CombOk r rank c l) : Pure Try.prog 67 [rgD r, I rank, vcD c, vcsD l] (vcD (combT r rank c l)) := by
  intro H
  have hr2 := ringCk_ok h.ring
  have hp := ckP_ok hr2.1
  have hpr : Prm r.p := ckP_prm hr2.1
  have hrk1 := h.rank1
  have hrk2 := h.rank2
  have hlen := h.len
  have hcl := h.clen
  have hrk : I rank = I (rank.toNat : Int) := by rw [Int.toNat_of_nonneg (by omega)]
  rw [hrk]
  refine PureH.of_body Try.func67 rfl (by decide) (Nat.le_of_ble_eq_true rfl) fun w0 => ?_
  (repeat (first | refine RO.Sv ?_ | refine RO.Yv ?_ | refine RO.no rfl (by decide) rfl ?_ | refine RO.nil ?_ | refine DW.region ?_ | refine DW.seq ?_ | refine DW.block ?_ | refine DW.skip ?_ | refine DW.exit ?_ | refine DW.condT rfl ?_ | refine DW.condF rfl ?_))
  refine RO.sta (sta_call rfl rfl (nought_pure rank.toNat (by omega) _)) rfl ?_
  (repeat (first | refine RO.Sv ?_ | refine RO.Yv ?_ | refine RO.no rfl (by decide) rfl ?_ | refine RO.nil ?_ | refine DW.region ?_ | refine DW.seq ?_ | refine DW.block ?_ | refine DW.skip ?_ | refine DW.exit ?_ | refine DW.condT rfl ?_ | refine DW.condF rfl ?_))
  refine DW.loopG (fun k : Nat => k ≤ l.length) (fun k => [(4, .ipt 4 [rgD r] 0 0), (6, .ipt 1 [vcD c] 0 0), (9, vcD (madeT r rank.toNat c l k)), (14, vcsD l), (15, I l.length), (16, I k)]) (fun _ => H) (fun k => l.length - k) 0 (Nat.zero_le _) (Heap.sub_refl _) ?_ fun k hk => ?_
  · (repeat refine HasG.one rfl ?_)
    trivial
  (repeat (first | refine RO.Sv ?_ | refine RO.Yv ?_ | refine RO.no rfl (by decide) rfl ?_ | refine RO.nil ?_ | refine DW.region ?_ | refine DW.seq ?_ | refine DW.block ?_ | refine DW.skip ?_ | refine DW.exit ?_ | refine DW.condT rfl ?_ | refine DW.condF rfl ?_))
  refine DW.cond rfl (fun hb => ?_) (fun hb => ?_)
  · have hlt : k < l.length := by have := of_decide_eq_true hb; omega
    have hltc : k < c.length := by omega
    clear hb
    have hv := h.vecs _ (List.getElem_mem hlt)
    have hf := h.polys _ (List.getElem_mem hltc)
    have hvl := hv.len
    obtain ⟨m1, m2⟩ := madeT_vb h hpr (by omega) k hk
    (repeat (first | refine RO.Sv ?_ | refine RO.Yv ?_ | refine RO.no rfl (by decide) rfl ?_ | refine RO.nil ?_ | refine DW.region ?_ | refine DW.seq ?_ | refine DW.block ?_ | refine DW.skip ?_ | refine DW.exit ?_ | refine DW.condT rfl ?_ | refine DW.condF rfl ?_))
    refine RO.dyn rfl (d_alloc fun b10 hb10 => ?_)
    (repeat (first | refine RO.Sv ?_ | refine RO.Yv ?_ | refine RO.no rfl (by decide) rfl ?_ | refine RO.nil ?_ | refine DW.region ?_ | refine DW.seq ?_ | refine DW.block ?_ | refine DW.skip ?_ | refine DW.exit ?_ | refine DW.condT rfl ?_ | refine DW.condF rfl ?_))
    refine RO.dyn rfl (d_store (k := 1) rfl rfl rfl (Heap.set_self _ _ _) (Nat.le_refl _) (by simp [cellsOf, D.isCell]) ?_)
    rw [Heap.set_set]
    (repeat (first | refine RO.Sv ?_ | refine RO.Yv ?_ | refine RO.no rfl (by decide) rfl ?_ | refine RO.nil ?_ | refine DW.region ?_ | refine DW.seq ?_ | refine DW.block ?_ | refine DW.skip ?_ | refine DW.exit ?_ | refine DW.condT rfl ?_ | refine DW.condF rfl ?_))
    refine DW.drawS 6 Try.mixed (by kernel_rfl) (by decide) ?_
    dsimp only [List.take, List.drop]
    (repeat (first | refine RS.Sv ?_ | refine RS.Yv ?_ | refine RS.no rfl (by decide) rfl ?_ | refine RS.nil ?_))
    refine RS.sta (fun H' hov => sta_call rfl rfl (vEach_pureH l[k] (vtimesT r c[k] l[k]) (by omega) (vtimesT_len _ _ _) fun H'' hov' i h1 h2 => ?_)) rfl ?_
    · obtain ⟨a1, a2⟩ := hv.vb _ (List.getElem_mem h1)
      have he : (vtimesT r c[k] l[k])[i] = prodT r.p r.order c[k] l[k][i] := by simp [vtimesT]
      have hfl := hf.len
      have hmul : c[k].length * l[k][i].length ≤ 2000 * 2000 := Nat.mul_le_mul hfl a2
      rw [he]
      exact vMade1_pureH r c k b10 i _ _ hltc (hov' _ _ (hov _ _ (Heap.set_self _ _ _))) (product_pure r _ _ (by omega) (B := 200) (C := 200) (by omega) (by omega) (by omega) hr2.1 hpr (by omega) hf.ok a1 (by omega) _)
    (repeat (first | refine RS.Sv ?_ | refine RS.Yv ?_ | refine RS.no rfl (by decide) rfl ?_ | refine RS.nil ?_))
    refine RS.sta (fun H' hov => sta_call rfl rfl (vSum_pure r _ _ (n := r.n.toNat) (B := 400) (L := 4000000 * k) (M := 4000000) (by omega) (by omega) hp (by omega) (by rw [vtimesT_len]; omega) (by omega) m1 (VB.times h.ring hpr (by omega) hf hv) _)) rfl ?_
    rw [← madeT_succ hltc hlt]
    (repeat (first | refine RS.Sv ?_ | refine RS.Yv ?_ | refine RS.no rfl (by decide) rfl ?_ | refine RS.nil ?_))
    (repeat (first | refine RO.Sv ?_ | refine RO.Yv ?_ | refine RO.no rfl (by decide) rfl ?_ | refine RO.nil ?_ | refine DW.region ?_ | refine DW.seq ?_ | refine DW.block ?_ | refine DW.skip ?_ | refine DW.exit ?_ | refine DW.condT rfl ?_ | refine DW.condF rfl ?_))
    refine ⟨k + 1, hlt, by dsimp only; omega, Heap.sub_set _ hb10, ?_⟩
    (repeat refine HasG.one rfl ?_)
    trivial
  · have hge : k = l.length := by have := of_decide_eq_false hb; omega
    subst hge
    (repeat (first | refine RO.Sv ?_ | refine RO.Yv ?_ | refine RO.no rfl (by decide) rfl ?_ | refine RO.nil ?_ | refine DW.region ?_ | refine DW.seq ?_ | refine DW.block ?_ | refine DW.skip ?_ | refine DW.exit ?_ | refine DW.condT rfl ?_ | refine DW.condF rfl ?_))
    exact DW.ret ⟨.inl rfl, _, rfl, Over.refl _, .same _⟩

theorem CombineOf_pure (r : Rg) (rank : Int) (c : Vc) (l : List Vc) (h : CombOk r rank c l) : Pure Try.prog 30 [rgD r, I rank, vcD c, vcsD l] (vcD (combT r rank c l)) := by
  intro H
  have hr2 := ringCk_ok h.ring
  have hp := ckP_ok hr2.1
  have hpr : Prm r.p := ckP_prm hr2.1
  have hrk1 := h.rank1
  have hrk2 := h.rank2
  have hlen := h.len
  have hcl := h.clen
  have hrk : I rank = I (rank.toNat : Int) := by rw [Int.toNat_of_nonneg (by omega)]
  rw [hrk]
  refine PureH.of_body Try.func30 rfl (by decide) (Nat.le_of_ble_eq_true rfl) fun w0 => ?_
  (repeat (first | refine RO.Sv ?_ | refine RO.Yv ?_ | refine RO.no rfl (by decide) rfl ?_ | refine RO.nil ?_ | refine DW.region ?_ | refine DW.seq ?_ | refine DW.block ?_ | refine DW.skip ?_ | refine DW.exit ?_ | refine DW.condT rfl ?_ | refine DW.condF rfl ?_))
  refine RO.sta (s_makeVc rfl rfl (by omega) (by omega)) rfl ?_
  (repeat (first | refine RO.Sv ?_ | refine RO.Yv ?_ | refine RO.no rfl (by decide) rfl ?_ | refine RO.nil ?_ | refine DW.region ?_ | refine DW.seq ?_ | refine DW.block ?_ | refine DW.skip ?_ | refine DW.exit ?_ | refine DW.condT rfl ?_ | refine DW.condF rfl ?_))
  refine DW.loopG (fun k : Nat => k ≤ l.length) (fun k => [(2, vcD c), (3, vcsD l), (4, .ipt 4 [rgD r] 0 0), (9, vcD (madeT r rank.toNat c l k)), (10, I k)]) (fun _ => H) (fun k => l.length - k) 0 (Nat.zero_le _) (Heap.sub_refl _) ?_ fun k hk => ?_
  · (repeat refine HasG.one rfl ?_)
    trivial
  (repeat (first | refine RO.Sv ?_ | refine RO.Yv ?_ | refine RO.no rfl (by decide) rfl ?_ | refine RO.nil ?_ | refine DW.region ?_ | refine DW.seq ?_ | refine DW.block ?_ | refine DW.skip ?_ | refine DW.exit ?_ | refine DW.condT rfl ?_ | refine DW.condF rfl ?_))
  refine DW.cond rfl (fun hb => ?_) (fun hb => ?_)
  · have hlt : k < l.length := by have := of_decide_eq_true hb; omega
    have hltc : k < c.length := by omega
    clear hb
    have hv := h.vecs _ (List.getElem_mem hlt)
    have hf := h.polys _ (List.getElem_mem hltc)
    have hvl := hv.len
    have hfl := hf.len
    obtain ⟨m1, m2⟩ := madeT_vb h hpr (by omega) k hk
    (repeat (first | refine RO.Sv ?_ | refine RO.Yv ?_ | refine RO.no rfl (by decide) rfl ?_ | refine RO.nil ?_ | refine DW.region ?_ | refine DW.seq ?_ | refine DW.block ?_ | refine DW.skip ?_ | refine DW.exit ?_ | refine DW.condT rfl ?_ | refine DW.condF rfl ?_))
    refine DW.drawS 13 Try.mixed (by kernel_rfl) (by decide) ?_
    dsimp only [List.take, List.drop]
    (repeat (first | refine RS.Sv ?_ | refine RS.Yv ?_ | refine RS.no rfl (by decide) rfl ?_ | refine RS.nil ?_))
    refine RS.sta (fun H' hov => sta_call rfl rfl (VTimes_pure r c[k] l[k] (n := r.n.toNat) (B := 200) (C := 200) (L := 2000) (by omega) (by omega) (by omega) (by omega) hr2.1 hpr (by omega) (by omega) (by omega) (by omega) hf.ok hv.vb _)) rfl ?_
    refine RS.sta (fun H' hov => sta_call rfl rfl (VSum_pure r _ _ (n := r.n.toNat) (B := 400) (L := 4000000 * k) (M := 4000000) (by omega) (by omega) hp (by omega) (by rw [vtimesT_len]; omega) (by omega) m1 (VB.times h.ring hpr (by omega) hf hv) _)) rfl ?_
    rw [← madeT_succ hltc hlt]
    (repeat (first | refine RS.Sv ?_ | refine RS.Yv ?_ | refine RS.no rfl (by decide) rfl ?_ | refine RS.nil ?_))
    (repeat (first | refine RO.Sv ?_ | refine RO.Yv ?_ | refine RO.no rfl (by decide) rfl ?_ | refine RO.nil ?_ | refine DW.region ?_ | refine DW.seq ?_ | refine DW.block ?_ | refine DW.skip ?_ | refine DW.exit ?_ | refine DW.condT rfl ?_ | refine DW.condF rfl ?_))
    refine ⟨k + 1, hlt, by dsimp only; omega, Heap.sub_refl _, ?_⟩
    (repeat refine HasG.one rfl ?_)
    trivial
  · have hge : k = l.length := by have := of_decide_eq_false hb; omega
    subst hge
    (repeat (first | refine RO.Sv ?_ | refine RO.Yv ?_ | refine RO.no rfl (by decide) rfl ?_ | refine RO.nil ?_ | refine DW.region ?_ | refine DW.seq ?_ | refine DW.block ?_ | refine DW.skip ?_ | refine DW.exit ?_ | refine DW.condT rfl ?_ | refine DW.condF rfl ?_))
    exact DW.ret ⟨.inl rfl, _, rfl, Over.refl _, .same _⟩

end Go.Proofs.Ytblileclefbklaa

namespace Go.Proofs.Ytblileclefbklaa
open Go.RowKit
set_option linter.unusedVariables false
set_option linter.unusedSimpArgs false
set_option maxHeartbeats 8000000

theorem combT_mok {r : Rg} {rank : Int} {c : Vc} {l : List Vc} (h : CombOk r rank c l) : r.n.toNat ≤ 3 ∧ VB r r.n.toNat 400 240000000 (combT r rank c l) ∧ (combT r rank c l).length = rank.toNat ∧ rank.toNat ≤ 40 := by
  have hr2 := ringCk_ok h.ring
  have hp := ckP_ok hr2.1
  have hlen := h.len
  have hrk2 := h.rank2
  obtain ⟨m1, m2⟩ := madeT_vb h (ckP_prm hr2.1) (by omega) l.length (Nat.le_refl _)
  exact ⟨by omega, m1.mono (Int.le_refl _) (by omega), m2, by omega⟩

theorem vCombine_pure (r : Rg) (rank : Int) (c : Vc) (l : List Vc) (hcl : c.length ≤ 4611686018427387904 ∧ ∀ f ∈ c, f.length ≤ 4611686018427387904) (hl : l.length ≤ 4611686018427387904 ∧ ∀ v ∈ l, v.length ≤ 4611686018427387904 ∧ ∀ f ∈ v, f.length ≤ 4611686018427387904) :
    Pure Try.prog 28 [rgD r, I rank, vcD c, vcsD l] (vecE (visT (combCk0 r rank c l) (combT r rank c l))) := by
  intro H
  refine PureH.of_body Try.func28 rfl (by decide) (Nat.le_of_ble_eq_true rfl) fun w0 => ?_
  (repeat (first | refine RO.Sv ?_ | refine RO.Yv ?_ | refine RO.no rfl (by decide) rfl ?_ | refine RO.nil ?_ | refine DW.region ?_ | refine DW.seq ?_ | refine DW.block ?_ | refine DW.skip ?_ | refine DW.exit ?_ | refine DW.condT rfl ?_ | refine DW.condF rfl ?_))
  refine RO.sta (sta_call rfl rfl (vCheck_pure r rank l hl.1 hl.2 _)) rfl ?_
  (repeat (first | refine RO.Sv ?_ | refine RO.Yv ?_ | refine RO.no rfl (by decide) rfl ?_ | refine RO.nil ?_ | refine DW.region ?_ | refine DW.seq ?_ | refine DW.block ?_ | refine DW.skip ?_ | refine DW.exit ?_ | refine DW.condT rfl ?_ | refine DW.condF rfl ?_))
  by_cases h1 : vecsCk r rank l = 0
  case neg =>
    have hk : combCk0 r rank c l = vecsCk r rank l := by unfold combCk0; rw [if_pos h1]
    rw [hk, show (vecsCk r rank l != 0) = true by simpa using h1, show visT (vecsCk r rank l) (combT r rank c l) = ([], vecsCk r rank l) from if_neg h1]
    (repeat (first | refine RO.Sv ?_ | refine RO.Yv ?_ | refine RO.no rfl (by decide) rfl ?_ | refine RO.nil ?_ | refine DW.region ?_ | refine DW.seq ?_ | refine DW.block ?_ | refine DW.skip ?_ | refine DW.exit ?_ | refine DW.condT rfl ?_ | refine DW.condF rfl ?_))
    exact DW.ret ⟨.inl rfl, _, rfl, Over.refl _, .tup2 (.nil _) (.same _)⟩
  rw [show (vecsCk r rank l != 0) = false by simpa using h1]
  (repeat (first | refine RO.Sv ?_ | refine RO.Yv ?_ | refine RO.no rfl (by decide) rfl ?_ | refine RO.nil ?_ | refine DW.region ?_ | refine DW.seq ?_ | refine DW.block ?_ | refine DW.skip ?_ | refine DW.exit ?_ | refine DW.condT rfl ?_ | refine DW.condF rfl ?_))
  by_cases h2 : (c.length : Int) ≠ l.length
  · have hk : combCk0 r rank c l = 1 := by unfold combCk0; rw [if_neg (by simpa using h1), if_pos h2]
    rw [hk, show ((c.length : Int) != (l.length : Int)) = true by simpa using h2, show visT 1 (combT r rank c l) = ([], 1) from rfl]
    (repeat (first | refine RO.Sv ?_ | refine RO.Yv ?_ | refine RO.no rfl (by decide) rfl ?_ | refine RO.nil ?_ | refine DW.region ?_ | refine DW.seq ?_ | refine DW.block ?_ | refine DW.skip ?_ | refine DW.exit ?_ | refine DW.condT rfl ?_ | refine DW.condF rfl ?_))
    exact DW.ret ⟨.inl rfl, _, rfl, Over.refl _, .tup2 (.nil _) (.same _)⟩
  rw [show ((c.length : Int) != (l.length : Int)) = false by simpa using h2]
  (repeat (first | refine RO.Sv ?_ | refine RO.Yv ?_ | refine RO.no rfl (by decide) rfl ?_ | refine RO.nil ?_ | refine DW.region ?_ | refine DW.seq ?_ | refine DW.block ?_ | refine DW.skip ?_ | refine DW.exit ?_ | refine DW.condT rfl ?_ | refine DW.condF rfl ?_))
  refine RO.sta (sta_call rfl rfl (vpolys_pure r c (vecsCk_ok h1).1 hcl.1 hcl.2 _)) rfl ?_
  (repeat (first | refine RO.Sv ?_ | refine RO.Yv ?_ | refine RO.no rfl (by decide) rfl ?_ | refine RO.nil ?_ | refine DW.region ?_ | refine DW.seq ?_ | refine DW.block ?_ | refine DW.skip ?_ | refine DW.exit ?_ | refine DW.condT rfl ?_ | refine DW.condF rfl ?_))
  by_cases h3 : polysGo r c = 0
  case neg =>
    have hk : combCk0 r rank c l = polysGo r c := by unfold combCk0; rw [if_neg (by simpa using h1), if_neg h2, if_pos h3]
    rw [hk, show (polysGo r c != 0) = true by simpa using h3, show visT (polysGo r c) (combT r rank c l) = ([], polysGo r c) from if_neg h3]
    (repeat (first | refine RO.Sv ?_ | refine RO.Yv ?_ | refine RO.no rfl (by decide) rfl ?_ | refine RO.nil ?_ | refine DW.region ?_ | refine DW.seq ?_ | refine DW.block ?_ | refine DW.skip ?_ | refine DW.exit ?_ | refine DW.condT rfl ?_ | refine DW.condF rfl ?_))
    exact DW.ret ⟨.inl rfl, _, rfl, Over.refl _, .tup2 (.nil _) (.same _)⟩
  have hk : combCk0 r rank c l = if badGo r c l = true then 2 else 0 := by unfold combCk0; rw [if_neg (by simpa using h1), if_neg h2, if_neg (by simpa using h3)]
  have h := combOk h1 h2 h3
  rw [hk, show (polysGo r c != 0) = false by simpa using h3]
  have hr2 := ringCk_ok h.ring
  have hp := ckP_ok hr2.1
  have hpr : Prm r.p := ckP_prm hr2.1
  have hrk1 := h.rank1
  have hrk2 := h.rank2
  have hlen := h.len
  have hcln := h.clen
  clear hk
  (repeat (first | refine RO.Sv ?_ | refine RO.Yv ?_ | refine RO.no rfl (by decide) rfl ?_ | refine RO.nil ?_ | refine DW.region ?_ | refine DW.seq ?_ | refine DW.block ?_ | refine DW.skip ?_ | refine DW.exit ?_ | refine DW.condT rfl ?_ | refine DW.condF rfl ?_))
  refine DW.loopI (fun k : Nat => k ≤ l.length ∧ badGo r (c.drop k) (l.drop k) = badGo r c l) (fun k => [(1, I rank), (2, vcD c), (3, vcsD l), (4, .ipt 4 [rgD r] 0 0), (37, vcsD l), (38, I l.length), (39, I k)]) (fun _ => H) (fun k => l.length - k) 0 ⟨Nat.zero_le _, rfl⟩ rfl ⟨rfl, rfl, rfl, rfl, rfl, rfl, rfl, trivial⟩ fun k ⟨hk, hg⟩ => ?_
  (repeat (first | refine RO.Sv ?_ | refine RO.Yv ?_ | refine RO.no rfl (by decide) rfl ?_ | refine RO.nil ?_ | refine DW.region ?_ | refine DW.seq ?_ | refine DW.block ?_ | refine DW.skip ?_ | refine DW.exit ?_ | refine DW.condT rfl ?_ | refine DW.condF rfl ?_))
  refine DW.cond rfl (fun hb => ?_) (fun hb => ?_)
  · have hlt : k < l.length := by have := of_decide_eq_true hb; omega
    have hltc : k < c.length := by omega
    rw [badGo_drop hltc hlt] at hg
    clear hb
    have hv := h.vecs _ (List.getElem_mem hlt)
    have hf := h.polys _ (List.getElem_mem hltc)
    have hvl := hv.len
    have hfl := hf.len
    have hfm : ∀ t ∈ c[k], MOk t.e := fun t ht => (hf.ok.all t ht).mok (by omega) (by omega)
    (repeat (first | refine RO.Sv ?_ | refine RO.Yv ?_ | refine RO.no rfl (by decide) rfl ?_ | refine RO.nil ?_ | refine DW.region ?_ | refine DW.seq ?_ | refine DW.block ?_ | refine DW.skip ?_ | refine DW.exit ?_ | refine DW.condT rfl ?_ | refine DW.condF rfl ?_))
    refine DW.loopI (fun j : Nat => j ≤ l[k].length ∧ ((l[k].drop j).any (bad2T r c[k]) || badGo r (c.drop (k + 1)) (l.drop (k + 1))) = badGo r c l) (fun j => [(1, I rank), (2, vcD c), (3, vcsD l), (4, .ipt 4 [rgD r] 0 0), (12, I k), (37, vcsD l), (38, I l.length), (39, I k), (44, vcD l[k]), (45, I l[k].length), (46, I j)]) (fun _ => H) (fun j => l[k].length - j) 0 ⟨Nat.zero_le _, hg⟩ rfl ⟨rfl, rfl, rfl, rfl, rfl, rfl, rfl, rfl, rfl, rfl, rfl, trivial⟩ fun j ⟨hj, hgj⟩ => ?_
    (repeat (first | refine RO.Sv ?_ | refine RO.Yv ?_ | refine RO.no rfl (by decide) rfl ?_ | refine RO.nil ?_ | refine DW.region ?_ | refine DW.seq ?_ | refine DW.block ?_ | refine DW.skip ?_ | refine DW.exit ?_ | refine DW.condT rfl ?_ | refine DW.condF rfl ?_))
    refine DW.cond rfl (fun hb => ?_) (fun hb => ?_)
    · have hjl : j < l[k].length := by have := of_decide_eq_true hb; omega
      clear hb
      obtain ⟨a1, a2⟩ := hv.vb _ (List.getElem_mem hjl)
      have hmul : c[k].length * l[k][j].length ≤ 2000 * 2000 := Nat.mul_le_mul hfl a2
      rw [any_drop hjl, bad2_eq hf.ok a1] at hgj
      (repeat (first | refine RO.Sv ?_ | refine RO.Yv ?_ | refine RO.no rfl (by decide) rfl ?_ | refine RO.nil ?_ | refine DW.region ?_ | refine DW.seq ?_ | refine DW.block ?_ | refine DW.skip ?_ | refine DW.exit ?_ | refine DW.condT rfl ?_ | refine DW.condF rfl ?_))
      refine RO.sta (sta_call rfl rfl (great_pure c[k] l[k][j] (by omega) (by omega) hfm (fun t ht => (a1.all t ht).mok (by omega) (by omega)) _)) rfl ?_
      cases hbig : bigT c[k] l[k][j]
      case true =>
        rw [hbig] at hgj
        rw [← hgj]
        (repeat (first | refine RO.Sv ?_ | refine RO.Yv ?_ | refine RO.no rfl (by decide) rfl ?_ | refine RO.nil ?_ | refine DW.region ?_ | refine DW.seq ?_ | refine DW.block ?_ | refine DW.skip ?_ | refine DW.exit ?_ | refine DW.condT rfl ?_ | refine DW.condF rfl ?_))
        exact DW.ret ⟨.inl rfl, _, rfl, Over.refl _, .tup2 (.nil _) (.same _)⟩
      rw [hbig, Bool.false_or] at hgj
      (repeat (first | refine RO.Sv ?_ | refine RO.Yv ?_ | refine RO.no rfl (by decide) rfl ?_ | refine RO.nil ?_ | refine DW.region ?_ | refine DW.seq ?_ | refine DW.block ?_ | refine DW.skip ?_ | refine DW.exit ?_ | refine DW.condT rfl ?_ | refine DW.condF rfl ?_))
      refine DW.drawS 7 Try.mixed (by kernel_rfl) (by decide) ?_
      dsimp only [List.take, List.drop]
      (repeat (first | refine RS.Sv ?_ | refine RS.Yv ?_ | refine RS.no rfl (by decide) rfl ?_ | refine RS.nil ?_))
      refine RS.sta (fun H' hov => sta_call rfl rfl (product_pure r _ _ (by omega) (B := 200) (C := 200) (by omega) (by omega) (by omega) hr2.1 hpr (by omega) hf.ok a1 (by omega) _)) rfl ?_
      (repeat (first | refine RS.Sv ?_ | refine RS.Yv ?_ | refine RS.no rfl (by decide) rfl ?_ | refine RS.nil ?_))
      (repeat (first | refine RO.Sv ?_ | refine RO.Yv ?_ | refine RO.no rfl (by decide) rfl ?_ | refine RO.nil ?_ | refine DW.region ?_ | refine DW.seq ?_ | refine DW.block ?_ | refine DW.skip ?_ | refine DW.exit ?_ | refine DW.condT rfl ?_ | refine DW.condF rfl ?_))
      cases hlong : decide ((2000 : Int) < ((prodT r.p r.order c[k] l[k][j]).length : Int))
      case true =>
        rw [show decide (2000 < (prodT r.p r.order c[k] l[k][j]).length) = true from decide_eq_true (by have := of_decide_eq_true hlong; omega)] at hgj
        rw [← hgj]
        (repeat (first | refine RO.Sv ?_ | refine RO.Yv ?_ | refine RO.no rfl (by decide) rfl ?_ | refine RO.nil ?_ | refine DW.region ?_ | refine DW.seq ?_ | refine DW.block ?_ | refine DW.skip ?_ | refine DW.exit ?_ | refine DW.condT rfl ?_ | refine DW.condF rfl ?_))
        exact DW.ret ⟨.inl rfl, _, rfl, Over.refl _, .tup2 (.nil _) (.same _)⟩
      rw [show decide (2000 < (prodT r.p r.order c[k] l[k][j]).length) = false from decide_eq_false (by have := of_decide_eq_false hlong; omega), Bool.false_or] at hgj
      (repeat (first | refine RO.Sv ?_ | refine RO.Yv ?_ | refine RO.no rfl (by decide) rfl ?_ | refine RO.nil ?_ | refine DW.region ?_ | refine DW.seq ?_ | refine DW.block ?_ | refine DW.skip ?_ | refine DW.exit ?_ | refine DW.condT rfl ?_ | refine DW.condF rfl ?_))
      exact ⟨j + 1, ⟨hjl, hgj⟩, by dsimp only; omega, rfl, rfl, rfl, rfl, rfl, rfl, rfl, rfl, rfl, rfl, rfl, rfl, trivial⟩
    · have hge : j = l[k].length := by have := of_decide_eq_false hb; omega
      rw [hge, List.drop_length] at hgj
      (repeat (first | refine RO.Sv ?_ | refine RO.Yv ?_ | refine RO.no rfl (by decide) rfl ?_ | refine RO.nil ?_ | refine DW.region ?_ | refine DW.seq ?_ | refine DW.block ?_ | refine DW.skip ?_ | refine DW.exit ?_ | refine DW.condT rfl ?_ | refine DW.condF rfl ?_))
      exact ⟨k + 1, ⟨hlt, hgj⟩, by dsimp only; omega, rfl, rfl, rfl, rfl, rfl, rfl, rfl, rfl, trivial⟩
  · have hge : k = l.length := by have := of_decide_eq_false hb; omega
    subst hge
    rw [List.drop_length, badGo_end] at hg
    obtain ⟨n3, x1, x2, x3⟩ := combT_mok h
    rw [← hg]
    (repeat (first | refine RO.Sv ?_ | refine RO.Yv ?_ | refine RO.no rfl (by decide) rfl ?_ | refine RO.nil ?_ | refine DW.region ?_ | refine DW.seq ?_ | refine DW.block ?_ | refine DW.skip ?_ | refine DW.exit ?_ | refine DW.condT rfl ?_ | refine DW.condF rfl ?_))
    refine RO.sta (sta_call rfl rfl (vMade_pure r rank c l h _)) rfl ?_
    refine RO.sta (sta_call rfl rfl (vDone_pure (combT r rank c l) (by omega) (VB.mok x1 n3 (by omega) (by omega)) _)) rfl ?_
    (repeat (first | refine RO.Sv ?_ | refine RO.Yv ?_ | refine RO.no rfl (by decide) rfl ?_ | refine RO.nil ?_ | refine DW.region ?_ | refine DW.seq ?_ | refine DW.block ?_ | refine DW.skip ?_ | refine DW.exit ?_ | refine DW.condT rfl ?_ | refine DW.condF rfl ?_))
    exact DW.ret ⟨.inl rfl, _, rfl, Over.refl _, .same _⟩

end Go.Proofs.Ytblileclefbklaa
