/-
  Dividing a vector by a list, step by step, in plain Lean. No condition.
-/
import Derived.Test.YtcdihmhmoddppaaGreatKRc23
import Derived.Test.YtcdihmhmoddppaaGreatKRc22
import Derived.Test.YtcdihmhmoddppaaGreatKRc10

namespace Go.Proofs.YtcdihmhmoddppaaGreat
open Go.RowKit
set_option linter.unusedVariables false
set_option linter.unusedSimpArgs false
set_option maxHeartbeats 8000000

theorem s_two {P : Program} {H : Heap} {e : Env} {dst : Option Tmp} {ty : TypeId} {pos : String} {af : Array Edge} {gd : Option (Nat × Bool)} {t E : TypeId} {x y : Operand} {a b : Int} {bytes : Nat} {zd : List D} [SliceT P t E] [ElT P E 1 zd bytes] (hx : e.ev x = some (I a)) (hy : e.ev y = some (I b)) :
    Sta P H e ⟨dst, .buildSlice t 2 #[(0, x), (1, y)], ty, pos, af, gd⟩ (intsD [a, b]) := by
  have hz : zd.length = 1 := (ElT.z (P := P) (E := E) (k := 1) (zd := zd) (bytes := bytes)).len
  obtain ⟨z, rfl⟩ : ∃ z, zd = [z] := by
    match zd, hz with
    | [z], _ => exact ⟨z, rfl⟩
  exact s_lit (P := P) (t := t) (E := E) (bytes := bytes) (zd := [z]) (pd := [(0, I a), (1, I b)]) (ds := [I a, I b]) (by decide) (by decide) (by simp [evParts, hx, hy]) rfl (fun d hd => by simp at hd; rcases hd with rfl | rfl <;> rfl) rfl

def bgV : Vc := [[], [⟨1, [1, 0]⟩]]

/-- A vector of a nil and one polynomial. -/
theorem s_nilPoly {P : Program} {H : Heap} {e : Env} {dst : Option Tmp} {ty : TypeId} {pos : String} {af : Array Edge} {gd : Option (Nat × Bool)} {t E : TypeId} {x y : Operand} {f : Pl} {bytes : Nat} {zd : List D} [SliceT P t E] [ElT P E 1 zd bytes] (hx : e.ev x = some .nil) (hy : e.ev y = some (plD f)) :
    Sta P H e ⟨dst, .buildSlice t 2 #[(0, x), (1, y)], ty, pos, af, gd⟩ (vcD [[], f]) := by
  have hz : zd.length = 1 := (ElT.z (P := P) (E := E) (k := 1) (zd := zd) (bytes := bytes)).len
  obtain ⟨z, rfl⟩ : ∃ z, zd = [z] := by
    match zd, hz with
    | [z], _ => exact ⟨z, rfl⟩
  have h := s_lit (n := 2) (k := 1) (P := P) (H := H) (e := e) (dst := dst) (ty := ty) (pos := pos) (af := af) (gd := gd) (t := t) (E := E) (bytes := bytes) (zd := [z]) (parts := #[(0, x), (1, y)]) (pd := [(0, .nil), (1, plD f)]) (ds := [.nil, plD f]) (by decide) (by decide) (by simp [evParts, hx, hy]) rfl (fun d hd => by simp at hd; rcases hd with rfl | rfl <;> rfl) rfl
  refine h.seen_list (l' := [.list 2 [], plD f]) rfl fun i d d' h1 h2 => ?_
  match i, h1, h2 with
  | 0, h1, h2 =>
    cases h1; cases h2
    refine ⟨rfl, fun j a b ha hb => ?_⟩
    match j, ha, hb with
    | 0, ha, hb => cases ha; cases hb; exact .inr ⟨rfl, 2, rfl⟩
    | j + 1, ha, hb => simp [cellsOf] at ha
  | 1, h1, h2 =>
    cases h1; cases h2
    exact ⟨rfl, fun j a b ha hb => by rw [ha] at hb; cases hb; exact .inl rfl⟩
  | i + 2, h1, h2 => simp at h1

end Go.Proofs.YtcdihmhmoddppaaGreat

namespace Go.Proofs.YtcdihmhmoddppaaGreat
set_option linter.unusedVariables false
set_option linter.unusedSimpArgs false

theorem Lf_zero {φ : List Int → Int} : ∀ {f : Pl}, (∀ s ∈ f, φ s.e = 0) → Lf φ f = 0
  | [], _ => rfl
  | t :: f, h => by rw [Lf_cons, Lf_zero fun s hs => h s (by simp [hs]), h t (by simp)]; simp

theorem LfP_zero {φ : List Int → Int} {g : Pl} : ∀ {f : Pl}, (∀ t ∈ f, Lf (shift φ t.e) g = 0) → LfP φ f g = 0
  | [], _ => rfl
  | t :: f, h => by
    have : LfP φ (t :: f) g = t.c * Lf (shift φ t.e) g + LfP φ f g := by simp [LfP]
    rw [this, LfP_zero fun s hs => h s (by simp [hs]), h t (by simp)]; simp

theorem prod_head {p o : Int} {n : Nat} {B C : Int} (hp : 1 < p) (hpr : Prm p) {t u : Tm} {f g : Pl} (hC : 0 ≤ C) (hf : PB 1 p o n C (t :: f)) (hg : PB 1 p o n B (u :: g)) :
    ∃ s ∈ prodT p o (t :: f) (u :: g), s.e = zipE (· + ·) t.e u.e := by
  have htl := hf.head.len
  have hul := hg.head.len
  generalize hm : zipE (· + ·) t.e u.e = m
  have hgl : ∀ s ∈ u :: g, s.e.length = n ∧ 0 ≤ cmpM o u.e s.e := fun s hs => by
    refine ⟨(hg.all s hs).len, ?_⟩
    rcases List.mem_cons.1 hs with rfl | hs
    · rw [cmpM_self]; exact Int.le_refl _
    · exact Int.le_of_lt (hg.below s hs)
  have far : ∀ (a b : List Int), a.length = n → b.length = n → 0 ≤ cmpM o t.e a → 0 ≤ cmpM o u.e b → (0 < cmpM o t.e a ∨ 0 < cmpM o u.e b) → zipE (· + ·) b a ≠ m := fun a b ha hb h1 h2 h3 he => by
    rw [zipE_comm] at he
    have c1 : cmpM o m (zipE (· + ·) a u.e) = cmpM o t.e a := by rw [← hm]; exact cmpM_add (by omega) (by omega)
    have c2 : cmpM o (zipE (· + ·) a u.e) (zipE (· + ·) a b) = cmpM o u.e b := by
      rw [zipE_comm (a := a) (b := u.e), zipE_comm (a := a) (b := b)]
      exact cmpM_add (by omega) (by omega)
    have l1 : m.length = n := by rw [← hm, zipE_len (by omega)]; exact htl
    have l2 : (zipE (· + ·) a u.e).length = n := by rw [zipE_len (by omega)]; exact ha
    have l3 : (zipE (· + ·) a b).length = n := by rw [zipE_len (by omega)]; exact ha
    have := (cmpM_trans (o := o) (a := m) (b := zipE (· + ·) a u.e) (c := zipE (· + ·) a b) (by omega) (by omega) (by omega) (by omega)).2 (by rw [c1, c2]; exact h3)
    rw [he, cmpM_self] at this
    omega
  have k1 : ∀ t' ∈ f, Lf (shift (delta m) t'.e) (u :: g) = 0 := fun t' ht' => Lf_zero fun s hs => by
    have := far t'.e s.e (hf.all t' (by simp [ht'])).len (hgl s hs).1 (Int.le_of_lt (hf.below t' ht')) (hgl s hs).2 (.inl (hf.below t' ht'))
    simp [shift, delta, this]
  have k2 : Lf (shift (delta m) t.e) (u :: g) = u.c := by
    rw [Lf_cons, Lf_zero (f := g) fun s hs => by
      have := far t.e s.e htl (hgl s (by simp [hs])).1 (by rw [cmpM_self]; exact Int.le_refl _) (hgl s (by simp [hs])).2 (.inr (hg.below s hs))
      simp [shift, delta, this]]
    have : zipE (· + ·) u.e t.e = m := by rw [zipE_comm]; exact hm
    simp [shift, delta, this]
  have k3 : LfP (delta m) (t :: f) (u :: g) = t.c * u.c := by
    have : LfP (delta m) (t :: f) (u :: g) = t.c * Lf (shift (delta m) t.e) (u :: g) + LfP (delta m) f (u :: g) := by simp [LfP]
    rw [this, k2, LfP_zero k1]; simp
  have hL := prodT_L hp hpr hg hC (fun x hx => (hf.all x hx).mono (by omega) (Int.le_refl _)) (delta m)
  rw [k3] at hL
  refine Classical.byContradiction fun hno => ?_
  have h0 : Lf (delta m) (prodT p o (t :: f) (u :: g)) = 0 := Lf_zero fun s hs => by
    have : s.e ≠ m := fun e => hno ⟨s, hs, e⟩
    simp [delta, this]
  rw [h0] at hL
  have hd : p ∣ t.c * u.c := by
    have := Int.dvd_neg.2 hL
    rwa [show -(0 - t.c * u.c) = t.c * u.c by omega] at this
  have t1 := hf.head.lo
  have t2 := hf.head.hi
  have u1 := hg.head.lo
  have u2 := hg.head.hi
  rcases hpr _ _ hd with h | h
  · have := Int.le_of_dvd (by omega) h; omega
  · have := Int.le_of_dvd (by omega) h; omega

/-- A product of too great a degree is too great. -/
theorem big_great {p o : Int} {n : Nat} {B C : Int} (hp : 1 < p) (hpr : Prm p) {f g : Pl} (hC : 0 ≤ C) (hf : PB 1 p o n C f) (hg : PB 1 p o n B g) (h : bigT f g = true) : greatT (prodT p o f g) = true := by
  unfold bigT at h
  cases f with
  | nil => simp at h
  | cons t f =>
    cases g with
    | nil => simp at h
    | cons u g =>
      obtain ⟨s, hs, he⟩ := prod_head hp hpr hC hf hg
      have ht := topT_ge (prodT_ok hp hpr hg hC (fun x hx => (hf.all x hx).mono (by omega) (Int.le_refl _))) s hs
      rw [he, zipE_sum (by rw [hf.head.len, hg.head.len])] at ht
      have hsum : 200 < topT (t :: f) + topT (u :: g) := by simpa using h
      unfold greatT
      have h1 : topT (t :: f) = t.e.sum := rfl
      have h2 : topT (u :: g) = u.e.sum := rfl
      rw [decide_eq_true (show 200 < topT (prodT p o (t :: f) (u :: g)) by omega)]
      rfl

end Go.Proofs.YtcdihmhmoddppaaGreat

namespace Go.Proofs.YtcdihmhmoddppaaGreat
open Go.RowKit
set_option linter.unusedVariables false
set_option linter.unusedSimpArgs false
set_option maxHeartbeats 8000000

/-- A vector that may be compared. -/
def Cmp (v : Vc) : Prop := v.length ≤ 1000000 ∧ ∀ f ∈ v, f.length ≤ 4000000000000 ∧ ∀ t ∈ f, t.e.length ≤ 3

theorem Cmp.nil : Cmp [] := ⟨Nat.zero_le _, fun f h => (by cases h)⟩

theorem Cmp.done {v : Vc} (h : Cmp v) : Cmp (vdoneT v).1 := by
  unfold vdoneT
  split
  · exact .nil
  · exact h

/-- What is wanted, as it stands: nothing if it need not be made. -/
def wantT (w : Int) (want : Vc) : Vc := if w = 0 then want else []

theorem wantT_yes {w : Int} {want : Vc} (h : w = 0) : wantT w want = want := if_pos h
theorem wantT_no {w : Int} {want : Vc} (h : ¬ w = 0) : wantT w want = [] := if_neg h

theorem visT_want (w : Int) (want : Vc) : visT w (wantT w want) = visT w want := by
  unfold visT wantT
  by_cases h : w = 0
  · rw [if_pos h, if_pos h, if_pos h]
  · rw [if_neg h, if_neg h]

theorem VB.cmp {r : Rg} {n : Nat} {B : Int} {L : Nat} {v : Vc} (h : VB r n B L v) (hn : n ≤ 3) (hL : L ≤ 4000000000000) (hl : v.length ≤ 1000000) : Cmp v := ⟨hl, h.len3 hn hL⟩

theorem vadd_vis (r : Rg) (v w : Vc) : vaddT r v w = visT (alikeCk r [v, w]) (vsumT r v w) := by
  unfold vaddT visT
  by_cases h : alikeCk r [v, w] = 0
  · rw [if_neg (by simpa using h), if_pos h]
  · rw [if_pos h, if_neg h]

theorem visT_ne {w : Int} (h : w ≠ 0) (a b : Vc) : visT w a = visT w b := by unfold visT; rw [if_neg h, if_neg h]

theorem add_vb {r : Rg} {v w : Vc} (h : alikeCk r [v, w] = 0) : r.n.toNat ≤ 3 ∧ VB r r.n.toNat 200 4000 (vsumT r v w) ∧ (vsumT r v w).length = v.length ∧ v.length ≤ 40 ∧ v.length = w.length := by
  obtain ⟨hr, hal⟩ := alikeCk_ok h
  obtain ⟨hv1, hv2, hv3⟩ := hal v (by simp)
  obtain ⟨hw1, hw2, hw3⟩ := hal w (by simp)
  have hr2 := ringCk_ok hr
  have hp := ckP_ok hr2.1
  have e1 := hv3.len
  have e2 := hw3.len
  exact ⟨by omega, VB.sum (by omega) hv3.vb hw3.vb, vsumT_len (by omega), hv2, by omega⟩

theorem vadd_cmp (r : Rg) (v w : Vc) : Cmp (vaddT r v w).1 := by
  unfold vaddT
  by_cases h : alikeCk r [v, w] = 0
  · rw [if_neg (by simpa using h)]
    obtain ⟨h1, h2, h3, h4, _⟩ := add_vb h
    exact (h2.cmp h1 (by omega) (by omega)).done
  · rw [if_pos h]; exact .nil

theorem scale_vb {r : Rg} {f : Pl} {v : Vc} (hp : polysCk r [f] = 0) (h : alikeCk r [v] = 0) : r.n.toNat ≤ 3 ∧ VB r r.n.toNat 400 4000000 (vtimesT r f v) ∧ (vtimesT r f v).length = v.length ∧ v.length ≤ 40 ∧ (v.any (bigT f) = true → vgreatT (vtimesT r f v) = true) := by
  obtain ⟨hr, hal⟩ := alikeCk_ok h
  obtain ⟨hv1, hv2, hv3⟩ := hal v (by simp)
  have hfo := (polysCk_ok hp).2 f (by simp)
  have hr2 := ringCk_ok hr
  have hp := ckP_ok hr2.1
  have hpr : Prm r.p := ckP_prm hr2.1
  have hvb := hv3.vb
  refine ⟨by omega, fun g hg => ?_, by simp [vtimesT], hv2, fun hb => ?_⟩
  · obtain ⟨u, hu, rfl⟩ := List.mem_map.1 hg
    obtain ⟨a1, a2⟩ := hvb u hu
    have hfl := hfo.len
    have hmul : f.length * u.length ≤ 2000 * 2000 := Nat.mul_le_mul hfl a2
    have h0 : ∀ t ∈ f, TB 0 r.p r.n.toNat 200 t := fun t ht => (hfo.ok.all t ht).mono (by omega) (by omega)
    exact ⟨prodT_ok (by omega) hpr a1 (by omega) h0, Nat.le_trans (prodT_length (by omega) hpr a1 (by omega) h0) hmul⟩
  · obtain ⟨u, hu, hbu⟩ := List.any_eq_true.1 hb
    exact List.any_eq_true.2 ⟨_, List.mem_map.2 ⟨u, hu, rfl⟩, big_great (by omega) hpr (by omega) hfo.ok (hvb u hu).1 hbu⟩

/-- What is wrong with what Scale is handed. -/
def scaleCk (r : Rg) (f : Pl) (v : Vc) : Int := if polysCk r [f] = 0 then alikeCk r [v] else polysCk r [f]

theorem vscale_vis (r : Rg) (f : Pl) (v : Vc) : vscaleT r f v = visT (scaleCk r f v) (vtimesT r f v) := by
  unfold vscaleT visT scaleCk
  by_cases h : polysCk r [f] = 0
  · rw [if_neg (by simpa using h), if_pos h]
    by_cases h2 : alikeCk r [v] = 0
    · rw [if_neg (by simpa using h2), if_pos h2]
      split
      · rename_i hb
        unfold vdoneT
        rw [(scale_vb h h2).2.2.2.2 hb, if_pos rfl]
      · rfl
    · rw [if_pos h2, if_neg h2]
  · rw [if_pos h, if_neg h, if_neg h]

theorem vscale_cmp (r : Rg) (f : Pl) (v : Vc) : Cmp (vscaleT r f v).1 := by
  unfold vscaleT
  by_cases h : polysCk r [f] = 0
  · rw [if_neg (by simpa using h)]
    by_cases h2 : alikeCk r [v] = 0
    · rw [if_neg (by simpa using h2)]
      split
      · exact .nil
      · obtain ⟨h1, h3, h4, h5, _⟩ := scale_vb h h2
        exact (h3.cmp h1 (by omega) (by omega)).done
    · rw [if_pos h2]; exact .nil
  · rw [if_pos h]; exact .nil

end Go.Proofs.YtcdihmhmoddppaaGreat

namespace Go.Proofs.YtcdihmhmoddppaaGreat
open Go.RowKit
set_option linter.unusedVariables false

/-- A sum's monomials come from one of the two. -/
theorem sumT_mem {p o : Int} : ∀ (f g : Pl), ∀ s ∈ sumT p o f g, (∃ t ∈ f, t.e = s.e) ∨ ∃ t ∈ g, t.e = s.e :=
  sumT_ind (p := p) (o := o) (M := fun f g => ∀ s ∈ sumT p o f g, (∃ t ∈ f, t.e = s.e) ∨ ∃ t ∈ g, t.e = s.e)
    (fun g s hs => .inr ⟨s, by rwa [sumT_nil] at hs, rfl⟩)
    (fun a f s hs => .inl ⟨s, by rwa [sumT_nil'] at hs, rfl⟩)
    fun a b f g h1 h2 h3 s hs => by
      have w1 : ((∃ t ∈ f, t.e = s.e) ∨ ∃ t ∈ b :: g, t.e = s.e) → (∃ t ∈ a :: f, t.e = s.e) ∨ ∃ t ∈ b :: g, t.e = s.e := fun h => h.imp (fun ⟨t, ht, he⟩ => ⟨t, by simp [ht], he⟩) id
      have w2 : ((∃ t ∈ a :: f, t.e = s.e) ∨ ∃ t ∈ g, t.e = s.e) → (∃ t ∈ a :: f, t.e = s.e) ∨ ∃ t ∈ b :: g, t.e = s.e := fun h => h.imp id fun ⟨t, ht, he⟩ => ⟨t, by simp [ht], he⟩
      have w3 : ((∃ t ∈ f, t.e = s.e) ∨ ∃ t ∈ g, t.e = s.e) → (∃ t ∈ a :: f, t.e = s.e) ∨ ∃ t ∈ b :: g, t.e = s.e := fun h => h.imp (fun ⟨t, ht, he⟩ => ⟨t, by simp [ht], he⟩) fun ⟨t, ht, he⟩ => ⟨t, by simp [ht], he⟩
      rw [sumT_cons] at hs
      split at hs
      · rcases List.mem_cons.1 hs with rfl | hs
        · exact .inl ⟨s, by simp, rfl⟩
        · exact w1 (h1 s hs)
      · split at hs
        · rcases List.mem_cons.1 hs with rfl | hs
          · exact .inr ⟨s, by simp, rfl⟩
          · exact w2 (h2 s hs)
        · split at hs
          · rcases List.mem_cons.1 hs with rfl | hs
            · exact .inl ⟨a, by simp, rfl⟩
            · exact w3 (h3 s hs)
          · exact w3 (h3 s hs)

theorem byT_mem {p : Int} {f : Pl} {t : Tm} : ∀ s ∈ byT p f t, ∃ u ∈ f, s.e = zipE (· + ·) u.e t.e := fun s hs => by
  unfold byT at hs
  split at hs
  · cases hs
  · obtain ⟨u, hu, rfl⟩ := List.mem_map.1 hs
    exact ⟨u, hu, rfl⟩

theorem prodT_mem {p o : Int} {g : Pl} : ∀ (f out : Pl), ∀ s ∈ f.foldl (fun out t => sumT p o out (byT p g t)) out, (∃ u ∈ out, u.e = s.e) ∨ ∃ t ∈ f, ∃ u ∈ g, s.e = zipE (· + ·) u.e t.e
  | [], out, s, hs => .inl ⟨s, hs, rfl⟩
  | t :: f, out, s, hs => by
    rw [List.foldl_cons] at hs
    rcases prodT_mem f _ s hs with ⟨u, hu, he⟩ | ⟨t', ht', u, hu, he⟩
    · rcases sumT_mem _ _ u hu with ⟨w, hw, hwe⟩ | ⟨w, hw, hwe⟩
      · exact .inl ⟨w, hw, hwe.trans he⟩
      · obtain ⟨x, hx, hxe⟩ := byT_mem w hw
        exact .inr ⟨t, by simp, x, hx, by rw [← he, ← hwe, hxe]⟩
    · exact .inr ⟨t', by simp [ht'], u, hu, he⟩

/-- Degrees of at most d. -/
def DB (d : Int) (f : Pl) : Prop := ∀ t ∈ f, t.e.sum ≤ d

theorem DB.mono {d d' : Int} {f : Pl} (h : DB d f) (hd : d ≤ d') : DB d' f := fun t ht => by have := h t ht; omega

theorem DB.sum {p o d : Int} {f g : Pl} (hf : DB d f) (hg : DB d g) : DB d (sumT p o f g) := fun s hs => by
  rcases sumT_mem f g s hs with ⟨t, ht, he⟩ | ⟨t, ht, he⟩
  · rw [← he]; exact hf t ht
  · rw [← he]; exact hg t ht

theorem DB.byT {p d : Int} {f : Pl} {t : Tm} (hf : DB d f) (hl : ∀ u ∈ f, u.e.length = t.e.length) : DB (d + t.e.sum) (byT p f t) := fun s hs => by
  obtain ⟨u, hu, he⟩ := byT_mem s hs
  rw [he, zipE_sum (hl u hu)]
  have := hf u hu
  omega

theorem DB.prod {p o a b : Int} {f g : Pl} (hf : DB a f) (hg : DB b g) (hl : ∀ t ∈ f, ∀ u ∈ g, u.e.length = t.e.length) : DB (a + b) (prodT p o f g) := fun s hs => by
  rcases prodT_mem f [] s hs with ⟨u, hu, _⟩ | ⟨t, ht, u, hu, he⟩
  · cases hu
  · rw [he, zipE_sum (hl t ht u hu)]
    have := hf t ht
    have := hg u hu
    omega

theorem topT_le {d : Int} {f : Pl} (h : DB d f) (hd : -1 ≤ d) : topT f ≤ d := by
  cases f with
  | nil => exact hd
  | cons t f => exact h t (by simp)

/-- Two that may not be multiplied. -/
def bad2T (r : Rg) (f g : Pl) : Bool := bigT f g || greatT (prodT r.p r.order f g)

theorem bad2_eq {r : Rg} {n : Nat} {B C : Int} {f g : Pl} (hf : PB 1 r.p r.order n C f) (hg : PB 1 r.p r.order n B g) : bad2T r f g = (bigT f g || decide (2000 < (prodT r.p r.order f g).length)) := by
  unfold bad2T
  cases hb : bigT f g
  · rw [Bool.false_or, Bool.false_or]
    unfold greatT
    have : topT (prodT r.p r.order f g) ≤ 200 := by
      cases f with
      | nil => exact (by decide : (-1 : Int) ≤ 200)
      | cons t f =>
        cases g with
        | nil =>
          have h1 := prodT_mem (p := r.p) (o := r.order) (g := []) (t :: f) []
          refine topT_le (fun s hs => ?_) (by omega)
          rcases h1 s hs with ⟨u, hu, _⟩ | ⟨t, ht, u, hu, he⟩
          · cases hu
          · cases hu
        | cons u g =>
          refine topT_le (d := 200) ?_ (by omega)
          have hsum : ¬ 200 < topT (t :: f) + topT (u :: g) := by simpa [bigT] using hb
          exact (DB.prod (topT_ge hf) (topT_ge hg) (fun x hx y hy => by rw [(hf.all x hx).len, (hg.all y hy).len])).mono (by omega)
    rw [decide_eq_false (show ¬ 200 < topT (prodT r.p r.order f g) by omega), Bool.false_or]
  · rfl

def badGo (r : Rg) : Vc → List Vc → Bool
  | f :: c, v :: l => v.any (bad2T r f) || badGo r c l
  | _, _ => false

theorem badGo_drop {r : Rg} {c : Vc} {l : List Vc} {k : Nat} (h : k < c.length) (h2 : k < l.length) : badGo r (c.drop k) (l.drop k) = (l[k].any (bad2T r c[k]) || badGo r (c.drop (k + 1)) (l.drop (k + 1))) := by
  rw [List.drop_eq_getElem_cons h, List.drop_eq_getElem_cons h2]; rfl

theorem badGo_end {r : Rg} {c : Vc} : badGo r c [] = false := by cases c <;> rfl

/-- Made of the first k of a list. -/
def madeT (r : Rg) (rank : Nat) (c : Vc) (l : List Vc) : Nat → Vc
  | 0 => List.replicate rank []
  | k + 1 => vsumT r (madeT r rank c l k) (vtimesT r (c.getD k []) (l.getD k []))

theorem madeT_succ {r : Rg} {rank : Nat} {c : Vc} {l : List Vc} {k : Nat} (h : k < c.length) (h2 : k < l.length) : madeT r rank c l (k + 1) = vsumT r (madeT r rank c l k) (vtimesT r c[k] l[k]) := by
  show vsumT r (madeT r rank c l k) (vtimesT r (c.getD k []) (l.getD k [])) = _
  rw [List.getD_eq_getElem?_getD, List.getElem?_eq_getElem h, List.getD_eq_getElem?_getD, List.getElem?_eq_getElem h2]; rfl

/-- What is wrong with what Combine is handed, but for what comes. -/
def combCk0 (r : Rg) (rank : Int) (c : Vc) (l : List Vc) : Int :=
  if vecsCk r rank l ≠ 0 then vecsCk r rank l else if (c.length : Int) ≠ l.length then 1 else if polysGo r c ≠ 0 then polysGo r c else if badGo r c l = true then 2 else 0

def combT (r : Rg) (rank : Int) (c : Vc) (l : List Vc) : Vc := madeT r rank.toNat c l l.length

def combCk (r : Rg) (rank : Int) (c : Vc) (l : List Vc) : Int := if combCk0 r rank c l ≠ 0 then combCk0 r rank c l else if vgreatT (combT r rank c l) = true then 2 else 0

/-- What is right with what Combine is handed, up to the products. -/
structure CombOk (r : Rg) (rank : Int) (c : Vc) (l : List Vc) : Prop where
  ring : ringCk r = 0
  rank1 : 1 ≤ rank
  rank2 : rank ≤ 40
  len : l.length ≤ 60
  vecs : ∀ v ∈ l, VOk r rank.toNat v
  clen : c.length = l.length
  polys : ∀ f ∈ c, POk r f

theorem combOk {r : Rg} {rank : Int} {c : Vc} {l : List Vc} (h1 : vecsCk r rank l = 0) (h2 : ¬ (c.length : Int) ≠ l.length) (h3 : polysGo r c = 0) : CombOk r rank c l := by
  obtain ⟨a, b, d, e, f⟩ := vecsCk_ok h1
  exact ⟨a, b, d, e, f, by omega, polysGo_ok a h3⟩

theorem combCk0_ok {r : Rg} {rank : Int} {c : Vc} {l : List Vc} (h : combCk0 r rank c l = 0) : CombOk r rank c l ∧ badGo r c l = false := by
  unfold combCk0 at h
  split at h
  · contradiction
  · rename_i h1
    split at h
    · cases h
    · rename_i h2
      split at h
      · contradiction
      · rename_i h3
        split at h
        · cases h
        · rename_i h4
          exact ⟨combOk (by simpa using h1) h2 (by simpa using h3), by simpa using h4⟩

theorem VB.times {r : Rg} (hr : ringCk r = 0) (hpr : Prm r.p) (hp : 1 < r.p) {f : Pl} (hf : POk r f) {k : Nat} {v : Vc} (hv : VOk r k v) : VB r r.n.toNat 400 4000000 (vtimesT r f v) := fun g hg => by
  obtain ⟨u, hu, rfl⟩ := List.mem_map.1 hg
  obtain ⟨a1, a2⟩ := hv.vb u hu
  have hfl := hf.len
  have hmul : f.length * u.length ≤ 2000 * 2000 := Nat.mul_le_mul hfl a2
  have h0 : ∀ t ∈ f, TB 0 r.p r.n.toNat 200 t := fun t ht => (hf.ok.all t ht).mono (by omega) (by omega)
  exact ⟨prodT_ok hp hpr a1 (by omega) h0, Nat.le_trans (prodT_length hp hpr a1 (by omega) h0) hmul⟩

theorem vtimesT_len (r : Rg) (f : Pl) (v : Vc) : (vtimesT r f v).length = v.length := by simp [vtimesT]

theorem vsumT_len' {r : Rg} {v w : Vc} (h : v.length = w.length) : (vsumT r v w).length = v.length := by unfold vsumT; rw [List.length_zipWith]; omega

theorem VB.sum' {r : Rg} {n : Nat} {B : Int} {L M : Nat} {v w : Vc} (hp : 0 < r.p) (hv : VB r n B L v) (hw : VB r n B M w) : VB r n B (L + M) (vsumT r v w) := fun f hf => by
  unfold vsumT at hf
  obtain ⟨i, hi, rfl⟩ := List.getElem_of_mem hf
  rw [List.length_zipWith] at hi
  have h1 := hv _ (List.getElem_mem (show i < v.length by omega))
  have h2 := hw _ (List.getElem_mem (show i < w.length by omega))
  rw [List.getElem_zipWith]
  exact ⟨sumT_ok hp _ _ h1.1 h2.1, by have := sumT_length (p := r.p) (o := r.order) (v[i]'(by omega)) (w[i]'(by omega)); omega⟩

theorem VB.nils {r : Rg} {n : Nat} {B : Int} {L k : Nat} : VB r n B L (List.replicate k []) := fun f hf => by
  rw [List.eq_of_mem_replicate hf]; exact ⟨PB.nil _ _ _ _ _, Nat.zero_le _⟩

theorem madeT_vb {r : Rg} {rank : Int} {c : Vc} {l : List Vc} (h : CombOk r rank c l) (hpr : Prm r.p) (hp : 1 < r.p) : ∀ k, k ≤ l.length → VB r r.n.toNat 400 (4000000 * k) (madeT r rank.toNat c l k) ∧ (madeT r rank.toNat c l k).length = rank.toNat
  | 0, _ => ⟨VB.nils, by simp [madeT]⟩
  | k + 1, hk => by
    obtain ⟨h1, h2⟩ := madeT_vb h hpr hp k (by omega)
    have hc := h.clen
    have hv := h.vecs _ (List.getElem_mem (show k < l.length by omega))
    have hf := h.polys _ (List.getElem_mem (show k < c.length by omega))
    rw [madeT_succ (show k < c.length by omega) (show k < l.length by omega)]
    have hl := hv.len
    refine ⟨?_, by rw [vsumT_len' (by rw [vtimesT_len]; omega)]; exact h2⟩
    rw [show 4000000 * (k + 1) = 4000000 * k + 4000000 by omega]
    exact VB.sum' (by omega) h1 (VB.times h.ring hpr hp hf hv)

end Go.Proofs.YtcdihmhmoddppaaGreat

namespace Go.Proofs.YtcdihmhmoddppaaGreat
open Go.RowKit
set_option linter.unusedVariables false
set_option linter.unusedSimpArgs false
set_option maxHeartbeats 8000000

/-- A slice made of nothing but nil, as a vector of polynomials without terms. -/
theorem s_makeVc {P : Program} {H : Heap} {e : Env} {dst : Option Tmp} {ty : TypeId} {pos : String} {af : Array Edge} {gd : Option (Nat × Bool)} {t E : TypeId} {x y : Operand} {n bytes : Nat} [SliceT P t E] [ElT P E 1 [.nil] bytes] (hx : e.ev x = some (I n)) (hy : e.ev y = some (I n)) (hb : bytes * n ≤ 281474976710656) (hc : n ≤ 4611686018427387904) :
    Sta P H e ⟨dst, .makeSlice t x y, ty, pos, af, gd⟩ (vcD (List.replicate n [])) := by
  have h := s_make (P := P) (H := H) (dst := dst) (ty := ty) (pos := pos) (af := af) (gd := gd) (t := t) (E := E) (bytes := bytes) (zd := [.nil]) (el := .nil) rfl hx hy hb hc
  refine h.seen_list (l' := (List.replicate n []).map plD) (by simp) fun i d d' h1 h2 => ?_
  have hi : i < n := by have := (List.getElem?_eq_some_iff.1 h1).1; simpa using this
  rw [List.getElem?_replicate, if_pos hi] at h1
  rw [List.getElem?_map, List.getElem?_replicate, if_pos hi] at h2
  cases h1; cases h2
  refine ⟨rfl, fun j a b ha hb => ?_⟩
  match j, ha, hb with
  | 0, ha, hb => cases ha; cases hb; exact .inr ⟨rfl, 2, rfl⟩
  | j + 1, ha, hb => simp [cellsOf] at ha

theorem vMade1_pureH {H : Heap} (r : Rg) (c : Vc) (k b : Nat) (i : Int) (f g : Pl) (hk : k < c.length) (hH : H b = some (3, [I k])) (hs : PureH Tryz.prog H 77 [rgD r, plD c[k], plD f] (plD g)) :
    PureH Tryz.prog H 76 [I i, plD f, .ipt 4 [rgD r] 0 0, .ipt 1 [vcD c] 0 0, .ptr b 0] (plD g) := by
  refine PureH.of_body Tryz.func76 rfl (by decide) (Nat.le_of_ble_eq_true rfl) fun w0 => ?_
  (repeat (first | refine RO.Sv ?_ | refine RO.Yv ?_ | refine RO.no rfl (by decide) rfl ?_ | refine RO.nil ?_ | refine DW.region ?_ | refine DW.seq ?_ | refine DW.block ?_ | refine DW.skip ?_ | refine DW.exit ?_ | refine DW.condT rfl ?_ | refine DW.condF rfl ?_))
  refine DW.drawS 6 Tryz.mixed (by kernel_rfl) (by decide) ?_
  dsimp only [List.take, List.drop]
  (repeat (first | refine RS.Sv ?_ | refine RS.Yv ?_ | refine RS.no rfl (by decide) rfl ?_ | refine RS.nil ?_))
  refine RS.sta (r_loadMut rfl hH rfl) rfl ?_
  (repeat (first | refine RS.Sv ?_ | refine RS.Yv ?_ | refine RS.no rfl (by decide) rfl ?_ | refine RS.nil ?_))
  refine RO.sta (sta_call rfl rfl hs) rfl ?_
  (repeat (first | refine RO.Sv ?_ | refine RO.Yv ?_ | refine RO.no rfl (by decide) rfl ?_ | refine RO.nil ?_ | refine DW.region ?_ | refine DW.seq ?_ | refine DW.block ?_ | refine DW.skip ?_ | refine DW.exit ?_ | refine DW.condT rfl ?_ | refine DW.condF rfl ?_))
  exact DW.ret ⟨.inl rfl, _, rfl, Over.refl _, .same _⟩

theorem vMade_pure (r : Rg) (rank : Int) (c : Vc) (l : List Vc) (h : CombOk r rank c l) : Pure Tryz.prog 39 [rgD r, I rank, vcD c, vcsD l] (vcD (combT r rank c l)) := by
  intro H
  have hr2 := ringCk_ok h.ring
  have hp := ckP_ok hr2.1
  have hpr : Prm r.p := ckP_prm hr2.1
  have hrk1 := h.rank1
  have hrk2 := h.rank2
  have hlen := h.len
  have hcl := h.clen
  have hrk : I rank = I (rank.toNat : Int) := by rw [Int.toNat_of_nonneg (by omega)]
  rw [hrk]
  refine PureH.of_body Tryz.func39 rfl (by decide) (Nat.le_of_ble_eq_true rfl) fun w0 => ?_
  (repeat (first | refine RO.Sv ?_ | refine RO.Yv ?_ | refine RO.no rfl (by decide) rfl ?_ | refine RO.nil ?_ | refine DW.region ?_ | refine DW.seq ?_ | refine DW.block ?_ | refine DW.skip ?_ | refine DW.exit ?_ | refine DW.condT rfl ?_ | refine DW.condF rfl ?_))
  refine RO.sta (sta_call rfl rfl (nought_pure rank.toNat (by omega) _)) rfl ?_
  (repeat (first | refine RO.Sv ?_ | refine RO.Yv ?_ | refine RO.no rfl (by decide) rfl ?_ | refine RO.nil ?_ | refine DW.region ?_ | refine DW.seq ?_ | refine DW.block ?_ | refine DW.skip ?_ | refine DW.exit ?_ | refine DW.condT rfl ?_ | refine DW.condF rfl ?_))
  refine DW.loopG (fun k : Nat => k ≤ l.length) (fun k => [(4, .ipt 4 [rgD r] 0 0), (6, .ipt 1 [vcD c] 0 0), (9, vcD (madeT r rank.toNat c l k)), (14, vcsD l), (15, I l.length), (16, I k)]) (fun _ => H) (fun k => l.length - k) 0 (Nat.zero_le _) (Heap.sub_refl _) ?_ fun k hk => ?_
  · (repeat refine HasG.one rfl ?_)
    trivial
  (repeat (first | refine RO.Sv ?_ | refine RO.Yv ?_ | refine RO.no rfl (by decide) rfl ?_ | refine RO.nil ?_ | refine DW.region ?_ | refine DW.seq ?_ | refine DW.block ?_ | refine DW.skip ?_ | refine DW.exit ?_ | refine DW.condT rfl ?_ | refine DW.condF rfl ?_))
  refine DW.cond rfl (fun hb => ?_) (fun hb => ?_)
  · have hlt : k < l.length := by have := of_decide_eq_true hb; omega
    have hltc : k < c.length := by omega
    clear hb
    have hv := h.vecs _ (List.getElem_mem hlt)
    have hf := h.polys _ (List.getElem_mem hltc)
    have hvl := hv.len
    obtain ⟨m1, m2⟩ := madeT_vb h hpr (by omega) k hk
    (repeat (first | refine RO.Sv ?_ | refine RO.Yv ?_ | refine RO.no rfl (by decide) rfl ?_ | refine RO.nil ?_ | refine DW.region ?_ | refine DW.seq ?_ | refine DW.block ?_ | refine DW.skip ?_ | refine DW.exit ?_ | refine DW.condT rfl ?_ | refine DW.condF rfl ?_))
    refine RO.dyn rfl (d_alloc fun b10 hb10 => ?_)
    (repeat (first | refine RO.Sv ?_ | refine RO.Yv ?_ | refine RO.no rfl (by decide) rfl ?_ | refine RO.nil ?_ | refine DW.region ?_ | refine DW.seq ?_ | refine DW.block ?_ | refine DW.skip ?_ | refine DW.exit ?_ | refine DW.condT rfl ?_ | refine DW.condF rfl ?_))
    refine RO.dyn rfl (d_store (k := 1) rfl rfl rfl (Heap.set_self _ _ _) (Nat.le_refl _) (by simp [cellsOf, D.isCell]) ?_)
    rw [Heap.set_set]
    (repeat (first | refine RO.Sv ?_ | refine RO.Yv ?_ | refine RO.no rfl (by decide) rfl ?_ | refine RO.nil ?_ | refine DW.region ?_ | refine DW.seq ?_ | refine DW.block ?_ | refine DW.skip ?_ | refine DW.exit ?_ | refine DW.condT rfl ?_ | refine DW.condF rfl ?_))
    refine DW.drawS 6 Tryz.mixed (by kernel_rfl) (by decide) ?_
    dsimp only [List.take, List.drop]
    (repeat (first | refine RS.Sv ?_ | refine RS.Yv ?_ | refine RS.no rfl (by decide) rfl ?_ | refine RS.nil ?_))
    refine RS.sta (fun H' hov => sta_call rfl rfl (vEach_pureH l[k] (vtimesT r c[k] l[k]) (by omega) (vtimesT_len _ _ _) fun H'' hov' i h1 h2 => ?_)) rfl ?_
    · obtain ⟨a1, a2⟩ := hv.vb _ (List.getElem_mem h1)
      have he : (vtimesT r c[k] l[k])[i] = prodT r.p r.order c[k] l[k][i] := by simp [vtimesT]
      have hfl := hf.len
      have hmul : c[k].length * l[k][i].length ≤ 2000 * 2000 := Nat.mul_le_mul hfl a2
      rw [he]
      exact vMade1_pureH r c k b10 i _ _ hltc (hov' _ _ (hov _ _ (Heap.set_self _ _ _))) (product_pure r _ _ (by omega) (B := 200) (C := 200) (by omega) (by omega) (by omega) hr2.1 hpr (by omega) hf.ok a1 (by omega) _)
    (repeat (first | refine RS.Sv ?_ | refine RS.Yv ?_ | refine RS.no rfl (by decide) rfl ?_ | refine RS.nil ?_))
    refine RS.sta (fun H' hov => sta_call rfl rfl (vSum_pure r _ _ (n := r.n.toNat) (B := 400) (L := 4000000 * k) (M := 4000000) (by omega) (by omega) hp (by omega) (by rw [vtimesT_len]; omega) (by omega) m1 (VB.times h.ring hpr (by omega) hf hv) _)) rfl ?_
    rw [← madeT_succ hltc hlt]
    (repeat (first | refine RS.Sv ?_ | refine RS.Yv ?_ | refine RS.no rfl (by decide) rfl ?_ | refine RS.nil ?_))
    (repeat (first | refine RO.Sv ?_ | refine RO.Yv ?_ | refine RO.no rfl (by decide) rfl ?_ | refine RO.nil ?_ | refine DW.region ?_ | refine DW.seq ?_ | refine DW.block ?_ | refine DW.skip ?_ | refine DW.exit ?_ | refine DW.condT rfl ?_ | refine DW.condF rfl ?_))
    refine ⟨k + 1, hlt, by dsimp only; omega, Heap.sub_set _ hb10, ?_⟩
    (repeat refine HasG.one rfl ?_)
    trivial
  · have hge : k = l.length := by have := of_decide_eq_false hb; omega
    subst hge
    (repeat (first | refine RO.Sv ?_ | refine RO.Yv ?_ | refine RO.no rfl (by decide) rfl ?_ | refine RO.nil ?_ | refine DW.region ?_ | refine DW.seq ?_ | refine DW.block ?_ | refine DW.skip ?_ | refine DW.exit ?_ | refine DW.condT rfl ?_ | refine DW.condF rfl ?_))
    exact DW.ret ⟨.inl rfl, _, rfl, Over.refl _, .same _⟩

theorem CombineOf_pure (r : Rg) (rank : Int) (c : Vc) (l : List Vc) (h : CombOk r rank c l) : Pure Tryz.prog 43 [rgD r, I rank, vcD c, vcsD l] (vcD (combT r rank c l)) := by
  intro H
  have hr2 := ringCk_ok h.ring
  have hp := ckP_ok hr2.1
  have hpr : Prm r.p := ckP_prm hr2.1
  have hrk1 := h.rank1
  have hrk2 := h.rank2
  have hlen := h.len
  have hcl := h.clen
  have hrk : I rank = I (rank.toNat : Int) := by rw [Int.toNat_of_nonneg (by omega)]
  rw [hrk]
  refine PureH.of_body Tryz.func43 rfl (by decide) (Nat.le_of_ble_eq_true rfl) fun w0 => ?_
  (repeat (first | refine RO.Sv ?_ | refine RO.Yv ?_ | refine RO.no rfl (by decide) rfl ?_ | refine RO.nil ?_ | refine DW.region ?_ | refine DW.seq ?_ | refine DW.block ?_ | refine DW.skip ?_ | refine DW.exit ?_ | refine DW.condT rfl ?_ | refine DW.condF rfl ?_))
  refine RO.sta (s_makeVc rfl rfl (by omega) (by omega)) rfl ?_
  (repeat (first | refine RO.Sv ?_ | refine RO.Yv ?_ | refine RO.no rfl (by decide) rfl ?_ | refine RO.nil ?_ | refine DW.region ?_ | refine DW.seq ?_ | refine DW.block ?_ | refine DW.skip ?_ | refine DW.exit ?_ | refine DW.condT rfl ?_ | refine DW.condF rfl ?_))
  refine DW.loopG (fun k : Nat => k ≤ l.length) (fun k => [(2, vcD c), (3, vcsD l), (4, .ipt 4 [rgD r] 0 0), (9, vcD (madeT r rank.toNat c l k)), (10, I k)]) (fun _ => H) (fun k => l.length - k) 0 (Nat.zero_le _) (Heap.sub_refl _) ?_ fun k hk => ?_
  · (repeat refine HasG.one rfl ?_)
    trivial
  (repeat (first | refine RO.Sv ?_ | refine RO.Yv ?_ | refine RO.no rfl (by decide) rfl ?_ | refine RO.nil ?_ | refine DW.region ?_ | refine DW.seq ?_ | refine DW.block ?_ | refine DW.skip ?_ | refine DW.exit ?_ | refine DW.condT rfl ?_ | refine DW.condF rfl ?_))
  refine DW.cond rfl (fun hb => ?_) (fun hb => ?_)
  · have hlt : k < l.length := by have := of_decide_eq_true hb; omega
    have hltc : k < c.length := by omega
    clear hb
    have hv := h.vecs _ (List.getElem_mem hlt)
    have hf := h.polys _ (List.getElem_mem hltc)
    have hvl := hv.len
    have hfl := hf.len
    obtain ⟨m1, m2⟩ := madeT_vb h hpr (by omega) k hk
    (repeat (first | refine RO.Sv ?_ | refine RO.Yv ?_ | refine RO.no rfl (by decide) rfl ?_ | refine RO.nil ?_ | refine DW.region ?_ | refine DW.seq ?_ | refine DW.block ?_ | refine DW.skip ?_ | refine DW.exit ?_ | refine DW.condT rfl ?_ | refine DW.condF rfl ?_))
    refine DW.drawS 13 Tryz.mixed (by kernel_rfl) (by decide) ?_
    dsimp only [List.take, List.drop]
    (repeat (first | refine RS.Sv ?_ | refine RS.Yv ?_ | refine RS.no rfl (by decide) rfl ?_ | refine RS.nil ?_))
    refine RS.sta (fun H' hov => sta_call rfl rfl (VTimes_pure r c[k] l[k] (n := r.n.toNat) (B := 200) (C := 200) (L := 2000) (by omega) (by omega) (by omega) (by omega) hr2.1 hpr (by omega) (by omega) (by omega) (by omega) hf.ok hv.vb _)) rfl ?_
    refine RS.sta (fun H' hov => sta_call rfl rfl (VSum_pure r _ _ (n := r.n.toNat) (B := 400) (L := 4000000 * k) (M := 4000000) (by omega) (by omega) hp (by omega) (by rw [vtimesT_len]; omega) (by omega) m1 (VB.times h.ring hpr (by omega) hf hv) _)) rfl ?_
    rw [← madeT_succ hltc hlt]
    (repeat (first | refine RS.Sv ?_ | refine RS.Yv ?_ | refine RS.no rfl (by decide) rfl ?_ | refine RS.nil ?_))
    (repeat (first | refine RO.Sv ?_ | refine RO.Yv ?_ | refine RO.no rfl (by decide) rfl ?_ | refine RO.nil ?_ | refine DW.region ?_ | refine DW.seq ?_ | refine DW.block ?_ | refine DW.skip ?_ | refine DW.exit ?_ | refine DW.condT rfl ?_ | refine DW.condF rfl ?_))
    refine ⟨k + 1, hlt, by dsimp only; omega, Heap.sub_refl _, ?_⟩
    (repeat refine HasG.one rfl ?_)
    trivial
  · have hge : k = l.length := by have := of_decide_eq_false hb; omega
    subst hge
    (repeat (first | refine RO.Sv ?_ | refine RO.Yv ?_ | refine RO.no rfl (by decide) rfl ?_ | refine RO.nil ?_ | refine DW.region ?_ | refine DW.seq ?_ | refine DW.block ?_ | refine DW.skip ?_ | refine DW.exit ?_ | refine DW.condT rfl ?_ | refine DW.condF rfl ?_))
    exact DW.ret ⟨.inl rfl, _, rfl, Over.refl _, .same _⟩

end Go.Proofs.YtcdihmhmoddppaaGreat

namespace Go.Proofs.YtcdihmhmoddppaaGreat
open Go.RowKit
set_option linter.unusedVariables false

theorem mem_le_sum : ∀ {e : List Int}, (∀ x ∈ e, 0 ≤ x) → ∀ x ∈ e, x ≤ e.sum
  | y :: e, h, x, hx => by
    have h0 : 0 ≤ e.sum := by
      have : ∀ {l : List Int}, (∀ x ∈ l, 0 ≤ x) → 0 ≤ l.sum := fun {l} => by
        induction l with
        | nil => intro _; exact Int.le_refl _
        | cons a l ih => intro h; rw [List.sum_cons]; have := h a (by simp); have := ih fun x hx => h x (by simp [hx]); omega
      exact this fun x hx => h x (by simp [hx])
    rw [List.sum_cons]
    rcases List.mem_cons.1 hx with rfl | hx
    · omega
    · have := mem_le_sum (fun x hx => h x (by simp [hx])) x hx
      have := h y (by simp)
      omega

/-- A monomial that may come up. -/
structure ME (n : Nat) (e : List Int) : Prop where
  len : e.length = n
  n3 : n ≤ 3
  pos : ∀ x ∈ e, 0 ≤ x
  deg : e.sum ≤ 8000

/-- The order as a number. -/
def codeM (o : Int) (e : List Int) : Int := if o = 2 then (e.sum * 8001 + e.getD 0 0) * 8001 + e.getD 1 0 else (e.sum * 8001 + (8000 - e.reverse.getD 0 0)) * 8001 + (8000 - e.reverse.getD 1 0)

theorem ME.cases {n : Nat} {e : List Int} (h : ME n e) : (n = 0 ∧ e = []) ∨ (∃ x, n = 1 ∧ e = [x] ∧ 0 ≤ x ∧ x ≤ 8000) ∨ (∃ x y, n = 2 ∧ e = [x, y] ∧ 0 ≤ x ∧ 0 ≤ y ∧ x + y ≤ 8000) ∨ (∃ x y z, n = 3 ∧ e = [x, y, z] ∧ 0 ≤ x ∧ 0 ≤ y ∧ 0 ≤ z ∧ x + y + z ≤ 8000) := by
  obtain ⟨h1, h2, h3, h4⟩ := h
  match e, h1, h3, h4 with
  | [], h1, _, _ => exact .inl ⟨h1.symm, rfl⟩
  | [x], h1, h3, h4 =>
    have := h3 x (by simp)
    exact .inr (.inl ⟨x, h1.symm, rfl, by omega, by simpa using h4⟩)
  | [x, y], h1, h3, h4 =>
    have := h3 x (by simp)
    have := h3 y (by simp)
    simp at h4
    exact .inr (.inr (.inl ⟨x, y, h1.symm, rfl, by omega, by omega, by omega⟩))
  | [x, y, z], h1, h3, h4 =>
    have := h3 x (by simp)
    have := h3 y (by simp)
    have := h3 z (by simp)
    simp at h4
    exact .inr (.inr (.inr ⟨x, y, z, h1.symm, rfl, by omega, by omega, by omega, by omega⟩))
  | x :: y :: z :: w :: e, h1, _, _ => simp at h1; omega

theorem codeM_range {n : Nat} {o : Int} {e : List Int} (h : ME n e) : 0 ≤ codeM o e ∧ codeM o e < 512192024001 := by
  unfold codeM
  rcases h.cases with ⟨_, rfl⟩ | ⟨x, _, rfl, h1, h2⟩ | ⟨x, y, _, rfl, h1, h2, h3⟩ | ⟨x, y, z, _, rfl, h1, h2, h3, h4⟩ <;> simp <;> split <;> omega

theorem codeM_lt {n : Nat} {o : Int} {a b : List Int} (ha : ME n a) (hb : ME n b) (h : 0 < cmpM o a b) : codeM o b < codeM o a := by
  unfold codeM
  unfold cmpM at h
  rcases ha.cases with ⟨h0, rfl⟩ | ⟨x, h0, rfl, h1, h2⟩ | ⟨x, y, h0, rfl, h1, h2, h3⟩ | ⟨x, y, z, h0, rfl, h1, h2, h3, h4⟩ <;>
  rcases hb.cases with ⟨h0', rfl⟩ | ⟨x', h0', rfl, h1', h2'⟩ | ⟨x', y', h0', rfl, h1', h2', h3'⟩ | ⟨x', y', z', h0', rfl, h1', h2', h3', h4'⟩ <;>
  first
  | omega
  | (simp [lexC, sgn] at h ⊢ <;> (repeat' split at h) <;> (repeat' split) <;> omega)

theorem codeM_cmp {n : Nat} {o : Int} {a b : List Int} (ha : ME n a) (hb : ME n b) : (0 < cmpM o a b ↔ codeM o b < codeM o a) ∧ (cmpM o a b = 0 ↔ codeM o a = codeM o b) := by
  have hl : a.length = b.length := by rw [ha.len, hb.len]
  have h2 := cmpM_anti o a b
  rcases Int.lt_trichotomy (cmpM o a b) 0 with h | h | h
  · have := codeM_lt hb ha (o := o) (by omega)
    exact ⟨⟨fun h => by omega, fun h => by omega⟩, ⟨fun h => by omega, fun h => by omega⟩⟩
  · have := cmpM_zero hl h
    subst this
    exact ⟨⟨fun h => by omega, fun h => by omega⟩, ⟨fun _ => rfl, fun _ => h⟩⟩
  · have := codeM_lt ha hb h
    exact ⟨⟨fun _ => this, fun _ => h⟩, ⟨fun h => by omega, fun h => by omega⟩⟩

theorem codeM_inj {n : Nat} {o : Int} {a b : List Int} (ha : ME n a) (hb : ME n b) (h : codeM o a = codeM o b) : a = b :=
  cmpM_zero (by rw [ha.len, hb.len]) ((codeM_cmp ha hb).2.2 h)

/-- The same, with the place. -/
def code2 (r : Rg) (i : Nat) (e : List Int) : Int := if r.over = 2 then (40 - i) * 512192024001 + codeM r.order e else codeM r.order e * 41 + (40 - i)

theorem code2_range {r : Rg} {n i : Nat} {e : List Int} (h : ME n e) (hi : i ≤ 40) : 0 ≤ code2 r i e := by
  have := codeM_range (o := r.order) h
  unfold code2
  split <;> omega

theorem code2_first {r : Rg} {n i k : Nat} {a b : List Int} (ha : ME n a) (hb : ME n b) (hi : i ≤ 40) (hk : k ≤ 40) : firstT r i a k b = true ↔ code2 r k b < code2 r i a := by
  have h1 := codeM_range (o := r.order) ha
  have h2 := codeM_range (o := r.order) hb
  obtain ⟨c1, c2⟩ := codeM_cmp (o := r.order) ha hb
  unfold firstT code2
  by_cases ho : r.over = 2
  · rw [if_pos ho, if_pos ho]
    by_cases hik : (i : Int) = k
    · by_cases hc : cmpM r.order a b = 0
      · rw [if_pos (.inr hc)]
        have := c2.1 hc
        simp only [decide_eq_true_eq]
        omega
      · rw [if_neg (fun h => h.elim (fun h => h.2 hik) hc)]
        simp only [decide_eq_true_eq]
        rw [c1]
        omega
    · rw [if_pos (.inl ⟨ho, hik⟩)]
      simp only [decide_eq_true_eq]
      omega
  · rw [if_neg ho, if_neg ho]
    by_cases hc : cmpM r.order a b = 0
    · rw [if_pos (.inr hc)]
      have := c2.1 hc
      simp only [decide_eq_true_eq]
      omega
    · rw [if_neg (fun h => h.elim (fun h => ho h.1) hc)]
      have : codeM r.order a ≠ codeM r.order b := fun h => hc (c2.2 h)
      simp only [decide_eq_true_eq]
      rw [c1]
      omega

theorem code2_inj {r : Rg} {n i k : Nat} {a b : List Int} (ha : ME n a) (hb : ME n b) (hi : i ≤ 40) (hk : k ≤ 40) (h : code2 r i a = code2 r k b) : i = k ∧ a = b := by
  have h1 := codeM_range (o := r.order) ha
  have h2 := codeM_range (o := r.order) hb
  unfold code2 at h
  split at h
  · have : i = k := by omega
    subst this
    exact ⟨rfl, codeM_inj (o := r.order) ha hb (by omega)⟩
  · have : i = k := by omega
    subst this
    exact ⟨rfl, codeM_inj (o := r.order) ha hb (by omega)⟩

theorem code2_same {r : Rg} {n i : Nat} {a b : List Int} (ha : ME n a) (hb : ME n b) (h : code2 r i b < code2 r i a) : 0 < cmpM r.order a b := by
  refine (codeM_cmp ha hb).1.2 ?_
  unfold code2 at h
  split at h <;> omega

theorem code2_same' {r : Rg} {n i : Nat} {a b : List Int} (ha : ME n a) (hb : ME n b) (h : 0 < cmpM r.order a b) : code2 r i b < code2 r i a := by
  have := (codeM_cmp ha hb).1.1 h
  unfold code2
  split <;> omega

theorem firstT_add {r : Rg} {i k : Nat} {a b m : List Int} (h1 : a.length = b.length) (h2 : b.length = m.length) : firstT r i (zipE (· + ·) a m) k (zipE (· + ·) b m) = firstT r i a k b := by
  unfold firstT
  rw [cmpM_add h1 h2]

/-- A polynomial's monomials may come up. -/
theorem me_of {lo p o : Int} {n : Nat} {B d : Int} {f : Pl} (h : PB lo p o n B f) (hd : DB d f) (hn : n ≤ 3) (h8 : d ≤ 8000) : ∀ t ∈ f, ME n t.e := fun t ht =>
  ⟨(h.all t ht).len, hn, fun x hx => ((h.all t ht).mem x hx).1, by have := hd t ht; omega⟩

theorem PB.tight {lo p o : Int} {n : Nat} {B d : Int} {f : Pl} (h : PB lo p o n B f) (hd : DB d f) : PB lo p o n d f := ⟨fun t ht => by
  have := h.all t ht
  exact ⟨this.lo, this.hi, this.len, fun x hx => ⟨(this.mem x hx).1, by have := mem_le_sum (fun x hx => (this.mem x hx).1) x hx; have := hd t ht; omega⟩⟩, h.sorted⟩

theorem long_le {lo p o : Int} {n : Nat} {B d : Int} (hn : n ≤ 3) (h8 : d ≤ 8000) : ∀ {f : Pl}, PB lo p o n B f → DB d f → ∀ t, f.head? = some t → (f.length : Int) ≤ codeM o t.e + 1
  | [u], h, hd, t, ht => by
    cases ht
    have := codeM_range (o := o) (me_of h hd hn h8 u (by simp))
    simp; omega
  | u :: w :: f, h, hd, t, ht => by
    cases ht
    have hm := me_of h hd hn h8
    have ih := long_le hn h8 h.tail (fun x hx => hd x (by simp [hx])) w rfl
    have := codeM_lt (o := o) (hm u (by simp)) (hm w (by simp)) (h.below w (by simp))
    simp at ih ⊢; omega

/-- How long a polynomial may be. -/
theorem len_le8 {lo p o : Int} {n : Nat} {B d : Int} {f : Pl} (h : PB lo p o n B f) (hd : DB d f) (hn : n ≤ 3) (h8 : d ≤ 8000) : f.length ≤ 512192024001 := by
  cases f with
  | nil => simp
  | cons u f =>
    have := long_le hn h8 h hd u rfl
    have := codeM_range (o := o) (me_of h hd hn h8 u (by simp))
    omega

end Go.Proofs.YtcdihmhmoddppaaGreat

namespace Go.Proofs.YtcdihmhmoddppaaGreat
open Go.RowKit
set_option linter.unusedVariables false

/-- What degrees may come up at a place. -/
def degB (r : Rg) (j : Nat) : Int := if r.over = 2 then 200 * (j + 1) else 200

theorem degB_range (r : Rg) {j : Nat} (h : j < 40) : 200 ≤ degB r j ∧ degB r j ≤ 8000 := by unfold degB; split <;> omega

/-- A vector that comes up. -/
structure VD (r : Rg) (n : Nat) (v : Vc) : Prop where
  n3 : n ≤ 3
  len : v.length ≤ 40
  all : ∀ (i : Nat) (h : i < v.length), PB 1 r.p r.order n 8000 v[i]
  deg : ∀ (i : Nat) (h : i < v.length), DB (degB r i) v[i]

theorem VD.me {r : Rg} {n : Nat} {v : Vc} (h : VD r n v) {i : Nat} (hi : i < v.length) : ∀ t ∈ v[i], ME n t.e :=
  me_of (h.all i hi) (h.deg i hi) h.n3 (degB_range r (by have := h.len; omega)).2

theorem VD.long {r : Rg} {n : Nat} {v : Vc} (h : VD r n v) {i : Nat} (hi : i < v.length) : v[i].length ≤ 512192024001 :=
  len_le8 (h.all i hi) (h.deg i hi) h.n3 (degB_range r (by have := h.len; omega)).2

theorem VD.vb {r : Rg} {n : Nat} {v : Vc} (h : VD r n v) : VB r n 8000 512192024001 v := fun f hf => by
  obtain ⟨i, hi, rfl⟩ := List.getElem_of_mem hf
  exact ⟨h.all i hi, h.long hi⟩

theorem VOk.vd {r : Rg} {k : Nat} {v : Vc} (h : VOk r k v) (hn : r.n.toNat ≤ 3) (hk : k ≤ 40) : VD r r.n.toNat v := by
  have hl := h.len
  exact ⟨hn, by omega, fun i hi => (h.all _ (List.getElem_mem hi)).ok.mono (by omega) (by omega), fun i hi => DB.mono (h.all _ (List.getElem_mem hi)).deg (degB_range r (by omega)).1⟩

/-- The greatest one is the greatest one. -/
theorem topAt_max {r : Rg} {n : Nat} {v : Vc} (hv : VD r n v) : ∀ (k : Nat), k ≤ v.length →
    (topAt r v k = none → ∀ (i : Nat) (h : i < v.length), i < k → v[i] = []) ∧ ∀ a u, topAt r v k = some (a, u) → ∀ (i : Nat) (h : i < v.length), i < k → ∀ s ∈ v[i], code2 r i s.e ≤ code2 r a u.e
  | 0, _ => ⟨fun _ i _ h => by omega, fun a u h => by cases h⟩
  | k + 1, hk => by
    have hk2 : k < v.length := by omega
    have hlen := hv.len
    obtain ⟨i1, i2⟩ := topAt_max hv k (by omega)
    have hs := topAt_succ (r := r) hk2
    rw [hs]
    cases hf : v[k] with
    | nil =>
      refine ⟨fun h i hi hik => ?_, fun a u h i hi hik s hsm => ?_⟩
      · by_cases hik2 : i = k
        · subst hik2; exact hf
        · exact i1 h i hi (by omega)
      · by_cases hik2 : i = k
        · subst hik2; rw [hf] at hsm; cases hsm
        · exact i2 a u h i hi (by omega) s hsm
    | cons t f =>
      have hme := hv.me hk2
      have hpb := hv.all k hk2
      rw [hf] at hme hpb
      have hrow : ∀ s ∈ t :: f, code2 r k s.e ≤ code2 r k t.e := fun s hsm => by
        rcases List.mem_cons.1 hsm with rfl | hsm
        · exact Int.le_refl _
        · exact Int.le_of_lt (code2_same' (hme t (by simp)) (hme s (by simp [hsm])) (hpb.below s hsm))
      cases hx : topAt r v k with
      | none =>
        refine ⟨(fun h => by cases h), fun a u h i hi hik s hsm => ?_⟩
        cases h
        by_cases hik2 : i = k
        · subst hik2; rw [hf] at hsm; exact hrow s hsm
        · rw [i1 hx i hi (by omega)] at hsm; cases hsm
      | some x =>
        obtain ⟨b, w⟩ := x
        obtain ⟨hb1, hb2, hb3, hb4⟩ := topAt_ok (by omega) hx
        have hwm := hv.me hb2 w (by rw [← hb4]; exact List.getElem_mem hb3)
        have hfc := code2_first (r := r) (i := k) (k := b) (hme t (by simp)) hwm (by omega) (by omega)
        show ((if firstT r k t.e b w.e = true then some (k, t) else some (b, w)) = none → _) ∧ ∀ a u, (if firstT r k t.e b w.e = true then some (k, t) else some (b, w)) = some (a, u) → _
        cases hft : firstT r k t.e b w.e
        · rw [if_neg (by simp)]
          refine ⟨(fun h => by cases h), fun a u h i hi hik s hsm => ?_⟩
          cases h
          by_cases hik2 : i = k
          · subst hik2
            rw [hf] at hsm
            have := hrow s hsm
            have hn : ¬ code2 r b w.e < code2 r i t.e := fun h => by rw [hfc.2 h] at hft; cases hft
            omega
          · exact i2 b w hx i hi (by omega) s hsm
        · rw [if_pos rfl]
          refine ⟨(fun h => by cases h), fun a u h i hi hik s hsm => ?_⟩
          cases h
          by_cases hik2 : i = k
          · subst hik2; rw [hf] at hsm; exact hrow s hsm
          · have := i2 b w hx i hi (by omega) s hsm
            have := hfc.1 hft
            omega

theorem topV_none {r : Rg} {n : Nat} {v : Vc} (hv : VD r n v) (h : topV r v = none) : ∀ (i : Nat) (hi : i < v.length), v[i] = [] := fun i hi => (topAt_max hv v.length (Nat.le_refl _)).1 h i hi hi

/-- What is known of the greatest one. -/
structure TopIs (r : Rg) (n : Nat) (v : Vc) (a : Nat) (u : Tm) : Prop where
  lt : a < v.length
  at_ : ∃ f, v[a] = u :: f
  me : ME n u.e
  max : ∀ (i : Nat) (h : i < v.length), ∀ s ∈ v[i], code2 r i s.e ≤ code2 r a u.e

theorem topV_is {r : Rg} {n : Nat} {v : Vc} (hv : VD r n v) {a : Nat} {u : Tm} (h : topV r v = some (a, u)) : TopIs r n v a u := by
  obtain ⟨h1, h2, h3, h4⟩ := topAt_ok (Nat.le_refl _) h
  refine ⟨h2, ?_, hv.me h2 u (by rw [← h4]; exact List.getElem_mem h3), fun i hi => (topAt_max hv v.length (Nat.le_refl _)).2 a u h i hi hi⟩
  revert h3 h4
  generalize v[a] = g
  cases g with
  | nil => intro h3; simp at h3
  | cons t f => intro _ h4; exact ⟨f, by rw [← h4]; rfl⟩

/-- Does a vector's lead go into a monomial at a place? -/
def goesIn (r : Rg) (a : Nat) (m : List Int) (d : Vc) : Bool := match topV r d with
  | none => false
  | some (b, w) => b == a && goesM m w.e

def goesT (r : Rg) (l : List Vc) (a : Nat) (m : List Int) : Option Nat := l.findIdx? (goesIn r a m)

def byOf (r : Rg) (u w : Tm) : Tm := ⟨u.c * turnP r.p w.c % r.p, zipE (· - ·) u.e w.e⟩
def negT (r : Rg) (t : Tm) : Tm := ⟨r.p - t.c, t.e⟩

/-- What a division has come to. -/
structure DS where
  v : Vc
  q : Vc
  left : Vc

def stepA (s : DS) (a : Nat) (u : Tm) : DS := ⟨s.v.set a (s.v.getD a []).tail, s.q, s.left.set a (s.left.getD a [] ++ [u])⟩
def byAt (r : Rg) (l : List Vc) (u : Tm) (i : Nat) : Tm := byOf r u (tmOf (topV r (l.getD i [])))
def stepB (r : Rg) (l : List Vc) (s : DS) (u : Tm) (i : Nat) : DS :=
  ⟨vsumT r s.v (vbyT r (l.getD i []) (negT r (byAt r l u i))), s.q.set i (sumT r.p r.order (s.q.getD i []) [byAt r l u i]), s.left⟩

def stepT (r : Rg) (l : List Vc) (s : DS) : Option DS := match topV r s.v with
  | none => none
  | some (a, u) => match goesT r l a u.e with
    | none => some (stepA s a u)
    | some i => some (stepB r l s u i)

/-- How far it is to the end, at most. -/
def muT (r : Rg) (v : Vc) : Nat := match topV r v with
  | none => 0
  | some (a, u) => (code2 r a u.e).toNat + 1

structure DInv (r : Rg) (rank : Nat) (l : List Vc) (s : DS) : Prop where
  vd : VD r r.n.toNat s.v
  vlen : s.v.length = rank
  qlen : s.q.length = l.length
  q : ∀ f ∈ s.q, PB 1 r.p r.order r.n.toNat 8000 f ∧ DB 8000 f
  llen : s.left.length = rank
  left : ∀ (j : Nat) (h : j < s.left.length), PB 1 r.p r.order r.n.toNat 8000 s.left[j] ∧ DB (degB r j) s.left[j]
  above : ∀ (j : Nat) (h : j < s.left.length), ∀ t ∈ s.left[j], (muT r s.v : Int) ≤ code2 r j t.e
  normal : ∀ (j : Nat) (h : j < s.left.length), ∀ t ∈ s.left[j], goesT r l j t.e = none

/-- What is known of the ring and the list. -/
structure DL (r : Rg) (rank : Nat) (l : List Vc) : Prop where
  ring : ringCk r = 0
  rank1 : 1 ≤ rank
  rank2 : rank ≤ 40
  len : l.length ≤ 60
  vecs : ∀ d ∈ l, VOk r rank d

theorem DL.rg {r : Rg} {rank : Nat} {l : List Vc} (h : DL r rank l) : (2 ≤ r.p ∧ r.p ≤ 101) ∧ r.n.toNat ≤ 3 ∧ 1 ≤ r.n ∧ Prm r.p ∧ ckP r.p = 0 := by
  have hr2 := ringCk_ok h.ring
  exact ⟨ckP_ok hr2.1, by omega, by omega, ckP_prm hr2.1, hr2.1⟩

theorem muT_lt {r : Rg} {n : Nat} {v v' : Vc} {a : Nat} {u : Tm} (hv : VD r n v) (ht : topV r v = some (a, u)) (hv' : VD r n v') (h : ∀ (i : Nat) (hi : i < v'.length), ∀ s ∈ v'[i], code2 r i s.e < code2 r a u.e) : muT r v' < muT r v := by
  unfold muT
  rw [ht]
  cases hx : topV r v' with
  | none => exact Nat.succ_pos _
  | some x =>
    obtain ⟨b, w⟩ := x
    have hi := topV_is hv' hx
    obtain ⟨f, hf⟩ := hi.at_
    have := h b hi.lt w (by rw [hf]; simp)
    have := code2_range (r := r) (i := b) hi.me (by have := hi.lt; have := hv'.len; omega)
    dsimp only
    omega

theorem goesM_sub : ∀ {a b : List Int}, a.length = b.length → goesM a b = true → zipE (· + ·) b (zipE (· - ·) a b) = a ∧ (∀ x ∈ zipE (· - ·) a b, 0 ≤ x) ∧ (zipE (· - ·) a b).sum = a.sum - b.sum
  | [], [], _, _ => ⟨rfl, (fun x h => by cases h), rfl⟩
  | x :: a, y :: b, h, hg => by
    unfold goesM at hg
    split at hg
    · cases hg
    · obtain ⟨h1, h2, h3⟩ := goesM_sub (by simpa using h) hg
      have e1 : zipE (· - ·) (x :: a) (y :: b) = (x - y) :: zipE (· - ·) a b := rfl
      rw [e1]
      refine ⟨?_, fun z hz => ?_, ?_⟩
      · show (y + (x - y)) :: zipE (· + ·) b (zipE (· - ·) a b) = x :: a
        rw [h1, show y + (x - y) = x by omega]
      · rcases List.mem_cons.1 hz with rfl | hz
        · omega
        · exact h2 z hz
      · rw [List.sum_cons, List.sum_cons, List.sum_cons, h3]; omega

theorem codeM_sum {n : Nat} {o : Int} {a b : List Int} (ha : ME n a) (hb : ME n b) (h : codeM o b ≤ codeM o a) : b.sum ≤ a.sum := by
  unfold codeM at h
  rcases ha.cases with ⟨h0, rfl⟩ | ⟨x, h0, rfl, h1, h2⟩ | ⟨x, y, h0, rfl, h1, h2, h3⟩ | ⟨x, y, z, h0, rfl, h1, h2, h3, h4⟩ <;>
  rcases hb.cases with ⟨h0', rfl⟩ | ⟨x', h0', rfl, h1', h2'⟩ | ⟨x', y', h0', rfl, h1', h2', h3'⟩ | ⟨x', y', z', h0', rfl, h1', h2', h3', h4'⟩ <;>
  first
  | omega
  | (simp at h ⊢ <;> split at h <;> omega)

theorem inv_facts {p u w : Int} (hp : ckP p = 0) (hu : 1 ≤ u ∧ u < p) (hw : 1 ≤ w ∧ w < p) : 1 ≤ u * turnP p w % p ∧ u * turnP p w % p < p ∧ p ∣ w * (u * turnP p w % p) - u := by
  have hp2 := ckP_ok hp
  have h1 := turnP_inv' hp w (by omega) hw.2
  have hlt := Int.emod_lt_of_pos (u * turnP p w) (show 0 < p by omega)
  have h0 := Int.emod_nonneg (u * turnP p w) (show p ≠ 0 by omega)
  have hd : p ∣ w * (u * turnP p w % p) - u := by
    have e1 : p ∣ u * turnP p w % p - u * turnP p w := emod_dvd _ _
    have e2 : p ∣ w * turnP p w - 1 := by
      have := emod_dvd p (w * turnP p w)
      rw [h1] at this
      have := Int.dvd_neg.2 this
      rwa [show -(1 - w * turnP p w) = w * turnP p w - 1 by omega] at this
    obtain ⟨k1, e1⟩ := e1
    obtain ⟨k2, e2⟩ := e2
    exact ⟨w * k1 + u * k2, by grind⟩
  refine ⟨?_, hlt, hd⟩
  refine Classical.byContradiction fun hn => ?_
  have hz : u * turnP p w % p = 0 := by omega
  rw [hz] at hd
  have : p ∣ u := by
    have := Int.dvd_neg.2 hd
    rwa [show -(w * 0 - u) = u by simp] at this
  have := Int.le_of_dvd (by omega) this
  omega

end Go.Proofs.YtcdihmhmoddppaaGreat
