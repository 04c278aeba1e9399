/-
  Vectors: what is wrong with them, and what is made of them, in plain Lean. No condition.
-/
import Derived.WalkKit
import Derived.Test.YtfjmdhemlfafbaaGreatKHc9
import Derived.Test.YtfjmdhemlfafbaaGreatKHc4
set_option linter.unusedVariables false
set_option linter.unusedSimpArgs false

namespace Go.Proofs.YtfjmdhemlfafbaaGreat
section
abbrev Fv := Nat → Int

def Spn (p : Int) : List Fv → Fv → Prop
 | [], u => ∀ j, p ∣ u j
 | e :: E, u => ∃ c : Int, Spn p E fun j => u j - c * e j

def Cong (p : Int) (u v : Fv) : Prop := ∀ j, p ∣ u j - v j

theorem Cong.symm {p : Int} {u v : Fv} (h : Cong p u v) : Cong p v u := fun j => by
 have := Int.dvd_neg.2 (h j)
 rwa [Int.neg_sub] at this

theorem Spn.congr {p : Int} : ∀ {E : List Fv} {u v : Fv}, Cong p u v → Spn p E u → Spn p E v
 | [], u, v, h, hu => fun j => by
  have := Int.dvd_sub (hu j) (h j)
  rwa [show u j - (u j - v j) = v j by omega] at this
 | e :: E, u, v, h, ⟨c, hu⟩ => ⟨c, Spn.congr (fun j => by
   have := h j
   rwa [show u j - c * e j - (v j - c * e j) = u j - v j by omega]) hu⟩

theorem Spn.zero {p : Int} : ∀ {E : List Fv} {u : Fv}, (∀ j, p ∣ u j) → Spn p E u
 | [], u, h => h
 | e :: E, u, h => ⟨0, Spn.zero fun j => by rw [Int.zero_mul, Int.sub_zero]; exact h j⟩

theorem Spn.add {p : Int} : ∀ {E : List Fv} {u v : Fv}, Spn p E u → Spn p E v → Spn p E fun j => u j + v j
 | [], u, v, hu, hv => fun j => Int.dvd_add (hu j) (hv j)
 | e :: E, u, v, ⟨c, hu⟩, ⟨d, hv⟩ => ⟨c + d, Spn.congr (fun j => by
   have : u j - c * e j + (v j - d * e j) - (u j + v j - (c + d) * e j) = 0 := by rw [Int.add_mul]; omega
   rw [this]; exact Int.dvd_zero p) (Spn.add hu hv)⟩

theorem Spn.smul {p : Int} (k : Int) : ∀ {E : List Fv} {u : Fv}, Spn p E u → Spn p E fun j => k * u j
 | [], u, hu => fun j => Int.dvd_trans (hu j) (Int.dvd_mul_left _ _)
 | e :: E, u, ⟨c, hu⟩ => ⟨k * c, Spn.congr (fun j => by
   have : k * (u j - c * e j) - (k * u j - k * c * e j) = 0 := by rw [Int.mul_sub, Int.mul_assoc]; omega
   rw [this]; exact Int.dvd_zero p) (Spn.smul k hu)⟩

theorem Spn.tail {p : Int} {e : Fv} {E : List Fv} {u : Fv} (h : Spn p E u) : Spn p (e :: E) u :=
 ⟨0, Spn.congr (fun j => by rw [Int.zero_mul, Int.sub_zero, Int.sub_self]; exact Int.dvd_zero p) h⟩

theorem Spn.mem {p : Int} : ∀ {E : List Fv} {u : Fv}, u ∈ E → Spn p E u
 | [], u, h => by cases h
 | e :: E, u, h => by
  rcases List.mem_cons.1 h with rfl | h
  ·exact ⟨1, Spn.zero fun j => by rw [Int.one_mul, Int.sub_self]; exact Int.dvd_zero p⟩
  ·exact Spn.tail (Spn.mem h)

theorem Spn.trans {p : Int} : ∀ {E F : List Fv} {u : Fv}, (∀ e ∈ E, Spn p F e) → Spn p E u → Spn p F u
 | [], F, u, _, hu => Spn.zero hu
 | e :: E, F, u, h, ⟨c, hu⟩ => by
  have h1 := Spn.trans (fun x hx => h x (by simp [hx])) hu
  have h2 := Spn.smul c (h e (by simp))
  exact Spn.congr (fun j => by
   have : u j - c * e j + c * e j - u j = 0 := by omega
   rw [this]; exact Int.dvd_zero p) (Spn.add h1 h2)

def Led (p : Int) (u : Fv) (m : Nat) : Prop := ¬ p ∣ u m ∧ ∀ j, j < m → p ∣ u j

theorem Led.uniq {p : Int} {u : Fv} {m n : Nat} (h : Led p u m) (k : Led p u n) : m = n := by
 rcases Nat.lt_trichotomy m n with h1 | h1 | h1
 ·exact absurd (k.2 m h1) h.1
 ·exact h1
 ·exact absurd (h.2 n h1) k.1

theorem Led.congr {p : Int} {u v : Fv} {m : Nat} (h : Cong p u v) (k : Led p u m) : Led p v m := by
 have key : ∀ j, p ∣ u j ↔ p ∣ v j := fun j => by
  constructor
  ·intro hu
   have := Int.dvd_sub hu (h j)
   rwa [show u j - (u j - v j) = v j by omega] at this
  ·intro hv
   have := Int.dvd_add (h j) hv
   rwa [show u j - v j + v j = u j by omega] at this
 exact ⟨fun hd => k.1 ((key m).2 hd), fun j hj => (key j).1 (k.2 j hj)⟩

def Prm (p : Int) : Prop := ∀ a b : Int, p ∣ a * b → p ∣ a ∨ p ∣ b

structure Ech (p : Int) (E : List (Fv × Nat)) : Prop where
 led : ∀ x ∈ E, Led p x.1 x.2
 nodup : (E.map (·.2)).Nodup

theorem Ech.spn {p : Int} (hp : Prm p) : ∀ {E : List (Fv × Nat)} {u : Fv}, Ech p E → Spn p (E.map (·.1)) u → (∀ j, p ∣ u j) ∨ ∃ m ∈ E.map (·.2), Led p u m
 | [], u, _, hu => .inl hu
 | (e, m) :: E, u, hE, ⟨c, hu⟩ => by
  have hE' : Ech p E := ⟨fun x hx => hE.led x (by simp [hx]), (List.nodup_cons.1 hE.nodup).2⟩
  have hm : m ∉ E.map (·.2) := (List.nodup_cons.1 hE.nodup).1
  have hl : Led p e m := hE.led (e, m) (by simp)
  have ih := Ech.spn hp hE' hu
  by_cases hc : p ∣ c
  ·-- nothing of e
   have hcong : Cong p (fun j => u j - c * e j) u := fun j => by
    have : u j - c * e j - u j = -(c * e j) := by omega
    rw [this]
    exact Int.dvd_neg.2 (Int.dvd_trans hc (Int.dvd_mul_right _ _))
   rcases ih with h | ⟨k, hk, hl'⟩
   ·refine .inl fun j => ?_
    have := Int.dvd_sub (h j) (hcong j)
    rwa [show u j - c * e j - (u j - c * e j - u j) = u j by omega] at this
   ·exact .inr ⟨k, by simp [hk], hl'.congr hcong⟩
  ·have hce : ∀ j, p ∣ c * e j ↔ p ∣ e j := fun j => ⟨fun h => (hp _ _ h).resolve_left hc, fun h => Int.dvd_trans h (Int.dvd_mul_left _ _)⟩
   have split : ∀ j, u j = (u j - c * e j) + c * e j := fun j => by omega
   rcases ih with h | ⟨k, hk, hl'⟩
   ·refine .inr ⟨m, by simp, fun hd => ?_, fun j hj => ?_⟩
    ·have := Int.dvd_sub hd (h m)
     rw [show u m - (u m - c * e m) = c * e m by omega] at this
     exact hl.1 ((hce m).1 this)
    ·rw [split j]
     exact Int.dvd_add (h j) ((hce j).2 (hl.2 j hj))
   ·have hne : k ≠ m := fun h => hm (h ▸ hk)
    rcases Nat.lt_or_ge m k with hlt | hge
    ·refine .inr ⟨m, by simp, fun hd => ?_, fun j hj => ?_⟩
     ·have := Int.dvd_sub hd (hl'.2 m hlt)
      rw [show u m - (u m - c * e m) = c * e m by omega] at this
      exact hl.1 ((hce m).1 this)
     ·rw [split j]
      exact Int.dvd_add (hl'.2 j (by omega)) ((hce j).2 (hl.2 j hj))
    ·have hlt : k < m := by omega
     refine .inr ⟨k, by simp [hk], fun hd => ?_, fun j hj => ?_⟩
     ·have h2 := (hce k).2 (hl.2 k hlt)
      have := Int.dvd_sub hd h2
      exact hl'.1 this
     ·rw [split j]
      exact Int.dvd_add (hl'.2 j hj) ((hce j).2 (hl.2 j (by omega)))

theorem nodup_le : ∀ {l m : List Nat}, l.Nodup → (∀ x ∈ l, x ∈ m) → l.length ≤ m.length
 | [], m, _, _ => Nat.zero_le _
 | x :: l, m, h, hs => by
  have hx : x ∈ m := hs x (by simp)
  obtain ⟨h1, h2⟩ := List.nodup_cons.1 h
  have := nodup_le (m := m.erase x) h2 fun y hy => by
   have hne : y ≠ x := fun e => h1 (e ▸ hy)
   exact (List.mem_erase_of_ne hne).2 (hs y (by simp [hy]))
  rw [List.length_erase_of_mem hx] at this
  have hpos : 0 < m.length := List.length_pos_of_mem hx
  simp only [List.length_cons]
  omega

theorem Ech.le {p : Int} (hp : Prm p) {E F : List (Fv × Nat)} (hE : Ech p E) (hF : Ech p F) (h : ∀ x ∈ E, Spn p (F.map (·.1)) x.1) : E.length ≤ F.length := by
 have := nodup_le (l := E.map (·.2)) (m := F.map (·.2)) hE.nodup fun k hk => by
  obtain ⟨x, hx, rfl⟩ := List.mem_map.1 hk
  rcases hF.spn hp (h x hx) with h0 | ⟨m, hm, hl⟩
  ·exact absurd (h0 x.2) (hE.led x hx).1
  ·rw [(hE.led x hx).uniq hl]; exact hm
 simpa using this

def vec (l : List Int) : Fv := fun j => l.getD j 0

theorem vec_lt {l : List Int} {j : Nat} (h : j < l.length) : vec l j = l[j] := by simp [vec, h]
theorem vec_ge {l : List Int} {j : Nat} (h : l.length ≤ j) : vec l j = 0 := by simp [vec, h]

def RowOk (p : Int) (n : Nat) (l : List Int) : Prop := l.length = n ∧ ∀ x ∈ l, 0 ≤ x ∧ x < p

theorem RowOk.vec {p : Int} (hp : 0 < p) {n : Nat} {l : List Int} (h : RowOk p n l) (j : Nat) : 0 ≤ vec l j ∧ vec l j < p := by
 by_cases hj : j < l.length
 ·rw [vec_lt hj]; exact h.2 _ (List.getElem_mem hj)
 ·rw [vec_ge (by omega)]; omega

theorem dvd_small {p x : Int} (h : p ∣ x) (h0 : 0 ≤ x) (h1 : x < p) : x = 0 := by
 have h2 := Int.emod_eq_zero_of_dvd h
 rwa [Int.emod_eq_of_lt h0 h1] at h2

def lessBy (p b : Int) (row k : List Int) : List Int := List.zipWith (fun x y => (x + (p - b) * y) % p) row k

def redBy (p b : Int) (row k : List Int) : List Int := if b = 0 then row else lessBy p b row k

theorem lessBy_ok {p : Int} (hp : 0 < p) {n : Nat} {b : Int} {row k : List Int} (h1 : RowOk p n row) (h2 : RowOk p n k) : RowOk p n (lessBy p b row k) := by
 refine ⟨by simp [lessBy, h1.1, h2.1], fun x hx => ?_⟩
 obtain ⟨i, hi, rfl⟩ := List.mem_iff_getElem.1 hx
 simp only [lessBy, List.getElem_zipWith]
 exact ⟨Int.emod_nonneg _ (by omega), Int.emod_lt_of_pos _ hp⟩

theorem lessBy_cong {p b : Int} {n : Nat} {row k : List Int} (h1 : row.length = n) (h2 : k.length = n) : Cong p (vec (lessBy p b row k)) fun j => vec row j - b * vec k j := by
 intro j
 show p ∣ vec (lessBy p b row k) j - (vec row j - b * vec k j)
 have hl : (lessBy p b row k).length = n := by simp [lessBy, h1, h2]
 by_cases hj : j < n
 ·rw [vec_lt (by omega), vec_lt (by omega), vec_lt (by omega)]
  simp only [lessBy, List.getElem_zipWith]
  have hd : p ∣ (row[j] + (p - b) * k[j]) % p - (row[j] + (p - b) * k[j]) := by
   rw [Int.emod_def]
   exact ⟨-((row[j] + (p - b) * k[j]) / p), by rw [Int.mul_neg]; omega⟩
  have : (row[j] + (p - b) * k[j]) % p - (row[j] - b * k[j]) = ((row[j] + (p - b) * k[j]) % p - (row[j] + (p - b) * k[j])) + p * k[j] := by
   have : (p - b) * k[j] = p * k[j] - b * k[j] := Int.sub_mul ..
   omega
  rw [this]
  exact Int.dvd_add hd (Int.dvd_mul_right _ _)
 ·rw [vec_ge (by omega), vec_ge (by omega), vec_ge (by omega)]
  simp

theorem redBy_ok {p : Int} (hp : 0 < p) {n : Nat} {b : Int} {row k : List Int} (h1 : RowOk p n row) (h2 : RowOk p n k) : RowOk p n (redBy p b row k) := by
 unfold redBy
 split
 ·exact h1
 ·exact lessBy_ok hp h1 h2

theorem redBy_cong {p b : Int} {n : Nat} {row k : List Int} (h1 : row.length = n) (h2 : k.length = n) : Cong p (vec (redBy p b row k)) fun j => vec row j - b * vec k j := by
 unfold redBy
 split
 ·rename_i hb
  subst hb
  intro j
  simp
 ·exact lessBy_cong h1 h2

abbrev Kp := List (List Int × Nat)

def redAll (p : Int) (row : List Int) (kept : Kp) : List Int := kept.foldl (fun r k => redBy p (vec r k.2) r k.1) row

def firstAt (l : List Int) : Nat := (l.findIdx? (· != 0)).getD l.length

def normed (p t : Int) (l : List Int) : List Int := l.map fun x => x * t % p

def rankStep (inv : Int → Int) (p : Int) (kept : Kp) (row : List Int) : Kp :=
 let r := redAll p row kept
 if firstAt r = r.length then kept else kept ++ [(normed p (inv (vec r (firstAt r))) r, firstAt r)]

def rankKept (inv : Int → Int) (p : Int) (rows : List (List Int)) : Kp := rows.foldl (rankStep inv p) []

def rankT (inv : Int → Int) (p : Int) (rows : List (List Int)) : Nat := (rankKept inv p rows).length

theorem firstAt_le (l : List Int) : firstAt l ≤ l.length := by
 unfold firstAt
 cases h : l.findIdx? (· != 0) with
 | none => simp
 | some i =>
  rw [List.findIdx?_eq_some_iff_getElem] at h
  obtain ⟨h1, _⟩ := h
  simp; omega

theorem firstAt_zero {l : List Int} {j : Nat} (h : j < firstAt l) : vec l j = 0 := by
 have hle := firstAt_le l
 unfold firstAt at h
 have hj : j < l.length := by unfold firstAt at hle; omega
 rw [vec_lt hj]
 cases hf : l.findIdx? (· != 0) with
 | none =>
  rw [List.findIdx?_eq_none_iff] at hf
  have := hf _ (List.getElem_mem hj)
  simpa using this
 | some i =>
  rw [hf] at h
  rw [List.findIdx?_eq_some_iff_getElem] at hf
  obtain ⟨_, _, h3⟩ := hf
  have := h3 j (by simpa using h)
  simpa using this

theorem firstAt_ne {l : List Int} (h : firstAt l ≠ l.length) : vec l (firstAt l) ≠ 0 ∧ firstAt l < l.length := by
 have hle := firstAt_le l
 have hlt : firstAt l < l.length := by omega
 refine ⟨?_, hlt⟩
 cases hf : l.findIdx? (· != 0) with
 | none => unfold firstAt at h; rw [hf] at h; simp at h
 | some i =>
  have hi : firstAt l = i := by unfold firstAt; rw [hf]; rfl
  rw [List.findIdx?_eq_some_iff_getElem] at hf
  obtain ⟨h1, h2, _⟩ := hf
  rw [hi, vec_lt h1]
  simpa using h2

structure KpOk (p : Int) (n : Nat) (kept : Kp) : Prop where
 rows : ∀ x ∈ kept, RowOk p n x.1 ∧ x.2 < n
 led : ∀ x ∈ kept, Led p (vec x.1) x.2 ∧ vec x.1 x.2 = 1
 apart : kept.Pairwise fun x y => vec y.1 x.2 = 0

theorem KpOk.ech {p : Int} {n : Nat} {kept : Kp} (h : KpOk p n kept) : Ech p (kept.map fun x => (vec x.1, x.2)) := by
 refine ⟨fun x hx => ?_, ?_⟩
 ·obtain ⟨y, hy, rfl⟩ := List.mem_map.1 hx
  exact (h.led y hy).1
 ·rw [List.map_map]
  have : ((fun x : Fv × Nat => x.2) ∘ fun x : List Int × Nat => (vec x.1, x.2)) = fun x => x.2 := rfl
  rw [this]
  unfold List.Nodup
  rw [List.pairwise_map]
  have h2 : kept.Pairwise fun x y => x ∈ kept ∧ y ∈ kept := by
   rw [List.pairwise_iff_getElem]
   intro i j hi hj _
   exact ⟨List.getElem_mem hi, List.getElem_mem hj⟩
  refine (h.apart.and h2).imp fun {x y} ⟨h1, hx, hy⟩ he => ?_
  have hl := (h.led y hy).1.1
  rw [← he, h1] at hl
  exact hl (Int.dvd_zero p)

theorem redAll_ok {p : Int} (hp : 0 < p) {n : Nat} : ∀ {kept : Kp} {row : List Int}, (∀ x ∈ kept, RowOk p n x.1 ∧ x.2 < n) → RowOk p n row → RowOk p n (redAll p row kept)
 | [], row, _, h => h
 | k :: kept, row, hk, h => redAll_ok hp (kept := kept) (fun x hx => hk x (by simp [hx])) (redBy_ok hp h (hk k (by simp)).1)

theorem redAll_cong {p : Int} (hp : 0 < p) {n : Nat} : ∀ {kept : Kp} {row : List Int}, (∀ x ∈ kept, RowOk p n x.1 ∧ x.2 < n) → RowOk p n row → Spn p (kept.map fun x => vec x.1) fun j => vec row j - vec (redAll p row kept) j
 | [], row, _, h => fun j => by
  show p ∣ vec row j - vec row j
  rw [Int.sub_self]; exact Int.dvd_zero p
 | k :: kept, row, hk, h => by
  have hk1 := (hk k (by simp)).1
  have ih := redAll_cong hp (kept := kept) (fun x hx => hk x (by simp [hx])) (redBy_ok hp (b := vec row k.2) h hk1)
  have hc := redBy_cong (p := p) (b := vec row k.2) h.1 hk1.1
  refine ⟨vec row k.2, Spn.congr (fun j => ?_) ih⟩
  have := hc j
  show p ∣ vec (redBy p (vec row k.2) row k.1) j - vec (redAll p (redBy p (vec row k.2) row k.1) kept) j - (vec row j - vec (redAll p (redBy p (vec row k.2) row k.1) kept) j - vec row k.2 * vec k.1 j)
  have e : vec (redBy p (vec row k.2) row k.1) j - vec (redAll p (redBy p (vec row k.2) row k.1) kept) j - (vec row j - vec (redAll p (redBy p (vec row k.2) row k.1) kept) j - vec row k.2 * vec k.1 j) = vec (redBy p (vec row k.2) row k.1) j - (vec row j - vec row k.2 * vec k.1 j) := by omega
  rw [e]
  exact this

theorem redAll_keep {p : Int} (hp : 0 < p) {n : Nat} {m : Nat} : ∀ {kept : Kp} {row : List Int}, (∀ x ∈ kept, RowOk p n x.1 ∧ x.2 < n) → RowOk p n row → (∀ x ∈ kept, vec x.1 m = 0) → vec row m = 0 → vec (redAll p row kept) m = 0
 | [], row, _, _, _, h => h
 | k :: kept, row, hk, hr, hz, h => by
  have hk1 := (hk k (by simp)).1
  have hok := redBy_ok hp (b := vec row k.2) hr hk1
  refine redAll_keep hp (kept := kept) (fun x hx => hk x (by simp [hx])) hok (fun x hx => hz x (by simp [hx])) ?_
  have hc := redBy_cong (p := p) (b := vec row k.2) hr.1 hk1.1 m
  dsimp only at hc
  rw [h, hz k (by simp)] at hc
  have := hok.vec hp m
  show vec (redBy p (vec row k.2) row k.1) m = 0
  exact dvd_small (by simpa using hc) this.1 this.2

theorem redAll_clear {p : Int} (hp : 0 < p) {n : Nat} : ∀ {kept : Kp} {row : List Int}, KpOk p n kept → RowOk p n row → ∀ x ∈ kept, vec (redAll p row kept) x.2 = 0
 | [], row, _, _, x, hx => by cases hx
 | k :: kept, row, hk, hr, x, hx => by
  have hk1 := (hk.rows k (by simp)).1
  have hok := redBy_ok hp (b := vec row k.2) hr hk1
  have hk' : KpOk p n kept := ⟨fun x hx => hk.rows x (by simp [hx]), fun x hx => hk.led x (by simp [hx]), (List.pairwise_cons.1 hk.apart).2⟩
  rcases List.mem_cons.1 hx with rfl | hx
  ·refine redAll_keep hp (kept := kept) (fun y hy => hk'.rows y hy) hok (fun y hy => (List.pairwise_cons.1 hk.apart).1 y hy) ?_
   have hc := redBy_cong (p := p) (b := vec row x.2) hr.1 hk1.1 x.2
   dsimp only at hc
   rw [(hk.led x (by simp)).2, Int.mul_one, Int.sub_self, Int.sub_zero] at hc
   have := hok.vec hp x.2
   exact dvd_small hc this.1 this.2
  ·exact redAll_clear hp (kept := kept) hk' hok x hx

def InvOk (inv : Int → Int) (p : Int) : Prop := ∀ a, 0 < a → a < p → a * inv a % p = 1

theorem Prm.of {inv : Int → Int} {p : Int} (hp : 1 < p) (h : InvOk inv p) : Prm p := by
 intro a b hd
 by_cases ha : p ∣ a
 ·exact .inl ha
 ·right
  have h0 := Int.emod_nonneg a (show p ≠ 0 by omega)
  have h1 := Int.emod_lt_of_pos a (show 0 < p by omega)
  have hne : a % p ≠ 0 := fun e => ha (Int.dvd_of_emod_eq_zero e)
  have hi := h (a % p) (by omega) h1
  -- b is a * inv * b
  have e1 : p ∣ a % p * inv (a % p) - 1 := by
   rw [Int.emod_def] at hi
   exact ⟨a % p * inv (a % p) / p, by omega⟩
  have e2 : p ∣ a % p - a := by
   rw [Int.emod_def]
   exact ⟨-(a / p), by rw [Int.mul_neg]; omega⟩
  have e3 : p ∣ (a % p * inv (a % p) - 1) * b := Int.dvd_trans e1 (Int.dvd_mul_right _ _)
  have e4 : p ∣ (a % p - a) * (inv (a % p) * b) := Int.dvd_trans e2 (Int.dvd_mul_right _ _)
  have e5 : p ∣ a * b * inv (a % p) := Int.dvd_trans hd (Int.dvd_mul_right _ _)
  have e6 : (a % p - a) * (inv (a % p) * b) + a * b * inv (a % p) = a % p * inv (a % p) * b := by
   rw [Int.sub_mul, ← Int.mul_assoc, ← Int.mul_assoc, Int.mul_right_comm a b]
   omega
  have e7 : p ∣ a % p * inv (a % p) * b := e6 ▸ Int.dvd_add e4 e5
  have := Int.dvd_sub e7 e3
  rw [Int.sub_mul, Int.one_mul] at this
  rwa [show a % p * inv (a % p) * b - (a % p * inv (a % p) * b - b) = b by omega] at this

theorem normed_ok {p t : Int} (hp : 0 < p) {n : Nat} {l : List Int} (h : l.length = n) : RowOk p n (normed p t l) := by
 refine ⟨by simp [normed, h], fun x hx => ?_⟩
 obtain ⟨y, _, rfl⟩ := List.mem_map.1 hx
 exact ⟨Int.emod_nonneg _ (by omega), Int.emod_lt_of_pos _ hp⟩

theorem normed_vec {p t : Int} (l : List Int) (j : Nat) : vec (normed p t l) j = vec l j * t % p := by
 by_cases hj : j < l.length
 ·rw [vec_lt hj, vec_lt (by simp [normed, hj])]
  simp [normed]
 ·rw [vec_ge (show (normed p t l).length ≤ j by simp [normed]; omega), vec_ge (show l.length ≤ j by omega)]
  simp

theorem normed_cong {p t : Int} (l : List Int) : Cong p (vec (normed p t l)) fun j => t * vec l j := by
 intro j
 show p ∣ vec (normed p t l) j - t * vec l j
 rw [normed_vec, Int.emod_def, Int.mul_comm t]
 exact ⟨-(vec l j * t / p), by rw [Int.mul_neg]; omega⟩

theorem rankStep_ok {inv : Int → Int} {p : Int} (hp : 1 < p) (hinv : InvOk inv p) {n : Nat} {kept : Kp} {row : List Int} (hk : KpOk p n kept) (hr : RowOk p n row) :
  KpOk p n (rankStep inv p kept row) ∧ (rankStep inv p kept row).length ≤ kept.length + 1 ∧ Spn p ((rankStep inv p kept row).map fun x => vec x.1) (vec row) ∧
   (∀ u, Spn p (kept.map fun x => vec x.1) u → Spn p ((rankStep inv p kept row).map fun x => vec x.1) u) ∧
   (∀ (S : List Fv), (∀ x ∈ kept, Spn p S (vec x.1)) → Spn p S (vec row) → ∀ x ∈ rankStep inv p kept row, Spn p S (vec x.1)) := by
 have hok := redAll_ok (p := p) (by omega) (kept := kept) hk.rows hr
 have hcong := redAll_cong (p := p) (by omega) (kept := kept) hk.rows hr
 have hclear := redAll_clear (p := p) (by omega) hk hr
 unfold rankStep
 dsimp only
 by_cases hf : firstAt (redAll p row kept) = (redAll p row kept).length
 ·rw [if_pos hf]
  refine ⟨hk, by omega, Spn.congr (fun j => ?_) hcong, fun u hu => hu, fun S h1 h2 => h1⟩
  have hz : vec (redAll p row kept) j = 0 := by
   by_cases hj : j < (redAll p row kept).length
   ·exact firstAt_zero (by omega)
   ·exact vec_ge (by omega)
  show p ∣ vec row j - vec (redAll p row kept) j - vec row j
  rw [hz, Int.sub_zero, Int.sub_self]
  exact Int.dvd_zero p
 ·rw [if_neg hf]
  obtain ⟨hne, hlt⟩ := firstAt_ne hf
  have hv := hok.vec (by omega) (firstAt (redAll p row kept))
  have hi := hinv _ (show 0 < vec (redAll p row kept) (firstAt (redAll p row kept)) by omega) hv.2
  have hone : vec (normed p (inv (vec (redAll p row kept) (firstAt (redAll p row kept)))) (redAll p row kept)) (firstAt (redAll p row kept)) = 1 := by rw [normed_vec]; exact hi
  generalize hR : redAll p row kept = R at *
  generalize hF : firstAt R = f at *
  generalize hT : inv (vec R f) = t at *
  have hled : Led p (vec (normed p t R)) f := by
   refine ⟨fun hd => ?_, fun j hj => ?_⟩
   ·rw [hone] at hd
    have := dvd_small hd (by omega) hp
    omega
   ·rw [normed_vec, firstAt_zero (by omega)]
    simp
  refine ⟨⟨fun x hx => ?_, fun x hx => ?_, ?_⟩, by simp, ?_, fun u hu => ?_, fun S h1 h2 x hx => ?_⟩
  ·rcases List.mem_append.1 hx with hx | hx
   ·exact hk.rows x hx
   ·simp at hx; subst hx
    exact ⟨normed_ok (by omega) hok.1, by rw [← hok.1]; exact hlt⟩
  ·rcases List.mem_append.1 hx with hx | hx
   ·exact hk.led x hx
   ·simp at hx; subst hx
    exact ⟨hled, hone⟩
  ·rw [List.pairwise_append]
   refine ⟨hk.apart, by simp, fun x hx y hy => ?_⟩
   simp at hy; subst hy
   dsimp only
   rw [normed_vec, hclear x hx]
   simp
  ·-- the row is made
   rw [List.map_append]
   have h1 : Spn p (kept.map (fun x => vec x.1) ++ [(normed p t R, f)].map fun x => vec x.1) fun j => vec row j - vec R j := Spn.trans (fun e he => Spn.mem (List.mem_append_left _ he)) hcong
   have h2 : Spn p (kept.map (fun x => vec x.1) ++ [(normed p t R, f)].map fun x => vec x.1) (vec (normed p t R)) := Spn.mem (by simp)
   have h3 := Spn.smul (vec R f) h2
   refine Spn.congr (fun j => ?_) (Spn.add h1 h3)
   show p ∣ vec row j - vec R j + vec R f * vec (normed p t R) j - vec row j
   have e1 := normed_cong (p := p) (t := t) R j
   have e2 : p ∣ vec R f * t - 1 := by
    rw [Int.emod_def] at hi
    exact ⟨vec R f * t / p, by omega⟩
   have e3 : p ∣ vec R f * (vec (normed p t R) j - t * vec R j) := Int.dvd_trans e1 (Int.dvd_mul_left _ _)
   have e4 : p ∣ (vec R f * t - 1) * vec R j := Int.dvd_trans e2 (Int.dvd_mul_right _ _)
   have e5 := Int.dvd_add e3 e4
   have e6 : vec R f * (vec (normed p t R) j - t * vec R j) + (vec R f * t - 1) * vec R j = vec row j - vec R j + vec R f * vec (normed p t R) j - vec row j := by
    rw [Int.mul_sub, Int.sub_mul, Int.one_mul, Int.mul_assoc]
    omega
   rwa [e6] at e5
  ·rw [List.map_append]
   exact Spn.trans (fun e he => Spn.mem (List.mem_append_left _ he)) hu
  ·rcases List.mem_append.1 hx with hx | hx
   ·exact h1 x hx
   ·simp at hx; subst hx
    have h3 : Spn p S fun j => vec row j - vec R j := Spn.trans (fun e he => by
     obtain ⟨y, hy, rfl⟩ := List.mem_map.1 he
     exact h1 y hy) hcong
    have h4 : Spn p S (vec R) := Spn.congr (fun j => by
     show p ∣ vec row j + -1 * (vec row j - vec R j) - vec R j
     rw [show vec row j + -1 * (vec row j - vec R j) - vec R j = 0 by omega]
     exact Int.dvd_zero p) (Spn.add h2 (Spn.smul (-1) h3))
    exact Spn.congr (normed_cong R).symm (Spn.smul t h4)

theorem rankKept_ok {inv : Int → Int} {p : Int} (hp : 1 < p) (hinv : InvOk inv p) {n : Nat} : ∀ (rows : List (List Int)) (kept : Kp), KpOk p n kept → (∀ r ∈ rows, RowOk p n r) →
  KpOk p n (rows.foldl (rankStep inv p) kept) ∧ (rows.foldl (rankStep inv p) kept).length ≤ kept.length + rows.length ∧ (∀ r ∈ rows, Spn p ((rows.foldl (rankStep inv p) kept).map fun x => vec x.1) (vec r)) ∧
   (∀ u, Spn p (kept.map fun x => vec x.1) u → Spn p ((rows.foldl (rankStep inv p) kept).map fun x => vec x.1) u) ∧
   (∀ (S : List Fv), (∀ x ∈ kept, Spn p S (vec x.1)) → (∀ r ∈ rows, Spn p S (vec r)) → ∀ x ∈ rows.foldl (rankStep inv p) kept, Spn p S (vec x.1))
 | [], kept, hk, _ => ⟨hk, by simp, fun r h => (by cases h), fun u h => h, fun S h _ => h⟩
 | row :: rows, kept, hk, hr => by
  obtain ⟨a1, a2, a3, a4, a5⟩ := rankStep_ok hp hinv hk (hr row (by simp))
  obtain ⟨b1, b2, b3, b4, b5⟩ := rankKept_ok hp hinv rows _ a1 fun r h => hr r (by simp [h])
  refine ⟨b1, by simp only [List.length_cons, List.foldl_cons]; omega, fun r hr' => ?_, fun u hu => b4 u (a4 u hu), fun S h1 h2 => b5 S (a5 S h1 (h2 row (by simp))) fun r h => h2 r (by simp [h])⟩
  rcases List.mem_cons.1 hr' with rfl | hr'
  ·exact b4 _ a3
  ·exact b3 r hr'

theorem rankT_spec {inv : Int → Int} {p : Int} (hp : 1 < p) (hinv : InvOk inv p) {n : Nat} {rows : List (List Int)} (hr : ∀ r ∈ rows, RowOk p n r) :
  ∃ E : List (Fv × Nat), Ech p E ∧ E.length = rankT inv p rows ∧ (∀ r ∈ rows, Spn p (E.map (·.1)) (vec r)) ∧ (∀ x ∈ E, Spn p (rows.map vec) x.1) ∧ rankT inv p rows ≤ rows.length := by
 obtain ⟨h1, h2, h3, _, h5⟩ := rankKept_ok hp hinv rows [] ⟨fun x h => (by cases h), fun x h => (by cases h), by simp⟩ hr
 refine ⟨(rankKept inv p rows).map fun x => (vec x.1, x.2), h1.ech, by simp [rankT], fun r h => ?_, fun x hx => ?_, by simpa [rankT, rankKept] using h2⟩
 ·rw [List.map_map]
  exact h3 r h
 ·obtain ⟨y, hy, rfl⟩ := List.mem_map.1 hx
  exact h5 (rows.map vec) (fun x h => (by cases h)) (fun r h => Spn.mem (List.mem_map_of_mem h)) y hy

theorem rank_uniq {inv : Int → Int} {p : Int} (hp : 1 < p) (hinv : InvOk inv p) {n : Nat} {rows : List (List Int)} (hr : ∀ r ∈ rows, RowOk p n r) {E : List (Fv × Nat)} (hE : Ech p E) (h1 : ∀ r ∈ rows, Spn p (E.map (·.1)) (vec r)) (h2 : ∀ x ∈ E, Spn p (rows.map vec) x.1) :
  E.length = rankT inv p rows := by
 obtain ⟨F, f1, f2, f3, f4, _⟩ := rankT_spec hp hinv hr
 have hpr := Prm.of hp hinv
 have a := Ech.le hpr hE f1 fun x hx => Spn.trans (fun e he => by
  obtain ⟨r, hr', rfl⟩ := List.mem_map.1 he
  exact f3 r hr') (h2 x hx)
 have b := Ech.le hpr f1 hE fun x hx => Spn.trans (fun e he => by
  obtain ⟨r, hr', rfl⟩ := List.mem_map.1 he
  exact h1 r hr') (f4 x hx)
 omega
end
section
structure TB (lo p : Int) (n : Nat) (B : Int) (t : Tm) : Prop where
 lo : lo ≤ t.c
 hi : t.c < p
 len : t.e.length = n
 mem : ∀ x ∈ t.e, 0 ≤ x ∧ x ≤ B

structure PB (lo p o : Int) (n : Nat) (B : Int) (f : Pl) : Prop where
 all : ∀ t ∈ f, TB lo p n B t
 sorted : f.Pairwise fun a b => 0 < cmpM o a.e b.e

theorem TB.mono {lo lo' p : Int} {n : Nat} {B B' : Int} {t : Tm} (h : TB lo p n B t) (hl : lo' ≤ lo) (hB : B ≤ B') : TB lo' p n B' t := ⟨by have := h.lo; omega, h.hi, h.len, fun x hx => by have := h.mem x hx; omega⟩
theorem PB.mono {lo lo' p o : Int} {n : Nat} {B B' : Int} {f : Pl} (h : PB lo p o n B f) (hl : lo' ≤ lo) (hB : B ≤ B') : PB lo' p o n B' f := ⟨fun t ht => (h.all t ht).mono hl hB, h.sorted⟩
theorem PB.nil (lo p o : Int) (n : Nat) (B : Int) : PB lo p o n B [] := ⟨fun t h => (by cases h), by simp⟩
theorem PB.tail {lo p o : Int} {n : Nat} {B : Int} {t : Tm} {f : Pl} (h : PB lo p o n B (t :: f)) : PB lo p o n B f := ⟨fun x hx => h.all x (by simp [hx]), (List.pairwise_cons.1 h.sorted).2⟩
theorem PB.head {lo p o : Int} {n : Nat} {B : Int} {t : Tm} {f : Pl} (h : PB lo p o n B (t :: f)) : TB lo p n B t := h.all t (by simp)

theorem TB.mok {lo p : Int} {n : Nat} {B : Int} {t : Tm} (h : TB lo p n B t) (hn : n ≤ 3) (hB : B ≤ 1000000) : MOk t.e := ⟨by have := h.len; omega, fun x hx => by have := h.mem x hx; omega⟩

def Below (o : Int) (m : List Int) (f : Pl) : Prop := ∀ t ∈ f, 0 < cmpM o m t.e

theorem PB.below {lo p o : Int} {n : Nat} {B : Int} {t : Tm} {f : Pl} (h : PB lo p o n B (t :: f)) : Below o t.e f := (List.pairwise_cons.1 h.sorted).1
theorem PB.cons {lo p o : Int} {n : Nat} {B : Int} {t : Tm} {f : Pl} (h1 : TB lo p n B t) (h2 : Below o t.e f) (h3 : PB lo p o n B f) : PB lo p o n B (t :: f) :=
 ⟨fun x hx => by rcases List.mem_cons.1 hx with rfl | hx; exact h1; exact h3.all x hx, List.pairwise_cons.2 ⟨h2, h3.sorted⟩⟩

theorem cmpM_lt_trans {o : Int} {a b c : List Int} (h1 : a.length = b.length) (h2 : b.length = c.length) (h3 : 0 < cmpM o a b) (h4 : 0 < cmpM o b c) : 0 < cmpM o a c := (cmpM_trans h1 h2 (by omega) (by omega)).2 (.inl h3)

theorem Below.trans {lo p o : Int} {n : Nat} {B : Int} {m : List Int} {t : Tm} {f : Pl} (hm : m.length = n) (h : PB lo p o n B (t :: f)) (h1 : 0 < cmpM o m t.e) : Below o m (t :: f) := fun x hx => by
 rcases List.mem_cons.1 hx with rfl | hx
 ·exact h1
 ·exact cmpM_lt_trans (by rw [hm, h.head.len]) (by rw [h.head.len, (h.all x (by simp [hx])).len]) h1 (h.below x hx)

def Lf (φ : List Int → Int) (f : Pl) : Int := (f.map fun t => t.c * φ t.e).sum

theorem Lf_nil (φ : List Int → Int) : Lf φ [] = 0 := rfl
theorem Lf_cons (φ : List Int → Int) (t : Tm) (f : Pl) : Lf φ (t :: f) = t.c * φ t.e + Lf φ f := rfl
theorem Lf_append (φ : List Int → Int) (f g : Pl) : Lf φ (f ++ g) = Lf φ f + Lf φ g := by simp [Lf]

def Lk (p : Int) (f g : Pl) : Prop := ∀ φ, p ∣ Lf φ f - Lf φ g

theorem Lk.symm {p : Int} {f g : Pl} (h : Lk p f g) : Lk p g f := fun φ => by
 have := Int.dvd_neg.2 (h φ)
 rwa [Int.neg_sub] at this
theorem Lk.trans {p : Int} {f g h : Pl} (h1 : Lk p f g) (h2 : Lk p g h) : Lk p f h := fun φ => by
 have := Int.dvd_add (h1 φ) (h2 φ)
 rwa [show Lf φ f - Lf φ g + (Lf φ g - Lf φ h) = Lf φ f - Lf φ h by omega] at this
theorem Lk.refl (p : Int) (f : Pl) : Lk p f f := fun φ => by rw [Int.sub_self]; exact Int.dvd_zero p

def delta (m : List Int) (e : List Int) : Int := if e = m then 1 else 0

theorem Lf_delta_below {o : Int} {m : List Int} : ∀ {f : Pl}, Below o m f → Lf (delta m) f = 0
 | [], _ => rfl
 | t :: f, h => by
  have h1 := h t (by simp)
  have hne : t.e ≠ m := fun e => by rw [e, cmpM_self] at h1; omega
  rw [Lf_cons, Lf_delta_below fun x hx => h x (by simp [hx])]
  simp [delta, hne]

theorem small_eq {p a b : Int} (h : p ∣ a - b) (ha : 0 ≤ a) (ha2 : a < p) (hb : 0 ≤ b) (hb2 : b < p) : a = b := by
 obtain ⟨k, hk⟩ := h
 have hk0 : k = 0 := by
  rcases Int.lt_trichotomy k 0 with h1 | h1 | h1
  ·have : p * k ≤ p * (-1) := Int.mul_le_mul_of_nonneg_left (by omega) (by omega)
   omega
  ·exact h1
  ·have : p * 1 ≤ p * k := Int.mul_le_mul_of_nonneg_left (by omega) (by omega)
   omega
 subst hk0
 omega

theorem PB.uniq {p o : Int} {n : Nat} {B B' : Int} (hp : 0 < p) : ∀ {f g : Pl}, PB 1 p o n B f → PB 1 p o n B' g → Lk p f g → f = g
 | [], [], _, _, _ => rfl
 | [], b :: g, _, hg, h => by
  have h1 := h (delta b.e)
  rw [Lf_cons, Lf_delta_below hg.below, Lf_nil] at h1
  have := hg.head.lo
  have := hg.head.hi
  have h2 : p ∣ b.c - 0 := by
   have := Int.dvd_neg.2 h1
   simpa [delta] using this
  have := small_eq h2 (by omega) (by omega) (by omega) hp
  omega
 | a :: f, [], hf, _, h => by
  have h1 := h (delta a.e)
  rw [Lf_cons, Lf_delta_below hf.below, Lf_nil] at h1
  have := hf.head.lo
  have := hf.head.hi
  have h2 : p ∣ a.c - 0 := by simpa [delta] using h1
  have := small_eq h2 (by omega) (by omega) (by omega) hp
  omega
 | a :: f, b :: g, hf, hg, h => by
  have la := hf.head.len
  have lb := hg.head.len
  have a1 := hf.head.lo
  have a2 := hf.head.hi
  have b1 := hg.head.lo
  have b2 := hg.head.hi
  rcases cmpM_range o a.e b.e with h0 | h0 | h0
  ·have he : a.e = b.e := cmpM_zero (by omega) h0
   have h1 := h (delta a.e)
   rw [Lf_cons, Lf_cons, Lf_delta_below hf.below, he, Lf_delta_below hg.below] at h1
   have h2 : p ∣ a.c - b.c := by simpa [delta, he] using h1
   have hc := small_eq h2 (by omega) a2 (by omega) b2
   have hab : a = b := by cases a; cases b; simp_all
   subst hab
   congr 1
   refine PB.uniq hp hf.tail hg.tail fun φ => ?_
   have := h φ
   rw [Lf_cons, Lf_cons] at this
   rwa [show a.c * φ a.e + Lf φ f - (a.c * φ a.e + Lf φ g) = Lf φ f - Lf φ g by omega] at this
  ·have hb := Below.trans (m := a.e) la hg (by omega)
   have h1 := h (delta a.e)
   rw [Lf_cons, Lf_delta_below hf.below, Lf_delta_below hb] at h1
   have h2 : p ∣ a.c - 0 := by simpa [delta] using h1
   have := small_eq h2 (by omega) (by omega) (by omega) hp
   omega
  ·have hba : 0 < cmpM o b.e a.e := by have := cmpM_anti o b.e a.e; omega
   have hb := Below.trans (m := b.e) lb hf hba
   have h1 := h (delta b.e)
   rw [Lf_cons (delta b.e) b g, Lf_delta_below hg.below, Lf_delta_below hb] at h1
   have h2 : p ∣ b.c - 0 := by
    have := Int.dvd_neg.2 h1
    simpa [delta] using this
   have := small_eq h2 (by omega) (by omega) (by omega) hp
   omega

def sumGo (p o : Int) (a : Tm) (f : Pl) (rec : Pl → Pl) : Pl → Pl
 | [] => a :: f
 | b :: g => if cmpM o a.e b.e = 1 then a :: rec (b :: g) else if cmpM o a.e b.e = -1 then b :: sumGo p o a f rec g else if 0 < (a.c + b.c) % p then ⟨(a.c + b.c) % p, a.e⟩ :: rec g else rec g

def sumT (p o : Int) : Pl → Pl → Pl
 | [] => fun g => g
 | a :: f => sumGo p o a f (sumT p o f)

theorem sumT_nil (p o : Int) (g : Pl) : sumT p o [] g = g := rfl
theorem sumT_nil' (p o : Int) : ∀ (f : Pl), sumT p o f [] = f
 | [] => rfl
 | a :: f => rfl
theorem sumT_cons (p o : Int) (a b : Tm) (f g : Pl) : sumT p o (a :: f) (b :: g) =
  if cmpM o a.e b.e = 1 then a :: sumT p o f (b :: g) else if cmpM o a.e b.e = -1 then b :: sumT p o (a :: f) g else if 0 < (a.c + b.c) % p then ⟨(a.c + b.c) % p, a.e⟩ :: sumT p o f g else sumT p o f g := rfl

theorem sumT_ind {p o : Int} {M : Pl → Pl → Prop} (h1 : ∀ g, M [] g) (h2 : ∀ a f, M (a :: f) []) (h3 : ∀ a b f g, M f (b :: g) → M (a :: f) g → M f g → M (a :: f) (b :: g)) : ∀ f g, M f g
 | [], g => h1 g
 | a :: f, [] => h2 a f
 | a :: f, b :: g => h3 a b f g (sumT_ind (p := p) (o := o) h1 h2 h3 f (b :: g)) (sumT_ind (p := p) (o := o) h1 h2 h3 (a :: f) g) (sumT_ind (p := p) (o := o) h1 h2 h3 f g)
termination_by f g => f.length + g.length

theorem sumT_length {p o : Int} : ∀ f g, (sumT p o f g).length ≤ f.length + g.length :=
 sumT_ind (p := p) (o := o) (fun g => by simp [sumT_nil]) (fun a f => by simp [sumT_nil']) fun a b f g i1 i2 i3 => by
  rw [sumT_cons]
  simp only [List.length_cons] at *
  split
  ·simp only [List.length_cons]; omega
  ·split
   ·simp only [List.length_cons]; omega
   ·split
    ·simp only [List.length_cons]; omega
    ·omega

theorem sumT_below {p o : Int} {m : List Int} : ∀ f g, Below o m f → Below o m g → Below o m (sumT p o f g) :=
 sumT_ind (p := p) (o := o) (fun g _ h => h) (fun a f h _ => by rw [sumT_nil']; exact h) fun a b f g i1 i2 i3 ha hb => by
  have hf : Below o m f := fun x hx => ha x (by simp [hx])
  have hg : Below o m g := fun x hx => hb x (by simp [hx])
  rw [sumT_cons]
  split
  ·intro x hx
   rcases List.mem_cons.1 hx with rfl | hx
   ·exact ha x (by simp)
   ·exact i1 hf hb x hx
  ·split
   ·intro x hx
    rcases List.mem_cons.1 hx with rfl | hx
    ·exact hb x (by simp)
    ·exact i2 ha hg x hx
   ·split
    ·intro x hx
     rcases List.mem_cons.1 hx with rfl | hx
     ·exact ha a (by simp)
     ·exact i3 hf hg x hx
    ·exact i3 hf hg

theorem sumT_ok {p o : Int} {n : Nat} {B : Int} (hp : 0 < p) : ∀ f g, PB 1 p o n B f → PB 1 p o n B g → PB 1 p o n B (sumT p o f g) :=
 sumT_ind (p := p) (o := o) (fun g _ h => h) (fun a f h _ => by rw [sumT_nil']; exact h) fun a b f g i1 i2 i3 ha hb => by
  rw [sumT_cons]
  split
  ·rename_i h
   exact .cons ha.head (sumT_below _ _ ha.below (Below.trans ha.head.len hb (by omega))) (i1 ha.tail hb)
  ·split
   ·rename_i h
    have : 0 < cmpM o b.e a.e := by have := cmpM_anti o b.e a.e; omega
    exact .cons hb.head (sumT_below _ _ (Below.trans hb.head.len ha this) hb.below) (i2 ha hb.tail)
   ·have h0 : cmpM o a.e b.e = 0 := by have := cmpM_range o a.e b.e; omega
    have he : a.e = b.e := cmpM_zero (by rw [ha.head.len, hb.head.len]) h0
    split
    ·rename_i hc
     refine .cons ⟨hc, Int.emod_lt_of_pos _ hp, ha.head.len, ha.head.mem⟩ (sumT_below _ _ ha.below (by show Below o a.e g; rw [he]; exact hb.below)) (i3 ha.tail hb.tail)
    ·exact i3 ha.tail hb.tail

theorem emod_dvd (p x : Int) : p ∣ x % p - x := by
 rw [Int.emod_def]
 exact ⟨-(x / p), by rw [Int.mul_neg]; omega⟩

theorem sumT_L {p o : Int} {n : Nat} {B : Int} (hp : 0 < p) (φ : List Int → Int) : ∀ f g, PB 1 p o n B f → PB 1 p o n B g → p ∣ Lf φ (sumT p o f g) - (Lf φ f + Lf φ g) :=
 sumT_ind (p := p) (o := o) (fun g _ h => by rw [sumT_nil, Lf_nil]; simp) (fun a f h _ => by rw [sumT_nil', Lf_nil]; simp) fun a b f g i1 i2 i3 ha hb => by
  rw [sumT_cons]
  split
  ·have := i1 ha.tail hb
   rw [Lf_cons, Lf_cons φ a f]
   rwa [show a.c * φ a.e + Lf φ (sumT p o f (b :: g)) - (a.c * φ a.e + Lf φ f + Lf φ (b :: g)) = Lf φ (sumT p o f (b :: g)) - (Lf φ f + Lf φ (b :: g)) by omega]
  ·split
   ·have := i2 ha hb.tail
    rw [Lf_cons, Lf_cons φ b g]
    rwa [show b.c * φ b.e + Lf φ (sumT p o (a :: f) g) - (Lf φ (a :: f) + (b.c * φ b.e + Lf φ g)) = Lf φ (sumT p o (a :: f) g) - (Lf φ (a :: f) + Lf φ g) by omega]
   ·have h0 : cmpM o a.e b.e = 0 := by have := cmpM_range o a.e b.e; omega
    have he : a.e = b.e := cmpM_zero (by rw [ha.head.len, hb.head.len]) h0
    have ih := i3 ha.tail hb.tail
    have hd := Int.dvd_trans (emod_dvd p (a.c + b.c)) (Int.dvd_mul_right _ (φ a.e))
    rw [Int.sub_mul, Int.add_mul] at hd
    split
    ·rw [Lf_cons, Lf_cons, Lf_cons, ← he]
     have := Int.dvd_add hd ih
     rwa [show (a.c + b.c) % p * φ a.e - (a.c * φ a.e + b.c * φ a.e) + (Lf φ (sumT p o f g) - (Lf φ f + Lf φ g)) = (a.c + b.c) % p * φ a.e + Lf φ (sumT p o f g) - (a.c * φ a.e + Lf φ f + (b.c * φ a.e + Lf φ g)) by omega] at this
    ·rename_i hc
     have hz : (a.c + b.c) % p = 0 := by have := Int.emod_nonneg (a.c + b.c) (show p ≠ 0 by omega); omega
     rw [hz] at hd
     rw [Lf_cons, Lf_cons, ← he]
     have := Int.dvd_add hd ih
     rwa [show 0 * φ a.e - (a.c * φ a.e + b.c * φ a.e) + (Lf φ (sumT p o f g) - (Lf φ f + Lf φ g)) = Lf φ (sumT p o f g) - (a.c * φ a.e + Lf φ f + (b.c * φ a.e + Lf φ g)) by rw [Int.zero_mul]; omega] at this

def insT (p o : Int) (t : Tm) : Pl → Pl
 | [] => [t]
 | x :: l => if 0 < cmpM o x.e t.e then x :: insT p o t l else if x.e = t.e then ⟨(x.c + t.c) % p, x.e⟩ :: l else t :: x :: l

def collectT (p o : Int) (l : Pl) : Pl := (l.foldl (fun out t => insT p o t out) []).filter fun t => t.c % p != 0

theorem insT_below {p o : Int} {m : List Int} {t : Tm} (ht : 0 < cmpM o m t.e) : ∀ {f : Pl}, Below o m f → Below o m (insT p o t f)
 | [], _ => fun x hx => by simp [insT] at hx; subst hx; exact ht
 | y :: f, h => by
  have hf : Below o m f := fun x hx => h x (by simp [hx])
  unfold insT
  split
  ·intro x hx
   rcases List.mem_cons.1 hx with rfl | hx
   ·exact h x (by simp)
   ·exact insT_below ht hf x hx
  ·split
   ·intro x hx
    rcases List.mem_cons.1 hx with rfl | hx
    ·exact h y (by simp)
    ·exact hf x hx
   ·intro x hx
    rcases List.mem_cons.1 hx with rfl | hx
    ·exact ht
    ·exact h x hx

theorem insT_ok {p o : Int} {n : Nat} {B : Int} (hp : 0 < p) {t : Tm} (ht : TB 0 p n B t) : ∀ {f : Pl}, PB 0 p o n B f → PB 0 p o n B (insT p o t f)
 | [], _ => .cons ht (fun x h => (by cases h)) (PB.nil _ _ _ _ _)
 | y :: f, h => by
  unfold insT
  split
  ·rename_i hc
   exact .cons h.head (insT_below hc h.below) (insT_ok hp ht h.tail)
  ·split
   ·exact .cons ⟨Int.emod_nonneg _ (by omega), Int.emod_lt_of_pos _ hp, h.head.len, h.head.mem⟩ h.below h.tail
   ·rename_i hc hne
    have h0 : cmpM o y.e t.e ≠ 0 := fun h0 => hne (cmpM_zero (by rw [h.head.len, ht.len]) h0)
    have hgt : 0 < cmpM o t.e y.e := by
     have := cmpM_range o y.e t.e
     have := cmpM_anti o t.e y.e
     omega
    exact .cons ht (Below.trans ht.len h hgt) h

theorem insT_L {p o : Int} {t : Tm} (φ : List Int → Int) : ∀ (f : Pl), p ∣ Lf φ (insT p o t f) - (Lf φ f + t.c * φ t.e)
 | [] => by simp [insT, Lf]
 | y :: f => by
  unfold insT
  split
  ·have := insT_L (p := p) (o := o) (t := t) φ f
   rw [Lf_cons, Lf_cons]
   rwa [show y.c * φ y.e + Lf φ (insT p o t f) - (y.c * φ y.e + Lf φ f + t.c * φ t.e) = Lf φ (insT p o t f) - (Lf φ f + t.c * φ t.e) by omega]
  ·split
   ·rename_i he
    have hd := Int.dvd_trans (emod_dvd p (y.c + t.c)) (Int.dvd_mul_right _ (φ y.e))
    rw [Int.sub_mul, Int.add_mul] at hd
    rw [Lf_cons, Lf_cons, ← he]
    rwa [show (y.c + t.c) % p * φ y.e + Lf φ f - (y.c * φ y.e + Lf φ f + t.c * φ y.e) = (y.c + t.c) % p * φ y.e - (y.c * φ y.e + t.c * φ y.e) by omega]
   ·rw [Lf_cons]
    rw [show t.c * φ t.e + Lf φ (y :: f) - (Lf φ (y :: f) + t.c * φ t.e) = 0 by omega]
    exact Int.dvd_zero p

theorem insT_length {p o : Int} {t : Tm} : ∀ (f : Pl), (insT p o t f).length ≤ f.length + 1
 | [] => by simp [insT]
 | y :: f => by
  have := insT_length (p := p) (o := o) (t := t) f
  unfold insT
  split
  ·simp only [List.length_cons]; omega
  ·split
   ·simp
   ·simp

theorem foldIns_ok {p o : Int} {n : Nat} {B : Int} (hp : 0 < p) : ∀ {l : Pl} {out : Pl}, (∀ t ∈ l, TB 0 p n B t) → PB 0 p o n B out → PB 0 p o n B (l.foldl (fun out t => insT p o t out) out)
 | [], out, _, h => h
 | t :: l, out, hl, h => by
  rw [List.foldl_cons]
  exact foldIns_ok hp (fun x hx => hl x (by simp [hx])) (insT_ok hp (hl t (by simp)) h)

theorem foldIns_L {p o : Int} (φ : List Int → Int) : ∀ (l out : Pl), p ∣ Lf φ (l.foldl (fun out t => insT p o t out) out) - (Lf φ out + Lf φ l)
 | [], out => by simp [Lf]
 | t :: l, out => by
  have h1 := foldIns_L (p := p) (o := o) φ l (insT p o t out)
  have h2 := insT_L (p := p) (o := o) (t := t) φ out
  simp only [List.foldl_cons]
  rw [Lf_cons]
  have := Int.dvd_add h1 h2
  rwa [show Lf φ (l.foldl (fun out t => insT p o t out) (insT p o t out)) - (Lf φ (insT p o t out) + Lf φ l) + (Lf φ (insT p o t out) - (Lf φ out + t.c * φ t.e)) = Lf φ (l.foldl (fun out t => insT p o t out) (insT p o t out)) - (Lf φ out + (t.c * φ t.e + Lf φ l)) by omega] at this

theorem foldIns_length {p o : Int} : ∀ (l out : Pl), (l.foldl (fun out t => insT p o t out) out).length ≤ out.length + l.length
 | [], out => by simp
 | t :: l, out => by
  have h1 := foldIns_length (p := p) (o := o) l (insT p o t out)
  have h2 := insT_length (p := p) (o := o) (t := t) out
  simp only [List.foldl_cons, List.length_cons]
  omega

theorem filter_L {p : Int} (φ : List Int → Int) : ∀ (f : Pl), p ∣ Lf φ (f.filter fun t => t.c % p != 0) - Lf φ f
 | [] => by simp [Lf]
 | t :: f => by
  have ih := filter_L (p := p) φ f
  rw [List.filter_cons]
  split
  ·rw [Lf_cons, Lf_cons]
   rwa [show t.c * φ t.e + Lf φ (f.filter fun t => t.c % p != 0) - (t.c * φ t.e + Lf φ f) = Lf φ (f.filter fun t => t.c % p != 0) - Lf φ f by omega]
  ·rename_i h
   have hz : t.c % p = 0 := by simpa using h
   have hd : p ∣ t.c * φ t.e := Int.dvd_trans (Int.dvd_of_emod_eq_zero hz) (Int.dvd_mul_right _ _)
   rw [Lf_cons]
   have := Int.dvd_sub ih hd
   rwa [show Lf φ (f.filter fun t => t.c % p != 0) - Lf φ f - t.c * φ t.e = Lf φ (f.filter fun t => t.c % p != 0) - (t.c * φ t.e + Lf φ f) by omega] at this

theorem collectT_ok {p o : Int} {n : Nat} {B : Int} (hp : 0 < p) {l : Pl} (hl : ∀ t ∈ l, TB 0 p n B t) : PB 1 p o n B (collectT p o l) := by
 have h := foldIns_ok (o := o) hp hl (PB.nil 0 p o n B)
 refine ⟨fun t ht => ?_, h.sorted.filter _⟩
 obtain ⟨h1, h2⟩ := List.mem_filter.1 ht
 have h3 := h.all t h1
 have h4 : t.c % p ≠ 0 := by simpa using h2
 have h5 : t.c ≠ 0 := fun e => by rw [e] at h4; simp at h4
 exact ⟨by have := h3.lo; omega, h3.hi, h3.len, h3.mem⟩

theorem collectT_L {p o : Int} (l : Pl) : Lk p (collectT p o l) l := fun φ => by
 have h1 := foldIns_L (p := p) (o := o) φ l []
 have h2 := filter_L (p := p) φ (l.foldl (fun out t => insT p o t out) [])
 have := Int.dvd_add h1 h2
 rw [Lf_nil] at this
 rwa [show Lf φ (l.foldl (fun out t => insT p o t out) []) - (0 + Lf φ l) + (Lf φ ((l.foldl (fun out t => insT p o t out) []).filter fun t => t.c % p != 0) - Lf φ (l.foldl (fun out t => insT p o t out) [])) = Lf φ (collectT p o l) - Lf φ l by unfold collectT; omega] at this

def byT (p : Int) (f : Pl) (t : Tm) : Pl := if t.c = 0 then [] else f.map fun x => ⟨x.c * t.c % p, zipE (· + ·) x.e t.e⟩

def prodT (p o : Int) (f g : Pl) : Pl := f.foldl (fun out t => sumT p o out (byT p g t)) []

def shift (φ : List Int → Int) (m : List Int) : List Int → Int := fun e => φ (zipE (· + ·) e m)

theorem byT_ok {p o : Int} {n : Nat} {B C : Int} (hp : 1 < p) (hpr : Prm p) {f : Pl} (hf : PB 1 p o n B f) {t : Tm} (ht : TB 0 p n C t) : PB 1 p o n (B + C) (byT p f t) := by
 unfold byT
 split
 ·exact PB.nil _ _ _ _ _
 ·rename_i hc
  refine ⟨fun x hx => ?_, ?_⟩
  ·obtain ⟨y, hy, rfl⟩ := List.mem_map.1 hx
   have h1 := hf.all y hy
   have hne : y.c * t.c % p ≠ 0 := fun h => by
    rcases hpr _ _ (Int.dvd_of_emod_eq_zero h) with h | h
    ·have := small_eq (p := p) (a := y.c) (b := 0) (by simpa using h) (by have := h1.lo; omega) h1.hi (by omega) (by omega)
     have := h1.lo; omega
    ·have := small_eq (p := p) (a := t.c) (b := 0) (by simpa using h) ht.lo ht.hi (by omega) (by omega)
     exact hc this
   have h0 := Int.emod_nonneg (y.c * t.c) (show p ≠ 0 by omega)
   refine ⟨by show 1 ≤ y.c * t.c % p; omega, Int.emod_lt_of_pos _ (by omega), ?_, fun z hz => ?_⟩
   ·show (zipE (· + ·) y.e t.e).length = n
    rw [zipE_len (by rw [h1.len, ht.len]), h1.len]
   ·obtain ⟨i, hi, rfl⟩ := List.mem_iff_getElem.1 hz
    have e1 := h1.len
    have e2 := ht.len
    have hi' : i < n := by
     have : (zipE (· + ·) y.e t.e).length = n := by rw [zipE_len (by rw [h1.len, ht.len]), h1.len]
     have hi2 : i < (zipE (· + ·) y.e t.e).length := hi
     omega
    show 0 ≤ (zipE (· + ·) y.e t.e)[i] ∧ (zipE (· + ·) y.e t.e)[i] ≤ B + C
    rw [zipE_get]
    have g1 := h1.mem _ (List.getElem_mem (show i < y.e.length by omega))
    have g2 := ht.mem _ (List.getElem_mem (show i < t.e.length by omega))
    omega
  ·rw [List.pairwise_map]
   refine List.Pairwise.imp_of_mem (fun {a b} ha hb h => ?_) hf.sorted
   show 0 < cmpM o (zipE (· + ·) a.e t.e) (zipE (· + ·) b.e t.e)
   rw [cmpM_add (by rw [(hf.all a ha).len, (hf.all b hb).len]) (by rw [(hf.all b hb).len, ht.len])]
   exact h

theorem byT_L {p : Int} (φ : List Int → Int) (t : Tm) : ∀ (f : Pl), p ∣ Lf φ (byT p f t) - t.c * Lf (shift φ t.e) f := by
 intro f
 unfold byT
 split
 ·rename_i h; rw [h, Lf_nil]; simp
 ·induction f with
  | nil => simp [Lf]
  | cons x f ih =>
   rw [List.map_cons, Lf_cons, Lf_cons, Int.mul_add]
   have hd := Int.dvd_trans (emod_dvd p (x.c * t.c)) (Int.dvd_mul_right _ (φ (zipE (· + ·) x.e t.e)))
   rw [Int.sub_mul] at hd
   have := Int.dvd_add hd ih
   have e : t.c * (x.c * shift φ t.e x.e) = x.c * t.c * φ (zipE (· + ·) x.e t.e) := by
    show t.c * (x.c * φ (zipE (· + ·) x.e t.e)) = _
    rw [← Int.mul_assoc, Int.mul_comm t.c x.c]
   rw [e]
   show p ∣ x.c * t.c % p * φ (zipE (· + ·) x.e t.e) + _ - (x.c * t.c * φ (zipE (· + ·) x.e t.e) + _)
   rwa [show x.c * t.c % p * φ (zipE (· + ·) x.e t.e) - x.c * t.c * φ (zipE (· + ·) x.e t.e) + (Lf φ (f.map fun x => ⟨x.c * t.c % p, zipE (· + ·) x.e t.e⟩) - t.c * Lf (shift φ t.e) f) = x.c * t.c % p * φ (zipE (· + ·) x.e t.e) + Lf φ (f.map fun x => ⟨x.c * t.c % p, zipE (· + ·) x.e t.e⟩) - (x.c * t.c * φ (zipE (· + ·) x.e t.e) + t.c * Lf (shift φ t.e) f) by omega] at this

theorem byT_length (p : Int) (f : Pl) (t : Tm) : (byT p f t).length ≤ f.length := by
 unfold byT
 split <;> simp

def LfP (φ : List Int → Int) (f g : Pl) : Int := (f.map fun t => t.c * Lf (shift φ t.e) g).sum

theorem prodGo {p o : Int} {n : Nat} {B C : Int} (hp : 1 < p) (hpr : Prm p) {g : Pl} (hg : PB 1 p o n B g) (hC : 0 ≤ C) : ∀ (f out : Pl), (∀ t ∈ f, TB 0 p n C t) → PB 1 p o n (B + C) out →
  PB 1 p o n (B + C) (f.foldl (fun out t => sumT p o out (byT p g t)) out) ∧ (∀ φ, p ∣ Lf φ (f.foldl (fun out t => sumT p o out (byT p g t)) out) - (Lf φ out + LfP φ f g)) ∧ (f.foldl (fun out t => sumT p o out (byT p g t)) out).length ≤ out.length + f.length * g.length
 | [], out, _, h => ⟨h, fun φ => by simp [LfP], by simp⟩
 | t :: f, out, hf, h => by
  have hb := byT_ok (o := o) hp hpr hg (hf t (by simp))
  have h1 := sumT_ok (p := p) (o := o) (by omega) out _ h hb
  obtain ⟨i1, i2, i3⟩ := prodGo hp hpr hg hC f _ (fun x hx => hf x (by simp [hx])) h1
  refine ⟨i1, fun φ => ?_, ?_⟩
  ·have a1 := i2 φ
   have a2 := sumT_L (p := p) (o := o) (by omega) φ out _ h hb
   have a3 := byT_L (p := p) φ t g
   have := Int.dvd_add (Int.dvd_add a1 a2) a3
   simp only [List.foldl_cons]
   have e : LfP φ (t :: f) g = t.c * Lf (shift φ t.e) g + LfP φ f g := rfl
   rw [e]
   rwa [show Lf φ (f.foldl (fun out t => sumT p o out (byT p g t)) (sumT p o out (byT p g t))) - (Lf φ (sumT p o out (byT p g t)) + LfP φ f g) + (Lf φ (sumT p o out (byT p g t)) - (Lf φ out + Lf φ (byT p g t))) + (Lf φ (byT p g t) - t.c * Lf (shift φ t.e) g) = Lf φ (f.foldl (fun out t => sumT p o out (byT p g t)) (sumT p o out (byT p g t))) - (Lf φ out + (t.c * Lf (shift φ t.e) g + LfP φ f g)) by omega] at this
  ·have a1 := sumT_length (p := p) (o := o) out (byT p g t)
   have a2 := byT_length p g t
   simp only [List.foldl_cons, List.length_cons, Nat.add_mul]
   omega

theorem prodT_ok {p o : Int} {n : Nat} {B C : Int} (hp : 1 < p) (hpr : Prm p) {f g : Pl} (hg : PB 1 p o n B g) (hC : 0 ≤ C) (hf : ∀ t ∈ f, TB 0 p n C t) : PB 1 p o n (B + C) (prodT p o f g) := (prodGo hp hpr hg hC f [] hf (PB.nil _ _ _ _ _)).1

theorem prodT_L {p o : Int} {n : Nat} {B C : Int} (hp : 1 < p) (hpr : Prm p) {f g : Pl} (hg : PB 1 p o n B g) (hC : 0 ≤ C) (hf : ∀ t ∈ f, TB 0 p n C t) (φ : List Int → Int) : p ∣ Lf φ (prodT p o f g) - LfP φ f g := by
 have := (prodGo hp hpr hg hC f [] hf (PB.nil _ _ _ _ _)).2.1 φ
 rwa [Lf_nil, Int.zero_add] at this

def pairsT (p : Int) (f g : Pl) : Pl := f.flatMap fun t => g.map fun u => ⟨t.c * u.c % p, zipE (· + ·) t.e u.e⟩

theorem zipE_comm {a b : List Int} : zipE (· + ·) a b = zipE (· + ·) b a := by
 unfold zipE
 rw [List.zipWith_comm]
 congr 1
 funext x y
 exact Int.add_comm _ _

theorem pairsT_L {p : Int} (φ : List Int → Int) (g : Pl) : ∀ (f : Pl), p ∣ Lf φ (pairsT p f g) - LfP φ f g
 | [] => by simp [pairsT, Lf, LfP]
 | t :: f => by
  have ih := pairsT_L (p := p) φ g f
  have e1 : pairsT p (t :: f) g = (g.map fun u => ⟨t.c * u.c % p, zipE (· + ·) t.e u.e⟩) ++ pairsT p f g := rfl
  have e2 : LfP φ (t :: f) g = t.c * Lf (shift φ t.e) g + LfP φ f g := rfl
  rw [e1, e2, Lf_append]
  have key : ∀ g : Pl, p ∣ Lf φ (g.map fun u => ⟨t.c * u.c % p, zipE (· + ·) t.e u.e⟩) - t.c * Lf (shift φ t.e) g := by
   intro g
   induction g with
   | nil => simp [Lf]
   | cons u g ig =>
    rw [List.map_cons, Lf_cons, Lf_cons, Int.mul_add]
    have hd := Int.dvd_trans (emod_dvd p (t.c * u.c)) (Int.dvd_mul_right _ (φ (zipE (· + ·) t.e u.e)))
    rw [Int.sub_mul] at hd
    have := Int.dvd_add hd ig
    have e : t.c * (u.c * shift φ t.e u.e) = t.c * u.c * φ (zipE (· + ·) t.e u.e) := by
     show t.c * (u.c * φ (zipE (· + ·) u.e t.e)) = _
     rw [← Int.mul_assoc, zipE_comm]
    rw [e]
    show p ∣ t.c * u.c % p * φ (zipE (· + ·) t.e u.e) + _ - (t.c * u.c * φ (zipE (· + ·) t.e u.e) + _)
    rwa [show t.c * u.c % p * φ (zipE (· + ·) t.e u.e) - t.c * u.c * φ (zipE (· + ·) t.e u.e) + (Lf φ (g.map fun u => ⟨t.c * u.c % p, zipE (· + ·) t.e u.e⟩) - t.c * Lf (shift φ t.e) g) = t.c * u.c % p * φ (zipE (· + ·) t.e u.e) + Lf φ (g.map fun u => ⟨t.c * u.c % p, zipE (· + ·) t.e u.e⟩) - (t.c * u.c * φ (zipE (· + ·) t.e u.e) + t.c * Lf (shift φ t.e) g) by omega] at this
  have := Int.dvd_add (key g) ih
  rwa [show Lf φ (g.map fun u => ⟨t.c * u.c % p, zipE (· + ·) t.e u.e⟩) - t.c * Lf (shift φ t.e) g + (Lf φ (pairsT p f g) - LfP φ f g) = Lf φ (g.map fun u => ⟨t.c * u.c % p, zipE (· + ·) t.e u.e⟩) + Lf φ (pairsT p f g) - (t.c * Lf (shift φ t.e) g + LfP φ f g) by omega] at this

theorem pairsT_mem {p : Int} {n : Nat} {B C : Int} (hp : 0 < p) {f g : Pl} (hf : ∀ t ∈ f, TB 0 p n C t) (hg : ∀ t ∈ g, TB 0 p n B t) : ∀ t ∈ pairsT p f g, TB 0 p n (B + C) t := by
 intro x hx
 obtain ⟨t, ht, hx⟩ := List.mem_flatMap.1 hx
 obtain ⟨u, hu, rfl⟩ := List.mem_map.1 hx
 have h1 := hf t ht
 have h2 := hg u hu
 have e1 := h1.len
 have e2 := h2.len
 have hl : (zipE (· + ·) t.e u.e).length = n := by rw [zipE_len (by omega), e1]
 refine ⟨Int.emod_nonneg _ (by omega), Int.emod_lt_of_pos _ hp, hl, fun z hz => ?_⟩
 obtain ⟨i, hi, rfl⟩ := List.mem_iff_getElem.1 hz
 have hi2 : i < (zipE (· + ·) t.e u.e).length := hi
 show 0 ≤ (zipE (· + ·) t.e u.e)[i] ∧ (zipE (· + ·) t.e u.e)[i] ≤ B + C
 rw [zipE_get]
 have g1 := h1.mem _ (List.getElem_mem (show i < t.e.length by omega))
 have g2 := h2.mem _ (List.getElem_mem (show i < u.e.length by omega))
 omega

theorem collect_prod {p o : Int} {n : Nat} {B C : Int} (hp : 1 < p) (hpr : Prm p) (hC : 0 ≤ C) {f g : Pl} (hf : PB 1 p o n C f) (hg : PB 1 p o n B g) : collectT p o (pairsT p f g) = prodT p o f g := by
 have hf0 : ∀ t ∈ f, TB 0 p n C t := fun t ht => (hf.all t ht).mono (by omega) (by omega)
 have hg0 : ∀ t ∈ g, TB 0 p n B t := fun t ht => (hg.all t ht).mono (by omega) (by omega)
 refine PB.uniq (by omega) (collectT_ok (n := n) (B := B + C) (by omega) (pairsT_mem (by omega) hf0 hg0)) (prodT_ok hp hpr hg hC hf0) ((collectT_L _).trans fun φ => ?_)
 have h1 := pairsT_L (p := p) φ g f
 have h2 := Int.dvd_neg.2 (prodT_L (o := o) hp hpr hg hC hf0 φ)
 rw [Int.neg_sub] at h2
 have := Int.dvd_add h1 h2
 rwa [show Lf φ (pairsT p f g) - LfP φ f g + (LfP φ f g - Lf φ (prodT p o f g)) = Lf φ (pairsT p f g) - Lf φ (prodT p o f g) by omega] at this

theorem cmpM_deg {o : Int} {a b : List Int} (h : 0 < cmpM o a b) : b.sum ≤ a.sum := by
 unfold cmpM at h
 split at h
 ·omega
 ·unfold sgn at h; omega

def topT : Pl → Int
 | [] => -1
 | t :: _ => t.e.sum

theorem topT_ge {lo p o : Int} {n : Nat} {B : Int} : ∀ {f : Pl}, PB lo p o n B f → ∀ t ∈ f, t.e.sum ≤ topT f
 | t :: f, h, x, hx => by
  rcases List.mem_cons.1 hx with rfl | hx
  ·exact Int.le_refl _
  ·exact cmpM_deg (h.below x hx)
end
section
def behind (o : Int) (prev : Option Tm) (t : Tm) : Bool := match prev with
 | none => false
 | some u => decide (0 ≤ cmpM o t.e u.e)

def polyGo (r : Rg) : Option Tm → Pl → Int
 | _, [] => 0
 | prev, t :: f => if t.c < 1 ∨ r.p ≤ t.c then 3 else if monoCk r t.e ≠ 0 then monoCk r t.e else if behind r.order prev t = true then 4 else polyGo r (some t) f

def polyCk (r : Rg) (f : Pl) : Int := if 2000 < f.length then 2 else polyGo r none f

def polysGo (r : Rg) : Vc → Int
 | [] => 0
 | f :: l => if polyCk r f = 0 then polysGo r l else polyCk r f

def prevAt (f : Pl) (k : Nat) : Option Tm := if k = 0 then none else f[k - 1]?

theorem polyGo_drop {r : Rg} {f : Pl} {k : Nat} (h : k < f.length) : polyGo r (prevAt f k) (f.drop k) = if f[k].c < 1 ∨ r.p ≤ f[k].c then 3 else if monoCk r f[k].e ≠ 0 then monoCk r f[k].e else if behind r.order (prevAt f k) f[k] = true then 4 else polyGo r (prevAt f (k + 1)) (f.drop (k + 1)) := by
 rw [List.drop_eq_getElem_cons h]
 have : prevAt f (k + 1) = some f[k] := by simp [prevAt, h]
 rw [this]
 rfl

structure POk (r : Rg) (f : Pl) : Prop where
 ok : PB 1 r.p r.order r.n.toNat 200 f
 deg : ∀ t ∈ f, t.e.sum ≤ 200
 len : f.length ≤ 2000

theorem polyGo_ok {r : Rg} (hr : r.n ≤ 3) (hr0 : 0 ≤ r.n) : ∀ {f : Pl} {prev : Option Tm}, polyGo r prev f = 0 → (∀ u, prev = some u → (u.e.length : Int) = r.n) →
  PB 1 r.p r.order r.n.toNat 200 f ∧ (∀ t ∈ f, t.e.sum ≤ 200) ∧ ∀ u, prev = some u → Below r.order u.e f
 | [], prev, _, _ => ⟨PB.nil _ _ _ _ _, fun t h => (by cases h), fun u _ t h => (by cases h)⟩
 | t :: f, prev, h, hu => by
  unfold polyGo at h
  split at h
  ·cases h
  ·rename_i h1
   split at h
   ·rename_i h2; exact absurd h h2
   ·rename_i h2
    split at h
    ·cases h
    ·rename_i h3
     have h2' : monoCk r t.e = 0 := Classical.byContradiction fun h => h2 h
     obtain ⟨m1, m2, m3, m4⟩ := MOk.of hr h2'
     obtain ⟨i1, i2, i3⟩ := polyGo_ok hr hr0 h fun u hu => by cases hu; exact m2
     have ht : TB 1 r.p r.n.toNat 200 t := ⟨by omega, by omega, by omega, fun x hx => inE_iff.1 (List.all_eq_true.1 m3 x hx)⟩
     have hb := i3 t rfl
     refine ⟨.cons ht hb i1, fun x hx => ?_, fun u hpu => ?_⟩
     ·rcases List.mem_cons.1 hx with rfl | hx
      ·exact m4
      ·exact i2 x hx
     ·subst hpu
      have hlt : 0 < cmpM r.order u.e t.e := by
       have h4 : ¬ 0 ≤ cmpM r.order t.e u.e := by simpa [behind] using h3
       have := cmpM_anti r.order u.e t.e
       omega
      exact Below.trans (n := r.n.toNat) (by have := hu u rfl; omega) (PB.cons ht hb i1) hlt

theorem polyCk_ok {r : Rg} (hr : ringCk r = 0) {f : Pl} (h : polyCk r f = 0) : POk r f := by
 have hr2 := (ringCk_ok hr).2.1
 unfold polyCk at h
 split at h
 ·cases h
 ·rename_i hl
  obtain ⟨h1, h2, _⟩ := polyGo_ok hr2.2 (by omega) h fun u hu => by cases hu
  exact ⟨h1, h2, by omega⟩

theorem polysGo_mem {r : Rg} : ∀ {l : Vc}, polysGo r l = 0 → ∀ f ∈ l, polyCk r f = 0
 | f :: l, h, g, hg => by
  unfold polysGo at h
  split at h
  ·rename_i h1
   rcases List.mem_cons.1 hg with rfl | hg
   ·exact h1
   ·exact polysGo_mem h g hg
  ·rename_i h1; exact absurd h h1

theorem polysGo_drop {r : Rg} {l : Vc} {k : Nat} (h : k < l.length) : polysGo r (l.drop k) = if polyCk r l[k] = 0 then polysGo r (l.drop (k + 1)) else polyCk r l[k] := by
 rw [List.drop_eq_getElem_cons h]
 rfl

def greatT (f : Pl) : Bool := decide (200 < topT f) || decide (2000 < f.length)
end
section
def vecsGo (r : Rg) (rank : Int) : List Vc → Int
 | [] => 0
 | v :: l => if (v.length : Int) ≠ rank then 1 else if polysGo r v = 0 then vecsGo r rank l else polysGo r v

def ownCk (r : Rg) (rank : Int) (l : List Vc) : Int := if rank < 1 ∨ 40 < rank then 3 else if 60 < l.length then 2 else vecsGo r rank l

def vecsCk (r : Rg) (rank : Int) (l : List Vc) : Int := if ringCk r = 0 then ownCk r rank l else ringCk r

theorem vecsGo_drop {r : Rg} {rank : Int} {l : List Vc} {k : Nat} (h : k < l.length) : vecsGo r rank (l.drop k) = if (l[k].length : Int) ≠ rank then 1 else if polysGo r l[k] = 0 then vecsGo r rank (l.drop (k + 1)) else polysGo r l[k] := by
 rw [List.drop_eq_getElem_cons h]
 rfl

structure VOk (r : Rg) (k : Nat) (v : Vc) : Prop where
 len : v.length = k
 all : ∀ f ∈ v, POk r f

theorem vecsGo_mem {r : Rg} {rank : Int} : ∀ {l : List Vc}, vecsGo r rank l = 0 → ∀ v ∈ l, (v.length : Int) = rank ∧ polysGo r v = 0
 | u :: l, h, v, hv => by
  unfold vecsGo at h
  split at h
  ·cases h
  ·rename_i h0
   split at h
   ·rename_i h1
    rcases List.mem_cons.1 hv with rfl | hv
    ·exact ⟨Classical.byContradiction fun hn => h0 hn, h1⟩
    ·exact vecsGo_mem h v hv
   ·rename_i h1; exact absurd h h1

theorem polysGo_ok {r : Rg} (hr : ringCk r = 0) {v : Vc} (h : polysGo r v = 0) : ∀ f ∈ v, POk r f := fun f hf => polyCk_ok hr (polysGo_mem h f hf)

theorem ownCk_ok {r : Rg} {rank : Int} {l : List Vc} (hr : ringCk r = 0) (h : ownCk r rank l = 0) : 1 ≤ rank ∧ rank ≤ 40 ∧ l.length ≤ 60 ∧ ∀ v ∈ l, VOk r rank.toNat v := by
 unfold ownCk at h
 split at h
 ·cases h
 ·rename_i h1
  split at h
  ·cases h
  ·rename_i h2
   refine ⟨by omega, by omega, by omega, fun v hv => ?_⟩
   obtain ⟨h3, h4⟩ := vecsGo_mem h v hv
   exact ⟨by omega, polysGo_ok hr h4⟩

theorem vecsCk_ok {r : Rg} {rank : Int} {l : List Vc} (h : vecsCk r rank l = 0) : ringCk r = 0 ∧ 1 ≤ rank ∧ rank ≤ 40 ∧ l.length ≤ 60 ∧ ∀ v ∈ l, VOk r rank.toNat v := by
 unfold vecsCk at h
 split at h
 ·rename_i hr; exact ⟨hr, ownCk_ok hr h⟩
 ·rename_i hr; exact absurd h hr

def vsumT (r : Rg) (v w : Vc) : Vc := List.zipWith (sumT r.p r.order) v w
def vtimesT (r : Rg) (f : Pl) (v : Vc) : Vc := v.map (prodT r.p r.order f)
def vbyT (r : Rg) (v : Vc) (t : Tm) : Vc := v.map fun f => byT r.p f t
def vgreatT (v : Vc) : Bool := v.any greatT
def vdoneT (v : Vc) : Vc × Int := if vgreatT v = true then ([], 2) else (v, 0)
end
end Go.Proofs.YtfjmdhemlfafbaaGreat
