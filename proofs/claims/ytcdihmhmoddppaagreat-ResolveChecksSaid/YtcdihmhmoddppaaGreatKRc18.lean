/-
  Plain law of ranks: spans, leads, echelons modulo a prime. No condition.
-/
import Derived.WalkKit

namespace Go.Proofs.YtcdihmhmoddppaaGreat
set_option linter.unusedVariables false
set_option linter.unusedSimpArgs false

/-- Vectors without an end. -/
abbrev Fv := Nat → Int

/-- Made of a list. -/
def Spn (p : Int) : List Fv → Fv → Prop
  | [], u => ∀ j, p ∣ u j
  | e :: E, u => ∃ c : Int, Spn p E fun j => u j - c * e j

def Cong (p : Int) (u v : Fv) : Prop := ∀ j, p ∣ u j - v j

theorem Cong.symm {p : Int} {u v : Fv} (h : Cong p u v) : Cong p v u := fun j => by
  have := Int.dvd_neg.2 (h j)
  rwa [Int.neg_sub] at this

theorem Cong.refl (p : Int) (u : Fv) : Cong p u u := fun j => by rw [Int.sub_self]; exact Int.dvd_zero p

theorem Spn.congr {p : Int} : ∀ {E : List Fv} {u v : Fv}, Cong p u v → Spn p E u → Spn p E v
  | [], u, v, h, hu => fun j => by
    have := Int.dvd_sub (hu j) (h j)
    rwa [show u j - (u j - v j) = v j by omega] at this
  | e :: E, u, v, h, ⟨c, hu⟩ => ⟨c, Spn.congr (fun j => by
      have := h j
      rwa [show u j - c * e j - (v j - c * e j) = u j - v j by omega]) hu⟩

theorem Spn.zero {p : Int} : ∀ {E : List Fv} {u : Fv}, (∀ j, p ∣ u j) → Spn p E u
  | [], u, h => h
  | e :: E, u, h => ⟨0, Spn.zero fun j => by rw [Int.zero_mul, Int.sub_zero]; exact h j⟩

theorem Spn.add {p : Int} : ∀ {E : List Fv} {u v : Fv}, Spn p E u → Spn p E v → Spn p E fun j => u j + v j
  | [], u, v, hu, hv => fun j => Int.dvd_add (hu j) (hv j)
  | e :: E, u, v, ⟨c, hu⟩, ⟨d, hv⟩ => ⟨c + d, Spn.congr (fun j => by
      have : u j - c * e j + (v j - d * e j) - (u j + v j - (c + d) * e j) = 0 := by rw [Int.add_mul]; omega
      rw [this]; exact Int.dvd_zero p) (Spn.add hu hv)⟩

theorem Spn.smul {p : Int} (k : Int) : ∀ {E : List Fv} {u : Fv}, Spn p E u → Spn p E fun j => k * u j
  | [], u, hu => fun j => Int.dvd_trans (hu j) (Int.dvd_mul_left _ _)
  | e :: E, u, ⟨c, hu⟩ => ⟨k * c, Spn.congr (fun j => by
      have : k * (u j - c * e j) - (k * u j - k * c * e j) = 0 := by rw [Int.mul_sub, Int.mul_assoc]; omega
      rw [this]; exact Int.dvd_zero p) (Spn.smul k hu)⟩

theorem Spn.tail {p : Int} {e : Fv} {E : List Fv} {u : Fv} (h : Spn p E u) : Spn p (e :: E) u :=
  ⟨0, Spn.congr (fun j => by rw [Int.zero_mul, Int.sub_zero, Int.sub_self]; exact Int.dvd_zero p) h⟩

theorem Spn.mem {p : Int} : ∀ {E : List Fv} {u : Fv}, u ∈ E → Spn p E u
  | [], u, h => by cases h
  | e :: E, u, h => by
    rcases List.mem_cons.1 h with rfl | h
    · exact ⟨1, Spn.zero fun j => by rw [Int.one_mul, Int.sub_self]; exact Int.dvd_zero p⟩
    · exact Spn.tail (Spn.mem h)

theorem Spn.trans {p : Int} : ∀ {E F : List Fv} {u : Fv}, (∀ e ∈ E, Spn p F e) → Spn p E u → Spn p F u
  | [], F, u, _, hu => Spn.zero hu
  | e :: E, F, u, h, ⟨c, hu⟩ => by
    have h1 := Spn.trans (fun x hx => h x (by simp [hx])) hu
    have h2 := Spn.smul c (h e (by simp))
    exact Spn.congr (fun j => by
      have : u j - c * e j + c * e j - u j = 0 := by omega
      rw [this]; exact Int.dvd_zero p) (Spn.add h1 h2)

/-- The first place where a vector is not 0. -/
def Led (p : Int) (u : Fv) (m : Nat) : Prop := ¬ p ∣ u m ∧ ∀ j, j < m → p ∣ u j

theorem Led.uniq {p : Int} {u : Fv} {m n : Nat} (h : Led p u m) (k : Led p u n) : m = n := by
  rcases Nat.lt_trichotomy m n with h1 | h1 | h1
  · exact absurd (k.2 m h1) h.1
  · exact h1
  · exact absurd (h.2 n h1) k.1

theorem Led.congr {p : Int} {u v : Fv} {m : Nat} (h : Cong p u v) (k : Led p u m) : Led p v m := by
  have key : ∀ j, p ∣ u j ↔ p ∣ v j := fun j => by
    constructor
    · intro hu
      have := Int.dvd_sub hu (h j)
      rwa [show u j - (u j - v j) = v j by omega] at this
    · intro hv
      have := Int.dvd_add (h j) hv
      rwa [show u j - v j + v j = u j by omega] at this
  exact ⟨fun hd => k.1 ((key m).2 hd), fun j hj => (key j).1 (k.2 j hj)⟩

/-- A prime, as it is used. -/
def Prm (p : Int) : Prop := ∀ a b : Int, p ∣ a * b → p ∣ a ∨ p ∣ b

/-- Leads that all differ. -/
structure Ech (p : Int) (E : List (Fv × Nat)) : Prop where
  led : ∀ x ∈ E, Led p x.1 x.2
  nodup : (E.map (·.2)).Nodup

theorem Ech.spn {p : Int} (hp : Prm p) : ∀ {E : List (Fv × Nat)} {u : Fv}, Ech p E → Spn p (E.map (·.1)) u → (∀ j, p ∣ u j) ∨ ∃ m ∈ E.map (·.2), Led p u m
  | [], u, _, hu => .inl hu
  | (e, m) :: E, u, hE, ⟨c, hu⟩ => by
    have hE' : Ech p E := ⟨fun x hx => hE.led x (by simp [hx]), (List.nodup_cons.1 hE.nodup).2⟩
    have hm : m ∉ E.map (·.2) := (List.nodup_cons.1 hE.nodup).1
    have hl : Led p e m := hE.led (e, m) (by simp)
    have ih := Ech.spn hp hE' hu
    by_cases hc : p ∣ c
    · -- nothing of e
      have hcong : Cong p (fun j => u j - c * e j) u := fun j => by
        have : u j - c * e j - u j = -(c * e j) := by omega
        rw [this]
        exact Int.dvd_neg.2 (Int.dvd_trans hc (Int.dvd_mul_right _ _))
      rcases ih with h | ⟨k, hk, hl'⟩
      · refine .inl fun j => ?_
        have := Int.dvd_sub (h j) (hcong j)
        rwa [show u j - c * e j - (u j - c * e j - u j) = u j by omega] at this
      · exact .inr ⟨k, by simp [hk], hl'.congr hcong⟩
    · have hce : ∀ j, p ∣ c * e j ↔ p ∣ e j := fun j => ⟨fun h => (hp _ _ h).resolve_left hc, fun h => Int.dvd_trans h (Int.dvd_mul_left _ _)⟩
      have split : ∀ j, u j = (u j - c * e j) + c * e j := fun j => by omega
      rcases ih with h | ⟨k, hk, hl'⟩
      · refine .inr ⟨m, by simp, fun hd => ?_, fun j hj => ?_⟩
        · have := Int.dvd_sub hd (h m)
          rw [show u m - (u m - c * e m) = c * e m by omega] at this
          exact hl.1 ((hce m).1 this)
        · rw [split j]
          exact Int.dvd_add (h j) ((hce j).2 (hl.2 j hj))
      · have hne : k ≠ m := fun h => hm (h ▸ hk)
        rcases Nat.lt_or_ge m k with hlt | hge
        · refine .inr ⟨m, by simp, fun hd => ?_, fun j hj => ?_⟩
          · have := Int.dvd_sub hd (hl'.2 m hlt)
            rw [show u m - (u m - c * e m) = c * e m by omega] at this
            exact hl.1 ((hce m).1 this)
          · rw [split j]
            exact Int.dvd_add (hl'.2 j (by omega)) ((hce j).2 (hl.2 j hj))
        · have hlt : k < m := by omega
          refine .inr ⟨k, by simp [hk], fun hd => ?_, fun j hj => ?_⟩
          · have h2 := (hce k).2 (hl.2 k hlt)
            have := Int.dvd_sub hd h2
            exact hl'.1 this
          · rw [split j]
            exact Int.dvd_add (hl'.2 j hj) ((hce j).2 (hl.2 j (by omega)))

theorem nodup_le : ∀ {l m : List Nat}, l.Nodup → (∀ x ∈ l, x ∈ m) → l.length ≤ m.length
  | [], m, _, _ => Nat.zero_le _
  | x :: l, m, h, hs => by
    have hx : x ∈ m := hs x (by simp)
    obtain ⟨h1, h2⟩ := List.nodup_cons.1 h
    have := nodup_le (m := m.erase x) h2 fun y hy => by
      have hne : y ≠ x := fun e => h1 (e ▸ hy)
      exact (List.mem_erase_of_ne hne).2 (hs y (by simp [hy]))
    rw [List.length_erase_of_mem hx] at this
    have hpos : 0 < m.length := List.length_pos_of_mem hx
    simp only [List.length_cons]
    omega

/-- Who is made of others has no more leads than these. -/
theorem Ech.le {p : Int} (hp : Prm p) {E F : List (Fv × Nat)} (hE : Ech p E) (hF : Ech p F) (h : ∀ x ∈ E, Spn p (F.map (·.1)) x.1) : E.length ≤ F.length := by
  have := nodup_le (l := E.map (·.2)) (m := F.map (·.2)) hE.nodup fun k hk => by
    obtain ⟨x, hx, rfl⟩ := List.mem_map.1 hk
    rcases hF.spn hp (h x hx) with h0 | ⟨m, hm, hl⟩
    · exact absurd (h0 x.2) (hE.led x hx).1
    · rw [(hE.led x hx).uniq hl]; exact hm
  simpa using this

/-! ### Rows of numbers -/

def vec (l : List Int) : Fv := fun j => l.getD j 0

theorem vec_lt {l : List Int} {j : Nat} (h : j < l.length) : vec l j = l[j] := by simp [vec, h]
theorem vec_ge {l : List Int} {j : Nat} (h : l.length ≤ j) : vec l j = 0 := by simp [vec, h]

def RowOk (p : Int) (n : Nat) (l : List Int) : Prop := l.length = n ∧ ∀ x ∈ l, 0 ≤ x ∧ x < p

theorem RowOk.vec {p : Int} (hp : 0 < p) {n : Nat} {l : List Int} (h : RowOk p n l) (j : Nat) : 0 ≤ vec l j ∧ vec l j < p := by
  by_cases hj : j < l.length
  · rw [vec_lt hj]; exact h.2 _ (List.getElem_mem hj)
  · rw [vec_ge (by omega)]; omega

theorem dvd_small {p x : Int} (h : p ∣ x) (h0 : 0 ≤ x) (h1 : x < p) : x = 0 := by
  have h2 := Int.emod_eq_zero_of_dvd h
  rwa [Int.emod_eq_of_lt h0 h1] at h2

/-- A row less so many times another one. -/
def lessBy (p b : Int) (row k : List Int) : List Int := List.zipWith (fun x y => (x + (p - b) * y) % p) row k

def redBy (p b : Int) (row k : List Int) : List Int := if b = 0 then row else lessBy p b row k

theorem lessBy_ok {p : Int} (hp : 0 < p) {n : Nat} {b : Int} {row k : List Int} (h1 : RowOk p n row) (h2 : RowOk p n k) : RowOk p n (lessBy p b row k) := by
  refine ⟨by simp [lessBy, h1.1, h2.1], fun x hx => ?_⟩
  obtain ⟨i, hi, rfl⟩ := List.mem_iff_getElem.1 hx
  simp only [lessBy, List.getElem_zipWith]
  exact ⟨Int.emod_nonneg _ (by omega), Int.emod_lt_of_pos _ hp⟩

theorem lessBy_cong {p b : Int} {n : Nat} {row k : List Int} (h1 : row.length = n) (h2 : k.length = n) : Cong p (vec (lessBy p b row k)) fun j => vec row j - b * vec k j := by
  intro j
  show p ∣ vec (lessBy p b row k) j - (vec row j - b * vec k j)
  have hl : (lessBy p b row k).length = n := by simp [lessBy, h1, h2]
  by_cases hj : j < n
  · rw [vec_lt (by omega), vec_lt (by omega), vec_lt (by omega)]
    simp only [lessBy, List.getElem_zipWith]
    have hd : p ∣ (row[j] + (p - b) * k[j]) % p - (row[j] + (p - b) * k[j]) := by
      rw [Int.emod_def]
      exact ⟨-((row[j] + (p - b) * k[j]) / p), by rw [Int.mul_neg]; omega⟩
    have : (row[j] + (p - b) * k[j]) % p - (row[j] - b * k[j]) = ((row[j] + (p - b) * k[j]) % p - (row[j] + (p - b) * k[j])) + p * k[j] := by
      have : (p - b) * k[j] = p * k[j] - b * k[j] := Int.sub_mul ..
      omega
    rw [this]
    exact Int.dvd_add hd (Int.dvd_mul_right _ _)
  · rw [vec_ge (by omega), vec_ge (by omega), vec_ge (by omega)]
    simp

theorem redBy_ok {p : Int} (hp : 0 < p) {n : Nat} {b : Int} {row k : List Int} (h1 : RowOk p n row) (h2 : RowOk p n k) : RowOk p n (redBy p b row k) := by
  unfold redBy
  split
  · exact h1
  · exact lessBy_ok hp h1 h2

theorem redBy_cong {p b : Int} {n : Nat} {row k : List Int} (h1 : row.length = n) (h2 : k.length = n) : Cong p (vec (redBy p b row k)) fun j => vec row j - b * vec k j := by
  unfold redBy
  split
  · rename_i hb
    subst hb
    intro j
    simp
  · exact lessBy_cong h1 h2

/-! ### The document's way -/

abbrev Kp := List (List Int × Nat)

def redAll (p : Int) (row : List Int) (kept : Kp) : List Int := kept.foldl (fun r k => redBy p (vec r k.2) r k.1) row

def firstAt (l : List Int) : Nat := (l.findIdx? (· != 0)).getD l.length

def normed (p t : Int) (l : List Int) : List Int := l.map fun x => x * t % p

def rankStep (inv : Int → Int) (p : Int) (kept : Kp) (row : List Int) : Kp :=
  let r := redAll p row kept
  if firstAt r = r.length then kept else kept ++ [(normed p (inv (vec r (firstAt r))) r, firstAt r)]

def rankKept (inv : Int → Int) (p : Int) (rows : List (List Int)) : Kp := rows.foldl (rankStep inv p) []

def rankT (inv : Int → Int) (p : Int) (rows : List (List Int)) : Nat := (rankKept inv p rows).length

theorem firstAt_le (l : List Int) : firstAt l ≤ l.length := by
  unfold firstAt
  cases h : l.findIdx? (· != 0) with
  | none => simp
  | some i =>
    rw [List.findIdx?_eq_some_iff_getElem] at h
    obtain ⟨h1, _⟩ := h
    simp; omega

theorem firstAt_zero {l : List Int} {j : Nat} (h : j < firstAt l) : vec l j = 0 := by
  have hle := firstAt_le l
  unfold firstAt at h
  have hj : j < l.length := by unfold firstAt at hle; omega
  rw [vec_lt hj]
  cases hf : l.findIdx? (· != 0) with
  | none =>
    rw [List.findIdx?_eq_none_iff] at hf
    have := hf _ (List.getElem_mem hj)
    simpa using this
  | some i =>
    rw [hf] at h
    rw [List.findIdx?_eq_some_iff_getElem] at hf
    obtain ⟨_, _, h3⟩ := hf
    have := h3 j (by simpa using h)
    simpa using this

theorem firstAt_ne {l : List Int} (h : firstAt l ≠ l.length) : vec l (firstAt l) ≠ 0 ∧ firstAt l < l.length := by
  have hle := firstAt_le l
  have hlt : firstAt l < l.length := by omega
  refine ⟨?_, hlt⟩
  cases hf : l.findIdx? (· != 0) with
  | none => unfold firstAt at h; rw [hf] at h; simp at h
  | some i =>
    have hi : firstAt l = i := by unfold firstAt; rw [hf]; rfl
    rw [List.findIdx?_eq_some_iff_getElem] at hf
    obtain ⟨h1, h2, _⟩ := hf
    rw [hi, vec_lt h1]
    simpa using h2

/-- What is kept. -/
structure KpOk (p : Int) (n : Nat) (kept : Kp) : Prop where
  rows : ∀ x ∈ kept, RowOk p n x.1 ∧ x.2 < n
  led : ∀ x ∈ kept, Led p (vec x.1) x.2 ∧ vec x.1 x.2 = 1
  apart : kept.Pairwise fun x y => vec y.1 x.2 = 0

theorem KpOk.ech {p : Int} {n : Nat} {kept : Kp} (h : KpOk p n kept) : Ech p (kept.map fun x => (vec x.1, x.2)) := by
  refine ⟨fun x hx => ?_, ?_⟩
  · obtain ⟨y, hy, rfl⟩ := List.mem_map.1 hx
    exact (h.led y hy).1
  · rw [List.map_map]
    have : ((fun x : Fv × Nat => x.2) ∘ fun x : List Int × Nat => (vec x.1, x.2)) = fun x => x.2 := rfl
    rw [this]
    unfold List.Nodup
    rw [List.pairwise_map]
    have h2 : kept.Pairwise fun x y => x ∈ kept ∧ y ∈ kept := by
      rw [List.pairwise_iff_getElem]
      intro i j hi hj _
      exact ⟨List.getElem_mem hi, List.getElem_mem hj⟩
    refine (h.apart.and h2).imp fun {x y} ⟨h1, hx, hy⟩ he => ?_
    have hl := (h.led y hy).1.1
    rw [← he, h1] at hl
    exact hl (Int.dvd_zero p)

theorem redAll_ok {p : Int} (hp : 0 < p) {n : Nat} : ∀ {kept : Kp} {row : List Int}, (∀ x ∈ kept, RowOk p n x.1 ∧ x.2 < n) → RowOk p n row → RowOk p n (redAll p row kept)
  | [], row, _, h => h
  | k :: kept, row, hk, h => redAll_ok hp (kept := kept) (fun x hx => hk x (by simp [hx])) (redBy_ok hp h (hk k (by simp)).1)

theorem redAll_cong {p : Int} (hp : 0 < p) {n : Nat} : ∀ {kept : Kp} {row : List Int}, (∀ x ∈ kept, RowOk p n x.1 ∧ x.2 < n) → RowOk p n row → Spn p (kept.map fun x => vec x.1) fun j => vec row j - vec (redAll p row kept) j
  | [], row, _, h => fun j => by
    show p ∣ vec row j - vec row j
    rw [Int.sub_self]; exact Int.dvd_zero p
  | k :: kept, row, hk, h => by
    have hk1 := (hk k (by simp)).1
    have ih := redAll_cong hp (kept := kept) (fun x hx => hk x (by simp [hx])) (redBy_ok hp (b := vec row k.2) h hk1)
    have hc := redBy_cong (p := p) (b := vec row k.2) h.1 hk1.1
    refine ⟨vec row k.2, Spn.congr (fun j => ?_) ih⟩
    have := hc j
    show p ∣ vec (redBy p (vec row k.2) row k.1) j - vec (redAll p (redBy p (vec row k.2) row k.1) kept) j - (vec row j - vec (redAll p (redBy p (vec row k.2) row k.1) kept) j - vec row k.2 * vec k.1 j)
    have e : vec (redBy p (vec row k.2) row k.1) j - vec (redAll p (redBy p (vec row k.2) row k.1) kept) j - (vec row j - vec (redAll p (redBy p (vec row k.2) row k.1) kept) j - vec row k.2 * vec k.1 j) = vec (redBy p (vec row k.2) row k.1) j - (vec row j - vec row k.2 * vec k.1 j) := by omega
    rw [e]
    exact this

/-- A place that was cleared stays so. -/
theorem redAll_keep {p : Int} (hp : 0 < p) {n : Nat} {m : Nat} : ∀ {kept : Kp} {row : List Int}, (∀ x ∈ kept, RowOk p n x.1 ∧ x.2 < n) → RowOk p n row → (∀ x ∈ kept, vec x.1 m = 0) → vec row m = 0 → vec (redAll p row kept) m = 0
  | [], row, _, _, _, h => h
  | k :: kept, row, hk, hr, hz, h => by
    have hk1 := (hk k (by simp)).1
    have hok := redBy_ok hp (b := vec row k.2) hr hk1
    refine redAll_keep hp (kept := kept) (fun x hx => hk x (by simp [hx])) hok (fun x hx => hz x (by simp [hx])) ?_
    have hc := redBy_cong (p := p) (b := vec row k.2) hr.1 hk1.1 m
    dsimp only at hc
    rw [h, hz k (by simp)] at hc
    have := hok.vec hp m
    show vec (redBy p (vec row k.2) row k.1) m = 0
    exact dvd_small (by simpa using hc) this.1 this.2

theorem redAll_clear {p : Int} (hp : 0 < p) {n : Nat} : ∀ {kept : Kp} {row : List Int}, KpOk p n kept → RowOk p n row → ∀ x ∈ kept, vec (redAll p row kept) x.2 = 0
  | [], row, _, _, x, hx => by cases hx
  | k :: kept, row, hk, hr, x, hx => by
    have hk1 := (hk.rows k (by simp)).1
    have hok := redBy_ok hp (b := vec row k.2) hr hk1
    have hk' : KpOk p n kept := ⟨fun x hx => hk.rows x (by simp [hx]), fun x hx => hk.led x (by simp [hx]), (List.pairwise_cons.1 hk.apart).2⟩
    rcases List.mem_cons.1 hx with rfl | hx
    · refine redAll_keep hp (kept := kept) (fun y hy => hk'.rows y hy) hok (fun y hy => (List.pairwise_cons.1 hk.apart).1 y hy) ?_
      have hc := redBy_cong (p := p) (b := vec row x.2) hr.1 hk1.1 x.2
      dsimp only at hc
      rw [(hk.led x (by simp)).2, Int.mul_one, Int.sub_self, Int.sub_zero] at hc
      have := hok.vec hp x.2
      exact dvd_small hc this.1 this.2
    · exact redAll_clear hp (kept := kept) hk' hok x hx

/-- A turn that turns. -/
def InvOk (inv : Int → Int) (p : Int) : Prop := ∀ a, 0 < a → a < p → a * inv a % p = 1

theorem Prm.of {inv : Int → Int} {p : Int} (hp : 1 < p) (h : InvOk inv p) : Prm p := by
  intro a b hd
  by_cases ha : p ∣ a
  · exact .inl ha
  · right
    have h0 := Int.emod_nonneg a (show p ≠ 0 by omega)
    have h1 := Int.emod_lt_of_pos a (show 0 < p by omega)
    have hne : a % p ≠ 0 := fun e => ha (Int.dvd_of_emod_eq_zero e)
    have hi := h (a % p) (by omega) h1
    -- b is a * inv * b
    have e1 : p ∣ a % p * inv (a % p) - 1 := by
      rw [Int.emod_def] at hi
      exact ⟨a % p * inv (a % p) / p, by omega⟩
    have e2 : p ∣ a % p - a := by
      rw [Int.emod_def]
      exact ⟨-(a / p), by rw [Int.mul_neg]; omega⟩
    have e3 : p ∣ (a % p * inv (a % p) - 1) * b := Int.dvd_trans e1 (Int.dvd_mul_right _ _)
    have e4 : p ∣ (a % p - a) * (inv (a % p) * b) := Int.dvd_trans e2 (Int.dvd_mul_right _ _)
    have e5 : p ∣ a * b * inv (a % p) := Int.dvd_trans hd (Int.dvd_mul_right _ _)
    have e6 : (a % p - a) * (inv (a % p) * b) + a * b * inv (a % p) = a % p * inv (a % p) * b := by
      rw [Int.sub_mul, ← Int.mul_assoc, ← Int.mul_assoc, Int.mul_right_comm a b]
      omega
    have e7 : p ∣ a % p * inv (a % p) * b := e6 ▸ Int.dvd_add e4 e5
    have := Int.dvd_sub e7 e3
    rw [Int.sub_mul, Int.one_mul] at this
    rwa [show a % p * inv (a % p) * b - (a % p * inv (a % p) * b - b) = b by omega] at this

theorem normed_ok {p t : Int} (hp : 0 < p) {n : Nat} {l : List Int} (h : l.length = n) : RowOk p n (normed p t l) := by
  refine ⟨by simp [normed, h], fun x hx => ?_⟩
  obtain ⟨y, _, rfl⟩ := List.mem_map.1 hx
  exact ⟨Int.emod_nonneg _ (by omega), Int.emod_lt_of_pos _ hp⟩

theorem normed_vec {p t : Int} (l : List Int) (j : Nat) : vec (normed p t l) j = vec l j * t % p := by
  by_cases hj : j < l.length
  · rw [vec_lt hj, vec_lt (by simp [normed, hj])]
    simp [normed]
  · rw [vec_ge (show (normed p t l).length ≤ j by simp [normed]; omega), vec_ge (show l.length ≤ j by omega)]
    simp

theorem normed_cong {p t : Int} (l : List Int) : Cong p (vec (normed p t l)) fun j => t * vec l j := by
  intro j
  show p ∣ vec (normed p t l) j - t * vec l j
  rw [normed_vec, Int.emod_def, Int.mul_comm t]
  exact ⟨-(vec l j * t / p), by rw [Int.mul_neg]; omega⟩

/-- One row more. -/
theorem rankStep_ok {inv : Int → Int} {p : Int} (hp : 1 < p) (hinv : InvOk inv p) {n : Nat} {kept : Kp} {row : List Int} (hk : KpOk p n kept) (hr : RowOk p n row) :
    KpOk p n (rankStep inv p kept row) ∧ (rankStep inv p kept row).length ≤ kept.length + 1 ∧ Spn p ((rankStep inv p kept row).map fun x => vec x.1) (vec row) ∧
      (∀ u, Spn p (kept.map fun x => vec x.1) u → Spn p ((rankStep inv p kept row).map fun x => vec x.1) u) ∧
      (∀ (S : List Fv), (∀ x ∈ kept, Spn p S (vec x.1)) → Spn p S (vec row) → ∀ x ∈ rankStep inv p kept row, Spn p S (vec x.1)) := by
  have hok := redAll_ok (p := p) (by omega) (kept := kept) hk.rows hr
  have hcong := redAll_cong (p := p) (by omega) (kept := kept) hk.rows hr
  have hclear := redAll_clear (p := p) (by omega) hk hr
  unfold rankStep
  dsimp only
  by_cases hf : firstAt (redAll p row kept) = (redAll p row kept).length
  · rw [if_pos hf]
    refine ⟨hk, by omega, Spn.congr (fun j => ?_) hcong, fun u hu => hu, fun S h1 h2 => h1⟩
    have hz : vec (redAll p row kept) j = 0 := by
      by_cases hj : j < (redAll p row kept).length
      · exact firstAt_zero (by omega)
      · exact vec_ge (by omega)
    show p ∣ vec row j - vec (redAll p row kept) j - vec row j
    rw [hz, Int.sub_zero, Int.sub_self]
    exact Int.dvd_zero p
  · rw [if_neg hf]
    obtain ⟨hne, hlt⟩ := firstAt_ne hf
    have hv := hok.vec (by omega) (firstAt (redAll p row kept))
    have hi := hinv _ (show 0 < vec (redAll p row kept) (firstAt (redAll p row kept)) by omega) hv.2
    have hone : vec (normed p (inv (vec (redAll p row kept) (firstAt (redAll p row kept)))) (redAll p row kept)) (firstAt (redAll p row kept)) = 1 := by rw [normed_vec]; exact hi
    generalize hR : redAll p row kept = R at *
    generalize hF : firstAt R = f at *
    generalize hT : inv (vec R f) = t at *
    have hled : Led p (vec (normed p t R)) f := by
      refine ⟨fun hd => ?_, fun j hj => ?_⟩
      · rw [hone] at hd
        have := dvd_small hd (by omega) hp
        omega
      · rw [normed_vec, firstAt_zero (by omega)]
        simp
    refine ⟨⟨fun x hx => ?_, fun x hx => ?_, ?_⟩, by simp, ?_, fun u hu => ?_, fun S h1 h2 x hx => ?_⟩
    · rcases List.mem_append.1 hx with hx | hx
      · exact hk.rows x hx
      · simp at hx; subst hx
        exact ⟨normed_ok (by omega) hok.1, by rw [← hok.1]; exact hlt⟩
    · rcases List.mem_append.1 hx with hx | hx
      · exact hk.led x hx
      · simp at hx; subst hx
        exact ⟨hled, hone⟩
    · rw [List.pairwise_append]
      refine ⟨hk.apart, by simp, fun x hx y hy => ?_⟩
      simp at hy; subst hy
      dsimp only
      rw [normed_vec, hclear x hx]
      simp
    · -- the row is made
      rw [List.map_append]
      have h1 : Spn p (kept.map (fun x => vec x.1) ++ [(normed p t R, f)].map fun x => vec x.1) fun j => vec row j - vec R j := Spn.trans (fun e he => Spn.mem (List.mem_append_left _ he)) hcong
      have h2 : Spn p (kept.map (fun x => vec x.1) ++ [(normed p t R, f)].map fun x => vec x.1) (vec (normed p t R)) := Spn.mem (by simp)
      have h3 := Spn.smul (vec R f) h2
      refine Spn.congr (fun j => ?_) (Spn.add h1 h3)
      show p ∣ vec row j - vec R j + vec R f * vec (normed p t R) j - vec row j
      have e1 := normed_cong (p := p) (t := t) R j
      have e2 : p ∣ vec R f * t - 1 := by
        rw [Int.emod_def] at hi
        exact ⟨vec R f * t / p, by omega⟩
      have e3 : p ∣ vec R f * (vec (normed p t R) j - t * vec R j) := Int.dvd_trans e1 (Int.dvd_mul_left _ _)
      have e4 : p ∣ (vec R f * t - 1) * vec R j := Int.dvd_trans e2 (Int.dvd_mul_right _ _)
      have e5 := Int.dvd_add e3 e4
      have e6 : vec R f * (vec (normed p t R) j - t * vec R j) + (vec R f * t - 1) * vec R j = vec row j - vec R j + vec R f * vec (normed p t R) j - vec row j := by
        rw [Int.mul_sub, Int.sub_mul, Int.one_mul, Int.mul_assoc]
        omega
      rwa [e6] at e5
    · rw [List.map_append]
      exact Spn.trans (fun e he => Spn.mem (List.mem_append_left _ he)) hu
    · rcases List.mem_append.1 hx with hx | hx
      · exact h1 x hx
      · simp at hx; subst hx
        have h3 : Spn p S fun j => vec row j - vec R j := Spn.trans (fun e he => by
          obtain ⟨y, hy, rfl⟩ := List.mem_map.1 he
          exact h1 y hy) hcong
        have h4 : Spn p S (vec R) := Spn.congr (fun j => by
          show p ∣ vec row j + -1 * (vec row j - vec R j) - vec R j
          rw [show vec row j + -1 * (vec row j - vec R j) - vec R j = 0 by omega]
          exact Int.dvd_zero p) (Spn.add h2 (Spn.smul (-1) h3))
        exact Spn.congr (normed_cong R).symm (Spn.smul t h4)

theorem rankKept_ok {inv : Int → Int} {p : Int} (hp : 1 < p) (hinv : InvOk inv p) {n : Nat} : ∀ (rows : List (List Int)) (kept : Kp), KpOk p n kept → (∀ r ∈ rows, RowOk p n r) →
    KpOk p n (rows.foldl (rankStep inv p) kept) ∧ (rows.foldl (rankStep inv p) kept).length ≤ kept.length + rows.length ∧ (∀ r ∈ rows, Spn p ((rows.foldl (rankStep inv p) kept).map fun x => vec x.1) (vec r)) ∧
      (∀ u, Spn p (kept.map fun x => vec x.1) u → Spn p ((rows.foldl (rankStep inv p) kept).map fun x => vec x.1) u) ∧
      (∀ (S : List Fv), (∀ x ∈ kept, Spn p S (vec x.1)) → (∀ r ∈ rows, Spn p S (vec r)) → ∀ x ∈ rows.foldl (rankStep inv p) kept, Spn p S (vec x.1))
  | [], kept, hk, _ => ⟨hk, by simp, fun r h => (by cases h), fun u h => h, fun S h _ => h⟩
  | row :: rows, kept, hk, hr => by
    obtain ⟨a1, a2, a3, a4, a5⟩ := rankStep_ok hp hinv hk (hr row (by simp))
    obtain ⟨b1, b2, b3, b4, b5⟩ := rankKept_ok hp hinv rows _ a1 fun r h => hr r (by simp [h])
    refine ⟨b1, by simp only [List.length_cons, List.foldl_cons]; omega, fun r hr' => ?_, fun u hu => b4 u (a4 u hu), fun S h1 h2 => b5 S (a5 S h1 (h2 row (by simp))) fun r h => h2 r (by simp [h])⟩
    rcases List.mem_cons.1 hr' with rfl | hr'
    · exact b4 _ a3
    · exact b3 r hr'

/-- What the document's rank is. -/
theorem rankT_spec {inv : Int → Int} {p : Int} (hp : 1 < p) (hinv : InvOk inv p) {n : Nat} {rows : List (List Int)} (hr : ∀ r ∈ rows, RowOk p n r) :
    ∃ E : List (Fv × Nat), Ech p E ∧ E.length = rankT inv p rows ∧ (∀ r ∈ rows, Spn p (E.map (·.1)) (vec r)) ∧ (∀ x ∈ E, Spn p (rows.map vec) x.1) ∧ rankT inv p rows ≤ rows.length := by
  obtain ⟨h1, h2, h3, _, h5⟩ := rankKept_ok hp hinv rows [] ⟨fun x h => (by cases h), fun x h => (by cases h), by simp⟩ hr
  refine ⟨(rankKept inv p rows).map fun x => (vec x.1, x.2), h1.ech, by simp [rankT], fun r h => ?_, fun x hx => ?_, by simpa [rankT, rankKept] using h2⟩
  · rw [List.map_map]
    exact h3 r h
  · obtain ⟨y, hy, rfl⟩ := List.mem_map.1 hx
    exact h5 (rows.map vec) (fun x h => (by cases h)) (fun r h => Spn.mem (List.mem_map_of_mem h)) y hy

/-- Who has leads that all differ, and makes the same, is as long. -/
theorem rank_uniq {inv : Int → Int} {p : Int} (hp : 1 < p) (hinv : InvOk inv p) {n : Nat} {rows : List (List Int)} (hr : ∀ r ∈ rows, RowOk p n r) {E : List (Fv × Nat)} (hE : Ech p E) (h1 : ∀ r ∈ rows, Spn p (E.map (·.1)) (vec r)) (h2 : ∀ x ∈ E, Spn p (rows.map vec) x.1) :
    E.length = rankT inv p rows := by
  obtain ⟨F, f1, f2, f3, f4, _⟩ := rankT_spec hp hinv hr
  have hpr := Prm.of hp hinv
  have a := Ech.le hpr hE f1 fun x hx => Spn.trans (fun e he => by
    obtain ⟨r, hr', rfl⟩ := List.mem_map.1 he
    exact f3 r hr') (h2 x hx)
  have b := Ech.le hpr f1 hE fun x hx => Spn.trans (fun e he => by
    obtain ⟨r, hr', rfl⟩ := List.mem_map.1 he
    exact h1 r hr') (f4 x hx)
  omega

theorem sub_mid (a b c : Int) : a - b + (b - c) = a - c := by omega

/-! ### Columns -/

/-- How something is made, as numbers. -/
def sumC : List Fv → List Int → Fv
  | e :: E, c :: cs => fun j => c * e j + sumC E cs j
  | _, _ => fun _ => 0

theorem Spn.coeffs {p : Int} : ∀ {E : List Fv} {u : Fv}, Spn p E u → ∃ cs : List Int, cs.length = E.length ∧ Cong p u (sumC E cs)
  | [], u, h => ⟨[], rfl, fun j => by show p ∣ u j - 0; rw [Int.sub_zero]; exact h j⟩
  | e :: E, u, ⟨c, h⟩ => by
    obtain ⟨cs, h1, h2⟩ := Spn.coeffs h
    refine ⟨c :: cs, by simp [h1], fun j => ?_⟩
    have := h2 j
    show p ∣ u j - (c * e j + sumC E cs j)
    rwa [show u j - (c * e j + sumC E cs j) = u j - c * e j - sumC E cs j by omega]

theorem sumC_get : ∀ (E : List Fv) (cs : List Int) (j : Nat), cs.length = E.length → sumC E cs j = ((List.range E.length).map fun k => cs.getD k 0 * (E.getD k fun _ => 0) j).sum
  | [], [], j, _ => rfl
  | e :: E, c :: cs, j, h => by
    have ih := sumC_get E cs j (by simpa using h)
    simp only [sumC, ih, List.length_cons, List.range_succ_eq_map, List.map_cons, List.sum_cons, List.map_map]
    rfl
  | [], c :: cs, j, h => by simp at h
  | e :: E, [], j, h => by simp at h

theorem spn_range {p : Int} : ∀ (E : List Fv) (c : Nat → Int) (u : Fv), (∀ j, p ∣ u j - ((List.range E.length).map fun k => c k * (E.getD k fun _ => 0) j).sum) → Spn p E u
  | [], c, u, h => fun j => by have := h j; simpa using this
  | e :: E, c, u, h => ⟨c 0, spn_range E (fun k => c (k + 1)) _ fun j => by
      have := h j
      simp only [List.length_cons, List.range_succ_eq_map, List.map_cons, List.sum_cons, List.map_map] at this
      rw [show u j - c 0 * e j - ((List.range E.length).map fun k => c (k + 1) * (E.getD k fun _ => 0) j).sum = u j - (c 0 * e j + ((List.range E.length).map fun k => c (k + 1) * (E.getD k fun _ => 0) j).sum) by omega]
      exact this⟩

/-- Rows, turned. -/
def turned (n : Nat) (rows : List (List Int)) : List (List Int) := (List.range n).map fun j => rows.map fun r => r.getD j 0

theorem turned_ok {p : Int} {n : Nat} {rows : List (List Int)} (hp : 0 < p) (hr : ∀ r ∈ rows, RowOk p n r) : ∀ t ∈ turned n rows, RowOk p rows.length t := by
  intro t ht
  obtain ⟨j, hj, rfl⟩ := List.mem_map.1 ht
  refine ⟨by simp, fun x hx => ?_⟩
  obtain ⟨r, hr', rfl⟩ := List.mem_map.1 hx
  exact (hr r hr').vec hp j

theorem turned_le {inv : Int → Int} {p : Int} (hp : 1 < p) (hinv : InvOk inv p) {n : Nat} {rows : List (List Int)} (hr : ∀ r ∈ rows, RowOk p n r) : rankT inv p (turned n rows) ≤ rankT inv p rows := by
  obtain ⟨E, e1, e2, e3, e4, _⟩ := rankT_spec hp hinv hr
  obtain ⟨F, f1, f2, f3, f4, _⟩ := rankT_spec hp hinv (turned_ok (by omega) hr)
  have hpr := Prm.of hp hinv
  -- how each row is made
  have hco : ∀ r ∈ rows, ∃ cs : List Int, cs.length = E.length ∧ Cong p (vec r) (sumC (E.map (·.1)) cs) := fun r h => by
    obtain ⟨cs, h1, h2⟩ := Spn.coeffs (e3 r h)
    exact ⟨cs, by simpa using h1, h2⟩
  have hall : ∃ C : List (List Int), C.length = rows.length ∧ ∀ (i : Nat) (h1 : i < rows.length) (h2 : i < C.length), C[i].length = E.length ∧ Cong p (vec rows[i]) (sumC (E.map (·.1)) C[i]) := by
    have hgen : ∀ rs : List (List Int), (∀ r ∈ rs, ∃ cs : List Int, cs.length = E.length ∧ Cong p (vec r) (sumC (E.map (·.1)) cs)) → ∃ C : List (List Int), C.length = rs.length ∧ ∀ (i : Nat) (h1 : i < rs.length) (h2 : i < C.length), C[i].length = E.length ∧ Cong p (vec rs[i]) (sumC (E.map (·.1)) C[i]) := by
      intro rs
      induction rs with
      | nil => intro _; exact ⟨[], rfl, fun i h => absurd h (Nat.not_lt_zero _)⟩
      | cons r rs ih =>
        intro hco
        obtain ⟨C, h1, h2⟩ := ih (fun r h => hco r (by simp [h]))
        obtain ⟨cs, g1, g2⟩ := hco r (by simp)
        refine ⟨cs :: C, by simp [h1], fun i hi hi2 => ?_⟩
        cases i with
        | zero => exact ⟨g1, g2⟩
        | succ i => exact h2 i (by simpa using hi) (by simpa using hi2)
    exact hgen rows hco
  obtain ⟨C, c1, c2⟩ := hall
  -- the columns of these
  let G : List (List Int) := (List.range E.length).map fun k => C.map fun cs => cs.getD k 0 % p
  have hG : ∀ g ∈ G, RowOk p rows.length g := fun g hg => by
    obtain ⟨k, _, rfl⟩ := List.mem_map.1 hg
    refine ⟨by simp [c1], fun x hx => ?_⟩
    obtain ⟨cs, _, rfl⟩ := List.mem_map.1 hx
    exact ⟨Int.emod_nonneg _ (by omega), Int.emod_lt_of_pos _ (by omega)⟩
  obtain ⟨K, k1, k2, k3, k4, k5⟩ := rankT_spec hp hinv hG
  have hGl : G.length = E.length := by simp [G]
  have hmade : ∀ t ∈ turned n rows, Spn p (G.map vec) (vec t) := fun t ht => by
    obtain ⟨j, hj, rfl⟩ := List.mem_map.1 ht
    refine spn_range (G.map vec) (fun k => ((E.map (·.1)).getD k fun _ => 0) j) _ fun i => ?_
    by_cases hi : i < rows.length
    · have h1 := (c2 i hi (by omega)).2 j
      have h2 := (c2 i hi (by omega)).1
      rw [sumC_get _ _ _ (by simpa using h2)] at h1
      have e5 : vec (rows.map fun r => r.getD j 0) i = vec rows[i] j := by
        rw [vec_lt (by simpa using hi)]; simp [vec]
      rw [e5]
      simp only [List.length_map] at h1 ⊢
      rw [hGl]
      have key : ∀ (l : List Nat) (f g : Nat → Int), (∀ k ∈ l, p ∣ f k - g k) → p ∣ (l.map f).sum - (l.map g).sum := by
        intro l f g
        induction l with
        | nil => intro _; exact Int.dvd_zero p
        | cons x l ih =>
          intro h
          simp only [List.map_cons, List.sum_cons]
          rw [show f x + (l.map f).sum - (g x + (l.map g).sum) = (f x - g x) + ((l.map f).sum - (l.map g).sum) by omega]
          exact Int.dvd_add (h x (by simp)) (ih fun k hk => h k (by simp [hk]))
      have hs := key (List.range E.length) (fun k => C[i].getD k 0 * ((E.map (·.1)).getD k fun _ => 0) j) (fun k => ((E.map (·.1)).getD k fun _ => 0) j * ((G.map vec).getD k fun _ => 0) i) fun k hk => by
        have hk' : k < E.length := List.mem_range.1 hk
        have hg : ((G.map vec).getD k fun _ => 0) i = C[i].getD k 0 % p := by
          have : (G.map vec).getD k (fun _ => 0) = vec (C.map fun cs => cs.getD k 0 % p) := by
            simp [G, List.getD_eq_getElem?_getD, hk']
          rw [this, vec_lt (by simp; omega)]
          simp
        rw [hg, Int.mul_comm, ← Int.mul_sub]
        refine Int.dvd_trans ?_ (Int.dvd_mul_left _ _)
        rw [Int.emod_def]
        exact ⟨C[i].getD k 0 / p, by omega⟩
      have h9 := Int.dvd_add h1 hs
      rwa [sub_mid] at h9
    · rw [vec_ge (by simpa using hi)]
      have hz : ∀ k, ((G.map vec).getD k fun _ => 0) i = 0 := fun k => by
        by_cases hk : k < G.length
        · have : (G.map vec).getD k (fun _ => 0) = vec G[k] := by simp [List.getD_eq_getElem?_getD, hk]
          rw [this, vec_ge]
          rw [(hG _ (List.getElem_mem hk)).1]; omega
        · simp [List.getD_eq_getElem?_getD, List.getElem?_eq_none (show G.length ≤ k by omega)]
      have : ((List.range (G.map vec).length).map fun k => ((E.map (·.1)).getD k fun _ => 0) j * ((G.map vec).getD k fun _ => 0) i) = (List.range (G.map vec).length).map fun _ => (0 : Int) := by
        refine List.map_congr_left fun k _ => ?_
        rw [hz k, Int.mul_zero]
      rw [this]
      have z : ∀ (l : List Nat), (l.map fun _ => (0 : Int)).sum = 0 := fun l => by
        induction l with
        | nil => rfl
        | cons x l ih => simp only [List.map_cons, List.sum_cons, ih]; rfl
      rw [z]
      exact Int.dvd_zero p
  have hle := Ech.le hpr f1 k1 fun x hx => Spn.trans (fun e he => by
    obtain ⟨t, ht, rfl⟩ := List.mem_map.1 he
    exact Spn.trans (fun e he => by
      obtain ⟨g, hg, rfl⟩ := List.mem_map.1 he
      exact k3 g hg) (hmade t ht)) (f4 x hx)
  omega

theorem turned_turned {n : Nat} {rows : List (List Int)} (hr : ∀ r ∈ rows, r.length = n) : turned rows.length (turned n rows) = rows := by
  apply List.ext_getElem
  · simp [turned]
  · intro i h1 h2
    simp only [turned, List.getElem_map, List.getElem_range, List.map_map]
    apply List.ext_getElem
    · simp [hr _ (List.getElem_mem h2)]
    · intro j g1 g2
      simp [List.getD_eq_getElem?_getD, h2, g2]

/-- The rank is that of the columns, too. -/
theorem turned_rank {inv : Int → Int} {p : Int} (hp : 1 < p) (hinv : InvOk inv p) {n : Nat} {rows : List (List Int)} (hr : ∀ r ∈ rows, RowOk p n r) : rankT inv p (turned n rows) = rankT inv p rows := by
  have h1 := turned_le hp hinv hr
  have h2 := turned_le hp hinv (turned_ok (by omega) hr)
  rw [turned_turned fun r h => (hr r h).1] at h2
  omega

end Go.Proofs.YtcdihmhmoddppaaGreat
