/-
  Plain law of the program's way to a rank: rows that are swapped and lessened. No condition.
-/
import Derived.Test.YtejpadofecboiaaR1
namespace Go.Proofs.Ytejpadofecboiaa
set_option linter.unusedVariables false
set_option linter.unusedSimpArgs false

/-- How far the program is: a rows have their leads, in the columns ahead of c; the others are 0 there. -/
structure Elim (p : Int) (n : Nat) (rows0 rows : List (List Int)) (a c : Nat) : Prop where
  len : rows.length = rows0.length
  ok : ∀ r ∈ rows, RowOk p n r
  sp1 : ∀ r ∈ rows0, Spn p (rows.map vec) (vec r)
  sp2 : ∀ r ∈ rows, Spn p (rows0.map vec) (vec r)
  ale : a ≤ rows.length
  cle : c ≤ n
  led : ∃ ls : List Nat, ls.length = a ∧ ls.Nodup ∧ (∀ m ∈ ls, m < c) ∧ ∀ (i : Nat) (h : i < ls.length) (h' : i < rows.length), Led p (vec rows[i]) ls[i]
  zero : ∀ (i : Nat) (h : i < rows.length), a ≤ i → ∀ j, j < c → vec rows[i] j = 0

theorem Elim.start {p : Int} {n : Nat} {rows : List (List Int)} (h : ∀ r ∈ rows, RowOk p n r) : Elim p n rows rows 0 0 :=
  ⟨rfl, h, fun r hr => Spn.mem (List.mem_map_of_mem hr), fun r hr => Spn.mem (List.mem_map_of_mem hr), Nat.zero_le _, Nat.zero_le _, ⟨[], rfl, by simp, by simp, fun i h => absurd h (Nat.not_lt_zero _)⟩, fun i h _ j hj => absurd hj (Nat.not_lt_zero _)⟩

theorem Elim.skip {p : Int} {n : Nat} {rows0 rows : List (List Int)} {a c : Nat} (h : Elim p n rows0 rows a c) (hc : c < n) (hz : ∀ (i : Nat) (hi : i < rows.length), a ≤ i → vec rows[i] c = 0) : Elim p n rows0 rows a (c + 1) := by
  refine ⟨h.len, h.ok, h.sp1, h.sp2, h.ale, hc, ?_, fun i hi hai j hj => ?_⟩
  · obtain ⟨ls, h1, h2, h3, h4⟩ := h.led
    exact ⟨ls, h1, h2, fun m hm => by have := h3 m hm; omega, h4⟩
  · by_cases hjc : j = c
    · subst hjc; exact hz i hi hai
    · exact h.zero i hi hai j (by omega)

def swapped (rows : List (List Int)) (a k : Nat) (ha : a < rows.length) (hk : k < rows.length) : List (List Int) := (rows.set a rows[k]).set k rows[a]

theorem swapped_get {rows : List (List Int)} {a k : Nat} (ha : a < rows.length) (hk : k < rows.length) (i : Nat) (hi : i < rows.length) (hi' : i < (swapped rows a k ha hk).length) :
    (swapped rows a k ha hk)[i] = if i = k then rows[a] else if i = a then rows[k] else rows[i] := by
  simp only [swapped, List.getElem_set]
  by_cases h1 : k = i
  · subst h1; simp
  · rw [if_neg h1, if_neg (Ne.symm h1)]
    by_cases h2 : a = i
    · subst h2; simp
    · rw [if_neg h2, if_neg (Ne.symm h2)]

theorem swapped_mem {rows : List (List Int)} {a k : Nat} (ha : a < rows.length) (hk : k < rows.length) (r : List Int) : r ∈ swapped rows a k ha hk ↔ r ∈ rows := by
  have hl : (swapped rows a k ha hk).length = rows.length := by simp [swapped]
  constructor
  · intro h
    obtain ⟨i, hi, rfl⟩ := List.mem_iff_getElem.1 h
    rw [swapped_get ha hk i (by omega) hi]
    split
    · exact List.getElem_mem _
    · split
      · exact List.getElem_mem _
      · exact List.getElem_mem _
  · intro h
    obtain ⟨i, hi, rfl⟩ := List.mem_iff_getElem.1 h
    by_cases h1 : i = a
    · subst h1
      have : (swapped rows i k ha hk)[k]'(by omega) = rows[i] := by rw [swapped_get ha hk k hk (by omega), if_pos rfl]
      rw [← this]; exact List.getElem_mem _
    · by_cases h2 : i = k
      · subst h2
        have : (swapped rows a i ha hk)[a]'(by omega) = rows[i] := by
          rw [swapped_get ha hk a ha (by omega), if_neg (Ne.symm h1), if_pos rfl]
        rw [← this]; exact List.getElem_mem _
      · have : (swapped rows a k ha hk)[i]'(by omega) = rows[i] := by rw [swapped_get ha hk i hi (by omega), if_neg h2, if_neg h1]
        rw [← this]; exact List.getElem_mem _

theorem spn_same {p : Int} {A B : List (List Int)} (h : ∀ r, r ∈ A → r ∈ B) {u : Fv} (hu : Spn p (A.map vec) u) : Spn p (B.map vec) u :=
  Spn.trans (fun e he => by
    obtain ⟨r, hr, rfl⟩ := List.mem_map.1 he
    exact Spn.mem (List.mem_map_of_mem (h r hr))) hu

theorem Elim.swap {p : Int} {n : Nat} {rows0 rows : List (List Int)} {a c k : Nat} (h : Elim p n rows0 rows a c) (ha : a < rows.length) (hk : k < rows.length) (hak : a ≤ k) : Elim p n rows0 (swapped rows a k ha hk) a c := by
  have hl : (swapped rows a k ha hk).length = rows.length := by simp [swapped]
  refine ⟨by rw [hl]; exact h.len, fun r hr => h.ok r ((swapped_mem ha hk r).1 hr), fun r hr => spn_same (fun r h => (swapped_mem ha hk r).2 h) (h.sp1 r hr), fun r hr => h.sp2 r ((swapped_mem ha hk r).1 hr), by omega, h.cle, ?_, fun i hi hai j hj => ?_⟩
  · obtain ⟨ls, h1, h2, h3, h4⟩ := h.led
    refine ⟨ls, h1, h2, h3, fun i hi hi' => ?_⟩
    rw [swapped_get ha hk i (by omega) hi', if_neg (by omega), if_neg (by omega)]
    exact h4 i hi (by omega)
  · rw [swapped_get ha hk i (by omega) hi]
    split
    · exact h.zero a ha (Nat.le_refl _) j hj
    · split
      · exact h.zero k hk hak j hj
      · exact h.zero i (by omega) hai j hj

/-- One row is lessened by the row with the next lead. -/
theorem Elim.less {p : Int} (hp : 1 < p) {n : Nat} {rows0 rows : List (List Int)} {a c i : Nat} {b : Int} (h : Elim p n rows0 rows a c) (ha : a < rows.length) (hi : i < rows.length) (hai : a < i) : Elim p n rows0 (rows.set i (lessBy p b rows[i] rows[a])) a c := by
  have o1 := h.ok _ (List.getElem_mem hi)
  have o2 := h.ok _ (List.getElem_mem ha)
  have o3 := lessBy_ok (p := p) (by omega) (b := b) o1 o2
  have hc := lessBy_cong (p := p) (b := b) o1.1 o2.1
  refine ⟨by simpa using h.len, fun r hr => ?_, fun r hr => ?_, fun r hr => ?_, by simpa using h.ale, h.cle, ?_, fun k hk hak j hj => ?_⟩
  · rcases List.mem_or_eq_of_mem_set hr with hr | rfl
    · exact h.ok r hr
    · exact o3
  · refine Spn.trans (fun e he => ?_) (h.sp1 r hr)
    obtain ⟨q, hq, rfl⟩ := List.mem_map.1 he
    obtain ⟨k, hk, rfl⟩ := List.mem_iff_getElem.1 hq
    have getk : ∀ k, (hk : k < rows.length) → k ≠ i → Spn p ((rows.set i (lessBy p b rows[i] rows[a])).map vec) (vec rows[k]) := fun k hk hki => by
      have : (rows.set i (lessBy p b rows[i] rows[a]))[k]'(by simpa using hk) = rows[k] := by rw [List.getElem_set, if_neg (Ne.symm hki)]
      rw [← this]
      exact Spn.mem (List.mem_map_of_mem (List.getElem_mem _))
    by_cases hki : k = i
    · subst hki
      have h1 : Spn p ((rows.set k (lessBy p b rows[k] rows[a])).map vec) (vec (lessBy p b rows[k] rows[a])) := by
        have : lessBy p b rows[k] rows[a] ∈ rows.set k (lessBy p b rows[k] rows[a]) := List.mem_iff_getElem.2 ⟨k, by simpa using hk, by simp⟩
        exact Spn.mem (List.mem_map_of_mem this)
      have h2 := getk a ha (by omega)
      refine Spn.congr (fun j => ?_) (Spn.add h1 (Spn.smul b h2))
      have := hc j
      dsimp only at this
      rwa [show vec (lessBy p b rows[k] rows[a]) j + b * vec rows[a] j - vec rows[k] j = vec (lessBy p b rows[k] rows[a]) j - (vec rows[k] j - b * vec rows[a] j) by omega]
    · exact getk k hk hki
  · rcases List.mem_or_eq_of_mem_set hr with hr | rfl
    · exact h.sp2 r hr
    · refine Spn.congr (fun j => ?_) (Spn.add (h.sp2 _ (List.getElem_mem hi)) (Spn.smul (-b) (h.sp2 _ (List.getElem_mem ha))))
      have := Int.dvd_neg.2 (hc j)
      dsimp only at this
      rw [Int.neg_mul]
      rwa [show vec rows[i] j + -(b * vec rows[a] j) - vec (lessBy p b rows[i] rows[a]) j = -(vec (lessBy p b rows[i] rows[a]) j - (vec rows[i] j - b * vec rows[a] j)) by omega]
  · obtain ⟨ls, h1, h2, h3, h4⟩ := h.led
    refine ⟨ls, h1, h2, h3, fun k hk hk' => ?_⟩
    rw [List.getElem_set, if_neg (by omega)]
    exact h4 k hk (by simpa using hk')
  · have hk2 : k < rows.length := by simpa using hk
    rw [List.getElem_set]
    split
    · have hv := o3.vec (by omega) j
      have := hc j
      dsimp only at this
      rw [h.zero i hi (by omega) j hj, h.zero a ha (Nat.le_refl _) j hj] at this
      exact dvd_small (by simpa using this) hv.1 hv.2
    · exact h.zero k hk2 hak j hj

/-- The place that is cleared. -/
theorem less_clear {inv : Int → Int} {p : Int} (hp : 1 < p) (hinv : InvOk inv p) {n c : Nat} {row k : List Int} (h1 : RowOk p n row) (h2 : RowOk p n k) (hk : vec k c ≠ 0) : vec (lessBy p (vec row c * inv (vec k c) % p) row k) c = 0 := by
  have hv := h2.vec (by omega) c
  have hi := hinv (vec k c) (by omega) hv.2
  have o3 := lessBy_ok (p := p) (by omega) (b := vec row c * inv (vec k c) % p) h1 h2
  have hc := lessBy_cong (p := p) (b := vec row c * inv (vec k c) % p) h1.1 h2.1 c
  dsimp only at hc
  have h3 := o3.vec (by omega) c
  refine dvd_small ?_ h3.1 h3.2
  have e1 : p ∣ vec k c * inv (vec k c) - 1 := by
    rw [Int.emod_def] at hi
    exact ⟨vec k c * inv (vec k c) / p, by omega⟩
  have e2 : p ∣ vec row c * inv (vec k c) % p - vec row c * inv (vec k c) := by
    rw [Int.emod_def]
    exact ⟨-(vec row c * inv (vec k c) / p), by rw [Int.mul_neg]; omega⟩
  have e3 : p ∣ (vec row c * inv (vec k c) % p - vec row c * inv (vec k c)) * vec k c := Int.dvd_trans e2 (Int.dvd_mul_right _ _)
  have e4 : p ∣ vec row c * (vec k c * inv (vec k c) - 1) := Int.dvd_trans e1 (Int.dvd_mul_left _ _)
  have e5 := Int.dvd_sub hc (Int.dvd_add e3 e4)
  have e6 : vec (lessBy p (vec row c * inv (vec k c) % p) row k) c - (vec row c - vec row c * inv (vec k c) % p * vec k c) - ((vec row c * inv (vec k c) % p - vec row c * inv (vec k c)) * vec k c + vec row c * (vec k c * inv (vec k c) - 1)) = vec (lessBy p (vec row c * inv (vec k c) % p) row k) c := by
    rw [Int.sub_mul, Int.mul_sub, Int.mul_one, Int.mul_assoc (vec row c) (inv (vec k c)) (vec k c), Int.mul_comm (inv (vec k c)) (vec k c)]
    omega
  rwa [e6] at e5

theorem Elim.next {p : Int} {n : Nat} {rows0 rows : List (List Int)} {a c : Nat} (h : Elim p n rows0 rows a c) (hp : 1 < p) (hc : c < n) (ha : a < rows.length) (hne : vec rows[a] c ≠ 0) (hz : ∀ (i : Nat) (hi : i < rows.length), a < i → vec rows[i] c = 0) : Elim p n rows0 rows (a + 1) (c + 1) := by
  refine ⟨h.len, h.ok, h.sp1, h.sp2, ha, hc, ?_, fun i hi hai j hj => ?_⟩
  · obtain ⟨ls, h1, h2, h3, h4⟩ := h.led
    refine ⟨ls ++ [c], by simp [h1], ?_, fun m hm => ?_, fun i hi hi' => ?_⟩
    · rw [List.nodup_append]
      exact ⟨h2, by simp, fun x hx y hy => by simp at hy; subst hy; have := h3 x hx; omega⟩
    · rcases List.mem_append.1 hm with hm | hm
      · have := h3 m hm; omega
      · simp at hm; omega
    · by_cases hlt : i < ls.length
      · rw [List.getElem_append_left hlt]
        exact h4 i hlt hi'
      · have hia : i = a := by simp at hi; omega
        subst hia
        have hcl : (ls ++ [c])[i] = c := by rw [List.getElem_append_right (by omega)]; simp
        rw [hcl]
        have hv := (h.ok _ (List.getElem_mem hi')).vec (by omega) c
        refine ⟨fun hd => hne (dvd_small hd hv.1 hv.2), fun j hj => ?_⟩
        rw [h.zero i hi' (Nat.le_refl _) j hj]
        exact Int.dvd_zero p
  · by_cases hjc : j = c
    · subst hjc; exact hz i hi (by omega)
    · exact h.zero i hi (by omega) j (by omega)

/-- At the end. -/
theorem Elim.stop {inv : Int → Int} {p : Int} (hp : 1 < p) (hinv : InvOk inv p) {n : Nat} {rows0 rows : List (List Int)} {a c : Nat} (h : Elim p n rows0 rows a c) (h0 : ∀ r ∈ rows0, RowOk p n r) (he : a = rows.length ∨ c = n) : a = rankT inv p rows0 := by
  obtain ⟨ls, h1, h2, h3, h4⟩ := h.led
  let E : List (Fv × Nat) := (List.range a).map fun i => (vec (rows.getD i []), ls.getD i 0)
  have hEl : E.length = a := by simp [E]
  have hale := h.ale
  have hEm : ∀ x ∈ E, ∃ i, ∃ (hi : i < a), x = (vec (rows[i]'(by omega)), ls[i]'(by omega)) := fun x hx => by
    obtain ⟨i, hi, rfl⟩ := List.mem_map.1 hx
    have hia := List.mem_range.1 hi
    exact ⟨i, hia, by simp [List.getD_eq_getElem?_getD, show i < rows.length by omega, show i < ls.length by omega]⟩
  have hE : Ech p E := by
    refine ⟨fun x hx => ?_, ?_⟩
    · obtain ⟨i, hi, rfl⟩ := hEm x hx
      exact h4 i (by omega) (by omega)
    · have : E.map (·.2) = ls := by
        apply List.ext_getElem
        · simp [E, h1]
        · intro i g1 g2
          simp [E, List.getD_eq_getElem?_getD, g2]
      rw [this]; exact h2
  have := rank_uniq hp hinv h0 hE (fun r hr => ?_) (fun x hx => ?_)
  · rw [hEl] at this; exact this
  · refine Spn.trans (fun e he' => ?_) (h.sp1 r hr)
    obtain ⟨q, hq, rfl⟩ := List.mem_map.1 he'
    obtain ⟨i, hi, rfl⟩ := List.mem_iff_getElem.1 hq
    by_cases hia : i < a
    · refine Spn.mem (List.mem_map.2 ⟨(vec rows[i], ls[i]'(by omega)), ?_, rfl⟩)
      exact List.mem_map.2 ⟨i, List.mem_range.2 hia, by simp [List.getD_eq_getElem?_getD, hi, show i < ls.length by omega]⟩
    · rcases he with he | he
      · omega
      · refine Spn.zero fun j => ?_
        have : vec rows[i] j = 0 := by
          by_cases hj : j < n
          · exact h.zero i hi (by omega) j (by omega)
          · exact vec_ge (by rw [(h.ok _ (List.getElem_mem hi)).1]; omega)
        rw [this]; exact Int.dvd_zero p
  · obtain ⟨i, hi, rfl⟩ := hEm x hx
    exact h.sp2 _ (List.getElem_mem _)

/-! ### A row that is lessened place by place -/

def partRow (full row : List Int) (j : Nat) : List Int := full.take j ++ row.drop j

theorem partRow_len {full row : List Int} (h : full.length = row.length) (j : Nat) : (partRow full row j).length = row.length := by simp [partRow]; omega

theorem partRow_get {full row : List Int} (h : full.length = row.length) {j i : Nat} (hi : i < row.length) (hi' : i < (partRow full row j).length) : (partRow full row j)[i] = if i < j then full[i]'(by omega) else row[i] := by
  have hi2 : i < (full.take j ++ row.drop j).length := hi'
  show (full.take j ++ row.drop j)[i]'hi2 = _
  by_cases hij : i < j
  · rw [if_pos hij, List.getElem_append_left (by simp; omega), List.getElem_take]
  · rw [if_neg hij, List.getElem_append_right (by simp; omega)]
    simp only [List.length_take, List.getElem_drop]
    congr 1
    omega

theorem partRow_set {full row : List Int} (h : full.length = row.length) {j : Nat} (hj : j < row.length) : (partRow full row j).set j (full[j]'(by omega)) = partRow full row (j + 1) := by
  apply List.ext_getElem
  · simp [partRow_len h]
  · intro i h1 h2
    have hi : i < row.length := by rw [partRow_len h] at h2; exact h2
    rw [List.getElem_set, partRow_get h hi h2]
    split
    · rename_i hji
      subst hji
      rw [if_pos (by omega)]
    · rw [partRow_get h hi (by rw [partRow_len h]; exact hi)]
      by_cases hij : i < j
      · rw [if_pos hij, if_pos (by omega)]
      · rw [if_neg hij, if_neg (by omega)]

theorem partRow_all {full row : List Int} (h : full.length = row.length) : partRow full row row.length = full := by simp [partRow, ← h]

/-- Ahead of the lead nothing turns. -/
theorem partRow_zero {p b : Int} {n c : Nat} {row k : List Int} (h1 : RowOk p n row) (h2 : RowOk p n k) (hz : ∀ j, j < c → vec k j = 0) : partRow (lessBy p b row k) row c = row := by
  have hl : (lessBy p b row k).length = row.length := by simp [lessBy, h1.1, h2.1]
  apply List.ext_getElem
  · exact partRow_len hl c
  · intro i g1 g2
    rw [partRow_get hl g2 g1]
    split
    · rename_i hic
      have hk := hz i hic
      have h3 := h1.1
      have h4 := h2.1
      rw [vec_lt (by omega)] at hk
      simp only [lessBy, List.getElem_zipWith]
      rw [hk, Int.mul_zero, Int.add_zero]
      have := h1.2 _ (List.getElem_mem g2)
      exact Int.emod_eq_of_lt this.1 this.2
    · rfl

end Go.Proofs.Ytejpadofecboiaa
