/-
  The document's answer on monomials. No condition.
-/
import Derived.Test.YtcdihmhmoddppaaGreatKRc15
import Derived.Test.YtcdihmhmoddppaaGreatKRc5

namespace Go.Proofs.YtcdihmhmoddppaaGreat
open Go.RowKit
set_option linter.unusedVariables false
set_option linter.unusedSimpArgs false

/-- What is wrong with a ring. -/
def ringCk (r : Rg) : Int :=
  if ckP r.p = 0 then (if decide (1 ≤ r.n) && decide (r.n ≤ 3) then (if (decide (1 ≤ r.order) && decide (r.order ≤ 2)) && (decide (1 ≤ r.over) && decide (r.over ≤ 2)) then 0 else 6) else 3) else ckP r.p

theorem ringCk_ok {r : Rg} (h : ringCk r = 0) : ckP r.p = 0 ∧ (1 ≤ r.n ∧ r.n ≤ 3) ∧ (1 ≤ r.order ∧ r.order ≤ 2) ∧ (1 ≤ r.over ∧ r.over ≤ 2) := by
  unfold ringCk at h
  split at h
  · split at h
    · split at h
      · rename_i h1 h2 h3
        simp only [Bool.and_eq_true, decide_eq_true_eq] at h2 h3
        exact ⟨h1, h2, h3⟩
      · cases h
    · cases h
  · contradiction

def inE (k : Int) : Bool := decide (0 ≤ k) && decide (k ≤ 200)

theorem inE_iff {k : Int} : inE k = true ↔ 0 ≤ k ∧ k ≤ 200 := by simp [inE]

/-- What is wrong with a monomial. -/
def monoCk (r : Rg) (e : List Int) : Int := if (e.length : Int) = r.n then (if e.all inE && decide (e.sum ≤ 200) then 0 else 3) else 1

def monosGo (r : Rg) : List (List Int) → Int
  | [] => 0
  | e :: l => if monoCk r e = 0 then monosGo r l else monoCk r e

/-- What is wrong with monomials. -/
def monosCk (r : Rg) (l : List (List Int)) : Int := if ringCk r = 0 then monosGo r l else ringCk r

/-- Small enough that nothing wraps. -/
structure MOk (e : List Int) : Prop where
  len : e.length ≤ 3
  mem : ∀ x ∈ e, 0 ≤ x ∧ x ≤ 1000000

theorem MOk.at {e : List Int} (h : MOk e) {i : Nat} (hi : i < e.length) : 0 ≤ e[i] ∧ e[i] ≤ 1000000 := h.mem _ (List.getElem_mem hi)

theorem sum_take_succ (e : List Int) {k : Nat} (hk : k < e.length) : (e.take (k + 1)).sum = (e.take k).sum + e[k] := by
  rw [List.take_succ_eq_append_getElem hk, List.sum_append]
  simp

theorem sum_bounds {m : Int} (hm : 0 ≤ m) : ∀ (e : List Int), (∀ x ∈ e, 0 ≤ x ∧ x ≤ m) → 0 ≤ e.sum ∧ e.sum ≤ m * e.length
  | [], _ => by simp
  | x :: e, h => by
    obtain ⟨h1, h2⟩ := sum_bounds hm e (fun y hy => h y (by simp [hy]))
    have hx := h x (by simp)
    simp only [List.sum_cons, List.length_cons]
    have : m * ((e.length + 1 : Nat) : Int) = m * e.length + m := by rw [Int.natCast_add, Int.mul_add]; simp
    omega

theorem MOk.take {e : List Int} (h : MOk e) (k : Nat) : MOk (e.take k) := ⟨by rw [List.length_take]; have := h.len; omega, fun x hx => h.mem x (List.mem_of_mem_take hx)⟩

theorem MOk.sum {e : List Int} (h : MOk e) : 0 ≤ e.sum ∧ e.sum ≤ 3000000 := by
  obtain ⟨h1, h2⟩ := sum_bounds (by omega) e h.mem
  have := h.len
  omega

theorem MOk.of {r : Rg} {e : List Int} (hr : r.n ≤ 3) (h : monoCk r e = 0) : MOk e ∧ (e.length : Int) = r.n ∧ e.all inE = true ∧ e.sum ≤ 200 := by
  unfold monoCk at h
  split at h
  · rename_i hl
    split at h
    · rename_i h2
      simp only [Bool.and_eq_true, decide_eq_true_eq] at h2
      refine ⟨⟨by omega, fun x hx => ?_⟩, hl, h2.1, h2.2⟩
      have := inE_iff.1 (List.all_eq_true.1 h2.1 x hx)
      omega
    · cases h
  · cases h

theorem monosGo_mem {r : Rg} : ∀ {l : List (List Int)}, monosGo r l = 0 → ∀ e ∈ l, monoCk r e = 0
  | [], _, _, h => by cases h
  | x :: l, h, e, he => by
    simp only [monosGo] at h
    split at h
    · rename_i hx
      rcases List.mem_cons.1 he with rfl | he
      · exact hx
      · exact monosGo_mem h e he
    · contradiction

theorem monosCk_ok {r : Rg} {l : List (List Int)} (h : monosCk r l = 0) : ringCk r = 0 ∧ ∀ e ∈ l, monoCk r e = 0 := by
  unfold monosCk at h
  split at h
  · rename_i hr
    exact ⟨hr, monosGo_mem h⟩
  · contradiction

/-- How each exponent of two is put together. -/
def zipE (g : Int → Int → Int) (a b : List Int) : List Int := List.zipWith g a b

theorem zipE_len {g : Int → Int → Int} {a b : List Int} (h : a.length = b.length) : (zipE g a b).length = a.length := by simp [zipE, h]

theorem zipE_get {g : Int → Int → Int} {a b : List Int} {i : Nat} (hi : i < (zipE g a b).length) : (zipE g a b)[i] = g (a[i]'(by simp [zipE] at hi; omega)) (b[i]'(by simp [zipE] at hi; omega)) := by
  simp [zipE]

theorem zipE_mok {g : Int → Int → Int} {a b : List Int} (h : a.length = b.length) (ha : a.length ≤ 3) (hg : ∀ (i : Nat) (h1 : i < a.length) (h2 : i < b.length), 0 ≤ g a[i] b[i] ∧ g a[i] b[i] ≤ 1000000) : MOk (zipE g a b) := by
  refine ⟨by rw [zipE_len h]; exact ha, fun x hx => ?_⟩
  obtain ⟨i, hi, rfl⟩ := List.mem_iff_getElem.1 hx
  rw [zipE_get]
  exact hg _ _ _

/-- Does b go into a? -/
def goesM : List Int → List Int → Bool
  | x :: a, y :: b => if y > x then false else goesM a b
  | _, _ => true

/-- The first place where two differ tells. -/
def lexC : List Int → List Int → Int
  | x :: a, y :: b => if x < y then -1 else if y < x then 1 else lexC a b
  | _, _ => 0

def sgn (n : Int) : Int := max (-1) (min 1 n)

/-- The order. -/
def cmpM (o : Int) (a b : List Int) : Int := if a.sum = b.sum then (if o = 2 then lexC a b else lexC b.reverse a.reverse) else sgn (a.sum - b.sum)

theorem lexC_range : ∀ (a b : List Int), lexC a b = 0 ∨ lexC a b = 1 ∨ lexC a b = -1
  | [], _ => .inl rfl
  | x :: a, [] => .inl rfl
  | x :: a, y :: b => by
    simp only [lexC]
    split
    · exact .inr (.inr rfl)
    · split
      · exact .inr (.inl rfl)
      · exact lexC_range a b

theorem lexC_anti : ∀ (a b : List Int), lexC a b = -lexC b a
  | [], [] => rfl
  | [], _ :: _ => rfl
  | x :: a, [] => rfl
  | x :: a, y :: b => by
    simp only [lexC]
    have ih := lexC_anti a b
    split <;> split <;> (try split) <;> omega

theorem lexC_zero : ∀ {a b : List Int}, a.length = b.length → lexC a b = 0 → a = b
  | [], [], _, _ => rfl
  | [], _ :: _, h, _ => by simp at h
  | x :: a, [], h, _ => by simp at h
  | x :: a, y :: b, h, h0 => by
    simp only [lexC] at h0
    split at h0
    · cases h0
    · split at h0
      · cases h0
      · have : x = y := by omega
        rw [this, lexC_zero (by simpa using h) h0]

theorem lexC_self : ∀ (a : List Int), lexC a a = 0
  | [] => rfl
  | x :: a => by simp [lexC, lexC_self a]

theorem lexC_trans : ∀ {a b c : List Int}, a.length = b.length → b.length = c.length → 0 ≤ lexC a b → 0 ≤ lexC b c → 0 ≤ lexC a c ∧ (0 < lexC a b ∨ 0 < lexC b c → 0 < lexC a c)
  | [], [], [], _, _, _, _ => ⟨Int.le_refl _, fun h => by rcases h with h | h <;> cases h⟩
  | x :: a, y :: b, z :: c, h1, h2, h3, h4 => by
    have ih := @lexC_trans a b c (by simpa using h1) (by simpa using h2)
    simp only [lexC] at *
    split at h3
    · omega
    · split at h4
      · omega
      · split at h3
        · split at h4 <;> (rw [if_neg (by omega), if_pos (by omega)]; exact ⟨by omega, fun _ => by omega⟩)
        · split at h4
          · rw [if_neg (by omega), if_pos (by omega)]; exact ⟨by omega, fun _ => by omega⟩
          · rw [if_neg (by omega), if_neg (by omega)]
            have := ih h3 h4
            refine ⟨this.1, fun h => this.2 ?_⟩
            rename_i g1 g2 g3 g4
            rwa [if_neg g1, if_neg g3, if_neg g2, if_neg g4] at h

theorem lexC_add : ∀ {a b c : List Int}, a.length = b.length → b.length = c.length → lexC (zipE (· + ·) a c) (zipE (· + ·) b c) = lexC a b
  | [], [], [], _, _ => rfl
  | x :: a, y :: b, z :: c, h1, h2 => by
    have ih := @lexC_add a b c (by simpa using h1) (by simpa using h2)
    simp only [zipE, List.zipWith_cons_cons, lexC] at *
    split <;> split <;> (try split) <;> (try split) <;> (try omega)

theorem lexC_take_rev {a b : List Int} {k : Nat} (h1 : k < a.length) (h2 : k < b.length) :
    lexC (b.take (k + 1)).reverse (a.take (k + 1)).reverse = if b[k] < a[k] then -1 else if a[k] < b[k] then 1 else lexC (b.take k).reverse (a.take k).reverse := by
  rw [List.take_succ_eq_append_getElem h1, List.take_succ_eq_append_getElem h2, List.reverse_append, List.reverse_append]
  rfl

theorem lexC_drop {a b : List Int} {k : Nat} (h1 : k < a.length) (h2 : k < b.length) :
    lexC (a.drop k) (b.drop k) = if a[k] < b[k] then -1 else if b[k] < a[k] then 1 else lexC (a.drop (k + 1)) (b.drop (k + 1)) := by
  rw [List.drop_eq_getElem_cons h1, List.drop_eq_getElem_cons h2]
  rfl

theorem goesM_drop {a b : List Int} {k : Nat} (h1 : k < a.length) (h2 : k < b.length) : goesM (a.drop k) (b.drop k) = if b[k] > a[k] then false else goesM (a.drop (k + 1)) (b.drop (k + 1)) := by
  rw [List.drop_eq_getElem_cons h1, List.drop_eq_getElem_cons h2]
  rfl

theorem sgn_range (n : Int) : sgn n = 0 ∨ sgn n = 1 ∨ sgn n = -1 := by unfold sgn; omega

theorem cmpM_anti (o : Int) (a b : List Int) : cmpM o a b = -cmpM o b a := by
  unfold cmpM
  by_cases h : a.sum = b.sum
  · rw [if_pos h, if_pos h.symm]
    split
    · exact lexC_anti a b
    · exact lexC_anti _ _
  · rw [if_neg h, if_neg (Ne.symm h)]
    unfold sgn
    omega

theorem cmpM_range (o : Int) (a b : List Int) : cmpM o a b = 0 ∨ cmpM o a b = 1 ∨ cmpM o a b = -1 := by
  unfold cmpM
  split
  · split
    · exact lexC_range _ _
    · exact lexC_range _ _
  · exact sgn_range _

theorem cmpM_self (o : Int) (a : List Int) : cmpM o a a = 0 := by
  unfold cmpM
  rw [if_pos rfl]
  split <;> exact lexC_self _

theorem cmpM_zero {o : Int} {a b : List Int} (h : a.length = b.length) (h0 : cmpM o a b = 0) : a = b := by
  unfold cmpM at h0
  split at h0
  · split at h0
    · exact lexC_zero h h0
    · have := lexC_zero (by simp [h]) h0
      exact (List.reverse_inj.1 this).symm
  · unfold sgn at h0; omega

theorem cmpM_trans {o : Int} {a b c : List Int} (h1 : a.length = b.length) (h2 : b.length = c.length) (h3 : 0 ≤ cmpM o a b) (h4 : 0 ≤ cmpM o b c) : 0 ≤ cmpM o a c ∧ (0 < cmpM o a b ∨ 0 < cmpM o b c → 0 < cmpM o a c) := by
  unfold cmpM at *
  by_cases hab : a.sum = b.sum
  · by_cases hbc : b.sum = c.sum
    · rw [if_pos hab] at *
      rw [if_pos hbc] at *
      rw [if_pos (hab.trans hbc)]
      split
      · rename_i ho
        simp only [ho, if_true] at *
        exact lexC_trans h1 h2 h3 h4
      · rename_i ho
        simp only [ho, if_false] at *
        have := @lexC_trans c.reverse b.reverse a.reverse (by simp [h2]) (by simp [h1]) h4 h3
        exact ⟨this.1, fun h => this.2 h.symm⟩
    · rw [if_neg hbc] at h4 ⊢
      rw [if_neg (by omega)]
      unfold sgn at *
      exact ⟨by omega, fun _ => by omega⟩
  · rw [if_neg hab] at h3 ⊢
    by_cases hbc : b.sum = c.sum
    · rw [if_neg (by omega)]
      unfold sgn at *
      exact ⟨by omega, fun _ => by omega⟩
    · rw [if_neg hbc] at h4 ⊢
      unfold sgn at h3 h4
      rw [if_neg (by omega)]
      unfold sgn
      exact ⟨by omega, fun _ => by omega⟩

theorem zipE_sum : ∀ {a b : List Int}, a.length = b.length → (zipE (· + ·) a b).sum = a.sum + b.sum
  | [], [], _ => rfl
  | x :: a, y :: b, h => by
    have ih := @zipE_sum a b (by simpa using h)
    simp only [zipE, List.zipWith_cons_cons, List.sum_cons] at *
    omega

theorem zipE_rev {g : Int → Int → Int} {a b : List Int} (h : a.length = b.length) : (zipE g a b).reverse = zipE g a.reverse b.reverse := by
  unfold zipE
  exact (List.reverse_zipWith h)

theorem cmpM_add {o : Int} {a b c : List Int} (h1 : a.length = b.length) (h2 : b.length = c.length) : cmpM o (zipE (· + ·) a c) (zipE (· + ·) b c) = cmpM o a b := by
  unfold cmpM
  rw [zipE_sum (h1.trans h2), zipE_sum h2]
  by_cases h : a.sum = b.sum
  · rw [if_pos h, if_pos (by omega)]
    split
    · exact lexC_add h1 h2
    · rw [zipE_rev (h1.trans h2), zipE_rev h2]
      exact lexC_add (by simp [h1]) (by simp [h1, h2])
  · rw [if_neg h, if_neg (by omega)]
    congr 1
    omega

theorem lexC_nonneg0 : ∀ (a : List Int), (∀ x ∈ a, 0 ≤ x) → 0 ≤ lexC a (List.replicate a.length 0)
  | [], _ => by simp [lexC]
  | x :: a, h => by
    simp only [List.length_cons, List.replicate_succ, lexC]
    have hx := h x (by simp)
    rw [if_neg (by omega)]
    split
    · omega
    · exact lexC_nonneg0 a (fun y hy => h y (by simp [hy]))

theorem sum_zero_all : ∀ {a : List Int}, (∀ x ∈ a, 0 ≤ x) → a.sum = 0 → a = List.replicate a.length 0
  | [], _, _ => rfl
  | x :: a, h, hs => by
    have hx := h x (by simp)
    have ha : 0 ≤ a.sum := by
      clear hs
      induction a with
      | nil => simp
      | cons y a ih =>
        have := ih (fun z hz => h z (by simp at hz ⊢; rcases hz with h | h <;> simp [h]))
        have hy := h y (by simp)
        simp only [List.sum_cons]
        omega
    simp only [List.sum_cons] at hs
    have := sum_zero_all (fun y hy => h y (by simp [hy])) (show a.sum = 0 by omega)
    rw [List.length_cons, List.replicate_succ, ← this]
    congr 1
    omega

theorem sum_nonneg {a : List Int} (h : ∀ x ∈ a, 0 ≤ x) : 0 ≤ a.sum := by
  induction a with
  | nil => simp
  | cons y a ih =>
    have := ih (fun z hz => h z (by simp [hz]))
    have hy := h y (by simp)
    simp only [List.sum_cons]
    omega

theorem cmpM_one {o : Int} {a : List Int} (h : ∀ x ∈ a, 0 ≤ x) : 0 ≤ cmpM o a (List.replicate a.length 0) := by
  have h0 : (List.replicate a.length (0 : Int)).sum = 0 := by simp
  by_cases hs : a.sum = 0
  · have := sum_zero_all h hs
    rw [← this, cmpM_self]
    exact Int.le_refl _
  · unfold cmpM
    rw [h0, if_neg hs]
    have := sum_nonneg h
    unfold sgn
    omega

theorem ownSum (e : List Int) : e.all inE = true → ∀ k, 0 ≤ (e.take k).sum ∧ (e.take k).sum ≤ 200 * (e.take k).length := fun h k =>
  sum_bounds (by omega) _ fun x hx => inE_iff.1 (List.all_eq_true.1 h x (List.mem_of_mem_take hx))

end Go.Proofs.YtcdihmhmoddppaaGreat

namespace Go.Proofs.YtcdihmhmoddppaaGreat
open Go.RowKit
set_option linter.unusedVariables false
set_option linter.unusedSimpArgs false
set_option maxHeartbeats 4000000

theorem ringCk_3 {r : Rg} (h : ckP r.p = 0) (hn : ¬ (1 ≤ r.n ∧ r.n ≤ 3)) : ringCk r = 3 := by
  unfold ringCk
  rw [if_pos h, if_neg (by simpa using hn)]

theorem ringCk_6 {r : Rg} (h : ckP r.p = 0) (hn : 1 ≤ r.n ∧ r.n ≤ 3) (hk : ¬ ((1 ≤ r.order ∧ r.order ≤ 2) ∧ (1 ≤ r.over ∧ r.over ≤ 2))) : ringCk r = 6 := by
  unfold ringCk
  rw [if_pos h, if_pos (by simpa using hn), if_neg (by simpa using hk)]

theorem ringCk_0 {r : Rg} (h : ckP r.p = 0) (hn : 1 ≤ r.n ∧ r.n ≤ 3) (hk : (1 ≤ r.order ∧ r.order ≤ 2) ∧ (1 ≤ r.over ∧ r.over ≤ 2)) : ringCk r = 0 := by
  unfold ringCk
  rw [if_pos h, if_pos (by simpa using hn), if_pos (by simpa using hk)]

theorem Ring_pure (r : Rg) : Pure Tryz.prog 34 [rgD r] (I (ringCk r)) := by
  intro H
  refine PureH.of_body Tryz.func34 rfl (by decide) (Nat.le_of_ble_eq_true rfl) fun w0 => ?_
  (repeat (first | refine RO.S ?_ | refine RO.Y ?_ | refine RO.no rfl (by decide) rfl ?_ | refine RO.nil ?_ | refine DW.region ?_ | refine DW.seq ?_ | refine DW.block ?_ | refine DW.skip ?_ | refine DW.exit ?_ | refine DW.condT rfl ?_ | refine DW.condF rfl ?_))
  refine RO.sta (sta_call rfl rfl (check_pure _ _)) rfl ?_
  (repeat (first | refine RO.S ?_ | refine RO.Y ?_ | refine RO.no rfl (by decide) rfl ?_ | refine RO.nil ?_ | refine DW.region ?_ | refine DW.seq ?_ | refine DW.block ?_ | refine DW.skip ?_ | refine DW.exit ?_ | refine DW.condT rfl ?_ | refine DW.condF rfl ?_))
  refine DW.cond rfl (fun hb => ?_) (fun hb => ?_)
  · have h : ¬ ckP r.p = 0 := by simpa using hb
    have : ringCk r = ckP r.p := by unfold ringCk; rw [if_neg h]
    rw [this]
    (repeat (first | refine RO.S ?_ | refine RO.Y ?_ | refine RO.no rfl (by decide) rfl ?_ | refine RO.nil ?_ | refine DW.region ?_ | refine DW.seq ?_ | refine DW.block ?_ | refine DW.skip ?_ | refine DW.exit ?_ | refine DW.condT rfl ?_ | refine DW.condF rfl ?_))
    exact DW.ret ⟨.inl rfl, _, rfl, Over.refl _, .same _⟩
  · have h : ckP r.p = 0 := by simpa using hb
    (repeat (first | refine RO.S ?_ | refine RO.Y ?_ | refine RO.no rfl (by decide) rfl ?_ | refine RO.nil ?_ | refine DW.region ?_ | refine DW.seq ?_ | refine DW.block ?_ | refine DW.skip ?_ | refine DW.exit ?_ | refine DW.condT rfl ?_ | refine DW.condF rfl ?_))
    cases hc : decide (r.n < 1)
    · (repeat (first | refine RO.S ?_ | refine RO.Y ?_ | refine RO.no rfl (by decide) rfl ?_ | refine RO.nil ?_ | refine DW.region ?_ | refine DW.seq ?_ | refine DW.block ?_ | refine DW.skip ?_ | refine DW.exit ?_ | refine DW.condT rfl ?_ | refine DW.condF rfl ?_))
      refine DW.cond rfl (fun hb => ?_) (fun hb => ?_)
      · have : ringCk r = 3 := ringCk_3 h (by simp at hb hc; omega)
        rw [this]
        (repeat (first | refine RO.S ?_ | refine RO.Y ?_ | refine RO.no rfl (by decide) rfl ?_ | refine RO.nil ?_ | refine DW.region ?_ | refine DW.seq ?_ | refine DW.block ?_ | refine DW.skip ?_ | refine DW.exit ?_ | refine DW.condT rfl ?_ | refine DW.condF rfl ?_))
        exact DW.ret ⟨.inl rfl, _, rfl, Over.refl _, .same _⟩
      · have hn : 1 ≤ r.n ∧ r.n ≤ 3 := by simp at hb hc; omega
        (repeat (first | refine RO.S ?_ | refine RO.Y ?_ | refine RO.no rfl (by decide) rfl ?_ | refine RO.nil ?_ | refine DW.region ?_ | refine DW.seq ?_ | refine DW.block ?_ | refine DW.skip ?_ | refine DW.exit ?_ | refine DW.condT rfl ?_ | refine DW.condF rfl ?_))
        cases hc1 : (r.order != 1)
        · (repeat (first | refine RO.S ?_ | refine RO.Y ?_ | refine RO.no rfl (by decide) rfl ?_ | refine RO.nil ?_ | refine DW.region ?_ | refine DW.seq ?_ | refine DW.block ?_ | refine DW.skip ?_ | refine DW.exit ?_ | refine DW.condT rfl ?_ | refine DW.condF rfl ?_))
          cases hc3 : (r.over != 1)
          · rw [ringCk_0 h hn (by simp at hc1 hc3; omega)]
            (repeat (first | refine RO.S ?_ | refine RO.Y ?_ | refine RO.no rfl (by decide) rfl ?_ | refine RO.nil ?_ | refine DW.region ?_ | refine DW.seq ?_ | refine DW.block ?_ | refine DW.skip ?_ | refine DW.exit ?_ | refine DW.condT rfl ?_ | refine DW.condF rfl ?_))
            exact DW.ret ⟨.inl rfl, _, rfl, Over.refl _, .same _⟩
          · (repeat (first | refine RO.S ?_ | refine RO.Y ?_ | refine RO.no rfl (by decide) rfl ?_ | refine RO.nil ?_ | refine DW.region ?_ | refine DW.seq ?_ | refine DW.block ?_ | refine DW.skip ?_ | refine DW.exit ?_ | refine DW.condT rfl ?_ | refine DW.condF rfl ?_))
            cases hc4 : (r.over != 2)
            · rw [ringCk_0 h hn (by simp at hc1 hc3 hc4; omega)]
              (repeat (first | refine RO.S ?_ | refine RO.Y ?_ | refine RO.no rfl (by decide) rfl ?_ | refine RO.nil ?_ | refine DW.region ?_ | refine DW.seq ?_ | refine DW.block ?_ | refine DW.skip ?_ | refine DW.exit ?_ | refine DW.condT rfl ?_ | refine DW.condF rfl ?_))
              exact DW.ret ⟨.inl rfl, _, rfl, Over.refl _, .same _⟩
            · rw [ringCk_6 h hn (by simp at hc1 hc3 hc4; omega)]
              (repeat (first | refine RO.S ?_ | refine RO.Y ?_ | refine RO.no rfl (by decide) rfl ?_ | refine RO.nil ?_ | refine DW.region ?_ | refine DW.seq ?_ | refine DW.block ?_ | refine DW.skip ?_ | refine DW.exit ?_ | refine DW.condT rfl ?_ | refine DW.condF rfl ?_))
              exact DW.ret ⟨.inl rfl, _, rfl, Over.refl _, .same _⟩
        · (repeat (first | refine RO.S ?_ | refine RO.Y ?_ | refine RO.no rfl (by decide) rfl ?_ | refine RO.nil ?_ | refine DW.region ?_ | refine DW.seq ?_ | refine DW.block ?_ | refine DW.skip ?_ | refine DW.exit ?_ | refine DW.condT rfl ?_ | refine DW.condF rfl ?_))
          cases hc2 : (r.order != 2)
          · (repeat (first | refine RO.S ?_ | refine RO.Y ?_ | refine RO.no rfl (by decide) rfl ?_ | refine RO.nil ?_ | refine DW.region ?_ | refine DW.seq ?_ | refine DW.block ?_ | refine DW.skip ?_ | refine DW.exit ?_ | refine DW.condT rfl ?_ | refine DW.condF rfl ?_))
            cases hc3 : (r.over != 1)
            · rw [ringCk_0 h hn (by simp at hc1 hc2 hc3; omega)]
              (repeat (first | refine RO.S ?_ | refine RO.Y ?_ | refine RO.no rfl (by decide) rfl ?_ | refine RO.nil ?_ | refine DW.region ?_ | refine DW.seq ?_ | refine DW.block ?_ | refine DW.skip ?_ | refine DW.exit ?_ | refine DW.condT rfl ?_ | refine DW.condF rfl ?_))
              exact DW.ret ⟨.inl rfl, _, rfl, Over.refl _, .same _⟩
            · (repeat (first | refine RO.S ?_ | refine RO.Y ?_ | refine RO.no rfl (by decide) rfl ?_ | refine RO.nil ?_ | refine DW.region ?_ | refine DW.seq ?_ | refine DW.block ?_ | refine DW.skip ?_ | refine DW.exit ?_ | refine DW.condT rfl ?_ | refine DW.condF rfl ?_))
              cases hc4 : (r.over != 2)
              · rw [ringCk_0 h hn (by simp at hc1 hc2 hc3 hc4; omega)]
                (repeat (first | refine RO.S ?_ | refine RO.Y ?_ | refine RO.no rfl (by decide) rfl ?_ | refine RO.nil ?_ | refine DW.region ?_ | refine DW.seq ?_ | refine DW.block ?_ | refine DW.skip ?_ | refine DW.exit ?_ | refine DW.condT rfl ?_ | refine DW.condF rfl ?_))
                exact DW.ret ⟨.inl rfl, _, rfl, Over.refl _, .same _⟩
              · rw [ringCk_6 h hn (by simp at hc1 hc2 hc3 hc4; omega)]
                (repeat (first | refine RO.S ?_ | refine RO.Y ?_ | refine RO.no rfl (by decide) rfl ?_ | refine RO.nil ?_ | refine DW.region ?_ | refine DW.seq ?_ | refine DW.block ?_ | refine DW.skip ?_ | refine DW.exit ?_ | refine DW.condT rfl ?_ | refine DW.condF rfl ?_))
                exact DW.ret ⟨.inl rfl, _, rfl, Over.refl _, .same _⟩
          · rw [ringCk_6 h hn (by simp at hc1 hc2; omega)]
            (repeat (first | refine RO.S ?_ | refine RO.Y ?_ | refine RO.no rfl (by decide) rfl ?_ | refine RO.nil ?_ | refine DW.region ?_ | refine DW.seq ?_ | refine DW.block ?_ | refine DW.skip ?_ | refine DW.exit ?_ | refine DW.condT rfl ?_ | refine DW.condF rfl ?_))
            exact DW.ret ⟨.inl rfl, _, rfl, Over.refl _, .same _⟩
    · have : ringCk r = 3 := ringCk_3 h (by simp at hc; omega)
      rw [this]
      (repeat (first | refine RO.S ?_ | refine RO.Y ?_ | refine RO.no rfl (by decide) rfl ?_ | refine RO.nil ?_ | refine DW.region ?_ | refine DW.seq ?_ | refine DW.block ?_ | refine DW.skip ?_ | refine DW.exit ?_ | refine DW.condT rfl ?_ | refine DW.condF rfl ?_))
      exact DW.ret ⟨.inl rfl, _, rfl, Over.refl _, .same _⟩

theorem Degree_pure {e : List Int} (h : MOk e) : Pure Tryz.prog 46 [intsD e] (I e.sum) := by
  intro H
  refine PureH.of_body Tryz.func46 rfl (by decide) (Nat.le_of_ble_eq_true rfl) fun w0 => ?_
  (repeat (first | refine RO.S ?_ | refine RO.Y ?_ | refine RO.no rfl (by decide) rfl ?_ | refine RO.nil ?_ | refine DW.region ?_ | refine DW.seq ?_ | refine DW.block ?_ | refine DW.skip ?_ | refine DW.exit ?_ | refine DW.condT rfl ?_ | refine DW.condF rfl ?_))
  refine DW.loopI (fun k : Nat => k ≤ e.length) (fun k => [(6, intsD e), (7, I e.length), (8, I k), (3, I (e.take k).sum)]) (fun _ => H) (fun k => e.length - k) 0 (Nat.zero_le _) rfl ⟨rfl, rfl, rfl, rfl, trivial⟩ fun k hk => ?_
  have hl := h.len
  have hs := (h.take k).sum
  (repeat (first | refine RO.S ?_ | refine RO.Y ?_ | refine RO.no rfl (by decide) rfl ?_ | refine RO.nil ?_ | refine DW.region ?_ | refine DW.seq ?_ | refine DW.block ?_ | refine DW.skip ?_ | refine DW.exit ?_ | refine DW.condT rfl ?_ | refine DW.condF rfl ?_))
  refine DW.cond rfl (fun hb => ?_) (fun hb => ?_)
  · have hlt : k < e.length := by have := of_decide_eq_true hb; omega
    have hx := h.at hlt
    (repeat (first | refine RO.S ?_ | refine RO.Y ?_ | refine RO.no rfl (by decide) rfl ?_ | refine RO.nil ?_ | refine DW.region ?_ | refine DW.seq ?_ | refine DW.block ?_ | refine DW.skip ?_ | refine DW.exit ?_ | refine DW.condT rfl ?_ | refine DW.condF rfl ?_))
    rw [← sum_take_succ e hlt]
    exact ⟨k + 1, hlt, by dsimp only; omega, rfl, rfl, rfl, rfl, rfl, trivial⟩
  · have hge : k = e.length := by have := of_decide_eq_false hb; omega
    subst hge
    (repeat (first | refine RO.S ?_ | refine RO.Y ?_ | refine RO.no rfl (by decide) rfl ?_ | refine RO.nil ?_ | refine DW.region ?_ | refine DW.seq ?_ | refine DW.block ?_ | refine DW.skip ?_ | refine DW.exit ?_ | refine DW.condT rfl ?_ | refine DW.condF rfl ?_))
    rw [List.take_length]
    exact DW.ret ⟨.inl rfl, _, rfl, Over.refl _, .same _⟩

/-- One's own monomial. -/
theorem Own_pure (r : Rg) (e : List Int) (hr : r.n ≤ 3) : Pure Tryz.prog 133 [rgD r, intsD e] (I (monoCk r e)) := by
  intro H
  refine PureH.of_body Tryz.func133 rfl (by decide) (Nat.le_of_ble_eq_true rfl) fun w0 => ?_
  (repeat (first | refine RO.S ?_ | refine RO.Y ?_ | refine RO.no rfl (by decide) rfl ?_ | refine RO.nil ?_ | refine DW.region ?_ | refine DW.seq ?_ | refine DW.block ?_ | refine DW.skip ?_ | refine DW.exit ?_ | refine DW.condT rfl ?_ | refine DW.condF rfl ?_))
  refine DW.cond rfl (fun hb => ?_) (fun hb => ?_)
  · have h : ¬ (e.length : Int) = r.n := by simp at hb; exact hb
    have : monoCk r e = 1 := by unfold monoCk; rw [if_neg h]
    rw [this]
    (repeat (first | refine RO.S ?_ | refine RO.Y ?_ | refine RO.no rfl (by decide) rfl ?_ | refine RO.nil ?_ | refine DW.region ?_ | refine DW.seq ?_ | refine DW.block ?_ | refine DW.skip ?_ | refine DW.exit ?_ | refine DW.condT rfl ?_ | refine DW.condF rfl ?_))
    exact DW.ret ⟨.inl rfl, _, rfl, Over.refl _, .same _⟩
  · have h : (e.length : Int) = r.n := by simp at hb; exact hb
    have hl : e.length ≤ 3 := by omega
    (repeat (first | refine RO.S ?_ | refine RO.Y ?_ | refine RO.no rfl (by decide) rfl ?_ | refine RO.nil ?_ | refine DW.region ?_ | refine DW.seq ?_ | refine DW.block ?_ | refine DW.skip ?_ | refine DW.exit ?_ | refine DW.condT rfl ?_ | refine DW.condF rfl ?_))
    refine DW.loopI (fun k : Nat => k ≤ e.length ∧ (e.take k).all inE = true) (fun k => [(13, intsD e), (14, I e.length), (15, I k), (5, I (e.take k).sum)]) (fun _ => H) (fun k => e.length - k) 0 ⟨Nat.zero_le _, rfl⟩ rfl ⟨rfl, rfl, rfl, rfl, trivial⟩ fun k ⟨hk, ha⟩ => ?_
    have hs := ownSum _ ha k
    rw [List.take_take, Nat.min_self] at hs
    have hs2 : (e.take k).length ≤ 3 := by rw [List.length_take]; omega
    (repeat (first | refine RO.S ?_ | refine RO.Y ?_ | refine RO.no rfl (by decide) rfl ?_ | refine RO.nil ?_ | refine DW.region ?_ | refine DW.seq ?_ | refine DW.block ?_ | refine DW.skip ?_ | refine DW.exit ?_ | refine DW.condT rfl ?_ | refine DW.condF rfl ?_))
    refine DW.cond rfl (fun hb => ?_) (fun hb => ?_)
    · have hlt : k < e.length := by have := of_decide_eq_true hb; omega
      (repeat (first | refine RO.S ?_ | refine RO.Y ?_ | refine RO.no rfl (by decide) rfl ?_ | refine RO.nil ?_ | refine DW.region ?_ | refine DW.seq ?_ | refine DW.block ?_ | refine DW.skip ?_ | refine DW.exit ?_ | refine DW.condT rfl ?_ | refine DW.condF rfl ?_))
      cases hc : decide (e[k] < 0)
      · (repeat (first | refine RO.S ?_ | refine RO.Y ?_ | refine RO.no rfl (by decide) rfl ?_ | refine RO.nil ?_ | refine DW.region ?_ | refine DW.seq ?_ | refine DW.block ?_ | refine DW.skip ?_ | refine DW.exit ?_ | refine DW.condT rfl ?_ | refine DW.condF rfl ?_))
        refine DW.cond rfl (fun hb => ?_) (fun hb => ?_)
        · have hc1 : inE e[k] = false := by simp [inE]; simp at hb; omega
          have : monoCk r e = 3 := by
            unfold monoCk
            rw [if_pos h, if_neg]
            intro hh
            simp only [Bool.and_eq_true] at hh
            have := List.all_eq_true.1 hh.1 _ (List.getElem_mem hlt)
            rw [hc1] at this; cases this
          rw [this]
          (repeat (first | refine RO.S ?_ | refine RO.Y ?_ | refine RO.no rfl (by decide) rfl ?_ | refine RO.nil ?_ | refine DW.region ?_ | refine DW.seq ?_ | refine DW.block ?_ | refine DW.skip ?_ | refine DW.exit ?_ | refine DW.condT rfl ?_ | refine DW.condF rfl ?_))
          exact DW.ret ⟨.inl rfl, _, rfl, Over.refl _, .same _⟩
        · have hc1 : inE e[k] = true := by simp [inE]; simp at hb hc; omega
          have hc2 := inE_iff.1 hc1
          (repeat (first | refine RO.S ?_ | refine RO.Y ?_ | refine RO.no rfl (by decide) rfl ?_ | refine RO.nil ?_ | refine DW.region ?_ | refine DW.seq ?_ | refine DW.block ?_ | refine DW.skip ?_ | refine DW.exit ?_ | refine DW.condT rfl ?_ | refine DW.condF rfl ?_))
          rw [← sum_take_succ e hlt]
          refine ⟨k + 1, ⟨hlt, ?_⟩, by dsimp only; omega, rfl, rfl, rfl, rfl, rfl, trivial⟩
          rw [List.take_succ_eq_append_getElem hlt, List.all_append, ha]
          simp [hc1]
      · have hc1 : inE e[k] = false := by simp [inE]; simp at hc; omega
        have : monoCk r e = 3 := by
          unfold monoCk
          rw [if_pos h, if_neg]
          intro hh
          simp only [Bool.and_eq_true] at hh
          have := List.all_eq_true.1 hh.1 _ (List.getElem_mem hlt)
          rw [hc1] at this; cases this
        rw [this]
        (repeat (first | refine RO.S ?_ | refine RO.Y ?_ | refine RO.no rfl (by decide) rfl ?_ | refine RO.nil ?_ | refine DW.region ?_ | refine DW.seq ?_ | refine DW.block ?_ | refine DW.skip ?_ | refine DW.exit ?_ | refine DW.condT rfl ?_ | refine DW.condF rfl ?_))
        exact DW.ret ⟨.inl rfl, _, rfl, Over.refl _, .same _⟩
    · have hge : k = e.length := by have := of_decide_eq_false hb; omega
      subst hge
      rw [List.take_length] at ha
      (repeat (first | refine RO.S ?_ | refine RO.Y ?_ | refine RO.no rfl (by decide) rfl ?_ | refine RO.nil ?_ | refine DW.region ?_ | refine DW.seq ?_ | refine DW.block ?_ | refine DW.skip ?_ | refine DW.exit ?_ | refine DW.condT rfl ?_ | refine DW.condF rfl ?_))
      rw [List.take_length]
      refine DW.cond rfl (fun hb => ?_) (fun hb => ?_)
      · have : monoCk r e = 3 := by
          unfold monoCk
          rw [if_pos h, if_neg]
          rw [ha]; simp at hb ⊢; exact hb
        rw [this]
        (repeat (first | refine RO.S ?_ | refine RO.Y ?_ | refine RO.no rfl (by decide) rfl ?_ | refine RO.nil ?_ | refine DW.region ?_ | refine DW.seq ?_ | refine DW.block ?_ | refine DW.skip ?_ | refine DW.exit ?_ | refine DW.condT rfl ?_ | refine DW.condF rfl ?_))
        exact DW.ret ⟨.inl rfl, _, rfl, Over.refl _, .same _⟩
      · have : monoCk r e = 0 := by
          unfold monoCk
          rw [if_pos h, if_pos]
          rw [ha]; simp at hb ⊢; exact hb
        rw [this]
        (repeat (first | refine RO.S ?_ | refine RO.Y ?_ | refine RO.no rfl (by decide) rfl ?_ | refine RO.nil ?_ | refine DW.region ?_ | refine DW.seq ?_ | refine DW.block ?_ | refine DW.skip ?_ | refine DW.exit ?_ | refine DW.condT rfl ?_ | refine DW.condF rfl ?_))
        exact DW.ret ⟨.inl rfl, _, rfl, Over.refl _, .same _⟩

end Go.Proofs.YtcdihmhmoddppaaGreat

namespace Go.Proofs.YtcdihmhmoddppaaGreat
open Go.RowKit
set_option linter.unusedVariables false
set_option linter.unusedSimpArgs false
set_option maxHeartbeats 4000000

theorem CheckRing_pure (r : Rg) : Pure Tryz.prog 20 [rgD r] (I (ringCk r)) := by
  intro H
  refine PureH.of_body Tryz.func20 rfl (by decide) (Nat.le_of_ble_eq_true rfl) fun w0 => ?_
  (repeat (first | refine RO.S ?_ | refine RO.Y ?_ | refine RO.no rfl (by decide) rfl ?_ | refine RO.nil ?_ | refine DW.region ?_ | refine DW.seq ?_ | refine DW.block ?_ | refine DW.skip ?_ | refine DW.exit ?_ | refine DW.condT rfl ?_ | refine DW.condF rfl ?_))
  refine RO.sta (sta_call rfl rfl (checkPrime_pure _ _)) rfl ?_
  (repeat (first | refine RO.S ?_ | refine RO.Y ?_ | refine RO.no rfl (by decide) rfl ?_ | refine RO.nil ?_ | refine DW.region ?_ | refine DW.seq ?_ | refine DW.block ?_ | refine DW.skip ?_ | refine DW.exit ?_ | refine DW.condT rfl ?_ | refine DW.condF rfl ?_))
  refine DW.cond rfl (fun hb => ?_) (fun hb => ?_)
  · have h : ¬ ckP r.p = 0 := by simpa using hb
    have : ringCk r = ckP r.p := by unfold ringCk; rw [if_neg h]
    rw [this]
    (repeat (first | refine RO.S ?_ | refine RO.Y ?_ | refine RO.no rfl (by decide) rfl ?_ | refine RO.nil ?_ | refine DW.region ?_ | refine DW.seq ?_ | refine DW.block ?_ | refine DW.skip ?_ | refine DW.exit ?_ | refine DW.condT rfl ?_ | refine DW.condF rfl ?_))
    exact DW.ret ⟨.inl rfl, _, rfl, Over.refl _, .same _⟩
  · have h : ckP r.p = 0 := by simpa using hb
    (repeat (first | refine RO.S ?_ | refine RO.Y ?_ | refine RO.no rfl (by decide) rfl ?_ | refine RO.nil ?_ | refine DW.region ?_ | refine DW.seq ?_ | refine DW.block ?_ | refine DW.skip ?_ | refine DW.exit ?_ | refine DW.condT rfl ?_ | refine DW.condF rfl ?_))
    refine RO.sta (sta_call rfl rfl (between_pure _ _ _ _)) rfl ?_
    (repeat (first | refine RO.S ?_ | refine RO.Y ?_ | refine RO.no rfl (by decide) rfl ?_ | refine RO.nil ?_ | refine DW.region ?_ | refine DW.seq ?_ | refine DW.block ?_ | refine DW.skip ?_ | refine DW.exit ?_ | refine DW.condT rfl ?_ | refine DW.condF rfl ?_))
    refine DW.cond rfl (fun hb => ?_) (fun hb => ?_)
    · have : ringCk r = 3 := ringCk_3 h (by simp at hb; omega)
      rw [this]
      (repeat (first | refine RO.S ?_ | refine RO.Y ?_ | refine RO.no rfl (by decide) rfl ?_ | refine RO.nil ?_ | refine DW.region ?_ | refine DW.seq ?_ | refine DW.block ?_ | refine DW.skip ?_ | refine DW.exit ?_ | refine DW.condT rfl ?_ | refine DW.condF rfl ?_))
      exact DW.ret ⟨.inl rfl, _, rfl, Over.refl _, .same _⟩
    · have hn : 1 ≤ r.n ∧ r.n ≤ 3 := by simp at hb; omega
      (repeat (first | refine RO.S ?_ | refine RO.Y ?_ | refine RO.no rfl (by decide) rfl ?_ | refine RO.nil ?_ | refine DW.region ?_ | refine DW.seq ?_ | refine DW.block ?_ | refine DW.skip ?_ | refine DW.exit ?_ | refine DW.condT rfl ?_ | refine DW.condF rfl ?_))
      refine RO.sta (sta_call rfl rfl (between_pure _ _ _ _)) rfl ?_
      (repeat (first | refine RO.S ?_ | refine RO.Y ?_ | refine RO.no rfl (by decide) rfl ?_ | refine RO.nil ?_ | refine DW.region ?_ | refine DW.seq ?_ | refine DW.block ?_ | refine DW.skip ?_ | refine DW.exit ?_ | refine DW.condT rfl ?_ | refine DW.condF rfl ?_))
      cases hc : (decide (1 ≤ r.order) && decide (r.order ≤ 2))
      · rw [ringCk_6 h hn (by simp at hc; omega)]
        (repeat (first | refine RO.S ?_ | refine RO.Y ?_ | refine RO.no rfl (by decide) rfl ?_ | refine RO.nil ?_ | refine DW.region ?_ | refine DW.seq ?_ | refine DW.block ?_ | refine DW.skip ?_ | refine DW.exit ?_ | refine DW.condT rfl ?_ | refine DW.condF rfl ?_))
        exact DW.ret ⟨.inl rfl, _, rfl, Over.refl _, .same _⟩
      · (repeat (first | refine RO.S ?_ | refine RO.Y ?_ | refine RO.no rfl (by decide) rfl ?_ | refine RO.nil ?_ | refine DW.region ?_ | refine DW.seq ?_ | refine DW.block ?_ | refine DW.skip ?_ | refine DW.exit ?_ | refine DW.condT rfl ?_ | refine DW.condF rfl ?_))
        refine RO.yes rfl rfl (OpD.of_sta (sta_call rfl rfl (between_pure _ _ _ _)) ?_)
        (repeat (first | refine RO.S ?_ | refine RO.Y ?_ | refine RO.no rfl (by decide) rfl ?_ | refine RO.nil ?_ | refine DW.region ?_ | refine DW.seq ?_ | refine DW.block ?_ | refine DW.skip ?_ | refine DW.exit ?_ | refine DW.condT rfl ?_ | refine DW.condF rfl ?_))
        refine DW.cond rfl (fun hb => ?_) (fun hb => ?_)
        · rw [ringCk_6 h hn (by simp at hc hb; omega)]
          (repeat (first | refine RO.S ?_ | refine RO.Y ?_ | refine RO.no rfl (by decide) rfl ?_ | refine RO.nil ?_ | refine DW.region ?_ | refine DW.seq ?_ | refine DW.block ?_ | refine DW.skip ?_ | refine DW.exit ?_ | refine DW.condT rfl ?_ | refine DW.condF rfl ?_))
          exact DW.ret ⟨.inl rfl, _, rfl, Over.refl _, .same _⟩
        · rw [ringCk_0 h hn (by simp at hc hb; omega)]
          (repeat (first | refine RO.S ?_ | refine RO.Y ?_ | refine RO.no rfl (by decide) rfl ?_ | refine RO.nil ?_ | refine DW.region ?_ | refine DW.seq ?_ | refine DW.block ?_ | refine DW.skip ?_ | refine DW.exit ?_ | refine DW.condT rfl ?_ | refine DW.condF rfl ?_))
          exact DW.ret ⟨.inl rfl, _, rfl, Over.refl _, .same _⟩

theorem DegreeOf_pure {e : List Int} (h : MOk e) : Pure Tryz.prog 22 [intsD e] (I e.sum) := by
  intro H
  refine PureH.of_body Tryz.func22 rfl (by decide) (Nat.le_of_ble_eq_true rfl) fun w0 => ?_
  (repeat (first | refine RO.S ?_ | refine RO.Y ?_ | refine RO.no rfl (by decide) rfl ?_ | refine RO.nil ?_ | refine DW.region ?_ | refine DW.seq ?_ | refine DW.block ?_ | refine DW.skip ?_ | refine DW.exit ?_ | refine DW.condT rfl ?_ | refine DW.condF rfl ?_))
  refine DW.loopI (fun k : Nat => k ≤ e.length) (fun k => [(0, intsD e), (4, I k), (3, I (e.take k).sum)]) (fun _ => H) (fun k => e.length - k) 0 (Nat.zero_le _) rfl ⟨rfl, rfl, rfl, trivial⟩ fun k hk => ?_
  have hl := h.len
  have hs := (h.take k).sum
  (repeat (first | refine RO.S ?_ | refine RO.Y ?_ | refine RO.no rfl (by decide) rfl ?_ | refine RO.nil ?_ | refine DW.region ?_ | refine DW.seq ?_ | refine DW.block ?_ | refine DW.skip ?_ | refine DW.exit ?_ | refine DW.condT rfl ?_ | refine DW.condF rfl ?_))
  refine DW.cond rfl (fun hb => ?_) (fun hb => ?_)
  · have hlt : k < e.length := by have := of_decide_eq_true hb; omega
    have hx := h.at hlt
    (repeat (first | refine RO.S ?_ | refine RO.Y ?_ | refine RO.no rfl (by decide) rfl ?_ | refine RO.nil ?_ | refine DW.region ?_ | refine DW.seq ?_ | refine DW.block ?_ | refine DW.skip ?_ | refine DW.exit ?_ | refine DW.condT rfl ?_ | refine DW.condF rfl ?_))
    rw [← sum_take_succ e hlt]
    exact ⟨k + 1, hlt, by dsimp only; omega, rfl, rfl, rfl, rfl, trivial⟩
  · have hge : k = e.length := by have := of_decide_eq_false hb; omega
    subst hge
    (repeat (first | refine RO.S ?_ | refine RO.Y ?_ | refine RO.no rfl (by decide) rfl ?_ | refine RO.nil ?_ | refine DW.region ?_ | refine DW.seq ?_ | refine DW.block ?_ | refine DW.skip ?_ | refine DW.exit ?_ | refine DW.condT rfl ?_ | refine DW.condF rfl ?_))
    rw [List.take_length]
    exact DW.ret ⟨.inl rfl, _, rfl, Over.refl _, .same _⟩

theorem CheckMono_pure (r : Rg) (e : List Int) (hr : r.n ≤ 3) : Pure Tryz.prog 88 [rgD r, intsD e] (I (monoCk r e)) := by
  intro H
  refine PureH.of_body Tryz.func88 rfl (by decide) (Nat.le_of_ble_eq_true rfl) fun w0 => ?_
  (repeat (first | refine RO.S ?_ | refine RO.Y ?_ | refine RO.no rfl (by decide) rfl ?_ | refine RO.nil ?_ | refine DW.region ?_ | refine DW.seq ?_ | refine DW.block ?_ | refine DW.skip ?_ | refine DW.exit ?_ | refine DW.condT rfl ?_ | refine DW.condF rfl ?_))
  refine DW.cond rfl (fun hb => ?_) (fun hb => ?_)
  · have h : ¬ (e.length : Int) = r.n := by simp at hb; exact hb
    have : monoCk r e = 1 := by unfold monoCk; rw [if_neg h]
    rw [this]
    (repeat (first | refine RO.S ?_ | refine RO.Y ?_ | refine RO.no rfl (by decide) rfl ?_ | refine RO.nil ?_ | refine DW.region ?_ | refine DW.seq ?_ | refine DW.block ?_ | refine DW.skip ?_ | refine DW.exit ?_ | refine DW.condT rfl ?_ | refine DW.condF rfl ?_))
    exact DW.ret ⟨.inl rfl, _, rfl, Over.refl _, .same _⟩
  · have h : (e.length : Int) = r.n := by simp at hb; exact hb
    have hl : e.length ≤ 3 := by omega
    (repeat (first | refine RO.S ?_ | refine RO.Y ?_ | refine RO.no rfl (by decide) rfl ?_ | refine RO.nil ?_ | refine DW.region ?_ | refine DW.seq ?_ | refine DW.block ?_ | refine DW.skip ?_ | refine DW.exit ?_ | refine DW.condT rfl ?_ | refine DW.condF rfl ?_))
    refine DW.loopI (fun k : Nat => k ≤ e.length ∧ (e.take k).all inE = true) (fun k => [(1, intsD e), (5, I k)]) (fun _ => H) (fun k => e.length - k) 0 ⟨Nat.zero_le _, rfl⟩ rfl ⟨rfl, rfl, trivial⟩ fun k ⟨hk, ha⟩ => ?_
    (repeat (first | refine RO.S ?_ | refine RO.Y ?_ | refine RO.no rfl (by decide) rfl ?_ | refine RO.nil ?_ | refine DW.region ?_ | refine DW.seq ?_ | refine DW.block ?_ | refine DW.skip ?_ | refine DW.exit ?_ | refine DW.condT rfl ?_ | refine DW.condF rfl ?_))
    refine DW.cond rfl (fun hb => ?_) (fun hb => ?_)
    · have hlt : k < e.length := by have := of_decide_eq_true hb; omega
      (repeat (first | refine RO.S ?_ | refine RO.Y ?_ | refine RO.no rfl (by decide) rfl ?_ | refine RO.nil ?_ | refine DW.region ?_ | refine DW.seq ?_ | refine DW.block ?_ | refine DW.skip ?_ | refine DW.exit ?_ | refine DW.condT rfl ?_ | refine DW.condF rfl ?_))
      refine RO.sta (sta_call rfl rfl (between_pure _ _ _ _)) rfl ?_
      (repeat (first | refine RO.S ?_ | refine RO.Y ?_ | refine RO.no rfl (by decide) rfl ?_ | refine RO.nil ?_ | refine DW.region ?_ | refine DW.seq ?_ | refine DW.block ?_ | refine DW.skip ?_ | refine DW.exit ?_ | refine DW.condT rfl ?_ | refine DW.condF rfl ?_))
      refine DW.cond rfl (fun hb => ?_) (fun hb => ?_)
      · have hc1 : inE e[k] = false := by simp [inE]; simp at hb; omega
        have : monoCk r e = 3 := by
          unfold monoCk
          rw [if_pos h, if_neg]
          intro hh
          simp only [Bool.and_eq_true] at hh
          have := List.all_eq_true.1 hh.1 _ (List.getElem_mem hlt)
          rw [hc1] at this; cases this
        rw [this]
        (repeat (first | refine RO.S ?_ | refine RO.Y ?_ | refine RO.no rfl (by decide) rfl ?_ | refine RO.nil ?_ | refine DW.region ?_ | refine DW.seq ?_ | refine DW.block ?_ | refine DW.skip ?_ | refine DW.exit ?_ | refine DW.condT rfl ?_ | refine DW.condF rfl ?_))
        exact DW.ret ⟨.inl rfl, _, rfl, Over.refl _, .same _⟩
      · have hc1 : inE e[k] = true := by simpa [inE] using hb
        (repeat (first | refine RO.S ?_ | refine RO.Y ?_ | refine RO.no rfl (by decide) rfl ?_ | refine RO.nil ?_ | refine DW.region ?_ | refine DW.seq ?_ | refine DW.block ?_ | refine DW.skip ?_ | refine DW.exit ?_ | refine DW.condT rfl ?_ | refine DW.condF rfl ?_))
        refine ⟨k + 1, ⟨hlt, ?_⟩, by dsimp only; omega, rfl, rfl, rfl, trivial⟩
        rw [List.take_succ_eq_append_getElem hlt, List.all_append, ha]
        simp [hc1]
    · have hge : k = e.length := by have := of_decide_eq_false hb; omega
      subst hge
      rw [List.take_length] at ha
      have hok : MOk e := ⟨hl, fun x hx => by have := inE_iff.1 (List.all_eq_true.1 ha x hx); omega⟩
      (repeat (first | refine RO.S ?_ | refine RO.Y ?_ | refine RO.no rfl (by decide) rfl ?_ | refine RO.nil ?_ | refine DW.region ?_ | refine DW.seq ?_ | refine DW.block ?_ | refine DW.skip ?_ | refine DW.exit ?_ | refine DW.condT rfl ?_ | refine DW.condF rfl ?_))
      refine RO.sta (sta_call rfl rfl (DegreeOf_pure hok _)) rfl ?_
      (repeat (first | refine RO.S ?_ | refine RO.Y ?_ | refine RO.no rfl (by decide) rfl ?_ | refine RO.nil ?_ | refine DW.region ?_ | refine DW.seq ?_ | refine DW.block ?_ | refine DW.skip ?_ | refine DW.exit ?_ | refine DW.condT rfl ?_ | refine DW.condF rfl ?_))
      refine DW.cond rfl (fun hb => ?_) (fun hb => ?_)
      · have : monoCk r e = 3 := by
          unfold monoCk
          rw [if_pos h, if_neg]
          rw [ha]; simp at hb ⊢; exact hb
        rw [this]
        (repeat (first | refine RO.S ?_ | refine RO.Y ?_ | refine RO.no rfl (by decide) rfl ?_ | refine RO.nil ?_ | refine DW.region ?_ | refine DW.seq ?_ | refine DW.block ?_ | refine DW.skip ?_ | refine DW.exit ?_ | refine DW.condT rfl ?_ | refine DW.condF rfl ?_))
        exact DW.ret ⟨.inl rfl, _, rfl, Over.refl _, .same _⟩
      · have : monoCk r e = 0 := by
          unfold monoCk
          rw [if_pos h, if_pos]
          rw [ha]; simp at hb ⊢; exact hb
        rw [this]
        (repeat (first | refine RO.S ?_ | refine RO.Y ?_ | refine RO.no rfl (by decide) rfl ?_ | refine RO.nil ?_ | refine DW.region ?_ | refine DW.seq ?_ | refine DW.block ?_ | refine DW.skip ?_ | refine DW.exit ?_ | refine DW.condT rfl ?_ | refine DW.condF rfl ?_))
        exact DW.ret ⟨.inl rfl, _, rfl, Over.refl _, .same _⟩

theorem GoesInto_pure {a b : List Int} (hab : a.length = b.length) (hl : a.length ≤ 1000000) : Pure Tryz.prog 91 [intsD b, intsD a] (.bool (goesM a b)) := by
  intro H
  refine PureH.of_body Tryz.func91 rfl (by decide) (Nat.le_of_ble_eq_true rfl) fun w0 => ?_
  (repeat (first | refine RO.S ?_ | refine RO.Y ?_ | refine RO.no rfl (by decide) rfl ?_ | refine RO.nil ?_ | refine DW.region ?_ | refine DW.seq ?_ | refine DW.block ?_ | refine DW.skip ?_ | refine DW.exit ?_ | refine DW.condT rfl ?_ | refine DW.condF rfl ?_))
  refine DW.loopI (fun k : Nat => k ≤ a.length ∧ goesM (a.drop k) (b.drop k) = goesM a b) (fun k => [(0, intsD b), (1, intsD a), (5, I k)]) (fun _ => H) (fun k => a.length - k) 0 ⟨Nat.zero_le _, rfl⟩ rfl ⟨rfl, rfl, rfl, trivial⟩ fun k ⟨hk, hg⟩ => ?_
  (repeat (first | refine RO.S ?_ | refine RO.Y ?_ | refine RO.no rfl (by decide) rfl ?_ | refine RO.nil ?_ | refine DW.region ?_ | refine DW.seq ?_ | refine DW.block ?_ | refine DW.skip ?_ | refine DW.exit ?_ | refine DW.condT rfl ?_ | refine DW.condF rfl ?_))
  refine DW.cond rfl (fun hb => ?_) (fun hb => ?_)
  · have hlt : k < a.length := by have := of_decide_eq_true hb; omega
    have hlt2 : k < b.length := by omega
    rw [goesM_drop hlt hlt2] at hg
    (repeat (first | refine RO.S ?_ | refine RO.Y ?_ | refine RO.no rfl (by decide) rfl ?_ | refine RO.nil ?_ | refine DW.region ?_ | refine DW.seq ?_ | refine DW.block ?_ | refine DW.skip ?_ | refine DW.exit ?_ | refine DW.condT rfl ?_ | refine DW.condF rfl ?_))
    refine DW.drawS 9 Tryz.mixed (by kernel_rfl) (by decide) ?_
    dsimp only [List.take, List.drop]
    (repeat (first | refine RS.S ?_ | refine RS.Y ?_ | refine RS.no rfl (by decide) rfl ?_ | refine RS.nil ?_))
    (repeat (first | refine RO.S ?_ | refine RO.Y ?_ | refine RO.no rfl (by decide) rfl ?_ | refine RO.nil ?_ | refine DW.region ?_ | refine DW.seq ?_ | refine DW.block ?_ | refine DW.skip ?_ | refine DW.exit ?_ | refine DW.condT rfl ?_ | refine DW.condF rfl ?_))
    refine DW.cond rfl (fun hb => ?_) (fun hb => ?_)
    · have hc : b[k] > a[k] := of_decide_eq_true hb
      rw [if_pos hc] at hg
      rw [← hg]
      (repeat (first | refine RO.S ?_ | refine RO.Y ?_ | refine RO.no rfl (by decide) rfl ?_ | refine RO.nil ?_ | refine DW.region ?_ | refine DW.seq ?_ | refine DW.block ?_ | refine DW.skip ?_ | refine DW.exit ?_ | refine DW.condT rfl ?_ | refine DW.condF rfl ?_))
      exact DW.ret ⟨.inl rfl, _, rfl, Over.refl _, .same _⟩
    · have hc : ¬ b[k] > a[k] := of_decide_eq_false hb
      rw [if_neg hc] at hg
      (repeat (first | refine RO.S ?_ | refine RO.Y ?_ | refine RO.no rfl (by decide) rfl ?_ | refine RO.nil ?_ | refine DW.region ?_ | refine DW.seq ?_ | refine DW.block ?_ | refine DW.skip ?_ | refine DW.exit ?_ | refine DW.condT rfl ?_ | refine DW.condF rfl ?_))
      exact ⟨k + 1, ⟨hlt, hg⟩, by dsimp only; omega, rfl, rfl, rfl, rfl, trivial⟩
  · have hge : k = a.length := by have := of_decide_eq_false hb; omega
    subst hge
    have : goesM a b = true := by rw [← hg]; simp [goesM]
    rw [this]
    (repeat (first | refine RO.S ?_ | refine RO.Y ?_ | refine RO.no rfl (by decide) rfl ?_ | refine RO.nil ?_ | refine DW.region ?_ | refine DW.seq ?_ | refine DW.block ?_ | refine DW.skip ?_ | refine DW.exit ?_ | refine DW.condT rfl ?_ | refine DW.condF rfl ?_))
    exact DW.ret ⟨.inl rfl, _, rfl, Over.refl _, .same _⟩

theorem SameInts_pure (a b : List Int) (hl : a.length ≤ 1000000000000000000) : Pure Tryz.prog 90 [intsD a, intsD b] (.bool (a == b)) := by
  intro H
  refine PureH.of_body Tryz.func90 rfl (by decide) (Nat.le_of_ble_eq_true rfl) fun w0 => ?_
  (repeat (first | refine RO.S ?_ | refine RO.Y ?_ | refine RO.no rfl (by decide) rfl ?_ | refine RO.nil ?_ | refine DW.region ?_ | refine DW.seq ?_ | refine DW.block ?_ | refine DW.skip ?_ | refine DW.exit ?_ | refine DW.condT rfl ?_ | refine DW.condF rfl ?_))
  refine DW.cond rfl (fun hb => ?_) (fun hb => ?_)
  · have h : a.length ≠ b.length := by simp at hb; omega
    have : (a == b) = false := by
      rw [beq_eq_false_iff_ne]
      intro hh
      rw [hh] at h
      exact h rfl
    rw [this]
    (repeat (first | refine RO.S ?_ | refine RO.Y ?_ | refine RO.no rfl (by decide) rfl ?_ | refine RO.nil ?_ | refine DW.region ?_ | refine DW.seq ?_ | refine DW.block ?_ | refine DW.skip ?_ | refine DW.exit ?_ | refine DW.condT rfl ?_ | refine DW.condF rfl ?_))
    exact DW.ret ⟨.inl rfl, _, rfl, Over.refl _, .same _⟩
  · have h : a.length = b.length := by simp at hb; omega
    (repeat (first | refine RO.S ?_ | refine RO.Y ?_ | refine RO.no rfl (by decide) rfl ?_ | refine RO.nil ?_ | refine DW.region ?_ | refine DW.seq ?_ | refine DW.block ?_ | refine DW.skip ?_ | refine DW.exit ?_ | refine DW.condT rfl ?_ | refine DW.condF rfl ?_))
    refine DW.loopI (fun k : Nat => k ≤ a.length ∧ a.take k = b.take k) (fun k => [(0, intsD a), (1, intsD b), (5, I k)]) (fun _ => H) (fun k => a.length - k) 0 ⟨Nat.zero_le _, rfl⟩ rfl ⟨rfl, rfl, rfl, trivial⟩ fun k ⟨hk, hg⟩ => ?_
    (repeat (first | refine RO.S ?_ | refine RO.Y ?_ | refine RO.no rfl (by decide) rfl ?_ | refine RO.nil ?_ | refine DW.region ?_ | refine DW.seq ?_ | refine DW.block ?_ | refine DW.skip ?_ | refine DW.exit ?_ | refine DW.condT rfl ?_ | refine DW.condF rfl ?_))
    refine DW.cond rfl (fun hb => ?_) (fun hb => ?_)
    · have hlt : k < a.length := by have := of_decide_eq_true hb; omega
      have hlt2 : k < b.length := by omega
      (repeat (first | refine RO.S ?_ | refine RO.Y ?_ | refine RO.no rfl (by decide) rfl ?_ | refine RO.nil ?_ | refine DW.region ?_ | refine DW.seq ?_ | refine DW.block ?_ | refine DW.skip ?_ | refine DW.exit ?_ | refine DW.condT rfl ?_ | refine DW.condF rfl ?_))
      refine DW.drawS 9 Tryz.mixed (by kernel_rfl) (by decide) ?_
      dsimp only [List.take, List.drop]
      (repeat (first | refine RS.S ?_ | refine RS.Y ?_ | refine RS.no rfl (by decide) rfl ?_ | refine RS.nil ?_))
      (repeat (first | refine RO.S ?_ | refine RO.Y ?_ | refine RO.no rfl (by decide) rfl ?_ | refine RO.nil ?_ | refine DW.region ?_ | refine DW.seq ?_ | refine DW.block ?_ | refine DW.skip ?_ | refine DW.exit ?_ | refine DW.condT rfl ?_ | refine DW.condF rfl ?_))
      refine DW.cond rfl (fun hb => ?_) (fun hb => ?_)
      · have hc : a[k] ≠ b[k] := by simpa using hb
        have : (a == b) = false := by
          rw [beq_eq_false_iff_ne]
          intro hh
          subst hh
          exact hc rfl
        rw [this]
        (repeat (first | refine RO.S ?_ | refine RO.Y ?_ | refine RO.no rfl (by decide) rfl ?_ | refine RO.nil ?_ | refine DW.region ?_ | refine DW.seq ?_ | refine DW.block ?_ | refine DW.skip ?_ | refine DW.exit ?_ | refine DW.condT rfl ?_ | refine DW.condF rfl ?_))
        exact DW.ret ⟨.inl rfl, _, rfl, Over.refl _, .same _⟩
      · have hc : a[k] = b[k] := by simpa using hb
        (repeat (first | refine RO.S ?_ | refine RO.Y ?_ | refine RO.no rfl (by decide) rfl ?_ | refine RO.nil ?_ | refine DW.region ?_ | refine DW.seq ?_ | refine DW.block ?_ | refine DW.skip ?_ | refine DW.exit ?_ | refine DW.condT rfl ?_ | refine DW.condF rfl ?_))
        refine ⟨k + 1, ⟨hlt, ?_⟩, by dsimp only; omega, rfl, rfl, rfl, rfl, trivial⟩
        rw [List.take_succ_eq_append_getElem hlt, List.take_succ_eq_append_getElem hlt2, hg, hc]
    · have hge : k = a.length := by have := of_decide_eq_false hb; omega
      subst hge
      rw [List.take_length, h, List.take_length] at hg
      have : (a == b) = true := by rw [hg]; simp
      rw [this]
      (repeat (first | refine RO.S ?_ | refine RO.Y ?_ | refine RO.no rfl (by decide) rfl ?_ | refine RO.nil ?_ | refine DW.region ?_ | refine DW.seq ?_ | refine DW.block ?_ | refine DW.skip ?_ | refine DW.exit ?_ | refine DW.condT rfl ?_ | refine DW.condF rfl ?_))
      exact DW.ret ⟨.inl rfl, _, rfl, Over.refl _, .same _⟩

end Go.Proofs.YtcdihmhmoddppaaGreat
