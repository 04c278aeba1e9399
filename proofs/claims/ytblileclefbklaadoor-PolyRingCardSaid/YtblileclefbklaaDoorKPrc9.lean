/-
  Monomials: the plain law: what their calls answer, and the order. No condition.
-/
import Derived.Test.YtblileclefbklaaDoorKPrc6

namespace Go.Proofs.YtblileclefbklaaDoor
open Go.RowKit
set_option linter.unusedVariables false
set_option linter.unusedSimpArgs false

theorem within_pure (n lo hi : Int) : Pure Tryd.prog 59 [I n, I lo, I hi] (.bool (decide (lo ≤ n) && decide (n ≤ hi))) := by
  intro H
  refine PureH.of_body Tryd.func59 rfl (by decide) (Nat.le_of_ble_eq_true rfl) fun w0 => ?_
  (repeat (first | refine RO.S ?_ | refine RO.Y ?_ | refine RO.no rfl (by decide) rfl ?_ | refine RO.nil ?_ | refine DW.region ?_ | refine DW.seq ?_ | refine DW.block ?_ | refine DW.skip ?_ | refine DW.exit ?_ | refine DW.condT rfl ?_ | refine DW.condF rfl ?_))
  generalize decide (lo ≤ n) = b
  cases b <;> ((repeat (first | refine RO.S ?_ | refine RO.Y ?_ | refine RO.no rfl (by decide) rfl ?_ | refine RO.nil ?_ | refine DW.region ?_ | refine DW.seq ?_ | refine DW.block ?_ | refine DW.skip ?_ | refine DW.exit ?_ | refine DW.condT rfl ?_ | refine DW.condF rfl ?_))) <;> exact DW.ret ⟨.inl rfl, _, rfl, Over.refl _, .same _⟩

theorem between_pure (n lo hi : Int) : Pure Tryd.prog 41 [I n, I lo, I hi] (.bool (decide (lo ≤ n) && decide (n ≤ hi))) := by
  intro H
  refine PureH.of_body Tryd.func41 rfl (by decide) (Nat.le_of_ble_eq_true rfl) fun w0 => ?_
  (repeat (first | refine RO.S ?_ | refine RO.Y ?_ | refine RO.no rfl (by decide) rfl ?_ | refine RO.nil ?_ | refine DW.region ?_ | refine DW.seq ?_ | refine DW.block ?_ | refine DW.skip ?_ | refine DW.exit ?_ | refine DW.condT rfl ?_ | refine DW.condF rfl ?_))
  generalize decide (lo ≤ n) = b
  cases b <;> ((repeat (first | refine RO.S ?_ | refine RO.Y ?_ | refine RO.no rfl (by decide) rfl ?_ | refine RO.nil ?_ | refine DW.region ?_ | refine DW.seq ?_ | refine DW.block ?_ | refine DW.skip ?_ | refine DW.exit ?_ | refine DW.condT rfl ?_ | refine DW.condF rfl ?_))) <;> exact DW.ret ⟨.inl rfl, _, rfl, Over.refl _, .same _⟩

/-- Where the first one is that is so; -1: nowhere. -/
def idxD {α : Type} (g : α → Bool) (l : List α) : Int :=
  match l.findIdx? g with
  | some i => i
  | none => -1

theorem idxD_at {α : Type} {g : α → Bool} {l : List α} {k : Nat} (hk : k < l.length) (h1 : ∀ (j : Nat) (hj : j < l.length), j < k → g l[j] = false) (h2 : g l[k] = true) : idxD g l = k := by
  have : l.findIdx? g = some k := by
    rw [List.findIdx?_eq_some_iff_getElem]
    exact ⟨hk, h2, fun j hj => by rw [h1 j (by omega) hj]; simp⟩
  simp [idxD, this]

theorem idxD_none {α : Type} {g : α → Bool} {l : List α} (h : ∀ (j : Nat) (hj : j < l.length), g l[j] = false) : idxD g l = -1 := by
  have : l.findIdx? g = none := by
    rw [List.findIdx?_eq_none_iff]
    intro x hx
    obtain ⟨j, hj, rfl⟩ := List.mem_iff_getElem.1 hx
    exact h j hj
  simp [idxD, this]

theorem indexFunc_int {H : Heap} {f : FuncId} {caps : List D} (l : List Int) (g : Int → Bool) (hl : l.length ≤ 4611686018427387904) (hg : ∀ x, x ∈ l → PureH Tryd.prog H f (I x :: caps) (.bool (g x))) :
    PureH Tryd.prog H 75 [intsD l, .fn f caps] (I (idxD g l)) := by
  refine PureH.of_body Tryd.func75 rfl (by decide) (Nat.le_of_ble_eq_true rfl) fun w0 => ?_
  (repeat (first | refine RO.S ?_ | refine RO.Y ?_ | refine RO.no rfl (by decide) rfl ?_ | refine RO.nil ?_ | refine DW.region ?_ | refine DW.seq ?_ | refine DW.block ?_ | refine DW.skip ?_ | refine DW.exit ?_ | refine DW.condT rfl ?_ | refine DW.condF rfl ?_))
  refine DW.loopI (fun k : Nat => k ≤ l.length ∧ ∀ (j : Nat) (hj : j < l.length), j < k → g l[j] = false) (fun k => [(0, intsD l), (1, .fn f caps), (7, I l.length), (8, I k)]) (fun _ => H) (fun k => l.length - k) 0 ⟨Nat.zero_le _, fun j hj h => by omega⟩ rfl ⟨rfl, rfl, rfl, rfl, trivial⟩ fun k ⟨hk, hk2⟩ => ?_
  (repeat (first | refine RO.S ?_ | refine RO.Y ?_ | refine RO.no rfl (by decide) rfl ?_ | refine RO.nil ?_ | refine DW.region ?_ | refine DW.seq ?_ | refine DW.block ?_ | refine DW.skip ?_ | refine DW.exit ?_ | refine DW.condT rfl ?_ | refine DW.condF rfl ?_))
  refine DW.cond rfl (fun hb => ?_) (fun hb => ?_)
  · have hlt : k < l.length := by have := of_decide_eq_true hb; omega
    (repeat (first | refine RO.S ?_ | refine RO.Y ?_ | refine RO.no rfl (by decide) rfl ?_ | refine RO.nil ?_ | refine DW.region ?_ | refine DW.seq ?_ | refine DW.block ?_ | refine DW.skip ?_ | refine DW.exit ?_ | refine DW.condT rfl ?_ | refine DW.condF rfl ?_))
    refine RO.sta (sta_call rfl rfl (hg _ (List.getElem_mem hlt))) rfl ?_
    (repeat (first | refine RO.S ?_ | refine RO.Y ?_ | refine RO.no rfl (by decide) rfl ?_ | refine RO.nil ?_ | refine DW.region ?_ | refine DW.seq ?_ | refine DW.block ?_ | refine DW.skip ?_ | refine DW.exit ?_ | refine DW.condT rfl ?_ | refine DW.condF rfl ?_))
    refine DW.cond rfl (fun hb => ?_) (fun hb => ?_)
    · (repeat (first | refine RO.S ?_ | refine RO.Y ?_ | refine RO.no rfl (by decide) rfl ?_ | refine RO.nil ?_ | refine DW.region ?_ | refine DW.seq ?_ | refine DW.block ?_ | refine DW.skip ?_ | refine DW.exit ?_ | refine DW.condT rfl ?_ | refine DW.condF rfl ?_))
      rw [idxD_at hlt hk2 hb]
      exact DW.ret ⟨.inl rfl, _, rfl, Over.refl _, .same _⟩
    · (repeat (first | refine RO.S ?_ | refine RO.Y ?_ | refine RO.no rfl (by decide) rfl ?_ | refine RO.nil ?_ | refine DW.region ?_ | refine DW.seq ?_ | refine DW.block ?_ | refine DW.skip ?_ | refine DW.exit ?_ | refine DW.condT rfl ?_ | refine DW.condF rfl ?_))
      refine ⟨k + 1, ⟨by omega, fun j hj hjk => ?_⟩, by dsimp only; omega, rfl, rfl, rfl, rfl, rfl, trivial⟩
      by_cases h : j = k
      · subst h; exact hb
      · exact hk2 j hj (by omega)
  · (repeat (first | refine RO.S ?_ | refine RO.Y ?_ | refine RO.no rfl (by decide) rfl ?_ | refine RO.nil ?_ | refine DW.region ?_ | refine DW.seq ?_ | refine DW.block ?_ | refine DW.skip ?_ | refine DW.exit ?_ | refine DW.condT rfl ?_ | refine DW.condF rfl ?_))
    have hn : ¬ k < l.length := by have := of_decide_eq_false hb; omega
    rw [idxD_none fun j hj => hk2 j hj (by omega)]
    exact DW.ret ⟨.inl rfl, _, rfl, Over.refl _, .same _⟩

theorem containsFunc_int {H : Heap} {f : FuncId} {caps : List D} (l : List Int) (g : Int → Bool) (hl : l.length ≤ 4611686018427387904) (hg : ∀ x, x ∈ l → PureH Tryd.prog H f (I x :: caps) (.bool (g x))) :
    PureH Tryd.prog H 57 [intsD l, .fn f caps] (.bool (l.any g)) := by
  refine PureH.of_body Tryd.func57 rfl (by decide) (Nat.le_of_ble_eq_true rfl) fun w0 => ?_
  (repeat (first | refine RO.S ?_ | refine RO.Y ?_ | refine RO.no rfl (by decide) rfl ?_ | refine RO.nil ?_ | refine DW.region ?_ | refine DW.seq ?_ | refine DW.block ?_ | refine DW.skip ?_ | refine DW.exit ?_ | refine DW.condT rfl ?_ | refine DW.condF rfl ?_))
  refine RO.sta (sta_call rfl rfl (indexFunc_int l g hl hg)) rfl ?_
  (repeat (first | refine RO.S ?_ | refine RO.Y ?_ | refine RO.no rfl (by decide) rfl ?_ | refine RO.nil ?_ | refine DW.region ?_ | refine DW.seq ?_ | refine DW.block ?_ | refine DW.skip ?_ | refine DW.exit ?_ | refine DW.condT rfl ?_ | refine DW.condF rfl ?_))
  have h : decide (0 ≤ idxD g l) = l.any g := by
    unfold idxD
    cases hx : l.findIdx? g with
    | none =>
      rw [List.findIdx?_eq_none_iff] at hx
      have : l.any g = false := by rw [List.any_eq_false]; intro x hm; simp [hx x hm]
      rw [this]; rfl
    | some i =>
      rw [List.findIdx?_eq_some_iff_getElem] at hx
      obtain ⟨h1, h2, _⟩ := hx
      have : l.any g = true := List.any_eq_true.2 ⟨_, List.getElem_mem h1, h2⟩
      rw [this]
      show decide (0 ≤ (i : Int)) = true
      exact decide_eq_true (by omega)
  rw [← h]
  exact DW.ret ⟨.inl rfl, _, rfl, Over.refl _, .same _⟩

theorem inLit_pure (p n : Int) (hp : -9223372036854775808 ≤ p - 1) (hp2 : p ≤ 9223372036854775807) : Pure Tryd.prog 58 [I n, .ipt 1 [I p] 0 0] (.bool (!(decide (0 ≤ n) && decide (n ≤ p - 1)))) := by
  intro H
  refine PureH.of_body Tryd.func58 rfl (by decide) (Nat.le_of_ble_eq_true rfl) fun w0 => ?_
  (repeat (first | refine RO.S ?_ | refine RO.Y ?_ | refine RO.no rfl (by decide) rfl ?_ | refine RO.nil ?_ | refine DW.region ?_ | refine DW.seq ?_ | refine DW.block ?_ | refine DW.skip ?_ | refine DW.exit ?_ | refine DW.condT rfl ?_ | refine DW.condF rfl ?_))
  refine RO.sta (sta_call rfl rfl (within_pure _ _ _ _)) rfl ?_
  (repeat (first | refine RO.S ?_ | refine RO.Y ?_ | refine RO.no rfl (by decide) rfl ?_ | refine RO.nil ?_ | refine DW.region ?_ | refine DW.seq ?_ | refine DW.block ?_ | refine DW.skip ?_ | refine DW.exit ?_ | refine DW.condT rfl ?_ | refine DW.condF rfl ?_))
  exact DW.ret ⟨.inl rfl, _, rfl, Over.refl _, .same _⟩

/-- Is a number one modulo p? -/
def inP (p n : Int) : Bool := decide (0 ≤ n) && decide (n ≤ p - 1)

theorem In_pure (p : Int) (l : List Int) (hp : -9223372036854775808 ≤ p - 1) (hp2 : p ≤ 9223372036854775807) (hl : l.length ≤ 4611686018427387904) : Pure Tryd.prog 35 [I p, intsD l] (.bool (l.all (inP p))) := by
  intro H
  refine PureH.of_body Tryd.func35 rfl (by decide) (Nat.le_of_ble_eq_true rfl) fun w0 => ?_
  (repeat (first | refine RO.S ?_ | refine RO.Y ?_ | refine RO.no rfl (by decide) rfl ?_ | refine RO.nil ?_ | refine DW.region ?_ | refine DW.seq ?_ | refine DW.block ?_ | refine DW.skip ?_ | refine DW.exit ?_ | refine DW.condT rfl ?_ | refine DW.condF rfl ?_))
  refine RO.sta (sta_call rfl rfl (containsFunc_int l (fun n => !(inP p n)) hl (fun x _ => inLit_pure p x hp hp2 _))) rfl ?_
  (repeat (first | refine RO.S ?_ | refine RO.Y ?_ | refine RO.no rfl (by decide) rfl ?_ | refine RO.nil ?_ | refine DW.region ?_ | refine DW.seq ?_ | refine DW.block ?_ | refine DW.skip ?_ | refine DW.exit ?_ | refine DW.condT rfl ?_ | refine DW.condF rfl ?_))
  have h : (!(l.any fun n => !(inP p n))) = l.all (inP p) := by rw [List.not_any_eq_all_not]; simp
  rw [h]
  exact DW.ret ⟨.inl rfl, _, rfl, Over.refl _, .same _⟩

/-- Has a number a divisor? -/
def hasDiv (p : Int) : Bool := (List.range (p.toNat - 2)).any fun i => p % ((i : Int) + 2) == 0

/-- What is wrong with a prime. -/
def ckP (p : Int) : Int := if decide (2 ≤ p) && decide (p ≤ 101) then (if hasDiv p then 4 else 0) else 3

theorem hasDiv_of {p d : Int} (hd : 2 ≤ d) (hp : d < p) (h : p % d = 0) : hasDiv p = true := by
  unfold hasDiv
  rw [List.any_eq_true]
  refine ⟨(d - 2).toNat, by rw [List.mem_range]; omega, ?_⟩
  have : (((d - 2).toNat : Nat) : Int) + 2 = d := by omega
  rw [this, h]
  rfl

theorem hasDiv_not {p : Int} (h : ∀ d, 2 ≤ d → d < p → p % d ≠ 0) : hasDiv p = false := by
  unfold hasDiv
  rw [List.any_eq_false]
  intro i hi
  rw [List.mem_range] at hi
  have := h (i + 2) (by omega) (by omega)
  simpa using this

theorem div_small {p d : Int} (h2 : 2 ≤ d) (hp : d < p) (h : p % d = 0) : ∃ c, 2 ≤ c ∧ c * c ≤ p ∧ p % c = 0 := by
  have hm : d * (p / d) = p := by have := Int.mul_ediv_add_emod p d; omega
  have hq : 2 ≤ p / d := by
    by_cases h' : p / d < 2
    · have : p / d ≤ 1 := by omega
      have : d * (p / d) ≤ d * 1 := Int.mul_le_mul_of_nonneg_left this (by omega)
      omega
    · omega
  by_cases hdd : d * d ≤ p
  · exact ⟨d, h2, hdd, h⟩
  · refine ⟨p / d, hq, ?_, ?_⟩
    · have hle : p / d ≤ d := by
        by_cases h' : d < p / d
        · have : d * d ≤ d * (p / d) := Int.mul_le_mul_of_nonneg_left (by omega) (by omega)
          omega
        · omega
      calc p / d * (p / d) ≤ d * (p / d) := Int.mul_le_mul_of_nonneg_right hle (by omega)
        _ = p := hm
    · have : p = (p / d) * d := by rw [Int.mul_comm]; exact hm.symm
      rw [this]
      have hne : p / d ≠ 0 := by omega
      rw [Int.mul_ediv_cancel _ (by omega), Int.mul_emod_right]

theorem check_pure (p : Int) : Pure Tryd.prog 50 [I p] (I (ckP p)) := by
  intro H
  refine PureH.of_body Tryd.func50 rfl (by decide) (Nat.le_of_ble_eq_true rfl) fun w0 => ?_
  (repeat (first | refine RO.S ?_ | refine RO.Y ?_ | refine RO.no rfl (by decide) rfl ?_ | refine RO.nil ?_ | refine DW.region ?_ | refine DW.seq ?_ | refine DW.block ?_ | refine DW.skip ?_ | refine DW.exit ?_ | refine DW.condT rfl ?_ | refine DW.condF rfl ?_))
  refine RO.sta (sta_call rfl rfl (within_pure _ _ _ _)) rfl ?_
  (repeat (first | refine RO.S ?_ | refine RO.Y ?_ | refine RO.no rfl (by decide) rfl ?_ | refine RO.nil ?_ | refine DW.region ?_ | refine DW.seq ?_ | refine DW.block ?_ | refine DW.skip ?_ | refine DW.exit ?_ | refine DW.condT rfl ?_ | refine DW.condF rfl ?_))
  cases hb : (decide (2 ≤ p) && decide (p ≤ 101))
  · have hc : ckP p = 3 := by unfold ckP; rw [hb]; rfl
    rw [hc]
    (repeat (first | refine RO.S ?_ | refine RO.Y ?_ | refine RO.no rfl (by decide) rfl ?_ | refine RO.nil ?_ | refine DW.region ?_ | refine DW.seq ?_ | refine DW.block ?_ | refine DW.skip ?_ | refine DW.exit ?_ | refine DW.condT rfl ?_ | refine DW.condF rfl ?_))
    exact DW.ret ⟨.inl rfl, _, rfl, Over.refl _, .same _⟩
  · have h2 : 2 ≤ p ∧ p ≤ 101 := by simpa using hb
    (repeat (first | refine RO.S ?_ | refine RO.Y ?_ | refine RO.no rfl (by decide) rfl ?_ | refine RO.nil ?_ | refine DW.region ?_ | refine DW.seq ?_ | refine DW.block ?_ | refine DW.skip ?_ | refine DW.exit ?_ | refine DW.condT rfl ?_ | refine DW.condF rfl ?_))
    refine DW.loopI (fun d : Int => 2 ≤ d ∧ d ≤ 102 ∧ ∀ c, 2 ≤ c → c < d → p % c ≠ 0) (fun d => [(0, I p), (3, I d)]) (fun _ => H) (fun d => (102 - d).toNat) 2 ⟨by omega, by omega, fun c h1 h2 => by omega⟩ rfl ⟨rfl, rfl, trivial⟩ fun d ⟨hd, hd3, hd2⟩ => ?_
    have hdd : 0 ≤ d * d := Int.mul_nonneg (by omega) (by omega)
    have hdd2 : d * d ≤ 102 * 102 := Int.mul_le_mul hd3 hd3 (by omega) (by omega)
    have hdd3 : d ≤ d * d := by
      have : d * 1 ≤ d * d := Int.mul_le_mul_of_nonneg_left (by omega) (by omega)
      omega
    (repeat (first | refine RO.S ?_ | refine RO.Y ?_ | refine RO.no rfl (by decide) rfl ?_ | refine RO.nil ?_ | refine DW.region ?_ | refine DW.seq ?_ | refine DW.block ?_ | refine DW.skip ?_ | refine DW.exit ?_ | refine DW.condT rfl ?_ | refine DW.condF rfl ?_))
    refine DW.cond rfl (fun hb => ?_) (fun hb => ?_)
    · have hlt : d * d ≤ p := of_decide_eq_true hb
      have hdp : d < p := by
        have : d * 2 ≤ d * d := Int.mul_le_mul_of_nonneg_left (by omega) (by omega)
        omega
      (repeat (first | refine RO.S ?_ | refine RO.Y ?_ | refine RO.no rfl (by decide) rfl ?_ | refine RO.nil ?_ | refine DW.region ?_ | refine DW.seq ?_ | refine DW.block ?_ | refine DW.skip ?_ | refine DW.exit ?_ | refine DW.condT rfl ?_ | refine DW.condF rfl ?_))
      (repeat (first | refine RO.S ?_ | refine RO.Y ?_ | refine RO.no rfl (by decide) rfl ?_ | refine RO.nil ?_ | refine DW.region ?_ | refine DW.seq ?_ | refine DW.block ?_ | refine DW.skip ?_ | refine DW.exit ?_ | refine DW.condT rfl ?_ | refine DW.condF rfl ?_))
      refine DW.cond rfl (fun hb => ?_) (fun hb => ?_)
      · have hm : p % d = 0 := by simpa using hb
        have hc : ckP p = 4 := by unfold ckP; rw [if_pos (by simpa using h2), if_pos (hasDiv_of hd hdp hm)]
        rw [hc]
        (repeat (first | refine RO.S ?_ | refine RO.Y ?_ | refine RO.no rfl (by decide) rfl ?_ | refine RO.nil ?_ | refine DW.region ?_ | refine DW.seq ?_ | refine DW.block ?_ | refine DW.skip ?_ | refine DW.exit ?_ | refine DW.condT rfl ?_ | refine DW.condF rfl ?_))
        exact DW.ret ⟨.inl rfl, _, rfl, Over.refl _, .same _⟩
      · have hm : p % d ≠ 0 := by simpa using hb
        (repeat (first | refine RO.S ?_ | refine RO.Y ?_ | refine RO.no rfl (by decide) rfl ?_ | refine RO.nil ?_ | refine DW.region ?_ | refine DW.seq ?_ | refine DW.block ?_ | refine DW.skip ?_ | refine DW.exit ?_ | refine DW.condT rfl ?_ | refine DW.condF rfl ?_))
        refine ⟨d + 1, ⟨by omega, by omega, fun c h1 h2 => ?_⟩, by dsimp only; omega, rfl, rfl, rfl, trivial⟩
        by_cases h : c = d
        · rw [h]; exact hm
        · exact hd2 c h1 (by omega)
    · have hge : ¬ d * d ≤ p := of_decide_eq_false hb
      have hc : ckP p = 0 := by
        unfold ckP
        rw [if_pos (by simpa using h2)]
        have : hasDiv p = false := hasDiv_not fun c h1 h2 h3 => by
          obtain ⟨b, hb1, hb2, hb3⟩ := div_small h1 h2 h3
          have hbd : b < d := by
            by_cases h' : b < d
            · exact h'
            · have : d * d ≤ b * b := Int.mul_le_mul (by omega) (by omega) (by omega) (by omega)
              omega
          exact hd2 b hb1 hbd hb3
        rw [this]; rfl
      rw [hc]
      (repeat (first | refine RO.S ?_ | refine RO.Y ?_ | refine RO.no rfl (by decide) rfl ?_ | refine RO.nil ?_ | refine DW.region ?_ | refine DW.seq ?_ | refine DW.block ?_ | refine DW.skip ?_ | refine DW.exit ?_ | refine DW.condT rfl ?_ | refine DW.condF rfl ?_))
      exact DW.ret ⟨.inl rfl, _, rfl, Over.refl _, .same _⟩

theorem checkPrime_pure (p : Int) : Pure Tryd.prog 55 [I p] (I (ckP p)) := by
  intro H
  refine PureH.of_body Tryd.func55 rfl (by decide) (Nat.le_of_ble_eq_true rfl) fun w0 => ?_
  (repeat (first | refine RO.S ?_ | refine RO.Y ?_ | refine RO.no rfl (by decide) rfl ?_ | refine RO.nil ?_ | refine DW.region ?_ | refine DW.seq ?_ | refine DW.block ?_ | refine DW.skip ?_ | refine DW.exit ?_ | refine DW.condT rfl ?_ | refine DW.condF rfl ?_))
  refine RO.sta (sta_call rfl rfl (between_pure _ _ _ _)) rfl ?_
  (repeat (first | refine RO.S ?_ | refine RO.Y ?_ | refine RO.no rfl (by decide) rfl ?_ | refine RO.nil ?_ | refine DW.region ?_ | refine DW.seq ?_ | refine DW.block ?_ | refine DW.skip ?_ | refine DW.exit ?_ | refine DW.condT rfl ?_ | refine DW.condF rfl ?_))
  cases hb : (decide (2 ≤ p) && decide (p ≤ 101))
  · have hc : ckP p = 3 := by unfold ckP; rw [hb]; rfl
    rw [hc]
    (repeat (first | refine RO.S ?_ | refine RO.Y ?_ | refine RO.no rfl (by decide) rfl ?_ | refine RO.nil ?_ | refine DW.region ?_ | refine DW.seq ?_ | refine DW.block ?_ | refine DW.skip ?_ | refine DW.exit ?_ | refine DW.condT rfl ?_ | refine DW.condF rfl ?_))
    exact DW.ret ⟨.inl rfl, _, rfl, Over.refl _, .same _⟩
  · have h2 : 2 ≤ p ∧ p ≤ 101 := by simpa using hb
    (repeat (first | refine RO.S ?_ | refine RO.Y ?_ | refine RO.no rfl (by decide) rfl ?_ | refine RO.nil ?_ | refine DW.region ?_ | refine DW.seq ?_ | refine DW.block ?_ | refine DW.skip ?_ | refine DW.exit ?_ | refine DW.condT rfl ?_ | refine DW.condF rfl ?_))
    refine DW.loopI (fun d : Int => 2 ≤ d ∧ d ≤ p ∧ ∀ c, 2 ≤ c → c < d → p % c ≠ 0) (fun d => [(0, I p), (3, I d)]) (fun _ => H) (fun d => (p - d).toNat) 2 ⟨by omega, by omega, fun c h1 h2 => by omega⟩ rfl ⟨rfl, rfl, trivial⟩ fun d ⟨hd, hd3, hd2⟩ => ?_
    (repeat (first | refine RO.S ?_ | refine RO.Y ?_ | refine RO.no rfl (by decide) rfl ?_ | refine RO.nil ?_ | refine DW.region ?_ | refine DW.seq ?_ | refine DW.block ?_ | refine DW.skip ?_ | refine DW.exit ?_ | refine DW.condT rfl ?_ | refine DW.condF rfl ?_))
    refine DW.cond rfl (fun hb => ?_) (fun hb => ?_)
    · have hdp : d < p := of_decide_eq_true hb
      (repeat (first | refine RO.S ?_ | refine RO.Y ?_ | refine RO.no rfl (by decide) rfl ?_ | refine RO.nil ?_ | refine DW.region ?_ | refine DW.seq ?_ | refine DW.block ?_ | refine DW.skip ?_ | refine DW.exit ?_ | refine DW.condT rfl ?_ | refine DW.condF rfl ?_))
      (repeat (first | refine RO.S ?_ | refine RO.Y ?_ | refine RO.no rfl (by decide) rfl ?_ | refine RO.nil ?_ | refine DW.region ?_ | refine DW.seq ?_ | refine DW.block ?_ | refine DW.skip ?_ | refine DW.exit ?_ | refine DW.condT rfl ?_ | refine DW.condF rfl ?_))
      refine DW.cond rfl (fun hb => ?_) (fun hb => ?_)
      · have hm : p % d = 0 := by simpa using hb
        have hc : ckP p = 4 := by unfold ckP; rw [if_pos (by simpa using h2), if_pos (hasDiv_of hd hdp hm)]
        rw [hc]
        (repeat (first | refine RO.S ?_ | refine RO.Y ?_ | refine RO.no rfl (by decide) rfl ?_ | refine RO.nil ?_ | refine DW.region ?_ | refine DW.seq ?_ | refine DW.block ?_ | refine DW.skip ?_ | refine DW.exit ?_ | refine DW.condT rfl ?_ | refine DW.condF rfl ?_))
        exact DW.ret ⟨.inl rfl, _, rfl, Over.refl _, .same _⟩
      · have hm : p % d ≠ 0 := by simpa using hb
        (repeat (first | refine RO.S ?_ | refine RO.Y ?_ | refine RO.no rfl (by decide) rfl ?_ | refine RO.nil ?_ | refine DW.region ?_ | refine DW.seq ?_ | refine DW.block ?_ | refine DW.skip ?_ | refine DW.exit ?_ | refine DW.condT rfl ?_ | refine DW.condF rfl ?_))
        refine ⟨d + 1, ⟨by omega, by omega, fun c h1 h2 => ?_⟩, by dsimp only; omega, rfl, rfl, rfl, trivial⟩
        by_cases h : c = d
        · rw [h]; exact hm
        · exact hd2 c h1 (by omega)
    · have hge : ¬ d < p := of_decide_eq_false hb
      have hc : ckP p = 0 := by
        unfold ckP
        rw [if_pos (by simpa using h2)]
        have : hasDiv p = false := hasDiv_not fun c h1 h2 => hd2 c h1 (by omega)
        rw [this]; rfl
      rw [hc]
      (repeat (first | refine RO.S ?_ | refine RO.Y ?_ | refine RO.no rfl (by decide) rfl ?_ | refine RO.nil ?_ | refine DW.region ?_ | refine DW.seq ?_ | refine DW.block ?_ | refine DW.skip ?_ | refine DW.exit ?_ | refine DW.condT rfl ?_ | refine DW.condF rfl ?_))
      exact DW.ret ⟨.inl rfl, _, rfl, Over.refl _, .same _⟩

end Go.Proofs.YtblileclefbklaaDoor

namespace Go.Proofs.YtblileclefbklaaDoor
open Go.RowKit
set_option linter.unusedVariables false
set_option linter.unusedSimpArgs false

/-- The least number that times a is 1; 0: there is none. -/
def invOk (p a b : Int) : Bool := a * b % p == 1 % p

def invGo (p a : Int) : Nat → Int → Int
  | 0, _ => 0
  | n + 1, b => if invOk p a b then b else invGo p a n (b + 1)

def invT (p a : Int) : Int := invGo p a (p.toNat - 1) 1

/-- A power, by squares. -/
def turnGo (p : Int) : Nat → Int → Int → Int → Int
  | 0, _, _, out => out
  | f + 1, n, a, out => if n ≤ 0 then out else turnGo p f (n / 2) (a * a % p) (if n % 2 = 1 then out * a % p else out)

def turnP (p a : Int) : Int := turnGo p 7 (p - 2) a 1

theorem turn_pure (p a : Int) (hp : 2 ≤ p) (hp2 : p ≤ 101) (ha : 0 ≤ a) (ha2 : a < p) : Pure Tryd.prog 67 [I p, I a] (I (turnP p a)) := by
  intro H
  refine PureH.of_body Tryd.func67 rfl (by decide) (Nat.le_of_ble_eq_true rfl) fun w0 => ?_
  (repeat (first | refine RO.S ?_ | refine RO.Y ?_ | refine RO.no rfl (by decide) rfl ?_ | refine RO.nil ?_ | refine DW.region ?_ | refine DW.seq ?_ | refine DW.block ?_ | refine DW.skip ?_ | refine DW.exit ?_ | refine DW.condT rfl ?_ | refine DW.condF rfl ?_))
  refine DW.loopI (fun x : Nat × Int × Int × Int => (0 ≤ x.2.1 ∧ x.2.1 < 2 ^ x.1 ∧ x.2.1 ≤ 101) ∧ (0 ≤ x.2.2.1 ∧ x.2.2.1 < p) ∧ (0 ≤ x.2.2.2 ∧ x.2.2.2 < p) ∧ turnGo p x.1 x.2.1 x.2.2.1 x.2.2.2 = turnP p a) (fun x => [(0, I p), (1, I x.2.2.1), (5, I x.2.2.2), (6, I x.2.1)]) (fun _ => H) (fun x => x.1) (7, p - 2, a, 1)
    ⟨⟨by dsimp only; omega, by dsimp only; omega, by dsimp only; omega⟩, ⟨ha, ha2⟩, ⟨by dsimp only; omega, by dsimp only; omega⟩, rfl⟩ rfl ⟨rfl, rfl, rfl, rfl, trivial⟩ fun ⟨f, n, b, out⟩ ⟨⟨hn0, hn1, hn2⟩, ⟨hb0, hb1⟩, ⟨ho0, ho1⟩, hg⟩ => ?_
  dsimp only at hn0 hn1 hn2 hb0 hb1 ho0 ho1 hg
  dsimp only
  (repeat (first | refine RO.S ?_ | refine RO.Y ?_ | refine RO.no rfl (by decide) rfl ?_ | refine RO.nil ?_ | refine DW.region ?_ | refine DW.seq ?_ | refine DW.block ?_ | refine DW.skip ?_ | refine DW.exit ?_ | refine DW.condT rfl ?_ | refine DW.condF rfl ?_))
  refine DW.cond rfl (fun hb => ?_) (fun hb => ?_)
  · have hpos : 0 < n := of_decide_eq_true hb
    obtain ⟨f, rfl⟩ : ∃ g, f = g + 1 := by
      cases f with
      | zero => simp at hn1; omega
      | succ g => exact ⟨g, rfl⟩
    have hpw : (2 : Int) ^ (f + 1) = 2 ^ f * 2 := Int.pow_succ ..
    have hbb : 0 ≤ b * b := Int.mul_nonneg hb0 hb0
    have hbb2 : b * b ≤ 101 * 101 := Int.mul_le_mul (by omega) (by omega) (by omega) (by omega)
    have hob : 0 ≤ out * b := Int.mul_nonneg ho0 hb0
    have hob2 : out * b ≤ 101 * 101 := Int.mul_le_mul (by omega) (by omega) (by omega) (by omega)
    have hm1 := Int.emod_nonneg (b * b) (show p ≠ 0 by omega)
    have hm2 := Int.emod_lt_of_pos (b * b) (show 0 < p by omega)
    have hm3 := Int.emod_nonneg (out * b) (show p ≠ 0 by omega)
    have hm4 := Int.emod_lt_of_pos (out * b) (show 0 < p by omega)
    simp only [turnGo] at hg
    rw [if_neg (by omega)] at hg
    (repeat (first | refine RO.S ?_ | refine RO.Y ?_ | refine RO.no rfl (by decide) rfl ?_ | refine RO.nil ?_ | refine DW.region ?_ | refine DW.seq ?_ | refine DW.block ?_ | refine DW.skip ?_ | refine DW.exit ?_ | refine DW.condT rfl ?_ | refine DW.condF rfl ?_))
    refine RO.sta (s_and1 rfl rfl (by omega) (by omega)) rfl ?_
    (repeat (first | refine RO.S ?_ | refine RO.Y ?_ | refine RO.no rfl (by decide) rfl ?_ | refine RO.nil ?_ | refine DW.region ?_ | refine DW.seq ?_ | refine DW.block ?_ | refine DW.skip ?_ | refine DW.exit ?_ | refine DW.condT rfl ?_ | refine DW.condF rfl ?_))
    refine DW.cond rfl (fun hb => ?_) (fun hb => ?_)
    · have h1 : n % 2 = 1 := by simpa using hb
      rw [if_pos h1] at hg
      (repeat (first | refine RO.S ?_ | refine RO.Y ?_ | refine RO.no rfl (by decide) rfl ?_ | refine RO.nil ?_ | refine DW.region ?_ | refine DW.seq ?_ | refine DW.block ?_ | refine DW.skip ?_ | refine DW.exit ?_ | refine DW.condT rfl ?_ | refine DW.condF rfl ?_))
      refine RO.sta (s_shr1 rfl rfl (by omega)) rfl ?_
      (repeat (first | refine RO.S ?_ | refine RO.Y ?_ | refine RO.no rfl (by decide) rfl ?_ | refine RO.nil ?_ | refine DW.region ?_ | refine DW.seq ?_ | refine DW.block ?_ | refine DW.skip ?_ | refine DW.exit ?_ | refine DW.condT rfl ?_ | refine DW.condF rfl ?_))
      exact ⟨(f, n / 2, b * b % p, out * b % p), ⟨⟨by dsimp only; omega, by dsimp only; omega, by dsimp only; omega⟩, ⟨hm1, hm2⟩, ⟨hm3, hm4⟩, hg⟩, Nat.lt_succ_self _, rfl, rfl, rfl, rfl, rfl, trivial⟩
    · have h1 : ¬ n % 2 = 1 := by simpa using hb
      rw [if_neg h1] at hg
      (repeat (first | refine RO.S ?_ | refine RO.Y ?_ | refine RO.no rfl (by decide) rfl ?_ | refine RO.nil ?_ | refine DW.region ?_ | refine DW.seq ?_ | refine DW.block ?_ | refine DW.skip ?_ | refine DW.exit ?_ | refine DW.condT rfl ?_ | refine DW.condF rfl ?_))
      refine RO.sta (s_shr1 rfl rfl (by omega)) rfl ?_
      (repeat (first | refine RO.S ?_ | refine RO.Y ?_ | refine RO.no rfl (by decide) rfl ?_ | refine RO.nil ?_ | refine DW.region ?_ | refine DW.seq ?_ | refine DW.block ?_ | refine DW.skip ?_ | refine DW.exit ?_ | refine DW.condT rfl ?_ | refine DW.condF rfl ?_))
      exact ⟨(f, n / 2, b * b % p, out), ⟨⟨by dsimp only; omega, by dsimp only; omega, by dsimp only; omega⟩, ⟨hm1, hm2⟩, ⟨ho0, ho1⟩, hg⟩, Nat.lt_succ_self _, rfl, rfl, rfl, rfl, rfl, trivial⟩
  · have hneg : ¬ 0 < n := of_decide_eq_false hb
    have : turnP p a = out := by
      rw [← hg]
      cases f with
      | zero => rfl
      | succ f => simp only [turnGo]; rw [if_pos (by omega)]
    rw [this]
    (repeat (first | refine RO.S ?_ | refine RO.Y ?_ | refine RO.no rfl (by decide) rfl ?_ | refine RO.nil ?_ | refine DW.region ?_ | refine DW.seq ?_ | refine DW.block ?_ | refine DW.skip ?_ | refine DW.exit ?_ | refine DW.condT rfl ?_ | refine DW.condF rfl ?_))
    exact DW.ret ⟨.inl rfl, _, rfl, Over.refl _, .same _⟩

end Go.Proofs.YtblileclefbklaaDoor

namespace Go.Proofs.YtblileclefbklaaDoor
open Go.RowKit
set_option linter.unusedVariables false
set_option linter.unusedSimpArgs false

theorem ckP_ok {p : Int} (h : ckP p = 0) : 2 ≤ p ∧ p ≤ 101 := by
  unfold ckP at h
  by_cases hb : (decide (2 ≤ p) && decide (p ≤ 101)) = true
  · simpa using hb
  · rw [if_neg hb] at h; cases h

/-- What 'with' does. -/
def withR (p a b : Int) (r : Int × Int) : Int × Int := if ckP p = 0 then (if inP p a && inP p b then r else (0, 3)) else (0, ckP p)

def pairD (r : Int × Int) : D := .tup [I r.1, I r.2]

theorem with_pure {H : Heap} (p a b : Int) (f : FuncId) (caps : List D) (r : Int × Int) (hr : ckP p = 0 → inP p a = true → inP p b = true → PureH Tryd.prog H f caps (pairD r)) :
    PureH Tryd.prog H 65 [I p, I a, I b, .fn f caps] (pairD (withR p a b r)) := by
  refine PureH.of_body Tryd.func65 rfl (by decide) (Nat.le_of_ble_eq_true rfl) fun w0 => ?_
  (repeat (first | refine RO.S ?_ | refine RO.Y ?_ | refine RO.no rfl (by decide) rfl ?_ | refine RO.nil ?_ | refine DW.region ?_ | refine DW.seq ?_ | refine DW.block ?_ | refine DW.skip ?_ | refine DW.exit ?_ | refine DW.condT rfl ?_ | refine DW.condF rfl ?_))
  refine RO.sta (sta_call rfl rfl (check_pure _ _)) rfl ?_
  (repeat (first | refine RO.S ?_ | refine RO.Y ?_ | refine RO.no rfl (by decide) rfl ?_ | refine RO.nil ?_ | refine DW.region ?_ | refine DW.seq ?_ | refine DW.block ?_ | refine DW.skip ?_ | refine DW.exit ?_ | refine DW.condT rfl ?_ | refine DW.condF rfl ?_))
  refine DW.cond rfl (fun hb => ?_) (fun hb => ?_)
  · have h : ¬ ckP p = 0 := by simpa using hb
    have : withR p a b r = (0, ckP p) := by unfold withR; rw [if_neg h]
    rw [this]
    (repeat (first | refine RO.S ?_ | refine RO.Y ?_ | refine RO.no rfl (by decide) rfl ?_ | refine RO.nil ?_ | refine DW.region ?_ | refine DW.seq ?_ | refine DW.block ?_ | refine DW.skip ?_ | refine DW.exit ?_ | refine DW.condT rfl ?_ | refine DW.condF rfl ?_))
    exact DW.ret ⟨.inl rfl, _, rfl, Over.refl _, .same _⟩
  · have h : ckP p = 0 := by simpa using hb
    have h2 := ckP_ok h
    (repeat (first | refine RO.S ?_ | refine RO.Y ?_ | refine RO.no rfl (by decide) rfl ?_ | refine RO.nil ?_ | refine DW.region ?_ | refine DW.seq ?_ | refine DW.block ?_ | refine DW.skip ?_ | refine DW.exit ?_ | refine DW.condT rfl ?_ | refine DW.condF rfl ?_))
    refine RO.sta (s_lit (pd := [(0, I a), (1, I b)]) (ds := [I a, I b]) (by decide) (by decide) rfl rfl (fun d hd => by simp at hd; rcases hd with rfl | rfl <;> rfl) rfl) rfl ?_
    refine RO.sta (sta_call rfl rfl (In_pure p [a, b] (by omega) (by omega) (by simp) _)) rfl ?_
    (repeat (first | refine RO.S ?_ | refine RO.Y ?_ | refine RO.no rfl (by decide) rfl ?_ | refine RO.nil ?_ | refine DW.region ?_ | refine DW.seq ?_ | refine DW.block ?_ | refine DW.skip ?_ | refine DW.exit ?_ | refine DW.condT rfl ?_ | refine DW.condF rfl ?_))
    have hall : [a, b].all (inP p) = (inP p a && inP p b) := by simp
    rw [hall]
    cases hi : (inP p a && inP p b)
    · have : withR p a b r = (0, 3) := by unfold withR; rw [if_pos h, hi]; rfl
      rw [this]
      (repeat (first | refine RO.S ?_ | refine RO.Y ?_ | refine RO.no rfl (by decide) rfl ?_ | refine RO.nil ?_ | refine DW.region ?_ | refine DW.seq ?_ | refine DW.block ?_ | refine DW.skip ?_ | refine DW.exit ?_ | refine DW.condT rfl ?_ | refine DW.condF rfl ?_))
      exact DW.ret ⟨.inl rfl, _, rfl, Over.refl _, .same _⟩
    · have : withR p a b r = r := by unfold withR; rw [if_pos h, hi]; rfl
      rw [this]
      have hi' : inP p a = true ∧ inP p b = true := by simpa using hi
      (repeat (first | refine RO.S ?_ | refine RO.Y ?_ | refine RO.no rfl (by decide) rfl ?_ | refine RO.nil ?_ | refine DW.region ?_ | refine DW.seq ?_ | refine DW.block ?_ | refine DW.skip ?_ | refine DW.exit ?_ | refine DW.condT rfl ?_ | refine DW.condF rfl ?_))
      refine RO.sta (sta_call rfl rfl (hr h hi'.1 hi'.2)) rfl ?_
      (repeat (first | refine RO.S ?_ | refine RO.Y ?_ | refine RO.no rfl (by decide) rfl ?_ | refine RO.nil ?_ | refine DW.region ?_ | refine DW.seq ?_ | refine DW.block ?_ | refine DW.skip ?_ | refine DW.exit ?_ | refine DW.condT rfl ?_ | refine DW.condF rfl ?_))
      exact DW.ret ⟨.inl rfl, _, rfl, Over.refl _, .same _⟩

theorem inP_iff {p a : Int} : inP p a = true ↔ 0 ≤ a ∧ a < p := by
  unfold inP
  simp
  omega

theorem addLit_pure (p a b : Int) (hp : ckP p = 0) (ha : inP p a = true) (hb : inP p b = true) : Pure Tryd.prog 68 [.ipt 1 [I a] 0 0, .ipt 1 [I b] 0 0, .ipt 1 [I p] 0 0] (pairD ((a + b) % p, 0)) := by
  intro H
  have h2 := ckP_ok hp
  have ha' := inP_iff.1 ha
  have hb' := inP_iff.1 hb
  refine PureH.of_body Tryd.func68 rfl (by decide) (Nat.le_of_ble_eq_true rfl) fun w0 => ?_
  (repeat (first | refine RO.S ?_ | refine RO.Y ?_ | refine RO.no rfl (by decide) rfl ?_ | refine RO.nil ?_ | refine DW.region ?_ | refine DW.seq ?_ | refine DW.block ?_ | refine DW.skip ?_ | refine DW.exit ?_ | refine DW.condT rfl ?_ | refine DW.condF rfl ?_))
  exact DW.ret ⟨.inl rfl, _, rfl, Over.refl _, .same _⟩

/-- The inverse, and what is wrong. -/
def invR (p a : Int) : Int × Int := if a = 0 then (0, 5) else (turnP p a, 0)

theorem invLit_pure (p a : Int) (hp : ckP p = 0) (ha : inP p a = true) : Pure Tryd.prog 66 [.ipt 1 [I a] 0 0, .ipt 1 [I p] 0 0] (pairD (invR p a)) := by
  intro H
  have h2 := ckP_ok hp
  have ha' := inP_iff.1 ha
  refine PureH.of_body Tryd.func66 rfl (by decide) (Nat.le_of_ble_eq_true rfl) fun w0 => ?_
  (repeat (first | refine RO.S ?_ | refine RO.Y ?_ | refine RO.no rfl (by decide) rfl ?_ | refine RO.nil ?_ | refine DW.region ?_ | refine DW.seq ?_ | refine DW.block ?_ | refine DW.skip ?_ | refine DW.exit ?_ | refine DW.condT rfl ?_ | refine DW.condF rfl ?_))
  refine DW.cond rfl (fun hb => ?_) (fun hb => ?_)
  · have h : a = 0 := by simpa using hb
    have : invR p a = (0, 5) := by unfold invR; rw [if_pos h]
    rw [this]
    (repeat (first | refine RO.S ?_ | refine RO.Y ?_ | refine RO.no rfl (by decide) rfl ?_ | refine RO.nil ?_ | refine DW.region ?_ | refine DW.seq ?_ | refine DW.block ?_ | refine DW.skip ?_ | refine DW.exit ?_ | refine DW.condT rfl ?_ | refine DW.condF rfl ?_))
    exact DW.ret ⟨.inl rfl, _, rfl, Over.refl _, .same _⟩
  · have h : ¬ a = 0 := by simpa using hb
    have : invR p a = (turnP p a, 0) := by unfold invR; rw [if_neg h]
    rw [this]
    (repeat (first | refine RO.S ?_ | refine RO.Y ?_ | refine RO.no rfl (by decide) rfl ?_ | refine RO.nil ?_ | refine DW.region ?_ | refine DW.seq ?_ | refine DW.block ?_ | refine DW.skip ?_ | refine DW.exit ?_ | refine DW.condT rfl ?_ | refine DW.condF rfl ?_))
    refine RO.sta (sta_call rfl rfl (turn_pure p a h2.1 h2.2 ha'.1 ha'.2 _)) rfl ?_
    (repeat (first | refine RO.S ?_ | refine RO.Y ?_ | refine RO.no rfl (by decide) rfl ?_ | refine RO.nil ?_ | refine DW.region ?_ | refine DW.seq ?_ | refine DW.block ?_ | refine DW.skip ?_ | refine DW.exit ?_ | refine DW.condT rfl ?_ | refine DW.condF rfl ?_))
    exact DW.ret ⟨.inl rfl, _, rfl, Over.refl _, .same _⟩

theorem Add_pure (p a b : Int) : Pure Tryd.prog 48 [I p, I a, I b] (pairD (withR p a b ((a + b) % p, 0))) := by
  intro H
  refine PureH.of_body Tryd.func48 rfl (by decide) (Nat.le_of_ble_eq_true rfl) fun w0 => ?_
  (repeat (first | refine RO.S ?_ | refine RO.Y ?_ | refine RO.no rfl (by decide) rfl ?_ | refine RO.nil ?_ | refine DW.region ?_ | refine DW.seq ?_ | refine DW.block ?_ | refine DW.skip ?_ | refine DW.exit ?_ | refine DW.condT rfl ?_ | refine DW.condF rfl ?_))
  refine RO.sta (sta_call rfl rfl (with_pure p a b _ _ ((a + b) % p, 0) fun h1 h2 h3 => addLit_pure p a b h1 h2 h3 _)) rfl ?_
  (repeat (first | refine RO.S ?_ | refine RO.Y ?_ | refine RO.no rfl (by decide) rfl ?_ | refine RO.nil ?_ | refine DW.region ?_ | refine DW.seq ?_ | refine DW.block ?_ | refine DW.skip ?_ | refine DW.exit ?_ | refine DW.condT rfl ?_ | refine DW.condF rfl ?_))
  exact DW.ret ⟨.inl rfl, _, rfl, Over.refl _, .same _⟩

theorem Inverse_pure (p a : Int) : Pure Tryd.prog 47 [I p, I a] (pairD (withR p a 0 (invR p a))) := by
  intro H
  refine PureH.of_body Tryd.func47 rfl (by decide) (Nat.le_of_ble_eq_true rfl) fun w0 => ?_
  (repeat (first | refine RO.S ?_ | refine RO.Y ?_ | refine RO.no rfl (by decide) rfl ?_ | refine RO.nil ?_ | refine DW.region ?_ | refine DW.seq ?_ | refine DW.block ?_ | refine DW.skip ?_ | refine DW.exit ?_ | refine DW.condT rfl ?_ | refine DW.condF rfl ?_))
  refine RO.sta (sta_call rfl rfl (with_pure p a 0 _ _ (invR p a) fun h1 h2 h3 => invLit_pure p a h1 h2 _)) rfl ?_
  (repeat (first | refine RO.S ?_ | refine RO.Y ?_ | refine RO.no rfl (by decide) rfl ?_ | refine RO.nil ?_ | refine DW.region ?_ | refine DW.seq ?_ | refine DW.block ?_ | refine DW.skip ?_ | refine DW.exit ?_ | refine DW.condT rfl ?_ | refine DW.condF rfl ?_))
  exact DW.ret ⟨.inl rfl, _, rfl, Over.refl _, .same _⟩

end Go.Proofs.YtblileclefbklaaDoor

namespace Go.Proofs.YtblileclefbklaaDoor
open Go.RowKit
set_option linter.unusedVariables false
set_option linter.unusedSimpArgs false

/-- What is wrong with a ring. -/
def ringCk (r : Rg) : Int :=
  if ckP r.p = 0 then (if decide (1 ≤ r.n) && decide (r.n ≤ 3) then (if (decide (1 ≤ r.order) && decide (r.order ≤ 2)) && (decide (1 ≤ r.over) && decide (r.over ≤ 2)) then 0 else 6) else 3) else ckP r.p

theorem ringCk_ok {r : Rg} (h : ringCk r = 0) : ckP r.p = 0 ∧ (1 ≤ r.n ∧ r.n ≤ 3) ∧ (1 ≤ r.order ∧ r.order ≤ 2) ∧ (1 ≤ r.over ∧ r.over ≤ 2) := by
  unfold ringCk at h
  split at h
  · split at h
    · split at h
      · rename_i h1 h2 h3
        simp only [Bool.and_eq_true, decide_eq_true_eq] at h2 h3
        exact ⟨h1, h2, h3⟩
      · cases h
    · cases h
  · contradiction

def inE (k : Int) : Bool := decide (0 ≤ k) && decide (k ≤ 200)

theorem inE_iff {k : Int} : inE k = true ↔ 0 ≤ k ∧ k ≤ 200 := by simp [inE]

/-- What is wrong with a monomial. -/
def monoCk (r : Rg) (e : List Int) : Int := if (e.length : Int) = r.n then (if e.all inE && decide (e.sum ≤ 200) then 0 else 3) else 1

def monosGo (r : Rg) : List (List Int) → Int
  | [] => 0
  | e :: l => if monoCk r e = 0 then monosGo r l else monoCk r e

/-- What is wrong with monomials. -/
def monosCk (r : Rg) (l : List (List Int)) : Int := if ringCk r = 0 then monosGo r l else ringCk r

/-- Small enough that nothing wraps. -/
structure MOk (e : List Int) : Prop where
  len : e.length ≤ 3
  mem : ∀ x ∈ e, 0 ≤ x ∧ x ≤ 1000000

theorem MOk.at {e : List Int} (h : MOk e) {i : Nat} (hi : i < e.length) : 0 ≤ e[i] ∧ e[i] ≤ 1000000 := h.mem _ (List.getElem_mem hi)

theorem sum_take_succ (e : List Int) {k : Nat} (hk : k < e.length) : (e.take (k + 1)).sum = (e.take k).sum + e[k] := by
  rw [List.take_succ_eq_append_getElem hk, List.sum_append]
  simp

theorem sum_bounds {m : Int} (hm : 0 ≤ m) : ∀ (e : List Int), (∀ x ∈ e, 0 ≤ x ∧ x ≤ m) → 0 ≤ e.sum ∧ e.sum ≤ m * e.length
  | [], _ => by simp
  | x :: e, h => by
    obtain ⟨h1, h2⟩ := sum_bounds hm e (fun y hy => h y (by simp [hy]))
    have hx := h x (by simp)
    simp only [List.sum_cons, List.length_cons]
    have : m * ((e.length + 1 : Nat) : Int) = m * e.length + m := by rw [Int.natCast_add, Int.mul_add]; simp
    omega

theorem MOk.take {e : List Int} (h : MOk e) (k : Nat) : MOk (e.take k) := ⟨by rw [List.length_take]; have := h.len; omega, fun x hx => h.mem x (List.mem_of_mem_take hx)⟩

theorem MOk.sum {e : List Int} (h : MOk e) : 0 ≤ e.sum ∧ e.sum ≤ 3000000 := by
  obtain ⟨h1, h2⟩ := sum_bounds (by omega) e h.mem
  have := h.len
  omega

theorem MOk.of {r : Rg} {e : List Int} (hr : r.n ≤ 3) (h : monoCk r e = 0) : MOk e ∧ (e.length : Int) = r.n ∧ e.all inE = true ∧ e.sum ≤ 200 := by
  unfold monoCk at h
  split at h
  · rename_i hl
    split at h
    · rename_i h2
      simp only [Bool.and_eq_true, decide_eq_true_eq] at h2
      refine ⟨⟨by omega, fun x hx => ?_⟩, hl, h2.1, h2.2⟩
      have := inE_iff.1 (List.all_eq_true.1 h2.1 x hx)
      omega
    · cases h
  · cases h

theorem monosGo_mem {r : Rg} : ∀ {l : List (List Int)}, monosGo r l = 0 → ∀ e ∈ l, monoCk r e = 0
  | [], _, _, h => by cases h
  | x :: l, h, e, he => by
    simp only [monosGo] at h
    split at h
    · rename_i hx
      rcases List.mem_cons.1 he with rfl | he
      · exact hx
      · exact monosGo_mem h e he
    · contradiction

theorem monosCk_ok {r : Rg} {l : List (List Int)} (h : monosCk r l = 0) : ringCk r = 0 ∧ ∀ e ∈ l, monoCk r e = 0 := by
  unfold monosCk at h
  split at h
  · rename_i hr
    exact ⟨hr, monosGo_mem h⟩
  · contradiction

/-- How each exponent of two is put together. -/
def zipE (g : Int → Int → Int) (a b : List Int) : List Int := List.zipWith g a b

theorem zipE_len {g : Int → Int → Int} {a b : List Int} (h : a.length = b.length) : (zipE g a b).length = a.length := by simp [zipE, h]

theorem zipE_get {g : Int → Int → Int} {a b : List Int} {i : Nat} (hi : i < (zipE g a b).length) : (zipE g a b)[i] = g (a[i]'(by simp [zipE] at hi; omega)) (b[i]'(by simp [zipE] at hi; omega)) := by
  simp [zipE]

theorem zipE_mok {g : Int → Int → Int} {a b : List Int} (h : a.length = b.length) (ha : a.length ≤ 3) (hg : ∀ (i : Nat) (h1 : i < a.length) (h2 : i < b.length), 0 ≤ g a[i] b[i] ∧ g a[i] b[i] ≤ 1000000) : MOk (zipE g a b) := by
  refine ⟨by rw [zipE_len h]; exact ha, fun x hx => ?_⟩
  obtain ⟨i, hi, rfl⟩ := List.mem_iff_getElem.1 hx
  rw [zipE_get]
  exact hg _ _ _

/-- Does b go into a? -/
def goesM : List Int → List Int → Bool
  | x :: a, y :: b => if y > x then false else goesM a b
  | _, _ => true

/-- The first place where two differ tells. -/
def lexC : List Int → List Int → Int
  | x :: a, y :: b => if x < y then -1 else if y < x then 1 else lexC a b
  | _, _ => 0

def sgn (n : Int) : Int := max (-1) (min 1 n)

/-- The order. -/
def cmpM (o : Int) (a b : List Int) : Int := if a.sum = b.sum then (if o = 2 then lexC a b else lexC b.reverse a.reverse) else sgn (a.sum - b.sum)

theorem lexC_range : ∀ (a b : List Int), lexC a b = 0 ∨ lexC a b = 1 ∨ lexC a b = -1
  | [], _ => .inl rfl
  | x :: a, [] => .inl rfl
  | x :: a, y :: b => by
    simp only [lexC]
    split
    · exact .inr (.inr rfl)
    · split
      · exact .inr (.inl rfl)
      · exact lexC_range a b

theorem lexC_anti : ∀ (a b : List Int), lexC a b = -lexC b a
  | [], [] => rfl
  | [], _ :: _ => rfl
  | x :: a, [] => rfl
  | x :: a, y :: b => by
    simp only [lexC]
    have ih := lexC_anti a b
    split <;> split <;> (try split) <;> omega

theorem lexC_zero : ∀ {a b : List Int}, a.length = b.length → lexC a b = 0 → a = b
  | [], [], _, _ => rfl
  | [], _ :: _, h, _ => by simp at h
  | x :: a, [], h, _ => by simp at h
  | x :: a, y :: b, h, h0 => by
    simp only [lexC] at h0
    split at h0
    · cases h0
    · split at h0
      · cases h0
      · have : x = y := by omega
        rw [this, lexC_zero (by simpa using h) h0]

theorem lexC_self : ∀ (a : List Int), lexC a a = 0
  | [] => rfl
  | x :: a => by simp [lexC, lexC_self a]

theorem lexC_trans : ∀ {a b c : List Int}, a.length = b.length → b.length = c.length → 0 ≤ lexC a b → 0 ≤ lexC b c → 0 ≤ lexC a c ∧ (0 < lexC a b ∨ 0 < lexC b c → 0 < lexC a c)
  | [], [], [], _, _, _, _ => ⟨Int.le_refl _, fun h => by rcases h with h | h <;> cases h⟩
  | x :: a, y :: b, z :: c, h1, h2, h3, h4 => by
    have ih := @lexC_trans a b c (by simpa using h1) (by simpa using h2)
    simp only [lexC] at *
    split at h3
    · omega
    · split at h4
      · omega
      · split at h3
        · split at h4 <;> (rw [if_neg (by omega), if_pos (by omega)]; exact ⟨by omega, fun _ => by omega⟩)
        · split at h4
          · rw [if_neg (by omega), if_pos (by omega)]; exact ⟨by omega, fun _ => by omega⟩
          · rw [if_neg (by omega), if_neg (by omega)]
            have := ih h3 h4
            refine ⟨this.1, fun h => this.2 ?_⟩
            rename_i g1 g2 g3 g4
            rwa [if_neg g1, if_neg g3, if_neg g2, if_neg g4] at h

theorem lexC_add : ∀ {a b c : List Int}, a.length = b.length → b.length = c.length → lexC (zipE (· + ·) a c) (zipE (· + ·) b c) = lexC a b
  | [], [], [], _, _ => rfl
  | x :: a, y :: b, z :: c, h1, h2 => by
    have ih := @lexC_add a b c (by simpa using h1) (by simpa using h2)
    simp only [zipE, List.zipWith_cons_cons, lexC] at *
    split <;> split <;> (try split) <;> (try split) <;> (try omega)

theorem lexC_take_rev {a b : List Int} {k : Nat} (h1 : k < a.length) (h2 : k < b.length) :
    lexC (b.take (k + 1)).reverse (a.take (k + 1)).reverse = if b[k] < a[k] then -1 else if a[k] < b[k] then 1 else lexC (b.take k).reverse (a.take k).reverse := by
  rw [List.take_succ_eq_append_getElem h1, List.take_succ_eq_append_getElem h2, List.reverse_append, List.reverse_append]
  rfl

theorem lexC_drop {a b : List Int} {k : Nat} (h1 : k < a.length) (h2 : k < b.length) :
    lexC (a.drop k) (b.drop k) = if a[k] < b[k] then -1 else if b[k] < a[k] then 1 else lexC (a.drop (k + 1)) (b.drop (k + 1)) := by
  rw [List.drop_eq_getElem_cons h1, List.drop_eq_getElem_cons h2]
  rfl

theorem goesM_drop {a b : List Int} {k : Nat} (h1 : k < a.length) (h2 : k < b.length) : goesM (a.drop k) (b.drop k) = if b[k] > a[k] then false else goesM (a.drop (k + 1)) (b.drop (k + 1)) := by
  rw [List.drop_eq_getElem_cons h1, List.drop_eq_getElem_cons h2]
  rfl

theorem sgn_range (n : Int) : sgn n = 0 ∨ sgn n = 1 ∨ sgn n = -1 := by unfold sgn; omega

theorem cmpM_anti (o : Int) (a b : List Int) : cmpM o a b = -cmpM o b a := by
  unfold cmpM
  by_cases h : a.sum = b.sum
  · rw [if_pos h, if_pos h.symm]
    split
    · exact lexC_anti a b
    · exact lexC_anti _ _
  · rw [if_neg h, if_neg (Ne.symm h)]
    unfold sgn
    omega

theorem cmpM_range (o : Int) (a b : List Int) : cmpM o a b = 0 ∨ cmpM o a b = 1 ∨ cmpM o a b = -1 := by
  unfold cmpM
  split
  · split
    · exact lexC_range _ _
    · exact lexC_range _ _
  · exact sgn_range _

theorem cmpM_self (o : Int) (a : List Int) : cmpM o a a = 0 := by
  unfold cmpM
  rw [if_pos rfl]
  split <;> exact lexC_self _

theorem cmpM_zero {o : Int} {a b : List Int} (h : a.length = b.length) (h0 : cmpM o a b = 0) : a = b := by
  unfold cmpM at h0
  split at h0
  · split at h0
    · exact lexC_zero h h0
    · have := lexC_zero (by simp [h]) h0
      exact (List.reverse_inj.1 this).symm
  · unfold sgn at h0; omega

theorem cmpM_trans {o : Int} {a b c : List Int} (h1 : a.length = b.length) (h2 : b.length = c.length) (h3 : 0 ≤ cmpM o a b) (h4 : 0 ≤ cmpM o b c) : 0 ≤ cmpM o a c ∧ (0 < cmpM o a b ∨ 0 < cmpM o b c → 0 < cmpM o a c) := by
  unfold cmpM at *
  by_cases hab : a.sum = b.sum
  · by_cases hbc : b.sum = c.sum
    · rw [if_pos hab] at *
      rw [if_pos hbc] at *
      rw [if_pos (hab.trans hbc)]
      split
      · rename_i ho
        simp only [ho, if_true] at *
        exact lexC_trans h1 h2 h3 h4
      · rename_i ho
        simp only [ho, if_false] at *
        have := @lexC_trans c.reverse b.reverse a.reverse (by simp [h2]) (by simp [h1]) h4 h3
        exact ⟨this.1, fun h => this.2 h.symm⟩
    · rw [if_neg hbc] at h4 ⊢
      rw [if_neg (by omega)]
      unfold sgn at *
      exact ⟨by omega, fun _ => by omega⟩
  · rw [if_neg hab] at h3 ⊢
    by_cases hbc : b.sum = c.sum
    · rw [if_neg (by omega)]
      unfold sgn at *
      exact ⟨by omega, fun _ => by omega⟩
    · rw [if_neg hbc] at h4 ⊢
      unfold sgn at h3 h4
      rw [if_neg (by omega)]
      unfold sgn
      exact ⟨by omega, fun _ => by omega⟩

theorem zipE_sum : ∀ {a b : List Int}, a.length = b.length → (zipE (· + ·) a b).sum = a.sum + b.sum
  | [], [], _ => rfl
  | x :: a, y :: b, h => by
    have ih := @zipE_sum a b (by simpa using h)
    simp only [zipE, List.zipWith_cons_cons, List.sum_cons] at *
    omega

theorem zipE_rev {g : Int → Int → Int} {a b : List Int} (h : a.length = b.length) : (zipE g a b).reverse = zipE g a.reverse b.reverse := by
  unfold zipE
  exact (List.reverse_zipWith h)

theorem cmpM_add {o : Int} {a b c : List Int} (h1 : a.length = b.length) (h2 : b.length = c.length) : cmpM o (zipE (· + ·) a c) (zipE (· + ·) b c) = cmpM o a b := by
  unfold cmpM
  rw [zipE_sum (h1.trans h2), zipE_sum h2]
  by_cases h : a.sum = b.sum
  · rw [if_pos h, if_pos (by omega)]
    split
    · exact lexC_add h1 h2
    · rw [zipE_rev (h1.trans h2), zipE_rev h2]
      exact lexC_add (by simp [h1]) (by simp [h1, h2])
  · rw [if_neg h, if_neg (by omega)]
    congr 1
    omega

theorem lexC_nonneg0 : ∀ (a : List Int), (∀ x ∈ a, 0 ≤ x) → 0 ≤ lexC a (List.replicate a.length 0)
  | [], _ => by simp [lexC]
  | x :: a, h => by
    simp only [List.length_cons, List.replicate_succ, lexC]
    have hx := h x (by simp)
    rw [if_neg (by omega)]
    split
    · omega
    · exact lexC_nonneg0 a (fun y hy => h y (by simp [hy]))

theorem sum_zero_all : ∀ {a : List Int}, (∀ x ∈ a, 0 ≤ x) → a.sum = 0 → a = List.replicate a.length 0
  | [], _, _ => rfl
  | x :: a, h, hs => by
    have hx := h x (by simp)
    have ha : 0 ≤ a.sum := by
      clear hs
      induction a with
      | nil => simp
      | cons y a ih =>
        have := ih (fun z hz => h z (by simp at hz ⊢; rcases hz with h | h <;> simp [h]))
        have hy := h y (by simp)
        simp only [List.sum_cons]
        omega
    simp only [List.sum_cons] at hs
    have := sum_zero_all (fun y hy => h y (by simp [hy])) (show a.sum = 0 by omega)
    rw [List.length_cons, List.replicate_succ, ← this]
    congr 1
    omega

theorem sum_nonneg {a : List Int} (h : ∀ x ∈ a, 0 ≤ x) : 0 ≤ a.sum := by
  induction a with
  | nil => simp
  | cons y a ih =>
    have := ih (fun z hz => h z (by simp [hz]))
    have hy := h y (by simp)
    simp only [List.sum_cons]
    omega

theorem cmpM_one {o : Int} {a : List Int} (h : ∀ x ∈ a, 0 ≤ x) : 0 ≤ cmpM o a (List.replicate a.length 0) := by
  have h0 : (List.replicate a.length (0 : Int)).sum = 0 := by simp
  by_cases hs : a.sum = 0
  · have := sum_zero_all h hs
    rw [← this, cmpM_self]
    exact Int.le_refl _
  · unfold cmpM
    rw [h0, if_neg hs]
    have := sum_nonneg h
    unfold sgn
    omega

theorem ownSum (e : List Int) : e.all inE = true → ∀ k, 0 ≤ (e.take k).sum ∧ (e.take k).sum ≤ 200 * (e.take k).length := fun h k =>
  sum_bounds (by omega) _ fun x hx => inE_iff.1 (List.all_eq_true.1 h x (List.mem_of_mem_take hx))

end Go.Proofs.YtblileclefbklaaDoor
