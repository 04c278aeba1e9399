/-
  The document's text of a polynomial. No condition.
-/
import Derived.Test.YtblileclefbklaaDoorKPrc16
import Derived.Lib.Join
import Derived.Lib.ItoaNum
import Derived.Test.YtblileclefbklaaDoorKPrc8

namespace Go.Proofs.YtblileclefbklaaDoor
set_option linter.unusedVariables false
set_option linter.unusedSimpArgs false

/-- The text of one power. -/
def partOf (i : Nat) (k : Int) : List (List UInt8) := if 0 < k then [UInt8.ofNat (120 + i) :: (if 1 < k then 94 :: Lib.itoa k else [])] else []

def partsGo (i : Nat) : List Int → List (List UInt8)
  | [] => []
  | k :: e => partOf i k ++ partsGo (i + 1) e

/-- The text of a coefficient, where it must stand. -/
def headP (t : Tm) : List (List UInt8) := if t.c ≠ 1 ∨ t.e.sum = 0 then [Lib.itoa t.c] else []

def partsT (t : Tm) : List (List UInt8) := headP t ++ partsGo 0 t.e

def termTx (t : Tm) : List UInt8 := Lib.join (partsT t) [42]

def printT (f : Pl) : List UInt8 := if f = [] then [48] else Lib.join (f.map termTx) [32, 43, 32]

theorem partsGo_snoc : ∀ {e : List Int} {i k : Nat} (h : k < e.length), partsGo i (e.take (k + 1)) = partsGo i (e.take k) ++ partOf (i + k) e[k]
  | x :: e, i, 0, h => by simp [partsGo]
  | x :: e, i, k + 1, h => by
    have := partsGo_snoc (e := e) (i := i + 1) (k := k) (by simpa using h)
    simp only [List.take_succ_cons, partsGo, this, List.getElem_cons_succ, List.append_assoc]
    rw [show i + 1 + k = i + (k + 1) by omega]

theorem partOf_len (i : Nat) (k : Int) : (partOf i k).length ≤ 1 := by unfold partOf; split <;> simp

theorem partsGo_len : ∀ (e : List Int) (i : Nat), (partsGo i e).length ≤ e.length
  | [], _ => by simp [partsGo]
  | k :: e, i => by
    have h1 := partsGo_len e (i + 1)
    have h2 := partOf_len i k
    simp only [partsGo, List.length_append, List.length_cons]
    omega

theorem headP_len (t : Tm) : (headP t).length ≤ 1 := by unfold headP; split <;> simp

theorem dec_ne (u : Nat) : Lib.decDigits u ≠ [] := by
  rw [Lib.decDigits]
  split <;> simp

theorem dec_len {u : Nat} (h : u < 1000) : (Lib.decDigits u).length ≤ 3 := by
  rw [Lib.decDigits]
  split
  · simp
  · rw [Lib.decDigits]
    split
    · simp
    · rw [Lib.decDigits]
      split
      · simp
      · omega

theorem itoa_pos {n : Int} (h : 0 ≤ n) : Lib.itoa n = Lib.decDigits n.toNat := if_neg (by omega)

theorem join_snoc {xs : List (List UInt8)} (h : xs ≠ []) (x sep : List UInt8) : Lib.join (xs ++ [x]) sep = Lib.join xs sep ++ (sep ++ x) := by
  cases xs with
  | nil => exact absurd rfl h
  | cons a r => rw [List.cons_append, Lib.join_cons, Lib.join_cons]; simp [Lib.joinTail]

theorem join_ne {xs : List (List UInt8)} (h : xs ≠ []) (hx : ∀ x ∈ xs, x ≠ []) (sep : List UInt8) : Lib.join xs sep ≠ [] := by
  cases xs with
  | nil => exact absurd rfl h
  | cons a r => rw [Lib.join_cons]; intro he; exact hx a (by simp) (List.append_eq_nil_iff.1 he).1

theorem joinTail_len {m : Nat} {sep : List UInt8} : ∀ {r : List (List UInt8)}, (∀ x ∈ r, x.length ≤ m) → (Lib.joinTail sep r).length ≤ r.length * (m + sep.length)
  | [], _ => by simp [Lib.joinTail]
  | x :: r, h => by
    have h1 := joinTail_len (sep := sep) (r := r) fun y hy => h y (by simp [hy])
    have h2 := h x (by simp)
    have e : Lib.joinTail sep (x :: r) = sep ++ x ++ Lib.joinTail sep r := by simp [Lib.joinTail]
    rw [e, List.length_cons, Nat.add_mul, List.length_append, List.length_append]
    omega

theorem join_len {m : Nat} {sep : List UInt8} {xs : List (List UInt8)} (h : ∀ x ∈ xs, x.length ≤ m) : (Lib.join xs sep).length ≤ xs.length * (m + sep.length) := by
  cases xs with
  | nil => simp [Lib.join, List.intercalate]
  | cons x r =>
    have h1 := joinTail_len (sep := sep) (r := r) fun y hy => h y (by simp [hy])
    have h2 := h x (by simp)
    rw [Lib.join_cons, List.length_append, List.length_cons, Nat.add_mul]
    omega

theorem partOf_ok {i : Nat} {k : Int} (hk : k ≤ 200) : ∀ x ∈ partOf i k, x ≠ [] ∧ x.length ≤ 5 := fun x hx => by
  unfold partOf at hx
  split at hx
  · rw [List.mem_singleton.1 hx]
    refine ⟨by simp, ?_⟩
    split
    · rw [itoa_pos (by omega)]
      have := dec_len (u := k.toNat) (by omega)
      simp only [List.length_cons]
      omega
    · simp
  · cases hx

theorem partsGo_ok : ∀ {e : List Int} {i : Nat}, (∀ k ∈ e, k ≤ 200) → ∀ x ∈ partsGo i e, x ≠ [] ∧ x.length ≤ 5
  | k :: e, i, h, x, hx => by
    simp only [partsGo] at hx
    rcases List.mem_append.1 hx with h1 | h1
    · exact partOf_ok (h k (by simp)) x h1
    · exact partsGo_ok (e := e) (fun u hu => h u (by simp [hu])) x h1

theorem headP_ok {t : Tm} (h1 : 0 ≤ t.c) (h2 : t.c ≤ 200) : ∀ x ∈ headP t, x ≠ [] ∧ x.length ≤ 5 := fun x hx => by
  unfold headP at hx
  split at hx
  · rw [List.mem_singleton.1 hx, itoa_pos h1]
    exact ⟨dec_ne _, by have := dec_len (u := t.c.toNat) (by omega); omega⟩
  · cases hx

theorem partsT_ok {t : Tm} (h1 : 0 ≤ t.c) (h2 : t.c ≤ 200) (h : ∀ k ∈ t.e, k ≤ 200) : ∀ x ∈ partsT t, x ≠ [] ∧ x.length ≤ 5 := fun x hx => by
  rcases List.mem_append.1 hx with h3 | h3
  · exact headP_ok h1 h2 x h3
  · exact partsGo_ok h x h3

theorem partsT_len {t : Tm} (h : t.e.length ≤ 3) : (partsT t).length ≤ 4 := by
  have h1 := headP_len t
  have h2 := partsGo_len t.e 0
  unfold partsT
  rw [List.length_append]
  omega

theorem termTx_len {t : Tm} (h1 : 0 ≤ t.c) (h2 : t.c ≤ 200) (h : ∀ k ∈ t.e, k ≤ 200) (h3 : t.e.length ≤ 3) : (termTx t).length ≤ 24 := by
  have := join_len (m := 5) (sep := [42]) fun x hx => (partsT_ok h1 h2 h x hx).2
  have h4 := partsT_len h3
  unfold termTx
  simp only [List.length_cons, List.length_nil] at this
  omega

/-- One more part, as the document writes it. -/
theorem join_more {xs : List (List UInt8)} (hx : ∀ x ∈ xs, x ≠ []) (y : List UInt8) : Lib.join (xs ++ [y]) [42] = (if Lib.join xs [42] = [] then [] else Lib.join xs [42] ++ [42]) ++ y := by
  by_cases h : xs = []
  · subst h
    rw [if_pos (by rfl), List.nil_append, List.nil_append]
    exact Lib.join_one y _
  · rw [if_neg (join_ne h hx _), join_snoc h, List.append_assoc]

theorem letter {i : Nat} (h : i < 3) : (([120, 121, 122] : List UInt8).take (i + 1)).drop i = [UInt8.ofNat (120 + i)] := by
  match i, h with
  | 0, _ => rfl
  | 1, _ => rfl
  | 2, _ => rfl

end Go.Proofs.YtblileclefbklaaDoor

namespace Go.Proofs.YtblileclefbklaaDoor
open Go.RowKit
set_option linter.unusedVariables false
set_option linter.unusedSimpArgs false
set_option maxHeartbeats 8000000

instance : CellT Tryd.prog 9 := ⟨⟨_, Tryd.underlying9, rfl⟩⟩
instance : CellT Tryd.prog 63 := ⟨⟨_, Tryd.underlying63, rfl⟩⟩
instance : SliceT Tryd.prog 63 9 := ⟨Tryd.underlying63⟩
instance : ElT Tryd.prog 9 1 [strD []] 16 := .of (z := .string ⟨#[]⟩) (by kernel_rfl) rfl rfl rfl (by decide)

theorem uni_str (l : List (List UInt8)) : Uni 1 (l.map strD) := uni_map1 (fun _ => rfl) (fun _ => rfl) l

theorem pTerm_pure (t : Tm) {p : Int} {n : Nat} (hn : n ≤ 3) (hp : p ≤ 101) (ht : TB 1 p n 200 t) : Pure Tryd.prog 39 [tmD t] (strD (termTx t)) := by
  intro H
  refine PureH.of_body Tryd.func39 rfl (by decide) (Nat.le_of_ble_eq_true rfl) fun w0 => ?_
  have hc0 := ht.lo
  have hc1 := ht.hi
  have hlen := ht.len
  have hmok := ht.mok hn (by omega)
  have hitoa := Tryd.Itoa_pure (n := t.c) (by omega) (by omega)
  (repeat (first | refine RO.Sv ?_ | refine RO.Yv ?_ | refine RO.no rfl (by decide) rfl ?_ | refine RO.nil ?_ | refine DW.region ?_ | refine DW.seq ?_ | refine DW.block ?_ | refine DW.skip ?_ | refine DW.exit ?_ | refine DW.condT rfl ?_ | refine DW.condF rfl ?_))
  refine RO.cut [(1, .ipt 2 [tmD t] 0 0), (3, .nil), (15, .bool (t.c != 1 || t.e.sum == 0))] H ?_ ?_
  rotate_left
  · cases h1 : (t.c != 1)
    case true =>
      (repeat (first | refine RO.Sv ?_ | refine RO.Yv ?_ | refine RO.no rfl (by decide) rfl ?_ | refine RO.nil ?_ | refine DW.region ?_ | refine DW.seq ?_ | refine DW.block ?_ | refine DW.skip ?_ | refine DW.exit ?_ | refine DW.condT rfl ?_ | refine DW.condF rfl ?_))
      exact ⟨(by repeat first | exact trivial | refine HasG.one rfl ?_ | refine HasN.one rfl ?_), rfl⟩
    (repeat (first | refine RO.Sv ?_ | refine RO.Yv ?_ | refine RO.no rfl (by decide) rfl ?_ | refine RO.nil ?_ | refine DW.region ?_ | refine DW.seq ?_ | refine DW.block ?_ | refine DW.skip ?_ | refine DW.exit ?_ | refine DW.condT rfl ?_ | refine DW.condF rfl ?_))
    refine RO.yes rfl rfl (OpD.of_sta (sta_call rfl rfl (Degree_pure hmok _)) ?_)
    (repeat (first | refine RO.Sv ?_ | refine RO.Yv ?_ | refine RO.no rfl (by decide) rfl ?_ | refine RO.nil ?_ | refine DW.region ?_ | refine DW.seq ?_ | refine DW.block ?_ | refine DW.skip ?_ | refine DW.exit ?_ | refine DW.condT rfl ?_ | refine DW.condF rfl ?_))
    exact ⟨(by repeat first | exact trivial | refine HasG.one rfl ?_ | refine HasN.one rfl ?_), rfl⟩
  refine DW.cutE (α := Heap × D) (fun x => Acc H x.1 x.2 1 9 ((headP t).map strD) ∧ Over H x.1) (fun x => [(1, .ipt 2 [tmD t] 0 0), (3, x.2)]) (fun x => x.1) (fun ⟨H1, d⟩ ⟨hacc, hov⟩ => ?_) ?_
  rotate_left
  · cases h1 : (t.c != 1 || t.e.sum == 0)
    case false =>
      (repeat (first | refine RO.Sv ?_ | refine RO.Yv ?_ | refine RO.no rfl (by decide) rfl ?_ | refine RO.nil ?_ | refine DW.region ?_ | refine DW.seq ?_ | refine DW.block ?_ | refine DW.skip ?_ | refine DW.exit ?_ | refine DW.condT rfl ?_ | refine DW.condF rfl ?_))
      exact ⟨(H, .nil), ⟨by rw [show headP t = [] by unfold headP; rw [if_neg (by simpa using h1)]]; exact Acc.nil _ _ _ _, Over.refl _⟩, Heap.sub_refl _, (by repeat first | exact trivial | refine HasG.one rfl ?_ | refine HasN.one rfl ?_)⟩
    (repeat (first | refine RO.Sv ?_ | refine RO.Yv ?_ | refine RO.no rfl (by decide) rfl ?_ | refine RO.nil ?_ | refine DW.region ?_ | refine DW.seq ?_ | refine DW.block ?_ | refine DW.skip ?_ | refine DW.exit ?_ | refine DW.condT rfl ?_ | refine DW.condF rfl ?_))
    refine RO.sta (sta_call rfl rfl (hitoa _)) rfl ?_
    (repeat (first | refine RO.Sv ?_ | refine RO.Yv ?_ | refine RO.no rfl (by decide) rfl ?_ | refine RO.nil ?_ | refine DW.region ?_ | refine DW.seq ?_ | refine DW.block ?_ | refine DW.skip ?_ | refine DW.exit ?_ | refine DW.condT rfl ?_ | refine DW.condF rfl ?_))
    refine RO.dyn rfl (d_append (H0 := H) (l := []) (xs := [strD (Lib.itoa t.c)]) rfl (Acc.nil _ _ _ _) (Over.refl _) rfl (.inl rfl) (uni_str [Lib.itoa t.c]) (by simp) (by simp) fun d' H' q1 q2 q3 => ?_)
    (repeat (first | refine RO.Sv ?_ | refine RO.Yv ?_ | refine RO.no rfl (by decide) rfl ?_ | refine RO.nil ?_ | refine DW.region ?_ | refine DW.seq ?_ | refine DW.block ?_ | refine DW.skip ?_ | refine DW.exit ?_ | refine DW.condT rfl ?_ | refine DW.condF rfl ?_))
    exact ⟨(H', d'), ⟨by rw [show headP t = [Lib.itoa t.c] by unfold headP; rw [if_pos (by simpa using h1)]]; exact q1, q2⟩, Heap.sub_refl _, (by repeat first | exact trivial | refine HasG.one rfl ?_ | refine HasN.one rfl ?_)⟩
  dsimp only at hacc hov
  dsimp only
  (repeat (first | refine RO.Sv ?_ | refine RO.Yv ?_ | refine RO.no rfl (by decide) rfl ?_ | refine RO.nil ?_ | refine DW.region ?_ | refine DW.seq ?_ | refine DW.block ?_ | refine DW.skip ?_ | refine DW.exit ?_ | refine DW.condT rfl ?_ | refine DW.condF rfl ?_))
  refine DW.loopI (fun x : Nat × Heap × D => x.1 ≤ t.e.length ∧ Acc H x.2.1 x.2.2 1 9 ((headP t ++ partsGo 0 (t.e.take x.1)).map strD) ∧ Over H x.2.1) (fun x => [(3, x.2.2), (23, intsD t.e), (24, I t.e.length), (25, I x.1)]) (fun x => x.2.1) (fun x => t.e.length - x.1) (0, H1, d)
    ⟨Nat.zero_le _, by rw [List.take_zero]; simpa [partsGo] using hacc, hov⟩ rfl ⟨rfl, rfl, rfl, rfl, trivial⟩ fun ⟨k, Hk, dk⟩ ⟨hk, hac, hok⟩ => ?_
  dsimp only at hk hac hok
  dsimp only
  have hl1 := headP_len t
  have hl2 := partsGo_len (t.e.take k) 0
  rw [List.length_take] at hl2
  (repeat (first | refine RO.Sv ?_ | refine RO.Yv ?_ | refine RO.no rfl (by decide) rfl ?_ | refine RO.nil ?_ | refine DW.region ?_ | refine DW.seq ?_ | refine DW.block ?_ | refine DW.skip ?_ | refine DW.exit ?_ | refine DW.condT rfl ?_ | refine DW.condF rfl ?_))
  refine DW.cond rfl (fun hb => ?_) (fun hb => ?_)
  · have hlt : k < t.e.length := by have := of_decide_eq_true hb; omega
    clear hb
    have hx := ht.mem _ (List.getElem_mem hlt)
    have hsn := partsGo_snoc (e := t.e) (i := 0) hlt
    rw [Nat.zero_add] at hsn
    have hitk := Tryd.Itoa_pure (n := t.e[k]) (by omega) (by omega)
    have hdl := dec_len (u := t.e[k].toNat) (by omega)
    rw [← itoa_pos hx.1] at hdl
    have hlet := letter (i := k) (by omega)
    (repeat (first | refine RO.Sv ?_ | refine RO.Yv ?_ | refine RO.no rfl (by decide) rfl ?_ | refine RO.nil ?_ | refine DW.region ?_ | refine DW.seq ?_ | refine DW.block ?_ | refine DW.skip ?_ | refine DW.exit ?_ | refine DW.condT rfl ?_ | refine DW.condF rfl ?_))
    refine RO.sta (s_strCut (l := [120, 121, 122]) (a := k) (b := k + 1) Tryd.underlying9 rfl rfl rfl (by omega) (by show k + 1 ≤ 3; omega)) rfl ?_
    rw [hlet]
    (repeat (first | refine RO.Sv ?_ | refine RO.Yv ?_ | refine RO.no rfl (by decide) rfl ?_ | refine RO.nil ?_ | refine DW.region ?_ | refine DW.seq ?_ | refine DW.block ?_ | refine DW.skip ?_ | refine DW.exit ?_ | refine DW.condT rfl ?_ | refine DW.condF rfl ?_))
    cases h1 : decide ((1 : Int) < t.e[k])
    case true =>
      have h1' := of_decide_eq_true h1
      have hpart : partOf k t.e[k] = [[UInt8.ofNat (120 + k)] ++ ([94] ++ Lib.itoa t.e[k])] := by
        unfold partOf
        rw [if_pos (by omega), if_pos h1']
        rfl
      rw [hpart, ← List.append_assoc] at hsn
      have h2 : decide ((0 : Int) < t.e[k]) = true := decide_eq_true (by omega)
      (repeat (first | refine RO.Sv ?_ | refine RO.Yv ?_ | refine RO.no rfl (by decide) rfl ?_ | refine RO.nil ?_ | refine DW.region ?_ | refine DW.seq ?_ | refine DW.block ?_ | refine DW.skip ?_ | refine DW.exit ?_ | refine DW.condT rfl ?_ | refine DW.condF rfl ?_))
      refine RO.sta (sta_call rfl rfl (hitk _)) rfl ?_
      refine RO.sta (s_strAdd (a := [94]) (b := Lib.itoa t.e[k]) rfl rfl (by simp; omega)) rfl ?_
      refine RO.sta (s_strAdd (a := [UInt8.ofNat (120 + k)]) (b := [94] ++ Lib.itoa t.e[k]) rfl rfl (by simp; omega)) rfl ?_
      (repeat (first | refine RO.Sv ?_ | refine RO.Yv ?_ | refine RO.no rfl (by decide) rfl ?_ | refine RO.nil ?_ | refine DW.region ?_ | refine DW.seq ?_ | refine DW.block ?_ | refine DW.skip ?_ | refine DW.exit ?_ | refine DW.condT rfl ?_ | refine DW.condF rfl ?_))
      rw [h2]
      (repeat (first | refine RO.Sv ?_ | refine RO.Yv ?_ | refine RO.no rfl (by decide) rfl ?_ | refine RO.nil ?_ | refine DW.region ?_ | refine DW.seq ?_ | refine DW.block ?_ | refine DW.skip ?_ | refine DW.exit ?_ | refine DW.condT rfl ?_ | refine DW.condF rfl ?_))
      refine RO.dyn rfl (d_append (H0 := H) (xs := [strD ([UInt8.ofNat (120 + k)] ++ ([94] ++ Lib.itoa t.e[k]))]) rfl hac hok rfl (.inl rfl) (uni_str [_]) (by simp; omega) (by simp; omega) fun d' H' q1 q2 q3 => ?_)
      (repeat (first | refine RO.Sv ?_ | refine RO.Yv ?_ | refine RO.no rfl (by decide) rfl ?_ | refine RO.nil ?_ | refine DW.region ?_ | refine DW.seq ?_ | refine DW.block ?_ | refine DW.skip ?_ | refine DW.exit ?_ | refine DW.condT rfl ?_ | refine DW.condF rfl ?_))
      refine ⟨(k + 1, H', d'), ⟨hlt, ?_, q2⟩, by dsimp only; omega, rfl, rfl, rfl, rfl, rfl, trivial⟩
      dsimp only
      rw [hsn, ← List.append_assoc, List.map_append]
      exact q1
    have h1' : ¬ 1 < t.e[k] := of_decide_eq_false h1
    (repeat (first | refine RO.Sv ?_ | refine RO.Yv ?_ | refine RO.no rfl (by decide) rfl ?_ | refine RO.nil ?_ | refine DW.region ?_ | refine DW.seq ?_ | refine DW.block ?_ | refine DW.skip ?_ | refine DW.exit ?_ | refine DW.condT rfl ?_ | refine DW.condF rfl ?_))
    cases h2 : decide ((0 : Int) < t.e[k])
    case true =>
      have h2' := of_decide_eq_true h2
      have hpart : partOf k t.e[k] = [[UInt8.ofNat (120 + k)]] := by
        unfold partOf
        rw [if_pos h2', if_neg h1']
      rw [hpart] at hsn
      (repeat (first | refine RO.Sv ?_ | refine RO.Yv ?_ | refine RO.no rfl (by decide) rfl ?_ | refine RO.nil ?_ | refine DW.region ?_ | refine DW.seq ?_ | refine DW.block ?_ | refine DW.skip ?_ | refine DW.exit ?_ | refine DW.condT rfl ?_ | refine DW.condF rfl ?_))
      refine RO.dyn rfl (d_append (H0 := H) (xs := [strD [UInt8.ofNat (120 + k)]]) rfl hac hok rfl (.inl rfl) (uni_str [_]) (by simp; omega) (by simp; omega) fun d' H' q1 q2 q3 => ?_)
      (repeat (first | refine RO.Sv ?_ | refine RO.Yv ?_ | refine RO.no rfl (by decide) rfl ?_ | refine RO.nil ?_ | refine DW.region ?_ | refine DW.seq ?_ | refine DW.block ?_ | refine DW.skip ?_ | refine DW.exit ?_ | refine DW.condT rfl ?_ | refine DW.condF rfl ?_))
      refine ⟨(k + 1, H', d'), ⟨hlt, ?_, q2⟩, by dsimp only; omega, rfl, rfl, rfl, rfl, rfl, trivial⟩
      dsimp only
      rw [hsn, ← List.append_assoc, List.map_append]
      exact q1
    have h2' : ¬ 0 < t.e[k] := of_decide_eq_false h2
    have hpart : partOf k t.e[k] = [] := by
      unfold partOf
      rw [if_neg h2']
    rw [hpart, List.append_nil] at hsn
    (repeat (first | refine RO.Sv ?_ | refine RO.Yv ?_ | refine RO.no rfl (by decide) rfl ?_ | refine RO.nil ?_ | refine DW.region ?_ | refine DW.seq ?_ | refine DW.block ?_ | refine DW.skip ?_ | refine DW.exit ?_ | refine DW.condT rfl ?_ | refine DW.condF rfl ?_))
    exact ⟨(k + 1, Hk, dk), ⟨hlt, by dsimp only; rw [hsn]; exact hac, hok⟩, by dsimp only; omega, rfl, rfl, rfl, rfl, rfl, trivial⟩
  · have hge : k = t.e.length := by have := of_decide_eq_false hb; omega
    subst hge
    rw [List.take_length] at hac
    (repeat (first | refine RO.Sv ?_ | refine RO.Yv ?_ | refine RO.no rfl (by decide) rfl ?_ | refine RO.nil ?_ | refine DW.region ?_ | refine DW.seq ?_ | refine DW.block ?_ | refine DW.skip ?_ | refine DW.exit ?_ | refine DW.condT rfl ?_ | refine DW.condF rfl ?_))
    have hpl := partsT_len (t := t) (by omega)
    have htl := termTx_len (t := t) (by omega) (by omega) (fun x hx => (ht.mem x hx).2) (by omega)
    refine RO.dyn rfl (opD_callF (ds' := [.list 1 ((partsT t).map strD), strD [42]]) (H' := H) rfl rfl hok (.cons hac.done (.cons (.same _) .nil)) (Tryd.Join_pure (partsT t) [42] (by omega) (by unfold termTx at htl; omega) _) ?_)
    (repeat (first | refine RO.Sv ?_ | refine RO.Yv ?_ | refine RO.no rfl (by decide) rfl ?_ | refine RO.nil ?_ | refine DW.region ?_ | refine DW.seq ?_ | refine DW.block ?_ | refine DW.skip ?_ | refine DW.exit ?_ | refine DW.condT rfl ?_ | refine DW.condF rfl ?_))
    exact DW.ret ⟨.inl rfl, _, rfl, Over.refl _, .same _⟩

theorem Print_pure (r : Rg) (f : Pl) (hf : f.length ≤ 4611686018427387904) : Pure Tryd.prog 16 [rgD r, plD f] (.tup [strD (if polysCk r [f] = 0 then printT f else []), I (polysCk r [f])]) := by
  intro H
  refine PureH.of_body Tryd.func16 rfl (by decide) (Nat.le_of_ble_eq_true rfl) fun w0 => ?_
  (repeat (first | refine RO.Sv ?_ | refine RO.Yv ?_ | refine RO.no rfl (by decide) rfl ?_ | refine RO.nil ?_ | refine DW.region ?_ | refine DW.seq ?_ | refine DW.block ?_ | refine DW.skip ?_ | refine DW.exit ?_ | refine DW.condT rfl ?_ | refine DW.condF rfl ?_))
  refine RO.sta (sta_call rfl rfl (pcheck_pure r [f] (by simp) (fun u hu => by rw [List.mem_singleton.1 hu]; exact hf) _)) rfl ?_
  (repeat (first | refine RO.Sv ?_ | refine RO.Yv ?_ | refine RO.no rfl (by decide) rfl ?_ | refine RO.nil ?_ | refine DW.region ?_ | refine DW.seq ?_ | refine DW.block ?_ | refine DW.skip ?_ | refine DW.exit ?_ | refine DW.condT rfl ?_ | refine DW.condF rfl ?_))
  by_cases hck : polysCk r [f] = 0
  case neg =>
    rw [if_neg hck, show (polysCk r [f] != 0) = true by simpa using hck]
    (repeat (first | refine RO.Sv ?_ | refine RO.Yv ?_ | refine RO.no rfl (by decide) rfl ?_ | refine RO.nil ?_ | refine DW.region ?_ | refine DW.seq ?_ | refine DW.block ?_ | refine DW.skip ?_ | refine DW.exit ?_ | refine DW.condT rfl ?_ | refine DW.condF rfl ?_))
    exact DW.ret ⟨.inl rfl, _, rfl, Over.refl _, .same _⟩
  obtain ⟨hr, hal⟩ := polysCk_ok hck
  have hfo := hal f (by simp)
  have hr2 := ringCk_ok hr
  have hp := ckP_ok hr2.1
  have e1 := hfo.len
  rw [if_pos hck, hck]
  (repeat (first | refine RO.Sv ?_ | refine RO.Yv ?_ | refine RO.no rfl (by decide) rfl ?_ | refine RO.nil ?_ | refine DW.region ?_ | refine DW.seq ?_ | refine DW.block ?_ | refine DW.skip ?_ | refine DW.exit ?_ | refine DW.condT rfl ?_ | refine DW.condF rfl ?_))
  refine DW.loopI (fun x : Nat × Heap × D => x.1 ≤ f.length ∧ Acc H x.2.1 x.2.2 1 9 (((f.take x.1).map termTx).map strD) ∧ Over H x.2.1) (fun x => [(7, x.2.2), (17, plD f), (18, I f.length), (19, I x.1)]) (fun x => x.2.1) (fun x => f.length - x.1) (0, H, .nil)
    ⟨Nat.zero_le _, Acc.nil _ _ _ _, Over.refl _⟩ rfl ⟨rfl, rfl, rfl, rfl, trivial⟩ fun ⟨k, Hk, d⟩ ⟨hk, hacc, hov⟩ => ?_
  dsimp only at hk hacc hov
  dsimp only
  (repeat (first | refine RO.Sv ?_ | refine RO.Yv ?_ | refine RO.no rfl (by decide) rfl ?_ | refine RO.nil ?_ | refine DW.region ?_ | refine DW.seq ?_ | refine DW.block ?_ | refine DW.skip ?_ | refine DW.exit ?_ | refine DW.condT rfl ?_ | refine DW.condF rfl ?_))
  refine DW.cond rfl (fun hb => ?_) (fun hb => ?_)
  · have hlt : k < f.length := by have := of_decide_eq_true hb; omega
    clear hb
    have htb := hfo.ok.all _ (List.getElem_mem hlt)
    (repeat (first | refine RO.Sv ?_ | refine RO.Yv ?_ | refine RO.no rfl (by decide) rfl ?_ | refine RO.nil ?_ | refine DW.region ?_ | refine DW.seq ?_ | refine DW.block ?_ | refine DW.skip ?_ | refine DW.exit ?_ | refine DW.condT rfl ?_ | refine DW.condF rfl ?_))
    (refine RO.dyn rfl (d_alloc fun bv hbv => ?_); (repeat (first | refine RO.Sv ?_ | refine RO.Yv ?_ | refine RO.no rfl (by decide) rfl ?_)); refine RO.dyn rfl (d_storeTm rfl rfl (Heap.set_self _ _ _) rfl ?_); rw [Heap.set_set])
    (repeat (first | refine RO.Sv ?_ | refine RO.Yv ?_ | refine RO.no rfl (by decide) rfl ?_ | refine RO.nil ?_ | refine DW.region ?_ | refine DW.seq ?_ | refine DW.block ?_ | refine DW.skip ?_ | refine DW.exit ?_ | refine DW.condT rfl ?_ | refine DW.condF rfl ?_))
    have hov2 := hov.set (x := (54, [I f[k].c, intsD f[k].e])) (hov.none hbv)
    refine RO.sta (sta_call rfl rfl (pTerm_pure f[k] (n := r.n.toNat) (by omega) hp.2 htb _)) rfl ?_
    (repeat (first | refine RO.Sv ?_ | refine RO.Yv ?_ | refine RO.no rfl (by decide) rfl ?_ | refine RO.nil ?_ | refine DW.region ?_ | refine DW.seq ?_ | refine DW.block ?_ | refine DW.skip ?_ | refine DW.exit ?_ | refine DW.condT rfl ?_ | refine DW.condF rfl ?_))
    refine RO.dyn rfl (d_append (H0 := H) (xs := [strD (termTx f[k])]) rfl (hacc.over' (Over.set (Over.refl _) hbv)) hov2 rfl (.inl rfl) (uni_str [_]) (by simp; omega) (by simp; omega) fun d' H' q1 q2 q3 => ?_)
    (repeat (first | refine RO.Sv ?_ | refine RO.Yv ?_ | refine RO.no rfl (by decide) rfl ?_ | refine RO.nil ?_ | refine DW.region ?_ | refine DW.seq ?_ | refine DW.block ?_ | refine DW.skip ?_ | refine DW.exit ?_ | refine DW.condT rfl ?_ | refine DW.condF rfl ?_))
    refine ⟨(k + 1, H', d'), ⟨hlt, ?_, q2⟩, by dsimp only; omega, rfl, rfl, rfl, rfl, rfl, trivial⟩
    dsimp only
    rw [List.take_succ_eq_append_getElem hlt, List.map_append, List.map_append]
    exact q1
  · have hke : k = f.length := by have := of_decide_eq_false hb; omega
    rw [hke, List.take_length] at hacc
    (repeat (first | refine RO.Sv ?_ | refine RO.Yv ?_ | refine RO.no rfl (by decide) rfl ?_ | refine RO.nil ?_ | refine DW.region ?_ | refine DW.seq ?_ | refine DW.block ?_ | refine DW.skip ?_ | refine DW.exit ?_ | refine DW.condT rfl ?_ | refine DW.condF rfl ?_))
    refine RO.sta (s_len rfl hacc.len') rfl ?_
    rw [List.length_map, List.length_map]
    (repeat (first | refine RO.Sv ?_ | refine RO.Yv ?_ | refine RO.no rfl (by decide) rfl ?_ | refine RO.nil ?_ | refine DW.region ?_ | refine DW.seq ?_ | refine DW.block ?_ | refine DW.skip ?_ | refine DW.exit ?_ | refine DW.condT rfl ?_ | refine DW.condF rfl ?_))
    unfold printT
    cases hfe : ((f.length : Int) == 0)
    case true =>
      have : f = [] := List.length_eq_zero_iff.1 (by have : (f.length : Int) = 0 := by simpa using hfe
                                                     omega)
      rw [if_pos this]
      (repeat (first | refine RO.Sv ?_ | refine RO.Yv ?_ | refine RO.no rfl (by decide) rfl ?_ | refine RO.nil ?_ | refine DW.region ?_ | refine DW.seq ?_ | refine DW.block ?_ | refine DW.skip ?_ | refine DW.exit ?_ | refine DW.condT rfl ?_ | refine DW.condF rfl ?_))
      exact DW.ret ⟨.inl rfl, _, rfl, hov, .same _⟩
    have hne : f ≠ [] := fun e => by rw [e] at hfe; cases hfe
    rw [if_neg hne]
    (repeat (first | refine RO.Sv ?_ | refine RO.Yv ?_ | refine RO.no rfl (by decide) rfl ?_ | refine RO.nil ?_ | refine DW.region ?_ | refine DW.seq ?_ | refine DW.block ?_ | refine DW.skip ?_ | refine DW.exit ?_ | refine DW.condT rfl ?_ | refine DW.condF rfl ?_))
    have hjl := join_len (m := 24) (sep := [32, 43, 32]) (xs := f.map termTx) fun x hx => by
      obtain ⟨t, ht, rfl⟩ := List.mem_map.1 hx
      have htb := hfo.ok.all t ht
      have q0 := htb.lo
      have q1 := htb.hi
      have q2 := htb.len
      exact termTx_len (by omega) (by omega) (fun y hy => (htb.mem y hy).2) (by omega)
    rw [List.length_map] at hjl
    simp only [List.length_cons, List.length_nil] at hjl
    refine RO.dyn rfl (opD_callF (ds' := [.list 1 ((f.map termTx).map strD), strD [32, 43, 32]]) (H' := H) rfl rfl hov (.cons hacc.done (.cons (.same _) .nil)) (Tryd.Join_pure (f.map termTx) [32, 43, 32] (by rw [List.length_map]; omega) (by omega) _) ?_)
    (repeat (first | refine RO.Sv ?_ | refine RO.Yv ?_ | refine RO.no rfl (by decide) rfl ?_ | refine RO.nil ?_ | refine DW.region ?_ | refine DW.seq ?_ | refine DW.block ?_ | refine DW.skip ?_ | refine DW.exit ?_ | refine DW.condT rfl ?_ | refine DW.condF rfl ?_))
    exact DW.ret ⟨.inl rfl, _, rfl, Over.refl _, .same _⟩

end Go.Proofs.YtblileclefbklaaDoor

namespace Go.Proofs.YtblileclefbklaaDoor
open Go.RowKit
set_option linter.unusedVariables false
set_option linter.unusedSimpArgs false
set_option maxHeartbeats 8000000

instance : CellT Tryd.prog 5 := ⟨⟨_, Tryd.underlying5, rfl⟩⟩
instance : SliceT Tryd.prog 71 5 := ⟨Tryd.underlying71⟩
instance : ElT Tryd.prog 5 1 [.int .u8 0] 1 := .of (z := .int .u8 0) (by kernel_rfl) rfl rfl rfl (by decide)

theorem Digits_pure : ∀ (n : Nat), n < 1000 → Pure Tryd.prog 46 [I n] (strD (Lib.decDigits n)) := by
  intro n
  induction n using Nat.strongRecOn with
  | _ n ih =>
    intro hn H
    refine PureH.of_body Tryd.func46 rfl (by decide) (Nat.le_of_ble_eq_true rfl) fun w0 => ?_
    rw [Lib.decDigits]
    (repeat (first | refine RO.Sv ?_ | refine RO.Yv ?_ | refine RO.no rfl (by decide) rfl ?_ | refine RO.nil ?_ | refine DW.region ?_ | refine DW.seq ?_ | refine DW.block ?_ | refine DW.skip ?_ | refine DW.exit ?_ | refine DW.condT rfl ?_ | refine DW.condF rfl ?_))
    cases hb : decide ((n : Int) < 10)
    case true =>
      have hlt : n < 10 := by have := of_decide_eq_true hb; omega
      rw [dif_pos hlt]
      (repeat (first | refine RO.Sv ?_ | refine RO.Yv ?_ | refine RO.no rfl (by decide) rfl ?_ | refine RO.nil ?_ | refine DW.region ?_ | refine DW.seq ?_ | refine DW.block ?_ | refine DW.skip ?_ | refine DW.exit ?_ | refine DW.condT rfl ?_ | refine DW.condF rfl ?_))
      refine RO.sta (s_byte (n := 48 + n) Tryd.underlying5 Tryd.underlying3 rfl (by omega)) rfl ?_
      (repeat (first | refine RO.Sv ?_ | refine RO.Yv ?_ | refine RO.no rfl (by decide) rfl ?_ | refine RO.nil ?_ | refine DW.region ?_ | refine DW.seq ?_ | refine DW.block ?_ | refine DW.skip ?_ | refine DW.exit ?_ | refine DW.condT rfl ?_ | refine DW.condF rfl ?_))
      refine RO.sta (s_textOne Tryd.underlying71 Tryd.underlying5 Tryd.underlying9 rfl) rfl ?_
      (repeat (first | refine RO.Sv ?_ | refine RO.Yv ?_ | refine RO.no rfl (by decide) rfl ?_ | refine RO.nil ?_ | refine DW.region ?_ | refine DW.seq ?_ | refine DW.block ?_ | refine DW.skip ?_ | refine DW.exit ?_ | refine DW.condT rfl ?_ | refine DW.condF rfl ?_))
      exact DW.ret ⟨.inl rfl, _, rfl, Over.refl _, .same _⟩
    have hge : ¬ n < 10 := by have := of_decide_eq_false hb; omega
    rw [dif_neg hge]
    (repeat (first | refine RO.Sv ?_ | refine RO.Yv ?_ | refine RO.no rfl (by decide) rfl ?_ | refine RO.nil ?_ | refine DW.region ?_ | refine DW.seq ?_ | refine DW.block ?_ | refine DW.skip ?_ | refine DW.exit ?_ | refine DW.condT rfl ?_ | refine DW.condF rfl ?_))
    refine RO.sta (s_quo rfl rfl (by omega) (by omega) (by decide)) rfl ?_
    have h1 := ih (n / 10) (by omega) (by omega)
    have h2 := ih (n % 10) (by omega) (by omega)
    have hd : Lib.decDigits (n % 10) = [UInt8.ofNat (48 + n % 10)] := by rw [Lib.decDigits, dif_pos (by omega)]
    rw [hd] at h2
    have hl := dec_len (u := n / 10) (by omega)
    refine RO.sta (sta_call rfl rfl (h1 _)) rfl ?_
    (repeat (first | refine RO.Sv ?_ | refine RO.Yv ?_ | refine RO.no rfl (by decide) rfl ?_ | refine RO.nil ?_ | refine DW.region ?_ | refine DW.seq ?_ | refine DW.block ?_ | refine DW.skip ?_ | refine DW.exit ?_ | refine DW.condT rfl ?_ | refine DW.condF rfl ?_))
    refine RO.sta (sta_call rfl rfl (h2 _)) rfl ?_
    refine RO.sta (s_strAdd (a := Lib.decDigits (n / 10)) (b := [UInt8.ofNat (48 + n % 10)]) rfl rfl (by simp; omega)) rfl ?_
    (repeat (first | refine RO.Sv ?_ | refine RO.Yv ?_ | refine RO.no rfl (by decide) rfl ?_ | refine RO.nil ?_ | refine DW.region ?_ | refine DW.seq ?_ | refine DW.block ?_ | refine DW.skip ?_ | refine DW.exit ?_ | refine DW.condT rfl ?_ | refine DW.condF rfl ?_))
    exact DW.ret ⟨.inl rfl, _, rfl, Over.refl _, .same _⟩

/-- The text of the first terms. -/
def outTx (f : Pl) (k : Nat) : List UInt8 := if k = 0 then [] else Lib.join ((f.take k).map termTx) [32, 43, 32]

theorem outTx_succ {f : Pl} {k : Nat} (h : k < f.length) : outTx f (k + 1) = (if k = 0 then [] else outTx f k ++ [32, 43, 32]) ++ termTx f[k] := by
  unfold outTx
  rw [if_neg (by omega), List.take_succ_eq_append_getElem h, List.map_append]
  by_cases hk : k = 0
  · subst hk
    rw [if_pos rfl]
    exact Lib.join_one _ _
  · rw [if_neg hk, if_neg hk]
    show Lib.join ((f.take k).map termTx ++ [termTx f[k]]) _ = _
    rw [join_snoc (by intro he; have := congrArg List.length he; rw [List.length_map, List.length_take, List.length_nil] at this; omega), List.append_assoc]

theorem PrintOf_pure (f : Pl) {p o : Int} {n : Nat} (hn : n ≤ 3) (hp : p ≤ 101) (hf : PB 1 p o n 200 f) (hfl : f.length ≤ 2000) : Pure Tryd.prog 19 [plD f] (strD (printT f)) := by
  intro H
  refine PureH.of_body Tryd.func19 rfl (by decide) (Nat.le_of_ble_eq_true rfl) fun w0 => ?_
  (repeat (first | refine RO.Sv ?_ | refine RO.Yv ?_ | refine RO.no rfl (by decide) rfl ?_ | refine RO.nil ?_ | refine DW.region ?_ | refine DW.seq ?_ | refine DW.block ?_ | refine DW.skip ?_ | refine DW.exit ?_ | refine DW.condT rfl ?_ | refine DW.condF rfl ?_))
  unfold printT
  cases hfe : ((f.length : Int) == 0)
  case true =>
    have : f = [] := List.length_eq_zero_iff.1 (by have : (f.length : Int) = 0 := by simpa using hfe
                                                   omega)
    rw [if_pos this]
    (repeat (first | refine RO.Sv ?_ | refine RO.Yv ?_ | refine RO.no rfl (by decide) rfl ?_ | refine RO.nil ?_ | refine DW.region ?_ | refine DW.seq ?_ | refine DW.block ?_ | refine DW.skip ?_ | refine DW.exit ?_ | refine DW.condT rfl ?_ | refine DW.condF rfl ?_))
    exact DW.ret ⟨.inl rfl, _, rfl, Over.refl _, .same _⟩
  have hne : f ≠ [] := fun e => by rw [e] at hfe; cases hfe
  rw [if_neg hne]
  clear hfe
  (repeat (first | refine RO.Sv ?_ | refine RO.Yv ?_ | refine RO.no rfl (by decide) rfl ?_ | refine RO.nil ?_ | refine DW.region ?_ | refine DW.seq ?_ | refine DW.block ?_ | refine DW.skip ?_ | refine DW.exit ?_ | refine DW.condT rfl ?_ | refine DW.condF rfl ?_))
  have htl : ∀ t ∈ f, (termTx t).length ≤ 24 := fun t ht => by
    have htb := hf.all t ht
    have q0 := htb.lo
    have q1 := htb.hi
    have q2 := htb.len
    exact termTx_len (by omega) (by omega) (fun y hy => (htb.mem y hy).2) (by omega)
  have hol : ∀ k, (outTx f k).length ≤ k * 27 := fun k => by
    unfold outTx
    split
    · simp
    · have hjl := join_len (m := 24) (sep := [32, 43, 32]) (xs := (f.take k).map termTx) fun x hx => by
        obtain ⟨t, ht, rfl⟩ := List.mem_map.1 hx
        exact htl t (List.mem_of_mem_take ht)
      rw [List.length_map, List.length_take] at hjl
      simp only [List.length_cons, List.length_nil] at hjl
      omega
  refine DW.loopI (fun k : Nat => k ≤ f.length) (fun k => [(0, plD f), (3, strD (outTx f k)), (4, I k)]) (fun _ => H) (fun k => f.length - k) 0 (Nat.zero_le _) rfl ⟨rfl, rfl, rfl, trivial⟩ fun k hk => ?_
  have hok := hol k
  (repeat (first | refine RO.Sv ?_ | refine RO.Yv ?_ | refine RO.no rfl (by decide) rfl ?_ | refine RO.nil ?_ | refine DW.region ?_ | refine DW.seq ?_ | refine DW.block ?_ | refine DW.skip ?_ | refine DW.exit ?_ | refine DW.condT rfl ?_ | refine DW.condF rfl ?_))
  refine DW.cond rfl (fun hb => ?_) (fun hb => ?_)
  · have hlt : k < f.length := by have := of_decide_eq_true hb; omega
    clear hb
    have ht := hf.all _ (List.getElem_mem hlt)
    have hc0 := ht.lo
    have hc1 := ht.hi
    have hlen := ht.len
    have hmok := ht.mok hn (by omega)
    have hsucc := outTx_succ hlt
    have htlk := htl _ (List.getElem_mem hlt)
    (repeat (first | refine RO.Sv ?_ | refine RO.Yv ?_ | refine RO.no rfl (by decide) rfl ?_ | refine RO.nil ?_ | refine DW.region ?_ | refine DW.seq ?_ | refine DW.block ?_ | refine DW.skip ?_ | refine DW.exit ?_ | refine DW.condT rfl ?_ | refine DW.condF rfl ?_))
    refine DW.cutg [(0, plD f), (3, strD (if k = 0 then [] else outTx f k ++ [32, 43, 32])), (4, I k)] H ?_ ?_
    rotate_left
    · cases hk0 : decide ((0 : Int) < (k : Int))
      case false =>
        have hk1 : k = 0 := by have := of_decide_eq_false hk0; omega
        rw [if_pos hk1]
        have : outTx f k = [] := by unfold outTx; rw [if_pos hk1]
        rw [this]
        (repeat (first | refine RO.Sv ?_ | refine RO.Yv ?_ | refine RO.no rfl (by decide) rfl ?_ | refine RO.nil ?_ | refine DW.region ?_ | refine DW.seq ?_ | refine DW.block ?_ | refine DW.skip ?_ | refine DW.exit ?_ | refine DW.condT rfl ?_ | refine DW.condF rfl ?_))
        exact ⟨Heap.sub_refl _, (by repeat first | exact trivial | refine HasG.one rfl ?_ | refine HasN.one rfl ?_ | refine HasG.nil1 rfl ?_)⟩
      have hk1 : ¬ k = 0 := by have := of_decide_eq_true hk0; omega
      rw [if_neg hk1]
      (repeat (first | refine RO.Sv ?_ | refine RO.Yv ?_ | refine RO.no rfl (by decide) rfl ?_ | refine RO.nil ?_ | refine DW.region ?_ | refine DW.seq ?_ | refine DW.block ?_ | refine DW.skip ?_ | refine DW.exit ?_ | refine DW.condT rfl ?_ | refine DW.condF rfl ?_))
      refine RO.sta (s_strAdd (a := outTx f k) (b := [32, 43, 32]) rfl rfl (by simp; omega)) rfl ?_
      (repeat (first | refine RO.Sv ?_ | refine RO.Yv ?_ | refine RO.no rfl (by decide) rfl ?_ | refine RO.nil ?_ | refine DW.region ?_ | refine DW.seq ?_ | refine DW.block ?_ | refine DW.skip ?_ | refine DW.exit ?_ | refine DW.condT rfl ?_ | refine DW.condF rfl ?_))
      exact ⟨Heap.sub_refl _, (by repeat first | exact trivial | refine HasG.one rfl ?_ | refine HasN.one rfl ?_ | refine HasG.nil1 rfl ?_)⟩
    have hpre : (if k = 0 then [] else outTx f k ++ [32, 43, 32]).length ≤ k * 27 + 3 := by
      split
      · simp
      · simp; omega
    generalize (if k = 0 then [] else outTx f k ++ [32, 43, 32]) = pre at hsucc hpre ⊢
    (repeat (first | refine RO.Sv ?_ | refine RO.Yv ?_ | refine RO.no rfl (by decide) rfl ?_ | refine RO.nil ?_ | refine DW.region ?_ | refine DW.seq ?_ | refine DW.block ?_ | refine DW.skip ?_ | refine DW.exit ?_ | refine DW.condT rfl ?_ | refine DW.condF rfl ?_))
    refine RO.cut [(0, plD f), (3, strD pre), (4, I k), (5, strD []), (34, .bool (f[k].c != 1 || f[k].e.sum == 0))] H ?_ ?_
    rotate_left
    · have hcc : decide ((1 : Int) < f[k].c) = (f[k].c != 1) := by
        by_cases h : f[k].c = 1
        · rw [h]; rfl
        · rw [decide_eq_true (by omega)]; symm; simpa using h
      rw [hcc]
      cases h1 : (f[k].c != 1)
      case true =>
        (repeat (first | refine RO.Sv ?_ | refine RO.Yv ?_ | refine RO.no rfl (by decide) rfl ?_ | refine RO.nil ?_ | refine DW.region ?_ | refine DW.seq ?_ | refine DW.block ?_ | refine DW.skip ?_ | refine DW.exit ?_ | refine DW.condT rfl ?_ | refine DW.condF rfl ?_))
        exact ⟨(by repeat first | exact trivial | refine HasG.one rfl ?_ | refine HasN.one rfl ?_), rfl⟩
      (repeat (first | refine RO.Sv ?_ | refine RO.Yv ?_ | refine RO.no rfl (by decide) rfl ?_ | refine RO.nil ?_ | refine DW.region ?_ | refine DW.seq ?_ | refine DW.block ?_ | refine DW.skip ?_ | refine DW.exit ?_ | refine DW.condT rfl ?_ | refine DW.condF rfl ?_))
      refine RO.yes rfl rfl (OpD.of_sta (sta_call rfl rfl (DegreeOf_pure hmok _)) ?_)
      (repeat (first | refine RO.Sv ?_ | refine RO.Yv ?_ | refine RO.no rfl (by decide) rfl ?_ | refine RO.nil ?_ | refine DW.region ?_ | refine DW.seq ?_ | refine DW.block ?_ | refine DW.skip ?_ | refine DW.exit ?_ | refine DW.condT rfl ?_ | refine DW.condF rfl ?_))
      exact ⟨(by repeat first | exact trivial | refine HasG.one rfl ?_ | refine HasN.one rfl ?_), rfl⟩
    refine DW.cutg [(0, plD f), (3, strD pre), (4, I k), (5, strD (Lib.join (headP f[k]) [42]))] H ?_ ?_
    rotate_left
    · cases h1 : (f[k].c != 1 || f[k].e.sum == 0)
      case false =>
        rw [show headP f[k] = [] by unfold headP; rw [if_neg (by simpa using h1)]]
        (repeat (first | refine RO.Sv ?_ | refine RO.Yv ?_ | refine RO.no rfl (by decide) rfl ?_ | refine RO.nil ?_ | refine DW.region ?_ | refine DW.seq ?_ | refine DW.block ?_ | refine DW.skip ?_ | refine DW.exit ?_ | refine DW.condT rfl ?_ | refine DW.condF rfl ?_))
        exact ⟨Heap.sub_refl _, (by repeat first | exact trivial | refine HasG.one rfl ?_ | refine HasN.one rfl ?_ | refine HasG.nil1 rfl ?_)⟩
      rw [show headP f[k] = [Lib.itoa f[k].c] by unfold headP; rw [if_pos (by simpa using h1)], Lib.join_one, itoa_pos (by omega)]
      have hdig := Digits_pure f[k].c.toNat (by omega)
      rw [Int.toNat_of_nonneg (by omega)] at hdig
      (repeat (first | refine RO.Sv ?_ | refine RO.Yv ?_ | refine RO.no rfl (by decide) rfl ?_ | refine RO.nil ?_ | refine DW.region ?_ | refine DW.seq ?_ | refine DW.block ?_ | refine DW.skip ?_ | refine DW.exit ?_ | refine DW.condT rfl ?_ | refine DW.condF rfl ?_))
      refine RO.sta (sta_call rfl rfl (hdig _)) rfl ?_
      (repeat (first | refine RO.Sv ?_ | refine RO.Yv ?_ | refine RO.no rfl (by decide) rfl ?_ | refine RO.nil ?_ | refine DW.region ?_ | refine DW.seq ?_ | refine DW.block ?_ | refine DW.skip ?_ | refine DW.exit ?_ | refine DW.condT rfl ?_ | refine DW.condF rfl ?_))
      exact ⟨Heap.sub_refl _, (by repeat first | exact trivial | refine HasG.one rfl ?_ | refine HasN.one rfl ?_ | refine HasG.nil1 rfl ?_)⟩
    (repeat (first | refine RO.Sv ?_ | refine RO.Yv ?_ | refine RO.no rfl (by decide) rfl ?_ | refine RO.nil ?_ | refine DW.region ?_ | refine DW.seq ?_ | refine DW.block ?_ | refine DW.skip ?_ | refine DW.exit ?_ | refine DW.condT rfl ?_ | refine DW.condF rfl ?_))
    refine DW.loopI (fun j : Nat => j ≤ f[k].e.length) (fun j => [(0, plD f), (3, strD pre), (4, I k), (5, strD (Lib.join (headP f[k] ++ partsGo 0 (f[k].e.take j)) [42])), (6, I j)]) (fun _ => H) (fun j => f[k].e.length - j) 0 (Nat.zero_le _) rfl
      ⟨rfl, rfl, rfl, by rw [List.take_zero, partsGo, List.append_nil]; rfl, rfl, trivial⟩ fun j hj => ?_
    (repeat (first | refine RO.Sv ?_ | refine RO.Yv ?_ | refine RO.no rfl (by decide) rfl ?_ | refine RO.nil ?_ | refine DW.region ?_ | refine DW.seq ?_ | refine DW.block ?_ | refine DW.skip ?_ | refine DW.exit ?_ | refine DW.condT rfl ?_ | refine DW.condF rfl ?_))
    refine DW.cond rfl (fun hb => ?_) (fun hb => ?_)
    · have hlj : j < f[k].e.length := by have := of_decide_eq_true hb; omega
      clear hb
      have hx := ht.mem _ (List.getElem_mem hlj)
      have hsn := partsGo_snoc (e := f[k].e) (i := 0) hlj
      rw [Nat.zero_add] at hsn
      have hparts : ∀ x ∈ headP f[k] ++ partsGo 0 (f[k].e.take j), x ≠ [] ∧ x.length ≤ 5 := fun x hx => by
        rcases List.mem_append.1 hx with h3 | h3
        · exact headP_ok (by omega) (by omega) x h3
        · exact partsGo_ok (fun y hy => (ht.mem y (List.mem_of_mem_take hy)).2) x h3
      have hjl := join_len (m := 5) (sep := [42]) fun x hx => (hparts x hx).2
      have hpl1 := headP_len f[k]
      have hpl2 := partsGo_len (f[k].e.take j) 0
      rw [List.length_take] at hpl2
      rw [List.length_append] at hjl
      simp only [List.length_cons, List.length_nil] at hjl
      have hmore := join_more (fun x hx => (hparts x hx).1)
      (repeat (first | refine RO.Sv ?_ | refine RO.Yv ?_ | refine RO.no rfl (by decide) rfl ?_ | refine RO.nil ?_ | refine DW.region ?_ | refine DW.seq ?_ | refine DW.block ?_ | refine DW.skip ?_ | refine DW.exit ?_ | refine DW.condT rfl ?_ | refine DW.condF rfl ?_))
      cases hz : (f[k].e[j] == 0)
      case true =>
        have hz' : f[k].e[j] = 0 := by simpa using hz
        rw [show partOf j f[k].e[j] = [] by unfold partOf; rw [if_neg (by omega)], List.append_nil] at hsn
        (repeat (first | refine RO.Sv ?_ | refine RO.Yv ?_ | refine RO.no rfl (by decide) rfl ?_ | refine RO.nil ?_ | refine DW.region ?_ | refine DW.seq ?_ | refine DW.block ?_ | refine DW.skip ?_ | refine DW.exit ?_ | refine DW.condT rfl ?_ | refine DW.condF rfl ?_))
        rw [← hsn]
        exact ⟨j + 1, hlj, by dsimp only; omega, rfl, rfl, rfl, rfl, rfl, rfl, trivial⟩
      have hz' : 0 < f[k].e[j] := by have : f[k].e[j] ≠ 0 := by simpa using hz
                                     omega
      generalize hJ : Lib.join (headP f[k] ++ partsGo 0 (f[k].e.take j)) [42] = J at hjl hmore ⊢
      (repeat (first | refine RO.Sv ?_ | refine RO.Yv ?_ | refine RO.no rfl (by decide) rfl ?_ | refine RO.nil ?_ | refine DW.region ?_ | refine DW.seq ?_ | refine DW.block ?_ | refine DW.skip ?_ | refine DW.exit ?_ | refine DW.condT rfl ?_ | refine DW.condF rfl ?_))
      refine RO.sta (s_strNe (a := J) (b := []) rfl rfl) rfl ?_
      (repeat (first | refine RO.Sv ?_ | refine RO.Yv ?_ | refine RO.no rfl (by decide) rfl ?_ | refine RO.nil ?_ | refine DW.region ?_ | refine DW.seq ?_ | refine DW.block ?_ | refine DW.skip ?_ | refine DW.exit ?_ | refine DW.condT rfl ?_ | refine DW.condF rfl ?_))
      refine DW.cutg [(0, plD f), (3, strD pre), (4, I k), (5, strD (if J = [] then [] else J ++ [42])), (6, I j)] H ?_ ?_
      rotate_left
      · cases h1 : (J == [])
        case true =>
          have h2 : J = [] := by simpa using h1
          rw [if_pos h2, h2]
          (repeat (first | refine RO.Sv ?_ | refine RO.Yv ?_ | refine RO.no rfl (by decide) rfl ?_ | refine RO.nil ?_ | refine DW.region ?_ | refine DW.seq ?_ | refine DW.block ?_ | refine DW.skip ?_ | refine DW.exit ?_ | refine DW.condT rfl ?_ | refine DW.condF rfl ?_))
          exact ⟨Heap.sub_refl _, (by repeat first | exact trivial | refine HasG.one rfl ?_ | refine HasN.one rfl ?_ | refine HasG.nil1 rfl ?_)⟩
        rw [if_neg (by simpa using h1)]
        (repeat (first | refine RO.Sv ?_ | refine RO.Yv ?_ | refine RO.no rfl (by decide) rfl ?_ | refine RO.nil ?_ | refine DW.region ?_ | refine DW.seq ?_ | refine DW.block ?_ | refine DW.skip ?_ | refine DW.exit ?_ | refine DW.condT rfl ?_ | refine DW.condF rfl ?_))
        refine RO.sta (s_strAdd (a := J) (b := [42]) rfl rfl (by simp; omega)) rfl ?_
        (repeat (first | refine RO.Sv ?_ | refine RO.Yv ?_ | refine RO.no rfl (by decide) rfl ?_ | refine RO.nil ?_ | refine DW.region ?_ | refine DW.seq ?_ | refine DW.block ?_ | refine DW.skip ?_ | refine DW.exit ?_ | refine DW.condT rfl ?_ | refine DW.condF rfl ?_))
        exact ⟨Heap.sub_refl _, (by repeat first | exact trivial | refine HasG.one rfl ?_ | refine HasN.one rfl ?_ | refine HasG.nil1 rfl ?_)⟩
      have hpl : (if J = [] then [] else J ++ [42]).length ≤ J.length + 1 := by split <;> simp
      generalize (if J = [] then [] else J ++ [42]) = J2 at hpl hmore ⊢
      (repeat (first | refine RO.Sv ?_ | refine RO.Yv ?_ | refine RO.no rfl (by decide) rfl ?_ | refine RO.nil ?_ | refine DW.region ?_ | refine DW.seq ?_ | refine DW.block ?_ | refine DW.skip ?_ | refine DW.exit ?_ | refine DW.condT rfl ?_ | refine DW.condF rfl ?_))
      refine RO.sta (s_byte (n := 120 + j) Tryd.underlying5 Tryd.underlying3 rfl (by omega)) rfl ?_
      (repeat (first | refine RO.Sv ?_ | refine RO.Yv ?_ | refine RO.no rfl (by decide) rfl ?_ | refine RO.nil ?_ | refine DW.region ?_ | refine DW.seq ?_ | refine DW.block ?_ | refine DW.skip ?_ | refine DW.exit ?_ | refine DW.condT rfl ?_ | refine DW.condF rfl ?_))
      refine RO.sta (s_textOne Tryd.underlying71 Tryd.underlying5 Tryd.underlying9 rfl) rfl ?_
      refine RO.sta (s_strAdd (a := J2) (b := [UInt8.ofNat (120 + j)]) rfl rfl (by simp; omega)) rfl ?_
      (repeat (first | refine RO.Sv ?_ | refine RO.Yv ?_ | refine RO.no rfl (by decide) rfl ?_ | refine RO.nil ?_ | refine DW.region ?_ | refine DW.seq ?_ | refine DW.block ?_ | refine DW.skip ?_ | refine DW.exit ?_ | refine DW.condT rfl ?_ | refine DW.condF rfl ?_))
      cases h1 : decide ((1 : Int) < f[k].e[j])
      case false =>
        rw [show partOf j f[k].e[j] = [[UInt8.ofNat (120 + j)]] by unfold partOf; rw [if_pos hz', if_neg (of_decide_eq_false h1)]] at hsn
        (repeat (first | refine RO.Sv ?_ | refine RO.Yv ?_ | refine RO.no rfl (by decide) rfl ?_ | refine RO.nil ?_ | refine DW.region ?_ | refine DW.seq ?_ | refine DW.block ?_ | refine DW.skip ?_ | refine DW.exit ?_ | refine DW.condT rfl ?_ | refine DW.condF rfl ?_))
        rw [← hmore, List.append_assoc (headP f[k]), ← hsn]
        exact ⟨j + 1, hlj, by dsimp only; omega, rfl, rfl, rfl, rfl, rfl, rfl, trivial⟩
      rw [show partOf j f[k].e[j] = [[UInt8.ofNat (120 + j)] ++ ([94] ++ Lib.itoa f[k].e[j])] by unfold partOf; rw [if_pos hz', if_pos (of_decide_eq_true h1)]; rfl] at hsn
      have hdig := Digits_pure f[k].e[j].toNat (by omega)
      have hdl := dec_len (u := f[k].e[j].toNat) (by omega)
      rw [Int.toNat_of_nonneg (by omega)] at hdig
      rw [itoa_pos (by omega)] at hsn
      (repeat (first | refine RO.Sv ?_ | refine RO.Yv ?_ | refine RO.no rfl (by decide) rfl ?_ | refine RO.nil ?_ | refine DW.region ?_ | refine DW.seq ?_ | refine DW.block ?_ | refine DW.skip ?_ | refine DW.exit ?_ | refine DW.condT rfl ?_ | refine DW.condF rfl ?_))
      refine RO.sta (sta_call rfl rfl (hdig _)) rfl ?_
      refine RO.sta (s_strAdd (a := [94]) (b := Lib.decDigits f[k].e[j].toNat) rfl rfl (by simp; omega)) rfl ?_
      refine RO.sta (s_strAdd (a := J2 ++ [UInt8.ofNat (120 + j)]) (b := [94] ++ Lib.decDigits f[k].e[j].toNat) rfl rfl (by simp; omega)) rfl ?_
      (repeat (first | refine RO.Sv ?_ | refine RO.Yv ?_ | refine RO.no rfl (by decide) rfl ?_ | refine RO.nil ?_ | refine DW.region ?_ | refine DW.seq ?_ | refine DW.block ?_ | refine DW.skip ?_ | refine DW.exit ?_ | refine DW.condT rfl ?_ | refine DW.condF rfl ?_))
      rw [List.append_assoc J2, ← hmore ([UInt8.ofNat (120 + j)] ++ ([94] ++ Lib.decDigits f[k].e[j].toNat)), List.append_assoc (headP f[k]), ← hsn]
      exact ⟨j + 1, hlj, by dsimp only; omega, rfl, rfl, rfl, rfl, rfl, rfl, trivial⟩
    · have hge : j = f[k].e.length := by have := of_decide_eq_false hb; omega
      subst hge
      rw [List.take_length]
      clear hb
      rw [show Lib.join (headP f[k] ++ partsGo 0 f[k].e) [42] = termTx f[k] from rfl]
      (repeat (first | refine RO.Sv ?_ | refine RO.Yv ?_ | refine RO.no rfl (by decide) rfl ?_ | refine RO.nil ?_ | refine DW.region ?_ | refine DW.seq ?_ | refine DW.block ?_ | refine DW.skip ?_ | refine DW.exit ?_ | refine DW.condT rfl ?_ | refine DW.condF rfl ?_))
      refine RO.sta (s_strAdd (a := pre) (b := termTx f[k]) rfl rfl (by omega)) rfl ?_
      (repeat (first | refine RO.Sv ?_ | refine RO.Yv ?_ | refine RO.no rfl (by decide) rfl ?_ | refine RO.nil ?_ | refine DW.region ?_ | refine DW.seq ?_ | refine DW.block ?_ | refine DW.skip ?_ | refine DW.exit ?_ | refine DW.condT rfl ?_ | refine DW.condF rfl ?_))
      rw [← hsucc]
      exact ⟨k + 1, hlt, by dsimp only; omega, rfl, rfl, rfl, rfl, trivial⟩
  · have hge : k = f.length := by have := of_decide_eq_false hb; omega
    subst hge
    rw [show outTx f f.length = Lib.join (f.map termTx) [32, 43, 32] by unfold outTx; rw [if_neg (fun h => hne (List.length_eq_zero_iff.1 h)), List.take_length]]
    (repeat (first | refine RO.Sv ?_ | refine RO.Yv ?_ | refine RO.no rfl (by decide) rfl ?_ | refine RO.nil ?_ | refine DW.region ?_ | refine DW.seq ?_ | refine DW.block ?_ | refine DW.skip ?_ | refine DW.exit ?_ | refine DW.condT rfl ?_ | refine DW.condF rfl ?_))
    exact DW.ret ⟨.inl rfl, _, rfl, Over.refl _, .same _⟩

end Go.Proofs.YtblileclefbklaaDoor
