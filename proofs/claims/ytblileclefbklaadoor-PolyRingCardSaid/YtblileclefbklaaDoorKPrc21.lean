/-
  Polynomials are a ring: plain law. No condition.
-/
import Derived.Test.YtblileclefbklaaDoorKPrc20
import Derived.Test.YtblileclefbklaaDoorKPrc6
import Derived.Test.YtblileclefbklaaDoorKPrc17
import Derived.Test.YtblileclefbklaaDoorKPrc16

namespace Go.Proofs.YtblileclefbklaaDoor
open Go.RowKit
set_option linter.unusedVariables false
set_option linter.unusedSimpArgs false
set_option maxHeartbeats 8000000

theorem turn_all : ((List.range 102).all fun p => ckP (p : Int) != 0 || ((List.range p).all fun a => a == 0 || ((a : Int) * turnP p a % p == 1))) = true := by decide +kernel

theorem turnP_inv {p : Int} (hp : ckP p = 0) : InvOk (turnP p) p := by
  intro a h0 h1
  have h2 := ckP_ok hp
  obtain ⟨q, rfl⟩ := Int.eq_ofNat_of_zero_le (show 0 ≤ p by omega)
  obtain ⟨b, rfl⟩ := Int.eq_ofNat_of_zero_le (show 0 ≤ a by omega)
  have h3 := List.all_eq_true.1 turn_all q (List.mem_range.2 (by omega))
  rw [hp] at h3
  have h4 : ((List.range q).all fun a => a == 0 || ((a : Int) * turnP q a % q == 1)) = true := h3
  have h5 := List.all_eq_true.1 h4 b (List.mem_range.2 (by omega))
  simp only [Bool.or_eq_true, beq_iff_eq] at h5
  exact h5.resolve_left (by omega)

theorem CallD.mono {P : Program} {H : Heap} {f : FuncId} {ds : List D} {K K' : D → Heap → Prop} (h : CallD P H f ds K) (hk : ∀ d H', K d H' → K' d H') : CallD P H f ds K' :=
  ⟨h.body, fun w args ho ha => (h.calls w args ho ha).mono fun en w' ⟨v, d, H', h1, h2, h3⟩ => ⟨v, d, H', h1, hk _ _ h2, h3⟩⟩

theorem PureH.call {P : Program} {H : Heap} {f : FuncId} {ds : List D} {d : D} (h : PureH P H f ds d) {K : D → Heap → Prop} (hk : K d H) : CallD P H f ds K :=
  ⟨h.body, fun w args ho ha => (h.calls w args ho ha).mono fun en w' ⟨v, h1, h2, h3, h4⟩ => ⟨v, d, H, h1, hk, h2, h3, h4⟩⟩

/-- A row of one's own. -/
def rowD (n b : Nat) : D := if 0 < n then .ref b 0 n 1 else .list 1 []

theorem rowD_cells (n b : Nat) : cellsOf (rowD n b) = [rowD n b] := by unfold rowD; split <;> rfl
theorem rowD_cell (n b : Nat) : (rowD n b).isCell = true := by unfold rowD; split <;> rfl
theorem rowD_uni (n : Nat) (bs : List Nat) : Uni 1 (bs.map (rowD n)) := fun d hd => by
  obtain ⟨b, _, rfl⟩ := List.mem_map.1 hd
  rw [rowD_cells]
  exact ⟨rfl, fun x hx => by simp at hx; subst hx; exact rowD_cell n b⟩

structure OwnSt where
  k : Nat
  H : Heap
  d : D
  bs : List Nat

structure OwnInv (H : Heap) (n : Nat) (rows : List (List Int)) (x : OwnSt) : Prop where
  le : x.k ≤ rows.length
  all : ∀ (j : Nat) (hj : j < rows.length), j < x.k → rows[j].length = n
  acc : Acc H x.H x.d 1 36 (x.bs.map (rowD n))
  over : Over H x.H
  len : x.bs.length = x.k
  row : 0 < n → ∀ (i : Nat) (h : i < rows.length) (h' : i < x.bs.length), H x.bs[i] = none ∧ x.H x.bs[i] = some (3, rows[i].map I)
  nodup : 0 < n → x.bs.Nodup

theorem Acc.over {H0 H H' : Heap} {d : D} {k : Nat} {T : TypeId} {l : List D} (h : Acc H0 H d k T l) (ho : Over H H') : Acc H0 H' d k T l :=
  ⟨h.uni, h.is.imp id fun ⟨b, h1, h2, h3⟩ => ⟨b, h1, h2, ho _ _ h3⟩⟩

theorem Over.trans {A B C : Heap} (h : Over A B) (k : Over B C) : Over A C := fun b x hx => k b x (h b x hx)

/-- One row more. -/
theorem OwnInv.next {H H1 H2 : Heap} {n : Nat} {rows : List (List Int)} {x : OwnSt} {b1 : Nat} {d2 : D} (h : OwnInv H n rows x) (hk : x.k < rows.length) (hn : rows[x.k].length = n) (ho1 : Over x.H H1) (hb1 : 0 < n → x.H b1 = none ∧ H1 b1 = some (3, rows[x.k].map I))
    (hacc : Acc H H2 d2 1 36 (x.bs.map (rowD n) ++ [rowD n b1])) (ho2 : Over H H2) (hkeep : ∀ c z, H1 c = some z → x.d.blk ≠ some c → H2 c = some z) : OwnInv H n rows ⟨x.k + 1, H2, d2, x.bs ++ [b1]⟩ := by
  have hlen := h.len
  have blk : ∀ (c : Nat) (l : List D), H1 c = some (3, l) → x.d.blk ≠ some c := fun c l hc he => by
    rcases h.acc.is with ⟨hd, _⟩ | ⟨b, h1, hd, h3⟩
    · rw [hd] at he; cases he
    · rw [hd] at he
      cases he
      have := ho1 _ _ h3
      rw [this] at hc
      have := congrArg (Option.map Prod.fst) hc
      simp at this
  refine ⟨hk, fun j hj hjk => ?_, by simpa using hacc, ho2, by simp [hlen], fun h0 i hi hi' => ?_, fun h0 => ?_⟩
  · by_cases hjx : j = x.k
    · subst hjx; exact hn
    · exact h.all j hj (by dsimp only at hjk; omega)
  · dsimp only at hi' ⊢
    by_cases hix : i < x.bs.length
    · rw [List.getElem_append_left hix]
      obtain ⟨g1, g2⟩ := h.row h0 i hi hix
      have := ho1 _ _ g2
      exact ⟨g1, hkeep _ _ this (blk _ _ this)⟩
    · have hie : i = x.k := by simp at hi'; omega
      subst hie
      rw [List.getElem_append_right (by omega)]
      simp only [hlen, Nat.sub_self, List.getElem_singleton]
      obtain ⟨g1, g2⟩ := hb1 h0
      exact ⟨h.over.none g1, hkeep _ _ g2 (blk _ _ g2)⟩
  · dsimp only
    rw [List.nodup_append]
    refine ⟨h.nodup h0, by simp, fun y hy z hz => ?_⟩
    simp at hz; subst hz
    obtain ⟨i, hi, rfl⟩ := List.mem_iff_getElem.1 hy
    intro e
    obtain ⟨_, g2⟩ := h.row h0 i (by omega) hi
    rw [e, (hb1 h0).1] at g2
    cases g2

/-- What is wrong with rows. -/
def rowsCk (p : Int) (rows : List (List Int)) : Int :=
  if 400 < rows.length ∨ (rows.any fun r => decide (400 < r.length)) = true then 2
  else if (rows.any fun r => decide (r.length ≠ (rows.headD []).length)) = true then 1
  else if (rows.any fun r => !(r.all (inP p))) = true then 3 else 0

def rankR (p : Int) (rows : List (List Int)) : Int × Int := if ckP p = 0 then (if rowsCk p rows = 0 then (((rankT (turnP p) p rows : Nat) : Int), 0) else (0, rowsCk p rows)) else (0, ckP p)

theorem rowsCk_ok {p : Int} {rows : List (List Int)} (h : rowsCk p rows = 0) : rows.length ≤ 400 ∧ (rows.headD []).length ≤ 400 ∧ ∀ r ∈ rows, RowOk p (rows.headD []).length r := by
  unfold rowsCk at h
  split at h
  · cases h
  · rename_i h1
    split at h
    · cases h
    · rename_i h2
      split at h
      · cases h
      · rename_i h3
        have g1 : rows.length ≤ 400 := by omega
        have g2 : ∀ r ∈ rows, r.length ≤ 400 := fun r hr => by
          rcases Nat.lt_or_ge 400 r.length with hlt | hge
          · exact absurd (.inr (List.any_eq_true.2 ⟨r, hr, by simpa using hlt⟩)) h1
          · exact hge
        refine ⟨g1, ?_, fun r hr => ⟨?_, fun x hx => ?_⟩⟩
        · cases rows with
          | nil => simp
          | cons r rows => exact g2 r (by simp)
        · refine Classical.byContradiction fun hne => h2 (List.any_eq_true.2 ⟨r, hr, by simpa using hne⟩)
        · have : r.all (inP p) = true := by
            cases hb : r.all (inP p) with
            | true => rfl
            | false => exact absurd (List.any_eq_true.2 ⟨r, hr, by rw [hb]; rfl⟩) h3
          exact inP_iff.1 (List.all_eq_true.1 this x hx)

theorem indep_len0 (p : Int) (d : D) (hd : lenD d = some 0) : Pure Tryd.prog 72 [I p, d] (I 0) := by
  intro H
  refine PureH.of_body Tryd.func72 rfl (by decide) (Nat.le_of_ble_eq_true rfl) fun w0 => ?_
  (repeat (first | refine RO.S ?_ | refine RO.Y ?_ | refine RO.no rfl (by decide) rfl ?_ | refine RO.nil ?_ | refine DW.region ?_ | refine DW.seq ?_ | refine DW.block ?_ | refine DW.skip ?_ | refine DW.exit ?_ | refine DW.condT rfl ?_ | refine DW.condF rfl ?_))
  refine RO.dyn rfl (d_alloc fun bc0 hbc0 => ?_)
  refine RO.dyn rfl (d_storeInt (l := [0]) rfl rfl (Heap.set_self _ _ _) (by simp) ?_)
  (repeat (first | refine RO.S ?_ | refine RO.Y ?_ | refine RO.no rfl (by decide) rfl ?_ | refine RO.nil ?_ | refine DW.region ?_ | refine DW.seq ?_ | refine DW.block ?_ | refine DW.skip ?_ | refine DW.exit ?_ | refine DW.condT rfl ?_ | refine DW.condF rfl ?_))
  rw [Heap.set_set]
  refine DW.loopI (fun _ : Unit => True) (fun _ => [(0, I p), (1, d), (5, I 0), (6, .ptr bc0 0)]) (fun _ => H.set bc0 (3, [I 0])) (fun _ => 0) () trivial rfl ⟨rfl, rfl, rfl, rfl, trivial⟩ fun _ _ => ?_
  (repeat (first | refine RO.S ?_ | refine RO.Y ?_ | refine RO.no rfl (by decide) rfl ?_ | refine RO.nil ?_ | refine DW.region ?_ | refine DW.seq ?_ | refine DW.block ?_ | refine DW.skip ?_ | refine DW.exit ?_ | refine DW.condT rfl ?_ | refine DW.condF rfl ?_))
  refine DW.drawS 17 Tryd.mixed (by kernel_rfl) (by decide) ?_
  dsimp only [List.take, List.drop]
  (repeat (first | refine RS.S ?_ | refine RS.Y ?_ | refine RS.no rfl (by decide) rfl ?_ | refine RS.nil ?_))
  refine RS.sta (fun H' hov => s_len (n := 0) rfl hd) rfl ?_
  (repeat (first | refine RS.S ?_ | refine RS.Y ?_ | refine RS.no rfl (by decide) rfl ?_ | refine RS.nil ?_))
  (repeat (first | refine RO.S ?_ | refine RO.Y ?_ | refine RO.no rfl (by decide) rfl ?_ | refine RO.nil ?_ | refine DW.region ?_ | refine DW.seq ?_ | refine DW.block ?_ | refine DW.skip ?_ | refine DW.exit ?_ | refine DW.condT rfl ?_ | refine DW.condF rfl ?_))
  refine DW.ret ⟨.inl rfl, _, rfl, ?_, .same _⟩
  exact (Over.refl _).set hbc0

theorem indep_zero {H : Heap} (p : Int) {b0 m : Nat} {T : TypeId} {cells : List D} (hH : H b0 = some (T, .list 1 [] :: cells)) (hm : 0 < m) (hm2 : m ≤ 400) : PureH Tryd.prog H 72 [I p, .ref b0 0 m 1] (I 0) := by
  refine PureH.of_body Tryd.func72 rfl (by decide) (Nat.le_of_ble_eq_true rfl) fun w0 => ?_
  (repeat (first | refine RO.S ?_ | refine RO.Y ?_ | refine RO.no rfl (by decide) rfl ?_ | refine RO.nil ?_ | refine DW.region ?_ | refine DW.seq ?_ | refine DW.block ?_ | refine DW.skip ?_ | refine DW.exit ?_ | refine DW.condT rfl ?_ | refine DW.condF rfl ?_))
  refine RO.dyn rfl (d_alloc fun bc0 hbc0 => ?_)
  refine RO.dyn rfl (d_storeInt (l := [0]) rfl rfl (Heap.set_self _ _ _) (by simp) ?_)
  (repeat (first | refine RO.S ?_ | refine RO.Y ?_ | refine RO.no rfl (by decide) rfl ?_ | refine RO.nil ?_ | refine DW.region ?_ | refine DW.seq ?_ | refine DW.block ?_ | refine DW.skip ?_ | refine DW.exit ?_ | refine DW.condT rfl ?_ | refine DW.condF rfl ?_))
  rw [Heap.set_set]
  have hne : b0 ≠ bc0 := fun e => by rw [← e, hH] at hbc0; cases hbc0
  refine DW.loopI (fun _ : Unit => True) (fun _ => [(0, I p), (1, .ref b0 0 m 1), (5, I 0), (6, .ptr bc0 0)]) (fun _ => H.set bc0 (3, [I 0])) (fun _ => 0) () trivial rfl ⟨rfl, rfl, rfl, rfl, trivial⟩ fun _ _ => ?_
  (repeat (first | refine RO.S ?_ | refine RO.Y ?_ | refine RO.no rfl (by decide) rfl ?_ | refine RO.nil ?_ | refine DW.region ?_ | refine DW.seq ?_ | refine DW.block ?_ | refine DW.skip ?_ | refine DW.exit ?_ | refine DW.condT rfl ?_ | refine DW.condF rfl ?_))
  refine DW.drawS 17 Tryd.mixed (by kernel_rfl) (by decide) ?_
  dsimp only [List.take, List.drop]
  (repeat (first | refine RS.S ?_ | refine RS.Y ?_ | refine RS.no rfl (by decide) rfl ?_ | refine RS.nil ?_))
  rw [show decide ((0 : Int) < (m : Int)) = true from decide_eq_true (by omega)]
  (repeat (first | refine RS.S ?_ | refine RS.Y ?_ | refine RS.no rfl (by decide) rfl ?_ | refine RS.nil ?_))
  refine RS.yes rfl (r_loadMut (d := I 0) rfl (Heap.set_self _ _ _) rfl) rfl ?_
  (repeat (first | refine RS.S ?_ | refine RS.Y ?_ | refine RS.no rfl (by decide) rfl ?_ | refine RS.nil ?_))
  refine RS.yes rfl (fun H' hov => s_ixRef rfl rfl (by omega) (by omega)) rfl ?_
  refine RS.yes rfl (r_loadMut (d := .list 1 []) rfl (by rw [Heap.set_other _ _ hne]; exact hH) rfl) rfl ?_
  (repeat (first | refine RS.S ?_ | refine RS.Y ?_ | refine RS.no rfl (by decide) rfl ?_ | refine RS.nil ?_))
  (repeat (first | refine RO.S ?_ | refine RO.Y ?_ | refine RO.no rfl (by decide) rfl ?_ | refine RO.nil ?_ | refine DW.region ?_ | refine DW.seq ?_ | refine DW.block ?_ | refine DW.skip ?_ | refine DW.exit ?_ | refine DW.condT rfl ?_ | refine DW.condF rfl ?_))
  refine DW.ret ⟨.inl rfl, _, rfl, ?_, .same _⟩
  exact (Over.refl _).set hbc0

theorem rank_pure (p : Int) (rows : List (List Int)) (hl : rows.length ≤ 4611686018427387904) (hr : ∀ r ∈ rows, r.length ≤ 4611686018427387904) : Pure Tryd.prog 49 [I p, intssD rows] (pairD (rankR p rows)) := by
  intro H
  refine PureH.of_body Tryd.func49 rfl (by decide) (Nat.le_of_ble_eq_true rfl) fun w0 => ?_
  (repeat (first | refine RO.S ?_ | refine RO.Y ?_ | refine RO.no rfl (by decide) rfl ?_ | refine RO.nil ?_ | refine DW.region ?_ | refine DW.seq ?_ | refine DW.block ?_ | refine DW.skip ?_ | refine DW.exit ?_ | refine DW.condT rfl ?_ | refine DW.condF rfl ?_))
  refine RO.sta (sta_call rfl rfl (check_pure _ _)) rfl ?_
  (repeat (first | refine RO.S ?_ | refine RO.Y ?_ | refine RO.no rfl (by decide) rfl ?_ | refine RO.nil ?_ | refine DW.region ?_ | refine DW.seq ?_ | refine DW.block ?_ | refine DW.skip ?_ | refine DW.exit ?_ | refine DW.condT rfl ?_ | refine DW.condF rfl ?_))
  refine DW.cond rfl (fun hb => ?_) (fun hb => ?_)
  · have h : ¬ ckP p = 0 := by simpa using hb
    have : rankR p rows = (0, ckP p) := by unfold rankR; rw [if_neg h]
    rw [this]
    (repeat (first | refine RO.S ?_ | refine RO.Y ?_ | refine RO.no rfl (by decide) rfl ?_ | refine RO.nil ?_ | refine DW.region ?_ | refine DW.seq ?_ | refine DW.block ?_ | refine DW.skip ?_ | refine DW.exit ?_ | refine DW.condT rfl ?_ | refine DW.condF rfl ?_))
    exact DW.ret ⟨.inl rfl, _, rfl, Over.refl _, .same _⟩
  have hp : ckP p = 0 := by simpa using hb
  have hp2 := ckP_ok hp
  clear hb
  have many : (400 < rows.length ∨ (rows.any fun r => decide (400 < r.length)) = true) → rankR p rows = (0, 2) := fun h => by
    have : rowsCk p rows = 2 := by unfold rowsCk; rw [if_pos h]
    unfold rankR
    rw [if_pos hp, this, if_neg (by omega)]
  (repeat (first | refine RO.S ?_ | refine RO.Y ?_ | refine RO.no rfl (by decide) rfl ?_ | refine RO.nil ?_ | refine DW.region ?_ | refine DW.seq ?_ | refine DW.block ?_ | refine DW.skip ?_ | refine DW.exit ?_ | refine DW.condT rfl ?_ | refine DW.condF rfl ?_))
  cases h400 : decide ((400 : Int) < (rows.length : Int))
  case true =>
    rw [many (.inl (by have := of_decide_eq_true h400; omega))]
    (repeat (first | refine RO.S ?_ | refine RO.Y ?_ | refine RO.no rfl (by decide) rfl ?_ | refine RO.nil ?_ | refine DW.region ?_ | refine DW.seq ?_ | refine DW.block ?_ | refine DW.skip ?_ | refine DW.exit ?_ | refine DW.condT rfl ?_ | refine DW.condF rfl ?_))
    exact DW.ret ⟨.inl rfl, _, rfl, Over.refl _, .same _⟩
  have g400 := of_decide_eq_false h400
  (repeat (first | refine RO.S ?_ | refine RO.Y ?_ | refine RO.no rfl (by decide) rfl ?_ | refine RO.nil ?_ | refine DW.region ?_ | refine DW.seq ?_ | refine DW.block ?_ | refine DW.skip ?_ | refine DW.exit ?_ | refine DW.condT rfl ?_ | refine DW.condF rfl ?_))
  refine RO.yes rfl rfl (OpD.of_sta (sta_call rfl rfl (containsFunc_rows rows (fun r => decide (400 < r.length)) hl fun x hx => rankLit1_pure x (hr x hx) _)) ?_)
  (repeat (first | refine RO.S ?_ | refine RO.Y ?_ | refine RO.no rfl (by decide) rfl ?_ | refine RO.nil ?_ | refine DW.region ?_ | refine DW.seq ?_ | refine DW.block ?_ | refine DW.skip ?_ | refine DW.exit ?_ | refine DW.condT rfl ?_ | refine DW.condF rfl ?_))
  refine DW.cond rfl (fun hb => ?_) (fun hb => ?_)
  · rw [many (.inr hb)]
    (repeat (first | refine RO.S ?_ | refine RO.Y ?_ | refine RO.no rfl (by decide) rfl ?_ | refine RO.nil ?_ | refine DW.region ?_ | refine DW.seq ?_ | refine DW.block ?_ | refine DW.skip ?_ | refine DW.exit ?_ | refine DW.condT rfl ?_ | refine DW.condF rfl ?_))
    exact DW.ret ⟨.inl rfl, _, rfl, Over.refl _, .same _⟩
  have hlens : ∀ r ∈ rows, r.length ≤ 400 := fun r hr => by
    rcases Nat.lt_or_ge 400 r.length with hlt | hge
    · rw [List.any_eq_true.2 ⟨r, hr, by simpa using hlt⟩] at hb; cases hb
    · exact hge
  have hnm : ¬ (400 < rows.length ∨ (rows.any fun r => decide (400 < r.length)) = true) := fun h => by
    rcases h with h | h
    · omega
    · rw [h] at hb; cases hb
  clear hb many
  (repeat (first | refine RO.S ?_ | refine RO.Y ?_ | refine RO.no rfl (by decide) rfl ?_ | refine RO.nil ?_ | refine DW.region ?_ | refine DW.seq ?_ | refine DW.block ?_ | refine DW.skip ?_ | refine DW.exit ?_ | refine DW.condT rfl ?_ | refine DW.condF rfl ?_))
  refine DW.loopI (OwnInv H (rows.headD []).length rows) (fun x => [(1, intssD rows), (2, .ipt 1 [I p] 0 0), (7, x.d), (22, intssD rows), (23, I rows.length), (24, I x.k)]) (fun x => x.H) (fun x => rows.length - x.k) ⟨0, H, .nil, []⟩
    ⟨Nat.zero_le _, fun j hj h => absurd h (Nat.not_lt_zero _), Acc.nil _ _ _ _, Over.refl _, rfl, fun _ i _ h => absurd h (Nat.not_lt_zero _), fun _ => by simp⟩ rfl ⟨rfl, rfl, rfl, rfl, rfl, rfl, trivial⟩ fun ⟨k, Hk, d, bs⟩ hinv => ?_
  have hle := hinv.le
  have hblen := hinv.len
  have hacc := hinv.acc
  have hov := hinv.over
  dsimp only at hle hblen hacc hov
  dsimp only
  (repeat (first | refine RO.S ?_ | refine RO.Y ?_ | refine RO.no rfl (by decide) rfl ?_ | refine RO.nil ?_ | refine DW.region ?_ | refine DW.seq ?_ | refine DW.block ?_ | refine DW.skip ?_ | refine DW.exit ?_ | refine DW.condT rfl ?_ | refine DW.condF rfl ?_))
  refine DW.cond rfl (fun hb => ?_) (fun hb => ?_)
  · have hlt : k < rows.length := by have := of_decide_eq_true hb; omega
    have h0l : 0 < rows.length := by omega
    have hhead : rows[0] = rows.headD [] := by
      cases rows with
      | nil => simp at hlt
      | cons r rs => rfl
    (repeat (first | refine RO.S ?_ | refine RO.Y ?_ | refine RO.no rfl (by decide) rfl ?_ | refine RO.nil ?_ | refine DW.region ?_ | refine DW.seq ?_ | refine DW.block ?_ | refine DW.skip ?_ | refine DW.exit ?_ | refine DW.condT rfl ?_ | refine DW.condF rfl ?_))
    rw [hhead]
    refine DW.cond rfl (fun hb => ?_) (fun hb => ?_)
    · have hne : rows[k].length ≠ (rows.headD []).length := fun e => by rw [e] at hb; simp at hb
      have : rankR p rows = (0, 1) := by
        have : rowsCk p rows = 1 := by
          unfold rowsCk
          rw [if_neg hnm, if_pos (List.any_eq_true.2 ⟨rows[k], List.getElem_mem hlt, by simpa using hne⟩)]
        unfold rankR
        rw [if_pos hp, this, if_neg (by omega)]
      rw [this]
      (repeat (first | refine RO.S ?_ | refine RO.Y ?_ | refine RO.no rfl (by decide) rfl ?_ | refine RO.nil ?_ | refine DW.region ?_ | refine DW.seq ?_ | refine DW.block ?_ | refine DW.skip ?_ | refine DW.exit ?_ | refine DW.condT rfl ?_ | refine DW.condF rfl ?_))
      exact DW.ret ⟨.inl rfl, _, rfl, hov, .same _⟩
    · have heq : rows[k].length = (rows.headD []).length := by
        have : (rows[k].length : Int) = ((rows.headD []).length : Int) := by simpa using hb
        omega
      have hk400 := hlens _ (List.getElem_mem hlt)
      (repeat (first | refine RO.S ?_ | refine RO.Y ?_ | refine RO.no rfl (by decide) rfl ?_ | refine RO.nil ?_ | refine DW.region ?_ | refine DW.seq ?_ | refine DW.block ?_ | refine DW.skip ?_ | refine DW.exit ?_ | refine DW.condT rfl ?_ | refine DW.condF rfl ?_))
      refine RO.dyn rfl (opD_call rfl rfl ((clone_call rows[k] (by omega)).mono fun d1 H1 ⟨hz1, hacc1, hov1⟩ => ?_))
      have hd1 : ∃ b1, d1 = rowD (rows.headD []).length b1 ∧ (0 < (rows.headD []).length → Hk b1 = none ∧ H1 b1 = some (3, rows[k].map I)) := by
        by_cases hz : 0 < (rows.headD []).length
        · rcases (hacc1 (fun e => by rw [e, List.length_nil] at heq; omega)).is with ⟨e1, e2⟩ | ⟨b1, e1, e2, e3⟩
          · have : rows[k].length = 0 := by simpa using congrArg List.length e2
            omega
          · refine ⟨b1, ?_, fun _ => ⟨e1, ?_⟩⟩
            · rw [e2]; unfold rowD; rw [if_pos hz]; simp [heq]
            · rw [e3, flat_cells1 (fun _ => rfl)]
        · refine ⟨0, ?_, fun h => absurd h hz⟩
          rw [hz1 (List.eq_nil_of_length_eq_zero (by omega))]
          unfold rowD
          rw [if_neg hz]
      obtain ⟨b1, rfl, hb1⟩ := hd1
      refine RO.sta (s_lit1 (k := 1) (by decide) rfl (by rw [rowD_cells]; rfl)) rfl ?_
      refine RO.dyn rfl (d_append (H0 := H) rfl (hacc.over hov1) (hov.trans hov1) rfl (.inl rfl) (by simpa using rowD_uni _ [b1]) (by simp; omega) (by simp; omega) fun d2 H2 a1 a2 a3 => ?_)
      (repeat (first | refine RO.S ?_ | refine RO.Y ?_ | refine RO.no rfl (by decide) rfl ?_ | refine RO.nil ?_ | refine DW.region ?_ | refine DW.seq ?_ | refine DW.block ?_ | refine DW.skip ?_ | refine DW.exit ?_ | refine DW.condT rfl ?_ | refine DW.condF rfl ?_))
      exact ⟨⟨k + 1, H2, d2, bs ++ [b1]⟩, hinv.next hlt heq hov1 hb1 a1 a2 a3, by dsimp only; omega, rfl, rfl, rfl, rfl, rfl, rfl, rfl, trivial⟩
  · have hke : k = rows.length := by have := of_decide_eq_false hb; omega
    have hall : ∀ r ∈ rows, r.length = (rows.headD []).length := fun r hr' => by
      obtain ⟨j, hj, rfl⟩ := List.mem_iff_getElem.1 hr'
      exact hinv.all j hj (by dsimp only; omega)
    have hn2 : ¬ (rows.any fun r => decide (r.length ≠ (rows.headD []).length)) = true := fun h => by
      obtain ⟨r, hr', h⟩ := List.any_eq_true.1 h
      exact (by simpa using h : r.length ≠ _) (hall r hr')
    clear hb
    (repeat (first | refine RO.S ?_ | refine RO.Y ?_ | refine RO.no rfl (by decide) rfl ?_ | refine RO.nil ?_ | refine DW.region ?_ | refine DW.seq ?_ | refine DW.block ?_ | refine DW.skip ?_ | refine DW.exit ?_ | refine DW.condT rfl ?_ | refine DW.condF rfl ?_))
    refine RO.sta (sta_call rfl rfl (containsFunc_rows rows (fun r => !(r.all (inP p))) hl fun x hx => rankLit2_pure p x (by omega) (by omega) (hr x hx) _)) rfl ?_
    (repeat (first | refine RO.S ?_ | refine RO.Y ?_ | refine RO.no rfl (by decide) rfl ?_ | refine RO.nil ?_ | refine DW.region ?_ | refine DW.seq ?_ | refine DW.block ?_ | refine DW.skip ?_ | refine DW.exit ?_ | refine DW.condT rfl ?_ | refine DW.condF rfl ?_))
    refine DW.cond rfl (fun hb => ?_) (fun hb => ?_)
    · have : rankR p rows = (0, 3) := by
        have : rowsCk p rows = 3 := by unfold rowsCk; rw [if_neg hnm, if_neg hn2, if_pos hb]
        unfold rankR
        rw [if_pos hp, this, if_neg (by omega)]
      rw [this]
      (repeat (first | refine RO.S ?_ | refine RO.Y ?_ | refine RO.no rfl (by decide) rfl ?_ | refine RO.nil ?_ | refine DW.region ?_ | refine DW.seq ?_ | refine DW.block ?_ | refine DW.skip ?_ | refine DW.exit ?_ | refine DW.condT rfl ?_ | refine DW.condF rfl ?_))
      exact DW.ret ⟨.inl rfl, _, rfl, hov, .same _⟩
    · have hck : rowsCk p rows = 0 := by unfold rowsCk; rw [if_neg hnm, if_neg hn2, if_neg (by rw [hb]; simp)]
      have hres : rankR p rows = (((rankT (turnP p) p rows : Nat) : Int), 0) := by unfold rankR; rw [if_pos hp, if_pos hck]
      obtain ⟨hm400, hn400, hok⟩ := rowsCk_ok hck
      have hiv := turnP_inv hp
      rw [hres]
      have hind : CallD Tryd.prog Hk 72 [I p, d] fun d' H' => d' = I (rankT (turnP p) p rows) ∧ Over H H' := by
        have hgo : ∀ (b0 : Nat), H b0 = none → d = .ref b0 0 (bs.map (rowD (rows.headD []).length)).length 1 → Hk b0 = some (36, (bs.map (rowD (rows.headD []).length)).flatMap cellsOf) → CallD Tryd.prog Hk 72 [I p, d] fun d' H' => d' = I (rankT (turnP p) p rows) ∧ Over H H' := fun b0 g1 g2 g3 => by
          rw [flat_cells1 (f := rowD _) (fun b => rowD_cells _ b)] at g3
          rw [List.length_map, hblen, hke] at g2
          subst g2
          by_cases hz : 0 < (rows.headD []).length
          · have hrd : (rowD (rows.headD []).length) = fun b => D.ref b 0 (rows.headD []).length 1 := by funext b; unfold rowD; rw [if_pos hz]
            rw [hrd] at g3
            have hM : Mat Hk (rows.headD []).length b0 bs rows := ⟨g3, fun i hi hi' => (hinv.row hz i hi hi').2, by omega, hinv.nodup hz, fun r hr' => (hok r hr').1⟩
            refine (independent_call hp hiv hn400 hm400 hz hM hok).mono fun d' H' ⟨h1, h2⟩ => ⟨h1, fun b y hy => ?_⟩
            refine h2 b y (hov b y hy) (fun e => by rw [e, g1] at hy; cases hy) fun hm => ?_
            obtain ⟨i, hi, rfl⟩ := List.mem_iff_getElem.1 hm
            have := (hinv.row hz i (by omega) hi).1
            rw [this] at hy; cases hy
          · have hrank : rankT (turnP p) p rows = 0 := by
              have := Elim.stop (p := p) (by omega) hiv (Elim.start hok) hok (.inr (by omega))
              exact this.symm
            rw [hrank]
            rcases Nat.eq_zero_or_pos rows.length with h0 | h0
            · rw [h0]
              exact (indep_len0 p (.ref b0 0 0 1) rfl _).call ⟨rfl, hov⟩
            · cases hbs : bs with
              | nil => rw [hbs] at hblen; simp at hblen; omega
              | cons b bs' =>
                rw [hbs] at g3
                have hrd : rowD (rows.headD []).length b = .list 1 [] := by unfold rowD; rw [if_neg hz]
                rw [List.map_cons, hrd] at g3
                exact (indep_zero p g3 h0 hm400).call ⟨rfl, hov⟩
        rcases hacc.is with ⟨e1, e2⟩ | ⟨b0, e1, e2, e3⟩
        · have h0 : bs = [] := by simpa using e2
          have hr0 : rows = [] := List.eq_nil_of_length_eq_zero (by rw [h0] at hblen; simp at hblen; omega)
          subst hr0
          rw [e1]
          exact (indep_len0 p .nil rfl _).call ⟨rfl, hov⟩
        · exact hgo b0 e1 e2 e3
      (repeat (first | refine RO.S ?_ | refine RO.Y ?_ | refine RO.no rfl (by decide) rfl ?_ | refine RO.nil ?_ | refine DW.region ?_ | refine DW.seq ?_ | refine DW.block ?_ | refine DW.skip ?_ | refine DW.exit ?_ | refine DW.condT rfl ?_ | refine DW.condF rfl ?_))
      refine RO.dyn rfl (opD_call rfl rfl (hind.mono fun d' H' ⟨h1, h2⟩ => ?_))
      subst h1
      (repeat (first | refine RO.S ?_ | refine RO.Y ?_ | refine RO.no rfl (by decide) rfl ?_ | refine RO.nil ?_ | refine DW.region ?_ | refine DW.seq ?_ | refine DW.block ?_ | refine DW.skip ?_ | refine DW.exit ?_ | refine DW.condT rfl ?_ | refine DW.condF rfl ?_))
      exact DW.ret ⟨.inl rfl, _, rfl, h2, .same _⟩

end Go.Proofs.YtblileclefbklaaDoor

namespace Go.Proofs.YtblileclefbklaaDoor
open Go.RowKit
set_option linter.unusedVariables false
set_option linter.unusedSimpArgs false
set_option maxHeartbeats 8000000

theorem any_false {α : Type} {l : List α} {g : α → Bool} (h : ∀ (j : Nat) (hj : j < l.length), g l[j] = false) : l.any g = false := by
  rw [List.any_eq_false]
  intro x hx
  obtain ⟨j, hj, rfl⟩ := List.mem_iff_getElem.1 hx
  rw [h j hj]; simp

end Go.Proofs.YtblileclefbklaaDoor

namespace Go.Proofs.YtblileclefbklaaDoor
open Go.RowKit
set_option linter.unusedVariables false
set_option linter.unusedSimpArgs false
set_option maxHeartbeats 8000000

theorem invT_all : ((List.range 102).all fun p => ckP (p : Int) != 0 || ((List.range p).all fun a => a == 0 || (invT p a == turnP p a))) = true := by decide +kernel

theorem invT_turn {p a : Int} (hp : ckP p = 0) (h0 : 0 < a) (h1 : a < p) : invT p a = turnP p a := by
  have h2 := ckP_ok hp
  obtain ⟨q, rfl⟩ := Int.eq_ofNat_of_zero_le (show 0 ≤ p by omega)
  obtain ⟨b, rfl⟩ := Int.eq_ofNat_of_zero_le (show 0 ≤ a by omega)
  have h3 := List.all_eq_true.1 invT_all q (List.mem_range.2 (by omega))
  rw [hp] at h3
  have h4 : ((List.range q).all fun a => a == 0 || (invT q a == turnP q a)) = true := h3
  have h5 := List.all_eq_true.1 h4 b (List.mem_range.2 (by omega))
  simp only [Bool.or_eq_true, beq_iff_eq] at h5
  exact h5.resolve_left (by omega)

theorem invT_inv {p : Int} (hp : ckP p = 0) : InvOk (invT p) p := fun a h0 h1 => by rw [invT_turn hp h0 h1]; exact turnP_inv hp a h0 h1

theorem rankT_inv {p : Int} (hp : ckP p = 0) {n : Nat} {rows : List (List Int)} (hr : ∀ r ∈ rows, RowOk p n r) : rankT (invT p) p rows = rankT (turnP p) p rows := by
  have h2 := ckP_ok hp
  obtain ⟨E, h1, h3, h4, h5, _⟩ := rankT_spec (by omega) (invT_inv hp) hr
  rw [← h3]
  exact rank_uniq (by omega) (turnP_inv hp) hr h1 h4 h5

theorem rowD_lenD (n b : Nat) : lenD (rowD n b) = some n := by
  unfold rowD
  split
  · rfl
  · simp [lenD]; omega

theorem Acc.lenD {H0 H : Heap} {d : D} {k : Nat} {T : TypeId} {l : List D} (h : Acc H0 H d k T l) : lenD d = some l.length := by
  rcases h.is with ⟨rfl, rfl⟩ | ⟨b, _, rfl, _⟩ <;> rfl

section
variable {P : Program} {H : Heap} {e : Env} {dst : Option Tmp} {ty : TypeId} {pos : String} {af : Array Edge} {gd : Option (Nat × Bool)}

/-- A copy of a row. -/
theorem d_copyRow {t E : TypeId} {x y : Operand} {bytes : Nat} {l : List Int} {K : D → Heap → Prop} [SliceT P t E] [ElT P E 1 [I 0] bytes] (hx : e.ev x = some .nil) (hy : e.ev y = some (intsD l)) (hb : l.length * bytes ≤ 140737488355328) (hlen : l.length ≤ 4611686018427387904)
    (hK : ∀ b H', (0 < l.length → H b = none ∧ H' b = some (E, l.map I)) → Over H H' → K (rowD l.length b) H') : OpD P H e ⟨dst, .call ⟨.builtin .append, #[x, y], #[t, t]⟩, ty, pos, af, gd⟩ K := by
  by_cases h0 : 0 < l.length
  · refine d_append (H0 := H) (l := []) (xs := l.map I) (bytes := bytes) (zd := [I 0]) hx (Acc.nil _ _ _ _) (Over.refl _) hy (.inl rfl) (uni_I _) (by simpa using hb) (by simpa using hlen) fun d' H' h1 h2 h3 => ?_
    rcases h1.is with ⟨e1, e2⟩ | ⟨b, g1, g2, g3⟩
    · have : l.length = 0 := by simpa using congrArg List.length e2
      omega
    · have hd : d' = rowD l.length b := by rw [g2]; unfold rowD; rw [if_pos h0]; simp
      rw [hd]
      refine hK b H' (fun _ => ⟨g1, ?_⟩) h2
      rw [g3, List.nil_append, flat_cells1 (fun _ => rfl)]
  · have hl : l = [] := List.eq_nil_of_length_eq_zero (by omega)
    subst hl
    have hd : rowD ([] : List Int).length 0 = .list 1 [] := rfl
    refine OpD.of_sta (d := .list 1 []) (s_appendNil (xs := []) (bytes := bytes) (zd := [I 0]) hx hy (.inl rfl) (Uni.nil 1) (by simp) (by simp)) ?_
    have := hK 0 H (fun h => absurd h (by simp)) (Over.refl _)
    rwa [hd] at this

end

/-- Slots that are seen as frozen ones. -/
def HasF (e : Env) (H H' : Heap) : Env → Prop
  | [] => True
  | (t, d) :: r => (∃ d', e.get t = some d' ∧ Frz H H' d' d) ∧ HasF e H H' r

theorem HasF.get {e : Env} {H H' : Heap} : ∀ {l : Env} {t : Nat} {d : D}, HasF e H H' l → l.get t = some d → ∃ d', e.get t = some d' ∧ Frz H H' d' d
  | [], t, d, _, h => by simp [Env.get] at h
  | (s, x) :: r, t, d, ⟨h1, h2⟩, h => by
    rw [Env.get_cons] at h
    split at h
    · rename_i hst; subst hst; cases h; exact h1
    · exact HasF.get h2 h

theorem HasF.one {e : Env} {H H' : Heap} {t : Nat} {d : D} {l : Env} (h : e.get t = some d) (r : HasF e H H' l) : HasF e H H' ((t, d) :: l) := ⟨⟨d, h, .same _⟩, r⟩
theorem HasF.frz {e : Env} {H H' : Heap} {t : Nat} {d d' : D} {l : Env} (h : e.get t = some d') (hf : Frz H H' d' d) (r : HasF e H H' l) : HasF e H H' ((t, d) :: l) := ⟨⟨d', h, hf⟩, r⟩

theorem DW.freeze {C : Ctx} {c : Code} {e : Env} {H : Heap} {Q : Post} (l : Env) (H' : Heap) (hH : H'.sub H) (h : HasF e H H' l) (hd : DW C c l H' Q) : DW C c e H Q := .change hH (fun t d ht => h.get ht) hd

def withRow (H : Heap) (n b : Nat) (r : List Int) : Heap := if 0 < n then H.set b (3, r.map I) else H

theorem Acc.apart {H0 Ha Hb : Heap} {d e : D} {k k' : Nat} {T T' : TypeId} {l l' : List D} (hd : Acc H0 Ha d k T l) (he : Acc H0 Ha e k' T' l') (hT : T ≠ T') (hkeep : ∀ c z, Ha c = some z → e.blk ≠ some c → Hb c = some z) : Acc H0 Hb d k T l := by
  refine ⟨hd.uni, hd.is.imp id fun ⟨b, h1, h2, h3⟩ => ⟨b, h1, h2, hkeep _ _ h3 fun hb => ?_⟩⟩
  rcases he.is with ⟨g1, _⟩ | ⟨c, g1, g2, g3⟩
  · rw [g1] at hb; cases hb
  · rw [g2] at hb
    cases hb
    rw [h3] at g3
    have := congrArg (Option.map Prod.fst) g3
    simp at this
    exact hT this

structure RkSt where
  i : Nat
  H : Heap
  d5 : D
  d6 : D

def keptAt (inv : Int → Int) (p : Int) (rows : List (List Int)) (i : Nat) : Kp := (rows.take i).foldl (rankStep inv p) []

theorem keptAt_succ (inv : Int → Int) (p : Int) (rows : List (List Int)) {i : Nat} (h : i < rows.length) : keptAt inv p rows (i + 1) = rankStep inv p (keptAt inv p rows i) rows[i] := by
  unfold keptAt
  rw [List.take_succ_eq_append_getElem h, List.foldl_append]
  rfl

structure RkInv (H : Heap) (p : Int) (rows : List (List Int)) (x : RkSt) : Prop where
  le : x.i ≤ rows.length
  acc5 : Acc H x.H x.d5 1 36 ((keptAt (invT p) p rows x.i).map fun y => intsD y.1)
  acc6 : Acc H x.H x.d6 1 3 ((keptAt (invT p) p rows x.i).map fun y => I y.2)
  over : Over H x.H

theorem firstAt_eq {l : List Int} {f : Nat} (h1 : ∀ j, j < f → vec l j = 0) (h2 : f = l.length ∨ (f < l.length ∧ vec l f ≠ 0)) : firstAt l = f := by
  have hle := firstAt_le l
  have hfl : f ≤ l.length := by omega
  by_cases h : firstAt l = l.length
  · rcases h2 with h2 | ⟨h2, h3⟩
    · omega
    · exact absurd (firstAt_zero (l := l) (j := f) (by omega)) h3
  · obtain ⟨g1, g2⟩ := firstAt_ne h
    rcases Nat.lt_trichotomy (firstAt l) f with hlt | heq | hgt
    · exact absurd (h1 _ hlt) g1
    · exact heq
    · rcases h2 with h2 | ⟨h2, h3⟩
      · omega
      · exact absurd (firstAt_zero hgt) h3

end Go.Proofs.YtblileclefbklaaDoor

namespace Go.Proofs.YtblileclefbklaaDoor
open Go.RowKit
set_option linter.unusedVariables false
set_option linter.unusedSimpArgs false
set_option maxHeartbeats 8000000

theorem s_ints2f {P : Program} {H : Heap} {e : Env} {dst : Option Tmp} {ty : TypeId} {pos : String} {af : Array Edge} {gd : Option (Nat × Bool)} {t E : TypeId} {x y : Operand} {a b : Int} {bytes : Nat} {zd : List D} [SliceT P t E] [ElT P E 1 zd bytes] (hx : e.ev x = some (I a)) (hy : e.ev y = some (I b)) :
    Sta P H e ⟨dst, .buildSlice t 2 #[(0, x), (1, y)], ty, pos, af, gd⟩ (intsD [a, b]) := by
  have hz : zd.length = 1 := (ElT.z (P := P) (E := E) (k := 1) (zd := zd) (bytes := bytes)).len
  obtain ⟨z, rfl⟩ : ∃ z, zd = [z] := by
    match zd, hz with
    | [z], _ => exact ⟨z, rfl⟩
  exact s_lit (P := P) (t := t) (E := E) (bytes := bytes) (zd := [z]) (pd := [(0, I a), (1, I b)]) (ds := [I a, I b]) (by decide) (by decide) (by simp [evParts, hx, hy]) rfl (fun d hd => by simp at hd; rcases hd with rfl | rfl <;> rfl) rfl

theorem s_rows3 {P : Program} {H : Heap} {e : Env} {dst : Option Tmp} {ty : TypeId} {pos : String} {af : Array Edge} {gd : Option (Nat × Bool)} {t E : TypeId} {x y z : Operand} {a b c : List Int} {bytes : Nat} {zd : List D} [SliceT P t E] [ElT P E 1 zd bytes] (hx : e.ev x = some (intsD a)) (hy : e.ev y = some (intsD b)) (hz' : e.ev z = some (intsD c)) :
    Sta P H e ⟨dst, .buildSlice t 3 #[(0, x), (1, y), (2, z)], ty, pos, af, gd⟩ (intssD [a, b, c]) := by
  have hz : zd.length = 1 := (ElT.z (P := P) (E := E) (k := 1) (zd := zd) (bytes := bytes)).len
  obtain ⟨z, rfl⟩ : ∃ z, zd = [z] := by
    match zd, hz with
    | [z], _ => exact ⟨z, rfl⟩
  exact s_lit (P := P) (t := t) (E := E) (bytes := bytes) (zd := [z]) (pd := [(0, intsD a), (1, intsD b), (2, intsD c)]) (ds := [intsD a, intsD b, intsD c]) (by decide) (by decide) (by simp [evParts, hx, hy, hz']) rfl (fun d hd => by simp at hd; rcases hd with rfl | rfl | rfl <;> rfl) rfl

theorem fieldBegun_pure : Pure Tryd.prog 21 [] (.bool true) := by
  intro H
  have c1 := Inverse_pure 7 3
  have c2 := Add_pure 7 4 5
  have c3 := rank_pure 7 [[1, 2], [2, 4], [0, 1]] (by simp) (by simp)
  have c4 := check_pure 7
  rw [show withR 7 3 0 (invR 7 3) = (5, 0) by decide +kernel] at c1
  rw [show withR 7 4 5 ((4 + 5) % 7, 0) = (2, 0) by decide +kernel] at c2
  rw [show rankR 7 [[1, 2], [2, 4], [0, 1]] = (2, 0) by decide +kernel] at c3
  rw [show ckP 7 = 0 by decide +kernel] at c4
  refine PureH.of_body Tryd.func21 rfl (by decide) (Nat.le_of_ble_eq_true rfl) fun w0 => ?_
  (repeat (first | refine RO.S ?_ | refine RO.Y ?_ | refine RO.no rfl (by decide) rfl ?_ | refine RO.nil ?_ | refine DW.region ?_ | refine DW.seq ?_ | refine DW.block ?_ | refine DW.skip ?_ | refine DW.exit ?_ | refine DW.condT rfl ?_ | refine DW.condF rfl ?_))
  refine RO.sta (sta_call rfl rfl (c1 _)) rfl ?_
  (repeat (first | refine RO.S ?_ | refine RO.Y ?_ | refine RO.no rfl (by decide) rfl ?_ | refine RO.nil ?_ | refine DW.region ?_ | refine DW.seq ?_ | refine DW.block ?_ | refine DW.skip ?_ | refine DW.exit ?_ | refine DW.condT rfl ?_ | refine DW.condF rfl ?_))
  refine RO.sta (sta_call rfl rfl (c2 _)) rfl ?_
  (repeat (first | refine RO.S ?_ | refine RO.Y ?_ | refine RO.no rfl (by decide) rfl ?_ | refine RO.nil ?_ | refine DW.region ?_ | refine DW.seq ?_ | refine DW.block ?_ | refine DW.skip ?_ | refine DW.exit ?_ | refine DW.condT rfl ?_ | refine DW.condF rfl ?_))
  refine RO.sta (s_ints2f rfl rfl) rfl ?_
  refine RO.sta (s_ints2f rfl rfl) rfl ?_
  refine RO.sta (s_ints2f rfl rfl) rfl ?_
  refine RO.sta (s_rows3 rfl rfl rfl) rfl ?_
  refine RO.sta (sta_call rfl rfl (c3 _)) rfl ?_
  (repeat (first | refine RO.S ?_ | refine RO.Y ?_ | refine RO.no rfl (by decide) rfl ?_ | refine RO.nil ?_ | refine DW.region ?_ | refine DW.seq ?_ | refine DW.block ?_ | refine DW.skip ?_ | refine DW.exit ?_ | refine DW.condT rfl ?_ | refine DW.condF rfl ?_))
  refine RO.yes rfl rfl (OpD.of_sta (sta_call rfl rfl (c4 _)) ?_)
  (repeat (first | refine RO.S ?_ | refine RO.Y ?_ | refine RO.no rfl (by decide) rfl ?_ | refine RO.nil ?_ | refine DW.region ?_ | refine DW.seq ?_ | refine DW.block ?_ | refine DW.skip ?_ | refine DW.exit ?_ | refine DW.condT rfl ?_ | refine DW.condF rfl ?_))
  exact DW.ret ⟨.inl rfl, _, rfl, Over.refl _, .same _⟩

end Go.Proofs.YtblileclefbklaaDoor

namespace Go.Proofs.YtblileclefbklaaDoor
open Go.RowKit
set_option linter.unusedVariables false

theorem mem_le_sum : ∀ {e : List Int}, (∀ x ∈ e, 0 ≤ x) → ∀ x ∈ e, x ≤ e.sum
  | y :: e, h, x, hx => by
    have h0 : 0 ≤ e.sum := by
      have : ∀ {l : List Int}, (∀ x ∈ l, 0 ≤ x) → 0 ≤ l.sum := fun {l} => by
        induction l with
        | nil => intro _; exact Int.le_refl _
        | cons a l ih => intro h; rw [List.sum_cons]; have := h a (by simp); have := ih fun x hx => h x (by simp [hx]); omega
      exact this fun x hx => h x (by simp [hx])
    rw [List.sum_cons]
    rcases List.mem_cons.1 hx with rfl | hx
    · omega
    · have := mem_le_sum (fun x hx => h x (by simp [hx])) x hx
      have := h y (by simp)
      omega

/-- A monomial that may come up. -/
structure ME (n : Nat) (e : List Int) : Prop where
  len : e.length = n
  n3 : n ≤ 3
  pos : ∀ x ∈ e, 0 ≤ x
  deg : e.sum ≤ 8000

/-- The order as a number. -/
def codeM (o : Int) (e : List Int) : Int := if o = 2 then (e.sum * 8001 + e.getD 0 0) * 8001 + e.getD 1 0 else (e.sum * 8001 + (8000 - e.reverse.getD 0 0)) * 8001 + (8000 - e.reverse.getD 1 0)

theorem ME.cases {n : Nat} {e : List Int} (h : ME n e) : (n = 0 ∧ e = []) ∨ (∃ x, n = 1 ∧ e = [x] ∧ 0 ≤ x ∧ x ≤ 8000) ∨ (∃ x y, n = 2 ∧ e = [x, y] ∧ 0 ≤ x ∧ 0 ≤ y ∧ x + y ≤ 8000) ∨ (∃ x y z, n = 3 ∧ e = [x, y, z] ∧ 0 ≤ x ∧ 0 ≤ y ∧ 0 ≤ z ∧ x + y + z ≤ 8000) := by
  obtain ⟨h1, h2, h3, h4⟩ := h
  match e, h1, h3, h4 with
  | [], h1, _, _ => exact .inl ⟨h1.symm, rfl⟩
  | [x], h1, h3, h4 =>
    have := h3 x (by simp)
    exact .inr (.inl ⟨x, h1.symm, rfl, by omega, by simpa using h4⟩)
  | [x, y], h1, h3, h4 =>
    have := h3 x (by simp)
    have := h3 y (by simp)
    simp at h4
    exact .inr (.inr (.inl ⟨x, y, h1.symm, rfl, by omega, by omega, by omega⟩))
  | [x, y, z], h1, h3, h4 =>
    have := h3 x (by simp)
    have := h3 y (by simp)
    have := h3 z (by simp)
    simp at h4
    exact .inr (.inr (.inr ⟨x, y, z, h1.symm, rfl, by omega, by omega, by omega, by omega⟩))
  | x :: y :: z :: w :: e, h1, _, _ => simp at h1; omega

theorem codeM_range {n : Nat} {o : Int} {e : List Int} (h : ME n e) : 0 ≤ codeM o e ∧ codeM o e < 512192024001 := by
  unfold codeM
  rcases h.cases with ⟨_, rfl⟩ | ⟨x, _, rfl, h1, h2⟩ | ⟨x, y, _, rfl, h1, h2, h3⟩ | ⟨x, y, z, _, rfl, h1, h2, h3, h4⟩ <;> simp <;> split <;> omega

theorem codeM_lt {n : Nat} {o : Int} {a b : List Int} (ha : ME n a) (hb : ME n b) (h : 0 < cmpM o a b) : codeM o b < codeM o a := by
  unfold codeM
  unfold cmpM at h
  rcases ha.cases with ⟨h0, rfl⟩ | ⟨x, h0, rfl, h1, h2⟩ | ⟨x, y, h0, rfl, h1, h2, h3⟩ | ⟨x, y, z, h0, rfl, h1, h2, h3, h4⟩ <;>
  rcases hb.cases with ⟨h0', rfl⟩ | ⟨x', h0', rfl, h1', h2'⟩ | ⟨x', y', h0', rfl, h1', h2', h3'⟩ | ⟨x', y', z', h0', rfl, h1', h2', h3', h4'⟩ <;>
  first
  | omega
  | (simp [lexC, sgn] at h ⊢ <;> (repeat' split at h) <;> (repeat' split) <;> omega)

theorem codeM_cmp {n : Nat} {o : Int} {a b : List Int} (ha : ME n a) (hb : ME n b) : (0 < cmpM o a b ↔ codeM o b < codeM o a) ∧ (cmpM o a b = 0 ↔ codeM o a = codeM o b) := by
  have hl : a.length = b.length := by rw [ha.len, hb.len]
  have h2 := cmpM_anti o a b
  rcases Int.lt_trichotomy (cmpM o a b) 0 with h | h | h
  · have := codeM_lt hb ha (o := o) (by omega)
    exact ⟨⟨fun h => by omega, fun h => by omega⟩, ⟨fun h => by omega, fun h => by omega⟩⟩
  · have := cmpM_zero hl h
    subst this
    exact ⟨⟨fun h => by omega, fun h => by omega⟩, ⟨fun _ => rfl, fun _ => h⟩⟩
  · have := codeM_lt ha hb h
    exact ⟨⟨fun _ => this, fun _ => h⟩, ⟨fun h => by omega, fun h => by omega⟩⟩

theorem codeM_inj {n : Nat} {o : Int} {a b : List Int} (ha : ME n a) (hb : ME n b) (h : codeM o a = codeM o b) : a = b :=
  cmpM_zero (by rw [ha.len, hb.len]) ((codeM_cmp ha hb).2.2 h)

/-- The same, with the place. -/
def code2 (r : Rg) (i : Nat) (e : List Int) : Int := if r.over = 2 then (40 - i) * 512192024001 + codeM r.order e else codeM r.order e * 41 + (40 - i)

theorem code2_range {r : Rg} {n i : Nat} {e : List Int} (h : ME n e) (hi : i ≤ 40) : 0 ≤ code2 r i e := by
  have := codeM_range (o := r.order) h
  unfold code2
  split <;> omega

theorem code2_first {r : Rg} {n i k : Nat} {a b : List Int} (ha : ME n a) (hb : ME n b) (hi : i ≤ 40) (hk : k ≤ 40) : firstT r i a k b = true ↔ code2 r k b < code2 r i a := by
  have h1 := codeM_range (o := r.order) ha
  have h2 := codeM_range (o := r.order) hb
  obtain ⟨c1, c2⟩ := codeM_cmp (o := r.order) ha hb
  unfold firstT code2
  by_cases ho : r.over = 2
  · rw [if_pos ho, if_pos ho]
    by_cases hik : (i : Int) = k
    · by_cases hc : cmpM r.order a b = 0
      · rw [if_pos (.inr hc)]
        have := c2.1 hc
        simp only [decide_eq_true_eq]
        omega
      · rw [if_neg (fun h => h.elim (fun h => h.2 hik) hc)]
        simp only [decide_eq_true_eq]
        rw [c1]
        omega
    · rw [if_pos (.inl ⟨ho, hik⟩)]
      simp only [decide_eq_true_eq]
      omega
  · rw [if_neg ho, if_neg ho]
    by_cases hc : cmpM r.order a b = 0
    · rw [if_pos (.inr hc)]
      have := c2.1 hc
      simp only [decide_eq_true_eq]
      omega
    · rw [if_neg (fun h => h.elim (fun h => ho h.1) hc)]
      have : codeM r.order a ≠ codeM r.order b := fun h => hc (c2.2 h)
      simp only [decide_eq_true_eq]
      rw [c1]
      omega

theorem code2_inj {r : Rg} {n i k : Nat} {a b : List Int} (ha : ME n a) (hb : ME n b) (hi : i ≤ 40) (hk : k ≤ 40) (h : code2 r i a = code2 r k b) : i = k ∧ a = b := by
  have h1 := codeM_range (o := r.order) ha
  have h2 := codeM_range (o := r.order) hb
  unfold code2 at h
  split at h
  · have : i = k := by omega
    subst this
    exact ⟨rfl, codeM_inj (o := r.order) ha hb (by omega)⟩
  · have : i = k := by omega
    subst this
    exact ⟨rfl, codeM_inj (o := r.order) ha hb (by omega)⟩

theorem code2_same {r : Rg} {n i : Nat} {a b : List Int} (ha : ME n a) (hb : ME n b) (h : code2 r i b < code2 r i a) : 0 < cmpM r.order a b := by
  refine (codeM_cmp ha hb).1.2 ?_
  unfold code2 at h
  split at h <;> omega

theorem code2_same' {r : Rg} {n i : Nat} {a b : List Int} (ha : ME n a) (hb : ME n b) (h : 0 < cmpM r.order a b) : code2 r i b < code2 r i a := by
  have := (codeM_cmp ha hb).1.1 h
  unfold code2
  split <;> omega

theorem firstT_add {r : Rg} {i k : Nat} {a b m : List Int} (h1 : a.length = b.length) (h2 : b.length = m.length) : firstT r i (zipE (· + ·) a m) k (zipE (· + ·) b m) = firstT r i a k b := by
  unfold firstT
  rw [cmpM_add h1 h2]

/-- A polynomial's monomials may come up. -/
theorem me_of {lo p o : Int} {n : Nat} {B d : Int} {f : Pl} (h : PB lo p o n B f) (hd : DB d f) (hn : n ≤ 3) (h8 : d ≤ 8000) : ∀ t ∈ f, ME n t.e := fun t ht =>
  ⟨(h.all t ht).len, hn, fun x hx => ((h.all t ht).mem x hx).1, by have := hd t ht; omega⟩

theorem PB.tight {lo p o : Int} {n : Nat} {B d : Int} {f : Pl} (h : PB lo p o n B f) (hd : DB d f) : PB lo p o n d f := ⟨fun t ht => by
  have := h.all t ht
  exact ⟨this.lo, this.hi, this.len, fun x hx => ⟨(this.mem x hx).1, by have := mem_le_sum (fun x hx => (this.mem x hx).1) x hx; have := hd t ht; omega⟩⟩, h.sorted⟩

theorem long_le {lo p o : Int} {n : Nat} {B d : Int} (hn : n ≤ 3) (h8 : d ≤ 8000) : ∀ {f : Pl}, PB lo p o n B f → DB d f → ∀ t, f.head? = some t → (f.length : Int) ≤ codeM o t.e + 1
  | [u], h, hd, t, ht => by
    cases ht
    have := codeM_range (o := o) (me_of h hd hn h8 u (by simp))
    simp; omega
  | u :: w :: f, h, hd, t, ht => by
    cases ht
    have hm := me_of h hd hn h8
    have ih := long_le hn h8 h.tail (fun x hx => hd x (by simp [hx])) w rfl
    have := codeM_lt (o := o) (hm u (by simp)) (hm w (by simp)) (h.below w (by simp))
    simp at ih ⊢; omega

/-- How long a polynomial may be. -/
theorem len_le8 {lo p o : Int} {n : Nat} {B d : Int} {f : Pl} (h : PB lo p o n B f) (hd : DB d f) (hn : n ≤ 3) (h8 : d ≤ 8000) : f.length ≤ 512192024001 := by
  cases f with
  | nil => simp
  | cons u f =>
    have := long_le hn h8 h hd u rfl
    have := codeM_range (o := o) (me_of h hd hn h8 u (by simp))
    omega

end Go.Proofs.YtblileclefbklaaDoor

namespace Go.Proofs.YtblileclefbklaaDoor
open Go.RowKit
set_option linter.unusedVariables false

theorem polyGo_zero {r : Rg} (hr0 : 0 ≤ r.n) {B : Int} : ∀ {f : Pl} {prev : Option Tm}, PB 1 r.p r.order r.n.toNat B f → DB 200 f → (∀ u, prev = some u → Below r.order u.e f) → polyGo r prev f = 0
  | [], prev, _, _, _ => rfl
  | t :: f, prev, h, hd, hb => by
    have ht := h.head
    have h1 := ht.lo
    have h2 := ht.hi
    have hl := ht.len
    have hsum := hd t (by simp)
    have hm : monoCk r t.e = 0 := by
      unfold monoCk
      rw [if_pos (by omega), if_pos]
      rw [Bool.and_eq_true]
      refine ⟨List.all_eq_true.2 fun x hx => inE_iff.2 ⟨(ht.mem x hx).1, ?_⟩, decide_eq_true hsum⟩
      have := mem_le_sum (fun x hx => (ht.mem x hx).1) x hx
      omega
    have hbe : behind r.order prev t = false := by
      cases prev with
      | none => rfl
      | some u =>
        have := hb u rfl t (by simp)
        have ha := cmpM_anti r.order t.e u.e
        exact decide_eq_false (by omega)
    show (if t.c < 1 ∨ r.p ≤ t.c then 3 else if monoCk r t.e ≠ 0 then monoCk r t.e else if behind r.order prev t = true then 4 else polyGo r (some t) f) = 0
    rw [if_neg (by omega), if_neg (by simp [hm]), if_neg (by simp [hbe])]
    exact polyGo_zero hr0 h.tail (fun x hx => hd x (by simp [hx])) fun u hu => by cases hu; exact h.below

theorem polyCk_zero {r : Rg} (hr0 : 0 ≤ r.n) {B : Int} {f : Pl} (h : PB 1 r.p r.order r.n.toNat B f) (hg : greatT f = false) : polyCk r f = 0 := by
  unfold greatT at hg
  rw [Bool.or_eq_false_iff, decide_eq_false_iff_not, decide_eq_false_iff_not] at hg
  unfold polyCk
  rw [if_neg hg.2]
  exact polyGo_zero hr0 h (fun t ht => by have := topT_ge h t ht; omega) fun u hu => by cases hu

end Go.Proofs.YtblileclefbklaaDoor

namespace Go.Proofs.YtblileclefbklaaDoor
set_option linter.unusedVariables false
set_option linter.unusedSimpArgs false

theorem LfP_cons (φ : List Int → Int) (t : Tm) (f g : Pl) : LfP φ (t :: f) g = t.c * Lf (shift φ t.e) g + LfP φ f g := rfl

theorem LfP_nil_r (φ : List Int → Int) : ∀ f, LfP φ f [] = 0
  | [] => rfl
  | t :: f => by rw [LfP_cons, Lf_nil, LfP_nil_r φ f]; simp

theorem LfP_cons_r (φ : List Int → Int) (u : Tm) (g : Pl) : ∀ f, LfP φ f (u :: g) = u.c * Lf (shift φ u.e) f + LfP φ f g
  | [] => by simp [LfP, Lf]
  | t :: f => by
    have hs : shift φ u.e t.e = shift φ t.e u.e := by unfold shift; rw [zipE_comm]
    rw [LfP_cons, LfP_cons, LfP_cons_r φ u g f, Lf_cons, Lf_cons, hs]
    grind

theorem LfP_comm (φ : List Int → Int) : ∀ f g, LfP φ f g = LfP φ g f
  | [], g => by rw [LfP_nil_r]; rfl
  | t :: f, g => by rw [LfP_cons, LfP_cons_r, LfP_comm φ f g]

theorem PB.tb {p o : Int} {n : Nat} {B : Int} {f : Pl} (h : PB 1 p o n B f) : ∀ t ∈ f, TB 0 p n B t := fun t ht => (h.all t ht).mono (by omega) (by omega)

/-- Products may be turned. -/
theorem prod_comm {p o : Int} {n : Nat} {B : Int} (hp : 1 < p) (hpr : Prm p) (hB : 0 ≤ B) {f g : Pl} (hf : PB 1 p o n B f) (hg : PB 1 p o n B g) : prodT p o f g = prodT p o g f := by
  refine PB.uniq (by omega) (prodT_ok hp hpr hg hB hf.tb) (prodT_ok hp hpr hf hB hg.tb) fun φ => ?_
  have h1 := prodT_L (o := o) hp hpr hg hB hf.tb φ
  have h2 := prodT_L (o := o) hp hpr hf hB hg.tb φ
  rw [LfP_comm φ g f] at h2
  have := Int.dvd_sub h1 h2
  rwa [show ∀ a b c : Int, a - c - (b - c) = a - b by intros; omega] at this

/-- A sum times one more is the sum of the products. -/
theorem prod_sum {p o : Int} {n : Nat} {B : Int} (hp : 1 < p) (hpr : Prm p) (hB : 0 ≤ B) {f g h : Pl} (hf : PB 1 p o n B f) (hg : PB 1 p o n B g) (hh : PB 1 p o n B h) :
    sumT p o (prodT p o f h) (prodT p o g h) = prodT p o (sumT p o f g) h := by
  have hs := sumT_ok (p := p) (o := o) (by omega) f g hf hg
  have hy := prodT_ok (o := o) hp hpr hh hB hf.tb
  have hz := prodT_ok (o := o) hp hpr hh hB hg.tb
  refine PB.uniq (by omega) (sumT_ok (by omega) _ _ hy hz) (prodT_ok hp hpr hh hB hs.tb) fun φ => ?_
  have h1 := sumT_L (p := p) (o := o) (by omega) φ _ _ hy hz
  have h2 := prodT_L (o := o) hp hpr hh hB hf.tb φ
  have h3 := prodT_L (o := o) hp hpr hh hB hg.tb φ
  have h4 := prodT_L (o := o) hp hpr hh hB hs.tb φ
  have h5 : p ∣ LfP φ (sumT p o f g) h - (LfP φ f h + LfP φ g h) := sumT_L (p := p) (o := o) (by omega) (fun e => Lf (shift φ e) h) f g hf hg
  have := Int.dvd_sub (Int.dvd_sub (Int.dvd_add (Int.dvd_add h1 h2) h3) h4) h5
  rwa [show ∀ a b c d e x y : Int, a - (b + c) + (b - d) + (c - e) - (x - y) - (y - (d + e)) = a - x by intros; omega] at this

theorem LfP_mul {φ : List Int → Int} {g : Pl} : ∀ {f : Pl}, (∀ t ∈ f, Lf (shift φ t.e) g = φ t.e * Lf φ g) → LfP φ f g = Lf φ f * Lf φ g
  | [], _ => by simp [LfP, Lf]
  | t :: f, h => by
    rw [LfP_cons, Lf_cons, h t (by simp), LfP_mul (f := f) fun u hu => h u (by simp [hu])]
    grind

theorem Lf_shift {at' m : List Int} (hm : m.length = at'.length) (hm0 : ∀ x ∈ m, 0 ≤ x) : ∀ {g : Pl}, (∀ u ∈ g, u.e.length = at'.length ∧ ∀ x ∈ u.e, 0 ≤ x) → Lf (shift (evP at') m) g = evP at' m * Lf (evP at') g
  | [], _ => by simp [Lf]
  | u :: g, h => by
    have hu := h u (by simp)
    rw [Lf_cons, Lf_cons, Lf_shift hm hm0 (g := g) fun v hv => h v (by simp [hv])]
    have : shift (evP at') m u.e = evP at' u.e * evP at' m := evP_add hu.1 hm hu.2 hm0
    rw [this]
    grind

theorem PB.exps {p o : Int} {n : Nat} {B : Int} {f : Pl} {at' : List Int} (h : PB 1 p o n B f) (hl : at'.length = n) : ∀ u ∈ f, u.e.length = at'.length ∧ ∀ x ∈ u.e, 0 ≤ x :=
  fun u hu => ⟨by have := (h.all u hu).len; omega, fun x hx => ((h.all u hu).mem x hx).1⟩

theorem val_sum {p o : Int} {n : Nat} {B : Int} (hp : 1 < p) {f g : Pl} (hf : PB 1 p o n B f) (hg : PB 1 p o n B g) (at' : List Int) : valT p at' (sumT p o f g) = (valT p at' f + valT p at' g) % p := by
  unfold valT
  rw [← Int.add_emod]
  exact mod_eq (sumT_L (by omega) _ _ _ hf hg)

theorem val_prod {p o : Int} {n : Nat} {B : Int} (hp : 1 < p) (hpr : Prm p) (hB : 0 ≤ B) {f g : Pl} (hf : PB 1 p o n B f) (hg : PB 1 p o n B g) {at' : List Int} (hl : at'.length = n) : valT p at' (prodT p o f g) = valT p at' f * valT p at' g % p := by
  unfold valT
  rw [← Int.mul_emod]
  have h1 := prodT_L (o := o) hp hpr hg hB hf.tb (evP at')
  rw [LfP_mul fun t ht => Lf_shift (hf.exps hl t ht).1 (hf.exps hl t ht).2 (hg.exps hl)] at h1
  exact mod_eq h1

/-- A polynomial that came without error. -/
theorem done_zero {f : Pl} (h : (doneT f).2 = 0) : greatT f = false ∧ doneT f = (f, 0) := by
  unfold doneT at *
  cases hg : greatT f
  · rw [if_neg (by decide)]; exact ⟨rfl, rfl⟩
  · rw [hg, if_pos rfl] at h; cases h

end Go.Proofs.YtblileclefbklaaDoor
