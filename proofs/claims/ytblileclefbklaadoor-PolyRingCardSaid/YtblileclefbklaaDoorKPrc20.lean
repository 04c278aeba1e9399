/-
  Package field: Independent. No condition.
-/
import Derived.Test.YtblileclefbklaaDoorKPrc19

namespace Go.Proofs.YtblileclefbklaaDoor
open Go.RowKit
set_option linter.unusedVariables false
set_option linter.unusedSimpArgs false
set_option maxHeartbeats 8000000

/-- Rows that may be written. -/
structure Mat (H : Heap) (n b0 : Nat) (bs : List Nat) (rows : List (List Int)) : Prop where
  outer : H b0 = some (36, bs.map fun b => D.ref b 0 n 1)
  row : ∀ (i : Nat) (h : i < rows.length) (h' : i < bs.length), H bs[i] = some (3, rows[i].map I)
  len : bs.length = rows.length
  nodup : bs.Nodup
  all : ∀ r ∈ rows, r.length = n

theorem Mat.cell {H : Heap} {n b0 : Nat} {bs : List Nat} {rows : List (List Int)} (h : Mat H n b0 bs rows) {i off : Nat} (hi : i < bs.length) (ho : off = i) : (bs.map fun b => D.ref b 0 n 1)[off]? = some (.ref bs[i] 0 n 1) := by
  subst ho; simp [hi]

theorem Mat.ne {H : Heap} {n b0 : Nat} {bs : List Nat} {rows : List (List Int)} (h : Mat H n b0 bs rows) {i : Nat} (hi : i < bs.length) : bs[i] ≠ b0 := fun e => by
  have h1 := h.row i (by have := h.len; omega) hi
  rw [e, h.outer] at h1
  have h2 := congrArg (Option.map Prod.fst) h1
  simp at h2

/-- Other blocks do not matter. -/
theorem Mat.other {H : Heap} {n b0 : Nat} {bs : List Nat} {rows : List (List Int)} (h : Mat H n b0 bs rows) {b : Nat} {x : TypeId × List D} (h0 : b ≠ b0) (hb : b ∉ bs) : Mat (H.set b x) n b0 bs rows :=
  ⟨by rw [Heap.set_other _ _ (Ne.symm h0)]; exact h.outer, fun i hi hi' => by rw [Heap.set_other _ _ (fun e => hb (by rw [← e]; exact List.getElem_mem _))]; exact h.row i hi hi', h.len, h.nodup, h.all⟩

theorem nodup_ne {l : List Nat} (h : l.Nodup) {i j : Nat} (hi : i < l.length) (hj : j < l.length) (hij : i ≠ j) : l[i] ≠ l[j] := fun e => hij ((List.getElem_inj h).1 e)

/-- One row is turned. -/
theorem Mat.setRow {H : Heap} {n b0 : Nat} {bs : List Nat} {rows : List (List Int)} (h : Mat H n b0 bs rows) {i : Nat} (hi : i < bs.length) {r : List Int} (hr : r.length = n) : Mat (H.set bs[i] (3, r.map I)) n b0 bs (rows.set i r) := by
  refine ⟨by rw [Heap.set_other _ _ (Ne.symm (h.ne hi))]; exact h.outer, fun k hk hk' => ?_, by simpa using h.len, h.nodup, fun q hq => ?_⟩
  · by_cases hki : k = i
    · subst hki
      rw [Heap.set_self]
      simp
    · rw [Heap.set_other _ _ (nodup_ne h.nodup hk' hi hki), List.getElem_set, if_neg (Ne.symm hki)]
      exact h.row k (by simpa using hk) hk'
  · rcases List.mem_or_eq_of_mem_set hq with hq | rfl
    · exact h.all q hq
    · exact hr

theorem map_swap {n : Nat} (bs : List Nat) (i k : Nat) (hi : i < bs.length) (hk : k < bs.length) : ((bs.map fun b => D.ref b 0 n 1).set i (.ref bs[k] 0 n 1)).set k (.ref bs[i] 0 n 1) = ((bs.set i bs[k]).set k bs[i]).map fun b => D.ref b 0 n 1 := by
  rw [List.map_set, List.map_set]

/-- Two rows are swapped. -/
theorem Mat.swap {H : Heap} {n b0 : Nat} {bs : List Nat} {rows : List (List Int)} (h : Mat H n b0 bs rows) {i k : Nat} (hi : i < bs.length) (hk : k < bs.length) (hi' : i < rows.length) (hk' : k < rows.length) :
    Mat (H.set b0 (36, ((bs.set i bs[k]).set k bs[i]).map fun b => D.ref b 0 n 1)) n b0 ((bs.set i bs[k]).set k bs[i]) (swapped rows i k hi' hk') := by
  have hget : ∀ (j : Nat) (hj : j < bs.length) (hj' : j < ((bs.set i bs[k]).set k bs[i]).length), ((bs.set i bs[k]).set k bs[i])[j] = if j = k then bs[i] else if j = i then bs[k] else bs[j] := fun j hj hj' => by
    simp only [List.getElem_set]
    by_cases h1 : k = j
    · subst h1; simp
    · rw [if_neg h1, if_neg (Ne.symm h1)]
      by_cases h2 : i = j
      · subst h2; simp
      · rw [if_neg h2, if_neg (Ne.symm h2)]
  have hlen := h.len
  refine ⟨Heap.set_self _ _ _, fun j hj hj' => ?_, by simp [swapped, h.len], ?_, fun q hq => h.all q ((swapped_mem hi' hk' q).1 hq)⟩
  · have hjb : j < bs.length := by simpa using hj'
    rw [hget j hjb hj', swapped_get hi' hk' j (by omega) hj]
    split
    · rw [Heap.set_other _ _ (h.ne hi)]; exact h.row i hi' hi
    · split
      · rw [Heap.set_other _ _ (h.ne hk)]; exact h.row k hk' hk
      · rw [Heap.set_other _ _ (h.ne hjb)]; exact h.row j (by omega) hjb
  · unfold List.Nodup
    rw [List.pairwise_iff_getElem]
    intro x y hx hy hxy
    have hx' : x < bs.length := by simpa using hx
    have hy' : y < bs.length := by simpa using hy
    rw [hget x hx' hx, hget y hy' hy]
    have key : ∀ (s t : Nat) (hs : s < bs.length) (ht : t < bs.length), s ≠ t → bs[s] ≠ bs[t] := fun s t hs ht hst => nodup_ne h.nodup hs ht hst
    split <;> split <;> (try split) <;> (try split) <;> first | (exact key _ _ _ _ (by omega)) | omega

theorem swap_mem {bs : List Nat} {i k : Nat} (hi : i < bs.length) (hk : k < bs.length) (b : Nat) (h : b ∈ (bs.set i bs[k]).set k bs[i]) : b ∈ bs := by
  rcases List.mem_or_eq_of_mem_set h with h | rfl
  · rcases List.mem_or_eq_of_mem_set h with h | rfl
    · exact h
    · exact List.getElem_mem _
  · exact List.getElem_mem _

structure IndSt where
  H : Heap
  bs : List Nat
  rows : List (List Int)
  a : Nat
  c : Nat
  bc : Nat

structure IndInv (H : Heap) (p : Int) (n b0 : Nat) (bs : List Nat) (rows : List (List Int)) (x : IndSt) : Prop where
  mat : Mat x.H n b0 x.bs x.rows
  same : ∀ b, b ∈ x.bs → b ∈ bs
  cell : x.H x.bc = some (3, [I x.c])
  fresh : H x.bc = none
  keep : ∀ b y, H b = some y → b ≠ b0 → b ∉ bs → x.H b = some y
  elim : Elim p n rows x.rows x.a x.c

theorem IndInv.next {H Hd : Heap} {p : Int} {n b0 : Nat} {bs bs2 : List Nat} {rows rows2 : List (List Int)} {a c bd : Nat} (hM : Mat H n b0 bs rows) (h1 : Mat Hd n b0 bs2 rows2) (h2 : ∀ b, b ∈ bs2 → b ∈ bs) (h3 : Hd bd = none)
    (h4 : ∀ b y, H b = some y → b ≠ b0 → b ∉ bs → Hd b = some y) (h5 : Elim p n rows rows2 a (c + 1)) : IndInv H p n b0 bs rows ⟨Hd.set bd (3, [I ((c : Int) + 1)]), bs2, rows2, a, c + 1, bd⟩ := by
  have n0 : bd ≠ b0 := fun e => by rw [e, h1.outer] at h3; cases h3
  have n1 : bd ∉ bs2 := fun e => by
    obtain ⟨i, hi, rfl⟩ := List.mem_iff_getElem.1 e
    rw [h1.row i (by have := h1.len; omega) hi] at h3; cases h3
  have fresh : H bd = none := by
    cases hx : H bd with
    | none => rfl
    | some y =>
      by_cases hb : bd ∈ bs
      · -- then it is one of the rows, that are all there
        have : ∀ (l : List Nat) (m : List Nat), l.Nodup → (∀ b ∈ l, b ∈ m) → l.length = m.length → ∀ b ∈ m, b ∈ l := by
          intro l m hl hs hlen b hb
          by_cases hbl : b ∈ l
          · exact hbl
          · have := nodup_le (l := b :: l) (m := m) (List.nodup_cons.2 ⟨hbl, hl⟩) (fun x hx => by rcases List.mem_cons.1 hx with rfl | hx; exact hb; exact hs x hx)
            simp at this; omega
        exact absurd (this bs2 bs h1.nodup h2 (by have := h1.len; have := hM.len; have := h5.len; omega) bd hb) n1
      · rw [h4 bd y hx n0 hb] at h3; cases h3
  exact ⟨h1.other n0 n1, h2, Heap.set_self _ _ _, fresh, fun b y hb g1 g2 => by
    dsimp only
    rw [Heap.set_other _ _ (fun e => by rw [e, fresh] at hb; cases hb)]
    exact h4 b y hb g1 g2, h5⟩

theorem independent_call {H : Heap} {p : Int} {n b0 : Nat} {bs : List Nat} {rows : List (List Int)} (hp : ckP p = 0) (hinv : InvOk (turnP p) p) (hn : n ≤ 400) (hm : rows.length ≤ 400) (hn0 : 0 < n) (hM : Mat H n b0 bs rows) (hr : ∀ r ∈ rows, RowOk p n r) :
    CallD Tryd.prog H 72 [I p, .ref b0 0 rows.length 1] fun d H' => d = I (rankT (turnP p) p rows) ∧ ∀ b y, H b = some y → b ≠ b0 → b ∉ bs → H' b = some y := by
  have hp2 := ckP_ok hp
  refine CallD.of_body Tryd.func72 rfl (by decide) (Nat.le_of_ble_eq_true rfl) fun w0 => ?_
  (repeat (first | refine RO.S ?_ | refine RO.Y ?_ | refine RO.no rfl (by decide) rfl ?_ | refine RO.nil ?_ | refine DW.region ?_ | refine DW.seq ?_ | refine DW.block ?_ | refine DW.skip ?_ | refine DW.exit ?_ | refine DW.condT rfl ?_ | refine DW.condF rfl ?_))
  refine RO.dyn rfl (d_alloc fun bc0 hbc0 => ?_)
  refine RO.dyn rfl (d_storeInt (l := [0]) rfl rfl (Heap.set_self _ _ _) (by simp) ?_)
  (repeat (first | refine RO.S ?_ | refine RO.Y ?_ | refine RO.no rfl (by decide) rfl ?_ | refine RO.nil ?_ | refine DW.region ?_ | refine DW.seq ?_ | refine DW.block ?_ | refine DW.skip ?_ | refine DW.exit ?_ | refine DW.condT rfl ?_ | refine DW.condF rfl ?_))
  rw [Heap.set_set]
  have hne0 : bc0 ≠ b0 := fun e => by rw [e, hM.outer] at hbc0; cases hbc0
  have hnot0 : bc0 ∉ bs := fun e => by
    obtain ⟨i, hi, rfl⟩ := List.mem_iff_getElem.1 e
    rw [hM.row i (by have := hM.len; omega) hi] at hbc0; cases hbc0
  refine DW.loopI (IndInv H p n b0 bs rows) (fun x => [(0, I p), (1, .ref b0 0 rows.length 1), (5, I x.a), (6, .ptr x.bc 0)]) (fun x => x.H) (fun x => n - x.c) ⟨H.set bc0 (3, [I 0]), bs, rows, 0, 0, bc0⟩
    ⟨hM.other hne0 hnot0, fun b h => h, Heap.set_self _ _ _, hbc0, fun b y h h1 h2 => by dsimp only; rw [Heap.set_other _ _ (fun e => by rw [e, hbc0] at h; cases h)]; exact h, Elim.start hr⟩ rfl ⟨rfl, rfl, rfl, rfl, trivial⟩ fun ⟨Hc, bs1, rows1, a, c, bc⟩ hx => ?_
  obtain ⟨xmat, xsame, xcell, xfresh, xkeep, xelim⟩ := hx
  dsimp only at xmat xsame xcell xfresh xkeep xelim
  dsimp only
  have xlen : rows1.length = rows.length := xelim.len
  have blen : bs1.length = rows1.length := xmat.len
  have hale := xelim.ale
  have hcle := xelim.cle
  have hne : bc ≠ b0 := fun e => by rw [e, hM.outer] at xfresh; cases xfresh
  have hnot : bc ∉ bs1 := fun e => by
    obtain ⟨i, hi, he⟩ := List.mem_iff_getElem.1 (xsame _ e)
    have := hM.row i (by have := hM.len; omega) hi
    rw [he, xfresh] at this; cases this
  have stop : (a = rows1.length ∨ c = n) → I (a : Int) = I ((rankT (turnP p) p rows : Nat) : Int) := fun h => by
    rw [Elim.stop (by omega) hinv xelim hr (h.imp (fun h => by omega) id)]
  (repeat (first | refine RO.S ?_ | refine RO.Y ?_ | refine RO.no rfl (by decide) rfl ?_ | refine RO.nil ?_ | refine DW.region ?_ | refine DW.seq ?_ | refine DW.block ?_ | refine DW.skip ?_ | refine DW.exit ?_ | refine DW.condT rfl ?_ | refine DW.condF rfl ?_))
  refine DW.drawS 17 Tryd.mixed (by kernel_rfl) (by decide) ?_
  dsimp only [List.take, List.drop]
  (repeat (first | refine RS.S ?_ | refine RS.Y ?_ | refine RS.no rfl (by decide) rfl ?_ | refine RS.nil ?_))
  cases h1 : decide ((0 : Int) < (rows.length : Int))
  case false =>
    have h2 := of_decide_eq_false h1
    (repeat (first | refine RS.S ?_ | refine RS.Y ?_ | refine RS.no rfl (by decide) rfl ?_ | refine RS.nil ?_))
    (repeat (first | refine RO.S ?_ | refine RO.Y ?_ | refine RO.no rfl (by decide) rfl ?_ | refine RO.nil ?_ | refine DW.region ?_ | refine DW.seq ?_ | refine DW.block ?_ | refine DW.skip ?_ | refine DW.exit ?_ | refine DW.condT rfl ?_ | refine DW.condF rfl ?_))
    rw [stop (.inl (by omega))]
    exact DW.ret ⟨.inl rfl, _, _, Hc, rfl, fun _ _ h => h, .same _, rfl, xkeep⟩
  have g1 := of_decide_eq_true h1
  have hl0 : 0 < bs1.length := by omega
  (repeat (first | refine RS.S ?_ | refine RS.Y ?_ | refine RS.no rfl (by decide) rfl ?_ | refine RS.nil ?_))
  refine RS.yes rfl (r_loadMut (d := I c) rfl xcell rfl) rfl ?_
  (repeat (first | refine RS.S ?_ | refine RS.Y ?_ | refine RS.no rfl (by decide) rfl ?_ | refine RS.nil ?_))
  refine RS.yes rfl (fun H' hov => s_ixRef rfl rfl (by omega) (by omega)) rfl ?_
  refine RS.yes rfl (r_loadMut rfl xmat.outer (xmat.cell hl0 rfl)) rfl ?_
  (repeat (first | refine RS.S ?_ | refine RS.Y ?_ | refine RS.no rfl (by decide) rfl ?_ | refine RS.nil ?_))
  cases h2 : decide ((c : Int) < (n : Int))
  case false =>
    have h3 := of_decide_eq_false h2
    (repeat (first | refine RS.S ?_ | refine RS.Y ?_ | refine RS.no rfl (by decide) rfl ?_ | refine RS.nil ?_))
    (repeat (first | refine RO.S ?_ | refine RO.Y ?_ | refine RO.no rfl (by decide) rfl ?_ | refine RO.nil ?_ | refine DW.region ?_ | refine DW.seq ?_ | refine DW.block ?_ | refine DW.skip ?_ | refine DW.exit ?_ | refine DW.condT rfl ?_ | refine DW.condF rfl ?_))
    rw [stop (.inr (by omega))]
    exact DW.ret ⟨.inl rfl, _, _, Hc, rfl, fun _ _ h => h, .same _, rfl, xkeep⟩
  have g2 := of_decide_eq_true h2
  (repeat (first | refine RS.S ?_ | refine RS.Y ?_ | refine RS.no rfl (by decide) rfl ?_ | refine RS.nil ?_))
  cases h3 : decide ((a : Int) < (rows.length : Int))
  case false =>
    have h4 := of_decide_eq_false h3
    (repeat (first | refine RS.S ?_ | refine RS.Y ?_ | refine RS.no rfl (by decide) rfl ?_ | refine RS.nil ?_))
    (repeat (first | refine RO.S ?_ | refine RO.Y ?_ | refine RO.no rfl (by decide) rfl ?_ | refine RO.nil ?_ | refine DW.region ?_ | refine DW.seq ?_ | refine DW.block ?_ | refine DW.skip ?_ | refine DW.exit ?_ | refine DW.condT rfl ?_ | refine DW.condF rfl ?_))
    rw [stop (.inl (by omega))]
    exact DW.ret ⟨.inl rfl, _, _, Hc, rfl, fun _ _ h => h, .same _, rfl, xkeep⟩
  have g3 := of_decide_eq_true h3
  (repeat (first | refine RS.S ?_ | refine RS.Y ?_ | refine RS.no rfl (by decide) rfl ?_ | refine RS.nil ?_))
  (repeat (first | refine RO.S ?_ | refine RO.Y ?_ | refine RO.no rfl (by decide) rfl ?_ | refine RO.nil ?_ | refine DW.region ?_ | refine DW.seq ?_ | refine DW.block ?_ | refine DW.skip ?_ | refine DW.exit ?_ | refine DW.condT rfl ?_ | refine DW.condF rfl ?_))
  refine RO.sta (s_fromRef rfl rfl (by omega)) rfl ?_
  (repeat (first | refine RO.S ?_ | refine RO.Y ?_ | refine RO.no rfl (by decide) rfl ?_ | refine RO.nil ?_ | refine DW.region ?_ | refine DW.seq ?_ | refine DW.block ?_ | refine DW.skip ?_ | refine DW.exit ?_ | refine DW.condT rfl ?_ | refine DW.condF rfl ?_))
  have hidx := indexFunc_ref (H := Hc) (f := 80) (caps := [.ptr bc 0]) (off := 0 + a * 1) (m := rows.length - a) (fun i => .ref (bs1.getD (a + i) 0) 0 n 1) (fun i => vec (rows1.getD (a + i) []) c != 0) xmat.outer (fun i hi => by
    rw [show bs1.getD (a + i) 0 = bs1[a + i]'(by omega) by simp [List.getD_eq_getElem?_getD, show a + i < bs1.length by omega]]
    exact xmat.cell (by omega) (by omega)) (by omega) (fun i hi => by
    rw [show bs1.getD (a + i) 0 = bs1[a + i]'(by omega) by simp [List.getD_eq_getElem?_getD, show a + i < bs1.length by omega], show rows1.getD (a + i) [] = rows1[a + i]'(by omega) by simp [List.getD_eq_getElem?_getD, show a + i < rows1.length by omega]]
    have e := xmat.all _ (List.getElem_mem (show a + i < rows1.length by omega))
    have h := indepLit_pure (H := Hc) rows1[a + i] (xmat.row (a + i) (by omega) (by omega)) xcell (by omega)
    rw [e] at h
    exact h)
  refine RO.sta (sta_call rfl rfl hidx) rfl ?_
  rcases idxD_cases (fun i => vec (rows1.getD (a + i) []) c != 0) (List.range (rows.length - a)) with ⟨he, hz⟩ | ⟨k, hk, he, hnz⟩
  · rw [he]
    have xe : Elim p n rows rows1 a (c + 1) := xelim.skip (by omega) fun i hi hai => by
      have := hz (i - a) (by simp; omega)
      simp only [List.getElem_range] at this
      rw [show a + (i - a) = i by omega, show rows1.getD i [] = rows1[i] by simp [List.getD_eq_getElem?_getD, hi]] at this
      simpa using this
    (repeat (first | refine RO.S ?_ | refine RO.Y ?_ | refine RO.no rfl (by decide) rfl ?_ | refine RO.nil ?_ | refine DW.region ?_ | refine DW.seq ?_ | refine DW.block ?_ | refine DW.skip ?_ | refine DW.exit ?_ | refine DW.condT rfl ?_ | refine DW.condF rfl ?_))
    refine RO.sta (s_loadMut (d := I c) rfl xcell rfl) rfl ?_
    (repeat (first | refine RO.S ?_ | refine RO.Y ?_ | refine RO.no rfl (by decide) rfl ?_ | refine RO.nil ?_ | refine DW.region ?_ | refine DW.seq ?_ | refine DW.block ?_ | refine DW.skip ?_ | refine DW.exit ?_ | refine DW.condT rfl ?_ | refine DW.condF rfl ?_))
    refine RO.dyn rfl (d_alloc fun bd hbd => ?_)
    refine RO.dyn rfl (d_storeInt (l := [0]) rfl rfl (Heap.set_self _ _ _) (by simp) ?_)
    (repeat (first | refine RO.S ?_ | refine RO.Y ?_ | refine RO.no rfl (by decide) rfl ?_ | refine RO.nil ?_ | refine DW.region ?_ | refine DW.seq ?_ | refine DW.block ?_ | refine DW.skip ?_ | refine DW.exit ?_ | refine DW.condT rfl ?_ | refine DW.condF rfl ?_))
    rw [Heap.set_set]
    refine RO.sta (s_loadMut (d := I c) rfl (Heap.set_self _ _ _) rfl) rfl ?_
    (repeat (first | refine RO.S ?_ | refine RO.Y ?_ | refine RO.no rfl (by decide) rfl ?_ | refine RO.nil ?_ | refine DW.region ?_ | refine DW.seq ?_ | refine DW.block ?_ | refine DW.skip ?_ | refine DW.exit ?_ | refine DW.condT rfl ?_ | refine DW.condF rfl ?_))
    refine RO.dyn rfl (d_storeInt (l := [(c : Int)]) rfl rfl (Heap.set_self _ _ _) (by simp) ?_)
    (repeat (first | refine RO.S ?_ | refine RO.Y ?_ | refine RO.no rfl (by decide) rfl ?_ | refine RO.nil ?_ | refine DW.region ?_ | refine DW.seq ?_ | refine DW.block ?_ | refine DW.skip ?_ | refine DW.exit ?_ | refine DW.condT rfl ?_ | refine DW.condF rfl ?_))
    rw [Heap.set_set]
    exact ⟨⟨_, bs1, rows1, a, c + 1, bd⟩, IndInv.next hM xmat xsame hbd xkeep xe, by dsimp only; omega, rfl, rfl, rfl, rfl, rfl, trivial⟩
  · rw [he]
    have hkl : k < rows.length - a := by simpa using hk
    simp only [List.getElem_range] at hnz
    rw [show rows1.getD (a + k) [] = rows1[a + k]'(by omega) by simp [List.getD_eq_getElem?_getD, show a + k < rows1.length by omega]] at hnz
    have hkd : decide ((k : Int) < 0) = false := decide_eq_false (by omega)
    (repeat (first | refine RO.S ?_ | refine RO.Y ?_ | refine RO.no rfl (by decide) rfl ?_ | refine RO.nil ?_ | refine DW.region ?_ | refine DW.seq ?_ | refine DW.block ?_ | refine DW.skip ?_ | refine DW.exit ?_ | refine DW.condT rfl ?_ | refine DW.condF rfl ?_))
    rw [hkd]
    (repeat (first | refine RO.S ?_ | refine RO.Y ?_ | refine RO.no rfl (by decide) rfl ?_ | refine RO.nil ?_ | refine DW.region ?_ | refine DW.seq ?_ | refine DW.block ?_ | refine DW.skip ?_ | refine DW.exit ?_ | refine DW.condT rfl ?_ | refine DW.condF rfl ?_))
    have hak : a + k < bs1.length := by omega
    have hab : a < bs1.length := by omega
    refine DW.drawM 17 [2, 3, 4, 5] (Hc.set b0 (36, (bs1.map fun b => D.ref b 0 n 1).set a (.ref bs1[a + k] 0 n 1))) Tryd.mixed (by kernel_rfl) (by kernel_rfl) rfl rfl rfl ?_
    dsimp only [List.take, List.drop]
    (repeat (first | refine RM.F ?_ | refine RM.nil ?_))
    refine RM.free (fun H' => s_ixRef rfl rfl (by omega) (by omega)) rfl ?_
    refine RM.sta rfl (r_loadMut rfl xmat.outer (xmat.cell (i := a + k) hak (by omega))) rfl ?_
    (repeat (first | refine RM.F ?_ | refine RM.nil ?_))
    refine RM.free (fun H' => s_ixRef rfl rfl (by omega) (by omega)) rfl ?_
    refine RM.sta rfl (r_loadMut rfl xmat.outer (xmat.cell (i := a) hab (by omega))) rfl ?_
    refine RM.free (fun H' => s_ixRef rfl rfl (by omega) (by omega)) rfl ?_
    refine RM.nil ⟨d_store (k := 1) rfl rfl rfl xmat.outer (by simp [cellsOf]; omega) (by simp [cellsOf, D.isCell]) (by
      rw [setManyD _ _ _ rfl (by simp; omega), show 0 + ((a : Int)).toNat = a by omega]), ?_⟩
    refine RO.sta (s_ixRef rfl rfl (by omega) (by omega)) rfl ?_
    refine RO.dyn rfl (d_store (k := 1) rfl rfl rfl (Heap.set_self _ _ _) (by simp [cellsOf]; omega) (by simp [cellsOf, D.isCell]) ?_)
    rw [setManyD _ _ _ rfl (by simp; omega), Heap.set_set, show 0 + ((a : Int) + (k : Int)).toNat = a + k by omega, map_swap _ _ _ hab hak]
    have m2 := xmat.swap hab hak (by omega) (by omega)
    have c2 : (Hc.set b0 (36, ((bs1.set a bs1[a + k]).set (a + k) bs1[a]).map fun b => D.ref b 0 n 1)) bc = some (3, [I c]) := by rw [Heap.set_other _ _ hne]; exact xcell
    have k2 : ∀ b y, H b = some y → b ≠ b0 → b ∉ bs → (Hc.set b0 (36, ((bs1.set a bs1[a + k]).set (a + k) bs1[a]).map fun b => D.ref b 0 n 1)) b = some y := fun b y h1 h2 h3 => by
      rw [Heap.set_other _ _ h2]; exact xkeep b y h1 h2 h3
    have e2 := xelim.swap (show a < rows1.length by omega) (show a + k < rows1.length by omega) (by omega)
    have s2 : ∀ b, b ∈ (bs1.set a bs1[a + k]).set (a + k) bs1[a] → b ∈ bs := fun b hb => xsame b (swap_mem hab hak b hb)
    have p2 : ∀ h : a < (swapped rows1 a (a + k) (show a < rows1.length by omega) (show a + k < rows1.length by omega)).length, vec (swapped rows1 a (a + k) (show a < rows1.length by omega) (show a + k < rows1.length by omega))[a] c ≠ 0 := fun h => by
      rw [swapped_get _ _ a (by omega)]
      by_cases hk0 : a = a + k
      · rw [if_pos hk0]
        have : a + k = a := hk0.symm
        simp only [this] at hnz
        simpa using hnz
      · rw [if_neg hk0, if_pos rfl]
        simpa using hnz
    have l2 : (swapped rows1 a (a + k) (show a < rows1.length by omega) (show a + k < rows1.length by omega)).length = rows.length := by simp [swapped]; omega
    have bl2 : ((bs1.set a bs1[a + k]).set (a + k) bs1[a]).length = rows.length := by simp; omega
    generalize hH2 : Hc.set b0 (36, ((bs1.set a bs1[a + k]).set (a + k) bs1[a]).map fun b => D.ref b 0 n 1) = H2 at m2 c2 k2 ⊢
    generalize hB2 : (bs1.set a bs1[a + k]).set (a + k) bs1[a] = bs2 at m2 s2 bl2
    generalize hR2 : swapped rows1 a (a + k) (show a < rows1.length by omega) (show a + k < rows1.length by omega) = rows2 at m2 e2 p2 l2
    clear hH2 hB2 hR2 hidx hnz hkd
    have ha2 : a < rows2.length := by omega
    have hab2 : a < bs2.length := by omega
    have p2 := p2 ha2
    have o2 := e2.ok _ (List.getElem_mem ha2)
    have hv2 := o2.vec (by omega) c
    generalize hpiv : rows2[a] = piv at p2 o2 hv2
    have rpiv : H2 bs2[a] = some (3, piv.map I) := by rw [← hpiv]; exact m2.row a ha2 hab2
    (repeat (first | refine RO.S ?_ | refine RO.Y ?_ | refine RO.no rfl (by decide) rfl ?_ | refine RO.nil ?_ | refine DW.region ?_ | refine DW.seq ?_ | refine DW.block ?_ | refine DW.skip ?_ | refine DW.exit ?_ | refine DW.condT rfl ?_ | refine DW.condF rfl ?_))
    refine DW.drawS 10 Tryd.mixed (by kernel_rfl) (by decide) ?_
    dsimp only [List.take, List.drop]
    (repeat (first | refine RS.S ?_ | refine RS.Y ?_ | refine RS.no rfl (by decide) rfl ?_ | refine RS.nil ?_))
    refine RS.sta (fun H' hov => s_ixRef rfl rfl (by omega) (by omega)) rfl ?_
    refine RS.sta (r_loadMut rfl m2.outer (m2.cell (i := a) hab2 (by omega))) rfl ?_
    refine RS.sta (r_loadMut (d := I c) rfl c2 rfl) rfl ?_
    refine RS.sta (fun H' hov => s_ixRef rfl rfl (by omega) (by omega)) rfl ?_
    refine RS.sta (r_loadVec (l := piv) (j := c) rfl rpiv (by omega) (by rw [o2.1]; omega)) rfl ?_
    refine RS.sta (fun H' hov => sta_call rfl rfl (turn_pure p (vec piv c) hp2.1 hp2.2 hv2.1 hv2.2 _)) rfl ?_
    (repeat (first | refine RS.S ?_ | refine RS.Y ?_ | refine RS.no rfl (by decide) rfl ?_ | refine RS.nil ?_))
    (repeat (first | refine RO.S ?_ | refine RO.Y ?_ | refine RO.no rfl (by decide) rfl ?_ | refine RO.nil ?_ | refine DW.region ?_ | refine DW.seq ?_ | refine DW.block ?_ | refine DW.skip ?_ | refine DW.exit ?_ | refine DW.condT rfl ?_ | refine DW.condF rfl ?_))
    refine RO.sta (s_fromRefD (m := a + 1) rfl rfl (by omega) (by omega)) rfl ?_
    refine RO.sta (s_len rfl restD_len) rfl ?_
    (repeat (first | refine RO.S ?_ | refine RO.Y ?_ | refine RO.no rfl (by decide) rfl ?_ | refine RO.nil ?_ | refine DW.region ?_ | refine DW.seq ?_ | refine DW.block ?_ | refine DW.skip ?_ | refine DW.exit ?_ | refine DW.condT rfl ?_ | refine DW.condF rfl ?_))
    have ht := turnP_range hp2.1 (vec piv c)
    generalize htn : turnP p (vec piv c) = tn at ht
    refine DW.loopI (fun x : Heap × List (List Int) × Nat => Mat x.1 n b0 bs2 x.2.1 ∧ x.1 bc = some (3, [I c]) ∧ (∀ b y, H b = some y → b ≠ b0 → b ∉ bs → x.1 b = some y) ∧ Elim p n rows x.2.1 a c ∧ x.2.1[a]? = some piv ∧ (∀ (i : Nat) (hi : i < x.2.1.length), a < i → i < a + 1 + x.2.2 → vec x.2.1[i] c = 0) ∧ x.2.2 ≤ rows.length - (a + 1))
      (fun x => [(0, I p), (1, .ref b0 0 rows.length 1), (5, I a), (6, .ptr bc 0), (8, I tn), (69, restD b0 0 rows.length 1 (a + 1)), (70, I ((rows.length - (a + 1) : Nat) : Int)), (71, I x.2.2)]) (fun x => x.1) (fun x => rows.length - (a + 1) - x.2.2) (H2, rows2, 0)
      ⟨m2, c2, k2, e2, by rw [List.getElem?_eq_getElem ha2, hpiv], fun i hi h1 h2 => by dsimp only at h2; omega, Nat.zero_le _⟩ rfl ⟨rfl, rfl, rfl, rfl, rfl, rfl, rfl, rfl, trivial⟩ fun ⟨H3, rows3, k3⟩ ⟨m3, c3, q3, e3, piv3, z3, hk3⟩ => ?_
    dsimp only at m3 c3 q3 e3 piv3 z3 hk3
    dsimp only
    have l3 : rows3.length = rows.length := e3.len
    have ha3 : a < rows3.length := by omega
    have piv3' : rows3[a] = piv := by
      rw [List.getElem?_eq_getElem ha3] at piv3
      exact Option.some.inj piv3
    (repeat (first | refine RO.S ?_ | refine RO.Y ?_ | refine RO.no rfl (by decide) rfl ?_ | refine RO.nil ?_ | refine DW.region ?_ | refine DW.seq ?_ | refine DW.block ?_ | refine DW.skip ?_ | refine DW.exit ?_ | refine DW.condT rfl ?_ | refine DW.condF rfl ?_))
    refine DW.cond rfl (fun hb => ?_) (fun hb => ?_)
    · have hlt : k3 < rows.length - (a + 1) := by have := of_decide_eq_true hb; omega
      rw [restD_ref (by omega)]
      have hi3 : a + 1 + k3 < rows3.length := by omega
      have hib : a + 1 + k3 < bs2.length := by omega
      have ok3 := e3.ok _ (List.getElem_mem hi3)
      have hv3 := ok3.vec (by omega) c
      have row3 := m3.row (a + 1 + k3) hi3 hib
      generalize hrow : rows3[a + 1 + k3] = row at ok3 hv3 row3
      (repeat (first | refine RO.S ?_ | refine RO.Y ?_ | refine RO.no rfl (by decide) rfl ?_ | refine RO.nil ?_ | refine DW.region ?_ | refine DW.seq ?_ | refine DW.block ?_ | refine DW.skip ?_ | refine DW.exit ?_ | refine DW.condT rfl ?_ | refine DW.condF rfl ?_))
      refine RO.sta (s_ixRef rfl rfl (by omega) (by omega)) rfl ?_
      refine RO.sta (s_loadMut rfl m3.outer (m3.cell (i := a + 1 + k3) hib (by omega))) rfl ?_
      (repeat (first | refine RO.S ?_ | refine RO.Y ?_ | refine RO.no rfl (by decide) rfl ?_ | refine RO.nil ?_ | refine DW.region ?_ | refine DW.seq ?_ | refine DW.block ?_ | refine DW.skip ?_ | refine DW.exit ?_ | refine DW.condT rfl ?_ | refine DW.condF rfl ?_))
      refine RO.sta (s_loadMut (d := I c) rfl c3 rfl) rfl ?_
      refine RO.sta (s_ixRef rfl rfl (by omega) (by omega)) rfl ?_
      refine RO.sta (s_loadVec (l := row) (j := c) rfl row3 (by omega) (by rw [ok3.1]; omega)) rfl ?_
      (repeat (first | refine RO.S ?_ | refine RO.Y ?_ | refine RO.no rfl (by decide) rfl ?_ | refine RO.nil ?_ | refine DW.region ?_ | refine DW.seq ?_ | refine DW.block ?_ | refine DW.skip ?_ | refine DW.exit ?_ | refine DW.condT rfl ?_ | refine DW.condF rfl ?_))
      refine DW.cond rfl (fun hb => ?_) (fun hb => ?_)
      · have hz : vec row c = 0 := by simpa using hb
        (repeat (first | refine RO.S ?_ | refine RO.Y ?_ | refine RO.no rfl (by decide) rfl ?_ | refine RO.nil ?_ | refine DW.region ?_ | refine DW.seq ?_ | refine DW.block ?_ | refine DW.skip ?_ | refine DW.exit ?_ | refine DW.condT rfl ?_ | refine DW.condF rfl ?_))
        rw [← restD_ref (b := b0) (off := 0) (n := rows.length) (k := 1) (m := a + 1) (by omega)]
        exact ⟨(H3, rows3, k3 + 1), ⟨m3, c3, q3, e3, piv3, fun i hi h1 h2 => by
          dsimp only at h2
          by_cases hik : i = a + 1 + k3
          · subst hik; rw [hrow]; exact hz
          · exact z3 i hi h1 (by omega), by dsimp only; omega⟩, by dsimp only; omega, rfl, rfl, rfl, rfl, rfl, rfl, rfl, rfl, rfl, trivial⟩
      · have hnz : vec row c ≠ 0 := by simpa using hb
        have hm : 0 ≤ vec row c * tn := Int.mul_nonneg hv3.1 ht.1
        have hm2 : vec row c * tn ≤ 101 * 101 := Int.mul_le_mul (by omega) (by omega) (by omega) (by omega)
        have hby0 := Int.emod_nonneg (vec row c * tn) (show p ≠ 0 by omega)
        have hby1 := Int.emod_lt_of_pos (vec row c * tn) (show 0 < p by omega)
        (repeat (first | refine RO.S ?_ | refine RO.Y ?_ | refine RO.no rfl (by decide) rfl ?_ | refine RO.nil ?_ | refine DW.region ?_ | refine DW.seq ?_ | refine DW.block ?_ | refine DW.skip ?_ | refine DW.exit ?_ | refine DW.condT rfl ?_ | refine DW.condF rfl ?_))
        refine RO.sta (s_loadMut (d := I c) rfl c3 rfl) rfl ?_
        refine RO.sta (s_ixRef rfl rfl (by omega) (by omega)) rfl ?_
        refine RO.sta (s_loadVec (l := row) (j := c) rfl row3 (by omega) (by rw [ok3.1]; omega)) rfl ?_
        (repeat (first | refine RO.S ?_ | refine RO.Y ?_ | refine RO.no rfl (by decide) rfl ?_ | refine RO.nil ?_ | refine DW.region ?_ | refine DW.seq ?_ | refine DW.block ?_ | refine DW.skip ?_ | refine DW.exit ?_ | refine DW.condT rfl ?_ | refine DW.condF rfl ?_))
        refine RO.sta (s_loadMut (d := I c) rfl c3 rfl) rfl ?_
        (repeat (first | refine RO.S ?_ | refine RO.Y ?_ | refine RO.no rfl (by decide) rfl ?_ | refine RO.nil ?_ | refine DW.region ?_ | refine DW.seq ?_ | refine DW.block ?_ | refine DW.skip ?_ | refine DW.exit ?_ | refine DW.condT rfl ?_ | refine DW.condF rfl ?_))
        generalize hbyn : vec row c * tn % p = byn at hby0 hby1
        have fl : (lessBy p byn row piv).length = row.length := by simp [lessBy, ok3.1, o2.1]
        have flok := lessBy_ok (p := p) (by omega) (b := byn) ok3 o2
        have hlead : partRow (lessBy p byn row piv) row c = row := partRow_zero ok3 o2 fun j hj => by
          rw [← piv3']; exact e3.zero a ha3 (Nat.le_refl _) j hj
        have hbine := m3.ne hib
        have hbic : bc ≠ bs2[a + 1 + k3] := fun e => by
          obtain ⟨i, hi, he⟩ := List.mem_iff_getElem.1 (s2 _ (List.getElem_mem hib))
          have := hM.row i (by have := hM.len; omega) hi
          rw [he, ← e, xfresh] at this; cases this
        have hbia : bs2[a] ≠ bs2[a + 1 + k3] := nodup_ne m3.nodup hab2 hib (by omega)
        refine DW.loopI (fun j : Nat => c ≤ j ∧ j ≤ n) (fun j => [(0, I p), (1, .ref b0 0 rows.length 1), (5, I a), (6, .ptr bc 0), (8, I tn), (69, .ref b0 (0 + (a + 1) * 1) (rows.length - (a + 1)) 1), (70, I ((rows.length - (a + 1) : Nat) : Int)), (71, I k3), (10, .ref bs2[a + 1 + k3] 0 n 1), (11, I byn), (12, I j)])
          (fun j => H3.set bs2[a + 1 + k3] (3, (partRow (lessBy p byn row piv) row j).map I)) (fun j => n - j) c ⟨Nat.le_refl _, by omega⟩ (by rw [hlead]; exact (Heap.set_same row3).symm) ⟨rfl, rfl, rfl, rfl, rfl, rfl, rfl, rfl, rfl, rfl, rfl, trivial⟩ fun j ⟨hj1, hj2⟩ => ?_
        have pl := partRow_len fl j
        (repeat (first | refine RO.S ?_ | refine RO.Y ?_ | refine RO.no rfl (by decide) rfl ?_ | refine RO.nil ?_ | refine DW.region ?_ | refine DW.seq ?_ | refine DW.block ?_ | refine DW.skip ?_ | refine DW.exit ?_ | refine DW.condT rfl ?_ | refine DW.condF rfl ?_))
        refine DW.cond rfl (fun hb => ?_) (fun hb => ?_)
        · have hjn : j < n := by have := of_decide_eq_true hb; omega
          have hx0 := ok3.vec (by omega) j
          have hy0 := o2.vec (by omega) j
          have hpm : 0 ≤ (p - byn) * vec piv j := Int.mul_nonneg (by omega) hy0.1
          have hpm2 : (p - byn) * vec piv j ≤ 101 * 101 := Int.mul_le_mul (by omega) (by omega) (by omega) (by omega)
          have hpx : vec (partRow (lessBy p byn row piv) row j) j = vec row j := by
            rw [vec_lt (by rw [pl, ok3.1]; exact hjn), vec_lt (by rw [ok3.1]; exact hjn), partRow_get fl (by rw [ok3.1]; exact hjn), if_neg (by omega)]
          have hfull : (lessBy p byn row piv)[j]'(by rw [fl, ok3.1]; exact hjn) = (vec row j + (p - byn) * vec piv j) % p := by
            rw [vec_lt (by rw [ok3.1]; exact hjn), vec_lt (by rw [o2.1]; exact hjn)]
            simp [lessBy]
          (repeat (first | refine RO.S ?_ | refine RO.Y ?_ | refine RO.no rfl (by decide) rfl ?_ | refine RO.nil ?_ | refine DW.region ?_ | refine DW.seq ?_ | refine DW.block ?_ | refine DW.skip ?_ | refine DW.exit ?_ | refine DW.condT rfl ?_ | refine DW.condF rfl ?_))
          refine DW.drawS 20 Tryd.mixed (by kernel_rfl) (by decide) ?_
          dsimp only [List.take, List.drop]
          (repeat (first | refine RS.S ?_ | refine RS.Y ?_ | refine RS.no rfl (by decide) rfl ?_ | refine RS.nil ?_))
          refine RS.sta (fun H' hov => s_ixRef rfl rfl (by omega) (by omega)) rfl ?_
          refine RS.sta (r_loadVec (l := partRow (lessBy p byn row piv) row j) (j := j) rfl (Heap.set_self _ _ _) (by omega) (by rw [pl, ok3.1]; exact hjn)) rfl ?_
          rw [hpx]
          (repeat (first | refine RS.S ?_ | refine RS.Y ?_ | refine RS.no rfl (by decide) rfl ?_ | refine RS.nil ?_))
          refine RS.sta (fun H' hov => s_ixRef rfl rfl (by omega) (by omega)) rfl ?_
          refine RS.sta (r_loadMut rfl (by rw [Heap.set_other _ _ (Ne.symm hbine)]; exact m3.outer) (m3.cell (i := a) hab2 (by omega))) rfl ?_
          (repeat (first | refine RS.S ?_ | refine RS.Y ?_ | refine RS.no rfl (by decide) rfl ?_ | refine RS.nil ?_))
          refine RS.sta (fun H' hov => s_ixRef rfl rfl (by omega) (by omega)) rfl ?_
          refine RS.sta (r_loadVec (l := piv) (j := j) rfl (by rw [Heap.set_other _ _ hbia, ← piv3']; exact m3.row a ha3 hab2) (by omega) (by rw [o2.1]; exact hjn)) rfl ?_
          (repeat (first | refine RS.S ?_ | refine RS.Y ?_ | refine RS.no rfl (by decide) rfl ?_ | refine RS.nil ?_))
          refine RO.sta (s_ixRef rfl rfl (by omega) (by omega)) rfl ?_
          refine RO.dyn rfl (d_storeInt (l := partRow (lessBy p byn row piv) row j) rfl rfl (Heap.set_self _ _ _) (by rw [pl, ok3.1]; omega) ?_)
          rw [Heap.set_set]
          (repeat (first | refine RO.S ?_ | refine RO.Y ?_ | refine RO.no rfl (by decide) rfl ?_ | refine RO.nil ?_ | refine DW.region ?_ | refine DW.seq ?_ | refine DW.block ?_ | refine DW.skip ?_ | refine DW.exit ?_ | refine DW.condT rfl ?_ | refine DW.condF rfl ?_))
          refine ⟨j + 1, ⟨by omega, by omega⟩, by dsimp only; omega, ?_, rfl, rfl, rfl, rfl, rfl, rfl, rfl, rfl, rfl, rfl, rfl, trivial⟩
          dsimp only
          rw [← partRow_set fl (by rw [ok3.1]; exact hjn), hfull, show 0 + ((j : Int)).toNat = j by omega]
        · have hjn : j = n := by have := of_decide_eq_false hb; omega
          have hfin : partRow (lessBy p byn row piv) row j = lessBy p byn row piv := by
            rw [hjn, ← ok3.1]; exact partRow_all fl
          rw [hfin]
          have e4 := e3.less (b := byn) (by omega) ha3 hi3 (by omega)
          rw [hrow, piv3'] at e4
          have hclear := less_clear (c := c) (by omega) hinv ok3 o2 p2
          rw [htn, hbyn] at hclear
          (repeat (first | refine RO.S ?_ | refine RO.Y ?_ | refine RO.no rfl (by decide) rfl ?_ | refine RO.nil ?_ | refine DW.region ?_ | refine DW.seq ?_ | refine DW.block ?_ | refine DW.skip ?_ | refine DW.exit ?_ | refine DW.condT rfl ?_ | refine DW.condF rfl ?_))
          rw [← restD_ref (b := b0) (off := 0) (n := rows.length) (k := 1) (m := a + 1) (by omega)]
          exact ⟨(H3.set bs2[a + 1 + k3] (3, (lessBy p byn row piv).map I), rows3.set (a + 1 + k3) (lessBy p byn row piv), k3 + 1),
            ⟨m3.setRow hib flok.1, by dsimp only; rw [Heap.set_other _ _ hbic]; exact c3, fun b y h1 h2 h3 => by
              dsimp only
              rw [Heap.set_other _ _ (fun e => h3 (s2 _ (by rw [e]; exact List.getElem_mem _)))]
              exact q3 b y h1 h2 h3, e4, by dsimp only; rw [List.getElem?_set_ne (by omega)]; exact piv3, fun i hi h1 h2 => by
              dsimp only at h2 hi ⊢
              rw [List.getElem_set]
              split
              · exact hclear
              · exact z3 i (by simpa using hi) h1 (by omega), by dsimp only; omega⟩, by dsimp only; omega, rfl, rfl, rfl, rfl, rfl, rfl, rfl, rfl, rfl, trivial⟩
    · have hk3e : k3 = rows.length - (a + 1) := by have := of_decide_eq_false hb; omega
      have xe := e3.next (by omega) (by omega) ha3 (by rw [piv3']; exact p2) fun i hi h1 => z3 i hi h1 (by omega)
      (repeat (first | refine RO.S ?_ | refine RO.Y ?_ | refine RO.no rfl (by decide) rfl ?_ | refine RO.nil ?_ | refine DW.region ?_ | refine DW.seq ?_ | refine DW.block ?_ | refine DW.skip ?_ | refine DW.exit ?_ | refine DW.condT rfl ?_ | refine DW.condF rfl ?_))
      refine RO.sta (s_loadMut (d := I c) rfl c3 rfl) rfl ?_
      (repeat (first | refine RO.S ?_ | refine RO.Y ?_ | refine RO.no rfl (by decide) rfl ?_ | refine RO.nil ?_ | refine DW.region ?_ | refine DW.seq ?_ | refine DW.block ?_ | refine DW.skip ?_ | refine DW.exit ?_ | refine DW.condT rfl ?_ | refine DW.condF rfl ?_))
      refine RO.dyn rfl (d_alloc fun bd hbd => ?_)
      refine RO.dyn rfl (d_storeInt (l := [0]) rfl rfl (Heap.set_self _ _ _) (by simp) ?_)
      (repeat (first | refine RO.S ?_ | refine RO.Y ?_ | refine RO.no rfl (by decide) rfl ?_ | refine RO.nil ?_ | refine DW.region ?_ | refine DW.seq ?_ | refine DW.block ?_ | refine DW.skip ?_ | refine DW.exit ?_ | refine DW.condT rfl ?_ | refine DW.condF rfl ?_))
      rw [Heap.set_set]
      refine RO.sta (s_loadMut (d := I c) rfl (Heap.set_self _ _ _) rfl) rfl ?_
      (repeat (first | refine RO.S ?_ | refine RO.Y ?_ | refine RO.no rfl (by decide) rfl ?_ | refine RO.nil ?_ | refine DW.region ?_ | refine DW.seq ?_ | refine DW.block ?_ | refine DW.skip ?_ | refine DW.exit ?_ | refine DW.condT rfl ?_ | refine DW.condF rfl ?_))
      refine RO.dyn rfl (d_storeInt (l := [(c : Int)]) rfl rfl (Heap.set_self _ _ _) (by simp) ?_)
      (repeat (first | refine RO.S ?_ | refine RO.Y ?_ | refine RO.no rfl (by decide) rfl ?_ | refine RO.nil ?_ | refine DW.region ?_ | refine DW.seq ?_ | refine DW.block ?_ | refine DW.skip ?_ | refine DW.exit ?_ | refine DW.condT rfl ?_ | refine DW.condF rfl ?_))
      rw [Heap.set_set]
      exact ⟨⟨_, bs2, rows3, a + 1, c + 1, bd⟩, IndInv.next hM m3 s2 hbd q3 xe, by dsimp only; omega, rfl, rfl, rfl, rfl, rfl, trivial⟩

end Go.Proofs.YtblileclefbklaaDoor
