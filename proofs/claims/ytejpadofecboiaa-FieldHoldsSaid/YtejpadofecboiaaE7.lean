/-
  append and calls at the data level; what was written becomes immutable. No condition.
-/
import Derived.Test.YtejpadofecboiaaE6
import Derived.ArgAppend
namespace Go.Proofs.Ytejpadofecboiaa
open Go.RowKit
set_option linter.unusedVariables false
set_option linter.unusedSimpArgs false

def D.blk : D → Option Nat
  | .ref b _ _ _ => some b
  | _ => none

/-- A slice of one's own that grows. -/
structure Acc (H0 H : Heap) (d : D) (k : Nat) (T : TypeId) (l : List D) : Prop where
  uni : Uni k l
  is : (d = .nil ∧ l = []) ∨ ∃ b, H0 b = none ∧ d = .ref b 0 l.length k ∧ H b = some (T, l.flatMap cellsOf)

def Over (H0 H : Heap) : Prop := ∀ b x, H0 b = some x → H b = some x

theorem Over.refl (H : Heap) : Over H H := fun _ _ h => h
theorem Over.set {H0 H : Heap} (h : Over H0 H) {b : Nat} {x : TypeId × List D} (hb : H0 b = none) : Over H0 (H.set b x) := fun c y hc => by
  have hne : c ≠ b := fun e => by subst e; rw [hb] at hc; cases hc
  simp [Heap.set, hne, h c y hc]
theorem Over.del {H0 H : Heap} (h : Over H0 H) {b : Nat} (hb : H0 b = none) : Over H0 (H.del b) := fun c y hc => by
  have hne : c ≠ b := fun e => by subst e; rw [hb] at hc; cases hc
  simp [Heap.del, hne, h c y hc]
theorem Over.none {H0 H : Heap} (h : Over H0 H) {b : Nat} (hb : H b = none) : H0 b = none := by
  cases hx : H0 b with
  | none => rfl
  | some x => rw [h b x hx] at hb; cases hb

theorem Acc.nil (H0 H : Heap) (k : Nat) (T : TypeId) : Acc H0 H .nil k T [] := ⟨Uni.nil k, .inl ⟨rfl, rfl⟩⟩

section
variable {P : Program} {H : Heap} {e : Env} {dst : Option Tmp} {ty : TypeId} {pos : String} {af : Array Edge} {gd : Option (Nat × Bool)}

/-- What an append comes to. -/
inductive Appended (P : Program) (w : World) (H : Heap) (v : Value) (d : D) (k : Nat) (E : TypeId) (l xs : List D) : Value → World → Prop
  | same (hx : xs = []) : Appended P w H v d k E l xs v w
  | room {b cap : Nat} {cs cs' : Array Value} (hd : d = .ref b 0 l.length k) (hv : v = .slice (some ⟨b, 0, none⟩) l.length cap) (hb : w.heap[b]? = some (.cells cs E (0, 0))) (hs : cs.size = cap * k) (hm : cap ≤ maxLen)
      (hl : l.length + xs.length ≤ cap) (hs' : cs'.size = cs.size)
      (hr : ∀ (j : Nat) (x : D), ((l ++ xs).flatMap cellsOf)[j]? = some x → x.isCell = true ∧ ∃ u, cs'[j]? = some u ∧ Rep w H u x) :
      Appended P w H v d k E l xs (.slice (some ⟨b, 0, none⟩) (l.length + xs.length) cap) (w.setRow b cs')
  | grown {g cap : Nat} {w' : World} {cur : Array Value} (hg : w.heap.size ≤ g) (hw : w.grownBy w' none) (hb : w'.heap[g]? = some (.cells cur E (0, 0))) (hs : cur.size = cap * k) (hm : cap ≤ maxLen) (hl : l.length + xs.length ≤ cap)
      (hr : ∀ (j : Nat) (x : D), ((l ++ xs).flatMap cellsOf)[j]? = some x → x.isCell = true ∧ ∃ u, cur[j]? = some u ∧ Rep w H u x) :
      Appended P w H v d k E l xs (.slice (some ⟨g, 0, none⟩) (l.length + xs.length) cap) w'

/-- What is appended to, as a value. -/
def BaseIs (H : Heap) (d : D) (k : Nat) (E : TypeId) (l : List D) : Prop := (d = .nil ∧ l = []) ∨ ∃ b, d = .ref b 0 l.length k ∧ H b = some (E, l.flatMap cellsOf)

theorem reps_flat_append {w : World} {k : Nat} {l xs : List D} {olds news : List Value} (hl : Uni k l) (hx : Uni k xs) (ho : olds.length = l.length * k)
    (h1 : ∀ (j : Nat) (x : D), (l.flatMap cellsOf)[j]? = some x → ∃ u, olds[j]? = some u ∧ Rep w H u x) (h2 : ∀ (j : Nat) (x : D), (xs.flatMap cellsOf)[j]? = some x → ∃ u, news[j]? = some u ∧ Rep w H u x) :
    ∀ (j : Nat) (x : D), ((l ++ xs).flatMap cellsOf)[j]? = some x → x.isCell = true ∧ ∃ u, (olds ++ news)[j]? = some u ∧ Rep w H u x := by
  intro j x hj
  refine ⟨?_, ?_⟩
  · have := List.mem_of_getElem? hj
    rw [List.mem_flatMap] at this
    obtain ⟨d, hd, hxd⟩ := this
    exact ((hl.append hx) d hd).2 x hxd
  · rw [List.flatMap_append] at hj
    by_cases h : j < l.length * k
    · rw [List.getElem?_append_left (by rw [hl.length]; exact h)] at hj
      obtain ⟨u, hu, hr⟩ := h1 j x hj
      exact ⟨u, by rw [List.getElem?_append_left (by omega)]; exact hu, hr⟩
    · rw [List.getElem?_append_right (by rw [hl.length]; omega), hl.length] at hj
      obtain ⟨u, hu, hr⟩ := h2 _ x hj
      exact ⟨u, by rw [List.getElem?_append_right (by omega), ho]; exact hu, hr⟩

theorem run_append {t E : TypeId} {k : Nat} {zd : List D} {w : World} {v v1 : Value} {d dy : D} {l xs : List D} (hu : P.underlying t = some (.slice E)) (hz : ZeroOf P E k zd) (hk : 0 < k) (ho : HOK w H) (hbase : BaseIs H d k E l) (hl : Uni k l) (hv : Rep w H v d)
    (hv1 : Rep w H v1 dy) (hsrc : dy = .list k xs ∨ (dy = .nil ∧ xs = [])) (hxs : Uni k xs) (hbytes : ∀ inf, P.info? E = some inf → (l.length + xs.length) * inf.bytes ≤ 140737488355328) (hlen : l.length + xs.length ≤ 4611686018427387904) :
    ∃ v' w', (Builtin.append_ #[t, t] ty #[v, v1]).run P w = .ok v' w' ∧ Appended P w H v d k E l xs v' w' := by
  obtain ⟨inf, z, hi, hz1, hz2, hz3⟩ := hz.is
  have hzs : z.cells.size = k := by rw [hz3]; simp [hz.len]
  have hb := hbytes inf hi
  have h63 : l.length + xs.length ≤ maxLen := by unfold maxLen; omega
  by_cases hne : xs = []
  · subst hne
    obtain ⟨a, c, rfl⟩ : ∃ a c, v1 = .slice a 0 c := by
      rcases hsrc with rfl | ⟨rfl, _⟩
      · cases hv1 with
        | list vals hc hm h1 h2 h3 => exact ⟨_, _, rfl⟩
      · cases hv1 with
        | nil a => exact ⟨_, _, rfl⟩
    obtain ⟨b, n, cap, rfl, hnc⟩ : ∃ b n cap, v = .slice b n cap ∧ n ≤ cap := by
      rcases hbase with ⟨rfl, _⟩ | ⟨b, rfl, _⟩
      · cases hv with
        | nil a => exact ⟨_, _, _, rfl, Nat.le_refl _⟩
      · cases hv with
        | ref hb hs hl' hm => exact ⟨_, _, _, rfl, hl'⟩
    refine ⟨_, _, ?_, .same rfl⟩
    cases a <;> cases b <;> simp [Builtin.append_, run_underlying hu, run_sizeOf hi, Builtin.lenOf, hnc, Builtin.firstCells, loadCells, loadCellsFrom, storeCells]
  · have hlist : dy = .list k xs := by
      rcases hsrc with h | ⟨_, h⟩
      · exact h
      · exact absurd h hne
    subst hlist
    obtain ⟨a, c, news, rfl, hnl, hnw, hn1, hnr⟩ := list_news hv1 hxs hk hne
    have hm0 : 0 < xs.length := by cases xs with | nil => exact absurd rfl hne | cons => simp
    rcases hbase with ⟨rfl, rfl⟩ | ⟨b, rfl, hH⟩
    · have hflat := reps_flat_append (w := w) (H := H) (l := []) (xs := xs) (olds := []) (news := news) hl hxs (by simp) (fun j x h => by simp at h) hnr
      cases hv with
      | nil ao =>
        simp only [List.length_nil, Nat.zero_add] at hb h63
        have fin : ∀ v' w', w'.ownsRow w.heap.size E k v' (0 + xs.length) ([] ++ news) → w.grownBy w' none → v' ≠ .slice none 0 0 → Appended P w H (.slice ao 0 0) .nil k E [] xs v' w' := by
          intro v' w' hown hgr hne'
          rcases hown.2 with ⟨h, _⟩ | ⟨g, cap, cur, rfl, hg, hgb, hle, hcm, hcs, htake⟩
          · exact absurd h hne'
          · refine .grown (w := w) (H := H) (l := []) (xs := xs) hg hgr hgb hcs hcm (by simpa using hle) fun j x hx => ?_
            obtain ⟨h1, u, hu', hr⟩ := hflat j x hx
            refine ⟨h1, u, ?_, hr⟩
            rw [← htake] at hu'
            rw [List.getElem?_take] at hu'
            split at hu'
            · simpa using hu'
            · cases hu'
        cases ao with
        | none =>
          obtain ⟨v', w', hrun, hown, hgr, hiff⟩ := run_append_own (P := P) w w.heap.size t ty E inf z k inf.bytes hu hi hz1 hz2 rfl hzs hk (.slice none 0 0) 0 [] (World.ownsRow_nil w _ _ _) a xs.length c news (by simpa using hnl) hnw hn1 (by simpa using h63) (by simpa using hb) (Nat.le_refl _)
          exact ⟨v', w', hrun, fin v' w' hown hgr fun h => by have := hiff.1 h; omega⟩
        | some ao =>
          obtain ⟨v', w', hrun, hown, hgr⟩ := run_append_arg_grows (P := P) w t ty E inf z k inf.bytes hu hi hz1 hz2 rfl hzs hk ao 0 0 [] (by simp) (fun j u h => by simp at h) a xs.length c news (by simpa using hnl) hnw (by omega) (by simpa using h63) (by simpa using hb)
          refine ⟨v', w', hrun, fin v' w' hown hgr fun h => ?_⟩
          subst h
          rcases hown.2 with ⟨_, h⟩ | ⟨g, cap, cur, h, _⟩
          · omega
          · cases h
    · obtain ⟨cs, hcb, hcl, hcr⟩ := ho b E _ hH
      cases hv with
      | ref hb' hs hl' hm =>
        rename_i cap cs0 T0
        rw [hcb] at hb'
        cases hb'
        simp only [Nat.zero_add] at hs
        have hfl : (l.flatMap cellsOf).length = l.length * k := hl.length
        have holds : ∀ (j : Nat) (x : D), (l.flatMap cellsOf)[j]? = some x → ∃ u, (cs.toList.take (l.length * k))[j]? = some u ∧ Rep w H u x := fun j x hx => by
          obtain ⟨_, u, hu', hr⟩ := hcr j x hx
          have hj : j < l.length * k := by rw [← hfl]; exact (List.getElem?_eq_some_iff.1 hx).1
          exact ⟨u, by rw [List.getElem?_take, if_pos hj]; simpa using hu', hr⟩
        have htl : (cs.toList.take (l.length * k)).length = l.length * k := by
          rw [List.length_take]; simp; omega
        have hflat := reps_flat_append (w := w) (H := H) (l := l) (xs := xs) (olds := cs.toList.take (l.length * k)) (news := news) hl hxs htl holds hnr
        by_cases hroom : l.length + xs.length ≤ cap
        · have hfit : l.length * inf.size + news.length ≤ cs.size := by
            rw [hz2, hnl, ← hs, ← Nat.add_mul]
            exact Nat.mul_le_mul_right k hroom
          have hrun := run_append_room (P := P) w t ty E inf hu hi b l.length cap cs hcb a xs.length c news (by rw [hz2]; exact hnl) hnw hn1 hroom hfit
          refine ⟨_, _, hrun, .room rfl rfl hcb hs.symm hm hroom ?_ fun j x hx => ?_⟩
          · rw [hz2] at hfit ⊢
            simp
            omega
          · obtain ⟨h1, u, hu', hr⟩ := hflat j x hx
            refine ⟨h1, u, ?_, hr⟩
            rw [hz2, List.getElem?_toArray, List.getElem?_append_left (List.getElem?_eq_some_iff.1 hu').1]
            exact hu'
        · obtain ⟨v', w', hrun, hown, hgr⟩ := run_append_arg_grows (P := P) w t ty E inf z k inf.bytes hu hi hz1 hz2 rfl hzs hk ⟨b, 0, none⟩ l.length cap (cs.toList.take (l.length * k)) htl (fun j u hj => by
            rw [addr_add, Nat.zero_add, cell_of_row w b j cs E (0, 0) hcb]
            rw [List.getElem?_take] at hj
            split at hj
            · simpa using hj
            · cases hj) a xs.length c news hnl hnw (by omega) h63 hb
          refine ⟨v', w', hrun, ?_⟩
          rcases hown.2 with ⟨_, h⟩ | ⟨g, cap', cur, rfl, hg, hgb, hle, hcm, hcs, htake⟩
          · omega
          · refine .grown hg hgr hgb hcs hcm hle fun j x hx => ?_
            obtain ⟨h1, u, hu', hr⟩ := hflat j x hx
            refine ⟨h1, u, ?_, hr⟩
            rw [← htake] at hu'
            rw [List.getElem?_take] at hu'
            split at hu'
            · simpa using hu'
            · cases hu'

end
end Go.Proofs.Ytejpadofecboiaa
