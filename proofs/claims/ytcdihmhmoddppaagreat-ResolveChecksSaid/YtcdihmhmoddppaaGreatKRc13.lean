/-
  Running a function at the data level: regions whose order is drawn. No condition.
-/
import Derived.Test.YtcdihmhmoddppaaGreatKRc12

namespace Go.Proofs.YtcdihmhmoddppaaGreat
open Go.RowKit
set_option linter.unusedVariables false
set_option linter.unusedSimpArgs false

/-- One more name. -/
def addR (R : Nat → Nat → Prop) (n b0 : Nat) : Nat → Nat → Prop := fun a b => R a b ∨ (a = n ∧ b = b0)

theorem new_block {R : Nat → Nat → Prop} {lo n b0 : Nat} {S S0 : SH} {H H' : Heap} {T : TypeId} {cells cells' : List D} (hS : RelS R n S H) (hlo : lo ≤ n) (hsub : ∀ a x, S0.get a = some x → S.get a = some x) (hkeep : ∀ a, a < lo → S0.get a = S.get a)
    (hb0 : ∀ a x, S0.get a = some x → ¬ R a b0) (hb1 : H b0 = none ∨ ∃ a0 x, S.get a0 = some x ∧ R a0 b0) (hnew : H' b0 = some (T, cells')) (hcells : RnL R cells cells') (hH' : ∀ q z, H q = some z → q ≠ b0 → (∀ a x, S.get a = some x → R a q → S0.get a = some x) → H' q = some z) :
    RelS (addR R n b0) (n + 1) ((n, (T, cells)) :: S0) H' ∧ Adv lo R n S H (addR R n b0) (n + 1) ((n, (T, cells)) :: S0) H' := by
  have hmono : ∀ a b, R a b → addR R n b0 a b := fun a b h => .inl h
  have hget : ∀ a x, SH.get ((n, (T, cells)) :: S0) a = some x → (a = n ∧ x = (T, cells)) ∨ (a ≠ n ∧ S0.get a = some x) := fun a x hx => by
    simp only [SH.get] at hx
    by_cases han : n = a
    · subst han
      rw [Nat.beq_refl] at hx
      exact .inl ⟨rfl, (Option.some.inj hx).symm⟩
    · rw [beq_false han] at hx
      exact .inr ⟨Ne.symm han, hx⟩
  have hnoR : ∀ b, ¬ R n b := fun b h => by have := hS.lt _ _ h; omega
  refine ⟨⟨fun a b b' h h' => ?_, fun a b h => ?_, fun a x hx => ?_, fun a a' b x y hx hy h h' => ?_⟩, ⟨hmono, fun a b h => ?_, by omega, fun b z hz hno => ?_, fun a b h => ?_, fun a x hx => ?_, fun a ha => ?_⟩⟩
  · rcases h with h | ⟨rfl, rfl⟩
    · rcases h' with h' | ⟨rfl, rfl⟩
      · exact hS.fn _ _ _ h h'
      · exact absurd h (hnoR _)
    · rcases h' with h' | ⟨_, rfl⟩
      · exact absurd h' (hnoR _)
      · rfl
  · rcases h with h | ⟨rfl, rfl⟩
    · have := hS.lt _ _ h; omega
    · omega
  · rcases hget a x hx with ⟨rfl, rfl⟩ | ⟨_, hx⟩
    · exact ⟨b0, cells', .inr ⟨rfl, rfl⟩, hnew, hcells.mono hmono⟩
    · obtain ⟨b, c', h1, h2, h3⟩ := hS.at' a x (hsub _ _ hx)
      exact ⟨b, c', .inl h1, hH' _ _ h2 (fun e => by subst e; exact hb0 a x hx h1) (fun a2 x2 g1 g2 => by
        have := hS.inj _ _ _ _ _ g1 (hsub _ _ hx) g2 h1
        subst this
        rw [hsub _ _ hx] at g1
        rw [← g1]; exact hx), h3.mono hmono⟩
  · have g1 := hget a x hx
    have g2 := hget a' y hy
    clear hx hy
    rcases g1 with ⟨rfl, rfl⟩ | ⟨hne, hx⟩
    · rcases g2 with ⟨rfl, rfl⟩ | ⟨hne', hy⟩
      · rfl
      · rcases h with h | ⟨_, rfl⟩
        · exact absurd h (hnoR _)
        · rcases h' with h' | ⟨h', _⟩
          · exact absurd h' (hb0 _ _ hy)
          · exact h'.symm
    · rcases g2 with ⟨rfl, rfl⟩ | ⟨hne', hy⟩
      · rcases h' with h' | ⟨_, rfl⟩
        · exact absurd h' (hnoR _)
        · rcases h with h | ⟨h, _⟩
          · exact absurd h (hb0 _ _ hx)
          · exact h
      · rcases h with h | ⟨h, _⟩
        · rcases h' with h' | ⟨h', _⟩
          · exact hS.inj _ _ _ _ _ (hsub _ _ hx) (hsub _ _ hy) h h'
          · exact absurd h' hne'
        · exact absurd h hne
  · rcases h with h | ⟨rfl, _⟩
    · exact .inl h
    · exact .inr (Nat.le_refl _)
  · refine hH' _ _ hz (fun e => ?_) fun a x hx hR => absurd hR (hno a x hx)
    subst e
    rcases hb1 with h | ⟨a0, x, h1, h2⟩
    · rw [hz] at h; cases h
    · exact hno _ _ h1 h2
  · rcases h with h | ⟨_, rfl⟩
    · exact .inl h
    · exact .inr hb1
  · rcases hget a x hx with ⟨rfl, rfl⟩ | ⟨_, hx⟩
    · exact .inr (Nat.le_refl _)
    · exact .inl ⟨x, hsub _ _ hx⟩
  · rw [← hkeep a ha]
    simp only [SH.get]
    rw [beq_false (by omega : n ≠ a)]
    rfl

theorem RelS.fresh {R : Nat → Nat → Prop} {n b0 : Nat} {S : SH} {H : Heap} (hS : RelS R n S H) (hb : H b0 = Option.none) : ∀ a x, S.get a = some x → ¬ R a b0 := fun a x hx hR => by
  obtain ⟨b, c', h1, h2, _⟩ := hS.at' a x hx
  cases hS.fn _ _ _ hR h1
  rw [hb] at h2; cases h2

theorem new_block' {R : Nat → Nat → Prop} {lo n b0 : Nat} {S : SH} {H : Heap} {T : TypeId} {cells cells' : List D} (hS : RelS R n S H) (hlo : lo ≤ n) (hb : H b0 = none) (hcells : RnL R cells cells') :
    RelS (addR R n b0) (n + 1) ((n, (T, cells)) :: S) (H.set b0 (T, cells')) ∧ Adv lo R n S H (addR R n b0) (n + 1) ((n, (T, cells)) :: S) (H.set b0 (T, cells')) :=
  new_block hS hlo (fun _ _ h => h) (fun _ _ => rfl) (hS.fresh hb) (.inl hb) (Heap.set_self _ _ _) hcells fun b z hz hne _ => by rw [Heap.set_other _ _ hne]; exact hz

theorem set_block {R : Nat → Nat → Prop} {lo n a b : Nat} {S : SH} {H : Heap} {T : TypeId} {cells c2 c2' : List D} (hS : RelS R n S H) (ha : S.get a = some (T, cells)) (hR : R a b) (hlo : lo ≤ a) (hc : RnL R c2 c2') :
    RelS R n (S.upd a (T, c2)) (H.set b (T, c2')) ∧ Adv lo R n S H R n (S.upd a (T, c2)) (H.set b (T, c2')) := by
  have hget : ∀ c x, (S.upd a (T, c2)).get c = some x → (c = a ∧ x = (T, c2)) ∨ (c ≠ a ∧ S.get c = some x) := fun c x hx => by
    rw [SH.get_upd, ha] at hx
    by_cases hca : c = a
    · rw [if_pos hca] at hx
      simp only [Option.isSome_some, if_true, Option.some.injEq] at hx
      exact .inl ⟨hca, hx.symm⟩
    · rw [if_neg hca] at hx
      exact .inr ⟨hca, hx⟩
  have hlive : ∀ c x, (S.upd a (T, c2)).get c = some x → ∃ y, S.get c = some y := fun c x hx => by
    rcases hget c x hx with ⟨rfl, _⟩ | ⟨_, h⟩
    · exact ⟨_, ha⟩
    · exact ⟨_, h⟩
  refine ⟨⟨hS.fn, hS.lt, fun c x hx => ?_, fun c c' q x y hx hy h h' => ?_⟩, ⟨fun _ _ h => h, fun _ _ h => .inl h, Nat.le_refl _, fun q z hz hno => ?_, fun _ _ h => .inl h, fun c x hx => .inl (hlive c x hx), fun c hc => ?_⟩⟩
  · rcases hget c x hx with ⟨rfl, rfl⟩ | ⟨hne, hx⟩
    · exact ⟨b, c2', hR, Heap.set_self _ _ _, hc⟩
    · obtain ⟨q, c', h1, h2, h3⟩ := hS.at' c x hx
      refine ⟨q, c', h1, ?_, h3⟩
      rw [Heap.set_other _ _ fun e => ?_]
      · exact h2
      · subst e; exact hne (hS.inj _ _ _ _ _ hx ha h1 hR)
  · obtain ⟨x', hx'⟩ := hlive c x hx
    obtain ⟨y', hy'⟩ := hlive c' y hy
    exact hS.inj _ _ _ _ _ hx' hy' h h'
  · rw [Heap.set_other _ _ fun e => ?_]
    · exact hz
    · subst e; exact hno _ _ ha hR
  · rw [SH.get_upd, if_neg (by omega)]

/-! ### What is appended -/

def uniB (k : Nat) (l : List D) : Bool := l.all fun d => Nat.beq (cellsOf d).length k && (cellsOf d).all D.isCell

theorem uni_rel {R : Nat → Nat → Prop} {k : Nat} {l l' : List D} (h : RnL R l l') (hu : uniB k l = true) : Uni k l' := fun d' hd' => by
  obtain ⟨i, hi, rfl⟩ := List.getElem_of_mem hd'
  have hi' : i < l.length := by rw [h.1]; exact hi
  have hr := h.2 i l[i] l'[i] (by simp [hi']) (by simp [hi])
  have := List.all_eq_true.1 hu _ (List.getElem_mem hi')
  simp only [Bool.and_eq_true] at this
  have hc := hr.cells
  exact ⟨by rw [← hc.1]; exact Nat.eq_of_beq_eq_true this.1, hc.all_cell this.2⟩

def newsE (S : SH) (k : Nat) : D → Option (List D)
  | .nil => some []
  | .list k' l => if Nat.beq k' k && uniB k l then some l else none
  | .ref b off n k' => match S.get b with
    | some (_, cells) => if Nat.beq k' k && decide (off + n * k ≤ cells.length) && ((cells.drop off).take (n * k)).all D.isCell then some (chunk k n ((cells.drop off).take (n * k))) else none
    | none => none
  | _ => none

theorem newsE_ok {R : Nat → Nat → Prop} {n0 : Nat} {S : SH} {H : Heap} {k : Nat} {dy dy' : D} {xs : List D} (hS : RelS R n0 S H) (hk : 0 < k) (h : newsE S k dy = some xs) (hd : Rn R dy dy') :
    ∃ xs', RnL R xs xs' ∧ Uni k xs' ∧ ∀ (w : World) (v : Value), HOK w H → Rep w H v dy' → NewsOf w H v k xs' := by
  unfold newsE at h
  split at h
  · cases h; cases hd
    exact ⟨[], .nil, Uni.nil k, fun w v _ hr => .nil hr k⟩
  · split at h
    · rename_i hc
      cases h
      simp only [Bool.and_eq_true] at hc
      have hk' := Nat.eq_of_beq_eq_true hc.1
      subst hk'
      cases hd with
      | list hl hh =>
        have hu := uni_rel ⟨hl, hh⟩ hc.2
        exact ⟨_, ⟨hl, hh⟩, hu, fun w v _ hr => .list hr hu hk⟩
    · cases h
  · rename_i b off n k'
    split at h
    · rename_i T cells hb
      split at h
      · rename_i hc
        cases h
        simp only [Bool.and_eq_true, decide_eq_true_eq] at hc
        obtain ⟨⟨h1, h2⟩, h3⟩ := hc
        have h1 := Nat.eq_of_beq_eq_true h1
        subst h1
        cases hd with
        | ref _ _ _ hR =>
          obtain ⟨cells', h4, h5⟩ := hS.get hb hR
          have h6 := (h5.drop off).take (n * k')
          obtain ⟨g1, g2⟩ := chunk_ok hk n _ (by rw [← h6.1, List.length_take, List.length_drop]; omega) (h6.all_cell h3)
          refine ⟨_, h6.chunk n, g2, fun w v ho hr => NewsOf.ref hr ho h4 g2 (chunk_length _ _ _) fun j x hx => ?_⟩
          rw [g1, List.getElem?_take] at hx
          split at hx
          · rwa [List.getElem?_drop] at hx
          · cases hx
      · cases h
    · cases h
  · cases h

/-! ### The operations -/

def DynR (P : Program) (lo : Nat) (R : Nat → Nat → Prop) (n : Nat) (S : SH) (H : Heap) (er : Env) (op : Op) (r : D × SH × Nat) : Prop :=
  ∀ (dst : Option Tmp) (ty : TypeId) (pos : String) (af : Array Edge) (gd : Option (Nat × Bool)), OpD P H er ⟨dst, op, ty, pos, af, gd⟩ fun d' H' => ∃ R', Adv lo R n S H R' r.2.2 r.2.1 H' ∧ Rn R' r.1 d' ∧ RelS R' r.2.2 r.2.1 H'

def CallR (P : Program) (lo : Nat) (call : FuncId → List D → SH → Nat → Option (D × SH × Nat)) : Prop :=
  ∀ (f : FuncId) (ds : List D) (S : SH) (n : Nat) (r : D × SH × Nat), call f ds S n = some r → ∀ (R : Nat → Nat → Prop) (H : Heap) (ds' : List D), lo ≤ n → RnL R ds ds' → RelS R n S H →
    CallD P H f ds' fun d' H' => ∃ R', Adv lo R n S H R' r.2.2 r.2.1 H' ∧ Rn R' r.1 d' ∧ RelS R' r.2.2 r.2.1 H'

def dStore (lo : Nat) (S : SH) (n m : Nat) (d : D) : D → Option (D × SH × Nat)
  | .ptr b off => match S.get b with
    | some (T, cells) => if Nat.beq (cellsOf d).length m && decide (off + m ≤ cells.length) && (cellsOf d).all D.isCell && decide (lo ≤ b) then some (.tup [], S.upd b (T, setMany cells off (cellsOf d)), n) else none
    | none => none
  | _ => none

def dMake (P : Program) (S : SH) (n : Nat) (E : TypeId) : D → D → Option (D × SH × Nat)
  | .int .i64 a, .int .i64 c => match zeroD P E with
    | some zd => if decide (0 ≤ a) && decide (a ≤ c) && decide (c ≤ 1000000) && decide (bytesT P E ≤ 1000000) && decide (0 < zd.length) then some (.ref n 0 a.toNat zd.length, (n, (E, (List.replicate a.toNat zd).flatten)) :: S, n + 1) else none
    | none => none
  | _, _ => none

theorem sta_appendNews0 {P : Program} {H : Heap} {e : Env} {dst : Option Tmp} {ty : TypeId} {pos : String} {af : Array Edge} {gd : Option (Nat × Bool)} {t E : TypeId} {x y : Operand} {k : Nat} {zd : List D} {d : D} (hu : P.underlying t = some (.slice E)) (hz : ZeroOf P E k zd) (hx : e.ev x = some d) (hd : d = .nil ∨ ∃ b off n kk, d = .ref b off n kk)
    (hsrc : ∀ (ρ : Operand → Value) (w : World), Agree ρ w H e → HOK w H → NewsOf w H (ρ y) k []) : Sta P H e ⟨dst, .call ⟨.builtin .append, #[x, y], #[t, t]⟩, ty, pos, af, gd⟩ d := .mk fun ρ w ha ho => by
  obtain ⟨inf, z, hi, hz1, hz2, hz3⟩ := hz.is
  have h := ha x _ hx
  obtain ⟨a, c, hy⟩ := (hsrc ρ w ha ho).1 rfl
  obtain ⟨b, n, cap, hv, hnc⟩ : ∃ b n cap, ρ x = .slice b n cap ∧ n ≤ cap := by
    rcases hd with rfl | ⟨b, off, n, kk, rfl⟩
    · generalize ρ x = v at h ⊢
      cases h with
      | nil a => exact ⟨_, _, _, rfl, Nat.le_refl _⟩
    · generalize ρ x = v at h ⊢
      cases h with
      | ref hb hs hl' hm => exact ⟨_, _, _, rfl, hl'⟩
  have hr : (Builtin.append_ #[t, t] ty #[.slice b n cap, .slice a 0 c]).run P w = .ok (.slice b n cap) w := by
    cases a <;> cases b <;> simp [Builtin.append_, run_underlying hu, run_sizeOf hi, Builtin.lenOf, hnc, Builtin.firstCells, loadCells, loadCellsFrom, storeCells]
  rw [← hv, ← hy] at hr
  simp only [OpTo, run_exec_append hr]
  exact ⟨h, ho, .refl _ _⟩

/-- Nothing is appended. -/
def emptyApp (xs : List D) : D → Bool
  | .nil => xs.isEmpty
  | .ref .. => xs.isEmpty
  | _ => false

def dAppend (P : Program) (lo : Nat) (S : SH) (n : Nat) (E : TypeId) (k : Nat) (xs : List D) (d : D) : Option (D × SH × Nat) := if emptyApp xs d then some (d, S, n) else match d with
  | .nil => if !xs.isEmpty && decide (xs.length ≤ 1000000) && decide (bytesT P E ≤ 1000000) then some (.ref n 0 xs.length k, (n, (E, xs.flatMap cellsOf)) :: S, n + 1) else none
  | .ref b off len k' => match S.get b with
    | some (T, cells) => if Nat.beq off 0 && Nat.beq k' k && Nat.beq T E && decide (lo ≤ b) && decide (len + xs.length ≤ 1000000) && decide (bytesT P E ≤ 1000000) && !xs.isEmpty then
        (if Nat.beq cells.length (len * k) && cells.all D.isCell then some (.ref n 0 (len + xs.length) k, (n, (E, cells ++ xs.flatMap cellsOf)) :: S.rm b, n + 1)
        else if decide (len * k + xs.length * k ≤ cells.length) then some (.ref b 0 (len + xs.length) k, S.upd b (T, setMany cells (len * k) (xs.flatMap cellsOf)), n) else none)
      else none
    | none => none
  | _ => none

def dynE (P : Program) (lo : Nat) (call : FuncId → List D → SH → Nat → Option (D × SH × Nat)) (S : SH) (n : Nat) (es : Env) : Op → Option (D × SH × Nat)
  | .alloc t => match zeroD P t with
    | some zd => some (.ptr n 0, (n, (t, zd)) :: S, n + 1)
    | none => none
  | .box t x => match es.ev x with
    | some d => if (cellsOf d).all D.isCell then some (.ptr n 0, (n, (t, cellsOf d)) :: S, n + 1) else none
    | none => none
  | .store t x y => match es.ev x, es.ev y, sizeT P t with
    | some p, some d, some m => dStore lo S n m d p
    | _, _, _ => none
  | .makeSlice t x y => match es.ev x, es.ev y, sliceEl P t with
    | some a, some c, some E => dMake P S n E a c
    | _, _, _ => none
  | .call ⟨.builtin .append, xs, ts⟩ => match two? xs.toList, twoT? ts.toList with
    | some (x, y), some (t, t') => match es.ev x, es.ev y, sliceEl P t with
      | some d, some dy, some E => match zeroD P E with
        | some zd => if Nat.beq t t' && decide (0 < zd.length) then match newsE S zd.length dy with
          | some news => dAppend P lo S n E zd.length news d
          | none => none else none
        | none => none
      | _, _, _ => none
    | _, _ => none
  | .call ⟨.builtin .clear, xs, ts⟩ => match one? xs.toList, oneT? ts.toList with
    | some x, some t => match es.ev x, sliceEl P t with
      | some (.ref b off 1 k), some E => match S.get b, zeroD P E with
        | some (T, cells), some zd => if Nat.beq zd.length k && decide (lo ≤ b) && decide (off + k ≤ cells.length) then some (.tup [], S.upd b (T, setMany cells off zd), n) else none
        | _, _ => none
      | _, _ => none
    | _, _ => none
  | .call ⟨.value g, xs, _⟩ => match calleeE es g xs with
    | some (f, ds) => call f ds S n
    | none => none
  | _ => none

theorem dStore_ok {P : Program} {lo n m : Nat} {R : Nat → Nat → Prop} {S : SH} {H : Heap} {er : Env} {t : TypeId} {x y : Operand} {p p' d d' : D} {r : D × SH × Nat} (hS : RelS R n S H) (h : dStore lo S n m d p = some r) (hm : sizeT P t = some m)
    (hx : er.ev x = some p') (hy : er.ev y = some d') (hp : Rn R p p') (hd : Rn R d d') : DynR P lo R n S H er (.store t x y) r := by
  unfold dStore at h
  split at h
  · rename_i b off
    split at h
    · rename_i T cells hb
      split at h
      · rename_i hc
        cases h
        simp only [Bool.and_eq_true, decide_eq_true_eq] at hc
        obtain ⟨⟨⟨h1, h2⟩, h3⟩, h4⟩ := hc
        have h1 := Nat.eq_of_beq_eq_true h1
        obtain ⟨inf, hinf, hsz⟩ := sizeT_ok hm
        cases hp with
        | ptr _ hR =>
          obtain ⟨cells', h5, h6⟩ := hS.get hb hR
          have hcc := hd.cells
          intro dst ty pos af gd
          refine opD_store hinf (by rw [hsz, ← h1, hcc.1]) hx hy h5 (by rw [← hcc.1, ← h6.1, h1]; exact h2) (hcc.all_cell h3) ?_
          obtain ⟨g1, g2⟩ := set_block (lo := lo) hS hb hR h4 (h6.setMany hcc off)
          exact ⟨R, g2, .tup rfl fun i d d' h => by simp at h, g1⟩
      · cases h
    · cases h
  · cases h

theorem dMake_ok {P : Program} {lo n : Nat} {R : Nat → Nat → Prop} {S : SH} {H : Heap} {er : Env} {t E : TypeId} {x y : Operand} {a a' c c' : D} {r : D × SH × Nat} (hlo : lo ≤ n) (hS : RelS R n S H) (h : dMake P S n E a c = some r) (hE : sliceEl P t = some E)
    (hx : er.ev x = some a') (hy : er.ev y = some c') (ha : Rn R a a') (hc' : Rn R c c') : DynR P lo R n S H er (.makeSlice t x y) r := by
  unfold dMake at h
  split at h
  · cases ha; cases hc'
    split at h
    · rename_i a c zd hz
      split at h
      · rename_i hc
        cases h
        simp only [Bool.and_eq_true, decide_eq_true_eq] at hc
        obtain ⟨⟨⟨⟨h1, h2⟩, h3⟩, h4⟩, h5⟩ := hc
        obtain ⟨hzo, inf, hinf, hsz⟩ := zeroD_ok hz
        obtain ⟨a, rfl⟩ := Int.eq_ofNat_of_zero_le h1
        obtain ⟨c, rfl⟩ := Int.eq_ofNat_of_zero_le (Int.le_trans h1 h2)
        intro dst ty pos af gd
        have hc1 : c ≤ 1000000 := by omega
        refine opD_make (sliceEl_ok hE) hzo h5 hx hy (by omega) (fun inf' hinf' => ?_) (by omega) fun b hb => ?_
        · rw [← bytesT_ok hinf']
          exact Nat.le_trans (Nat.mul_le_mul h4 hc1) (by decide)
        · obtain ⟨g1, g2⟩ := new_block' (lo := lo) (T := E) hS hlo hb (RnL.flatten (RnL.lits hzo.lit) a)
          exact ⟨_, g2, .ref _ _ _ (.inr ⟨rfl, rfl⟩), g1⟩
      · cases h
    · cases h
  · cases h

theorem dAppend_ok {P : Program} {lo n k : Nat} {R : Nat → Nat → Prop} {S : SH} {H : Heap} {er : Env} {t E : TypeId} {x y : Operand} {d d' dy' : D} {zd xs xs' : List D} {r : D × SH × Nat} (hlo : lo ≤ n) (hS : RelS R n S H) (h : dAppend P lo S n E zd.length xs d = some r) (hE : sliceEl P t = some E)
    (hz : zeroD P E = some zd) (hk : 0 < zd.length) (hx : er.ev x = some d') (hy : er.ev y = some dy') (hd : Rn R d d') (hxs : RnL R xs xs') (hu : Uni zd.length xs') (hn : ∀ (w : World) (v : Value), HOK w H → Rep w H v dy' → NewsOf w H v zd.length xs') :
    DynR P lo R n S H er (.call ⟨.builtin .append, #[x, y], #[t, t]⟩) r := by
  obtain ⟨hzo, inf, hinf, hsz⟩ := zeroD_ok hz
  have hsrc : ∀ (ρ : Operand → Value) (w : World), Agree ρ w H er → HOK w H → NewsOf w H (ρ y) zd.length xs' := fun ρ w ha ho => hn w _ ho (ha y _ hy)
  unfold dAppend at h
  split at h
  · rename_i he
    cases h
    have h0 : xs = [] ∧ (d = .nil ∨ ∃ b off n kk, d = .ref b off n kk) := by
      unfold emptyApp at he
      split at he
      · exact ⟨List.isEmpty_iff.1 he, .inl rfl⟩
      · exact ⟨List.isEmpty_iff.1 he, .inr ⟨_, _, _, _, rfl⟩⟩
      · cases he
    obtain ⟨h1, h2⟩ := h0
    subst h1
    have h3 := hxs.unnil
    subst h3
    have h4 : d' = .nil ∨ ∃ b off n kk, d' = .ref b off n kk := by
      rcases h2 with rfl | ⟨b, off, n, kk, rfl⟩
      · cases hd; exact .inl rfl
      · cases hd; exact .inr ⟨_, _, _, _, rfl⟩
    intro dst ty pos af gd
    exact OpD.of_sta (sta_appendNews0 (sliceEl_ok hE) hzo hx h4 hsrc) ⟨R, .refl _ _ _ _ _, hd, hS⟩
  split at h
  · cases hd
    split at h
    · rename_i hc
      cases h
      simp only [Bool.and_eq_true, decide_eq_true_eq, Bool.not_eq_true'] at hc
      obtain ⟨⟨h1, h2⟩, h3⟩ := hc
      have hl := hxs.1
      intro dst ty pos af gd
      refine opD_appendS (H0 := H) (l := []) (sliceEl_ok hE) hzo hk hx (Acc.nil _ _ _ _) (Over.refl _) hsrc hu (fun inf' hinf' => ?_) (by simp; omega) fun d2 H' q1 q2 q3 => ?_
      · rw [← bytesT_ok hinf', List.length_nil, Nat.zero_add, ← hl]
        exact Nat.le_trans (Nat.mul_le_mul h2 h3) (by decide)
      · rcases q1.is with ⟨_, h⟩ | ⟨b, g1, g2, g3⟩
        · rw [List.nil_append] at h
          rw [h] at hl
          have h0 : xs = [] := List.length_eq_zero_iff.1 (by simpa using hl)
          subst h0
          cases h1
        · rw [List.nil_append] at g2 g3
          subst g2
          obtain ⟨g4, g5⟩ := new_block (lo := lo) (H' := H') (b0 := b) hS hlo (fun _ _ h => h) (fun _ _ => rfl) (hS.fresh g1) (.inl g1) g3 hxs.flat fun c z hz _ _ => q2 c z hz
          refine ⟨_, g5, ?_, g4⟩
          rw [← hl]
          exact .ref _ _ _ (.inr ⟨rfl, rfl⟩)
    · cases h
  · rename_i b off len k' hemp
    split at h
    · rename_i T cells hb
      split at h
      · rename_i hc
        simp only [Bool.and_eq_true, decide_eq_true_eq, Bool.not_eq_true'] at hc
        obtain ⟨⟨⟨⟨⟨⟨h1, h2⟩, h3⟩, h4⟩, h5⟩, h6⟩, h7⟩ := hc
        have h1 := Nat.eq_of_beq_eq_true h1
        have h2 := Nat.eq_of_beq_eq_true h2
        have h3 := Nat.eq_of_beq_eq_true h3
        subst h1
        subst h2
        subst h3
        have hl := hxs.1
        cases hd with
        | @ref _ b' _ _ _ hR =>
          obtain ⟨cells', e1, e2⟩ := hS.get hb hR
          split at h
          · rename_i hc2
            cases h
            simp only [Bool.and_eq_true] at hc2
            have hlen := Nat.eq_of_beq_eq_true hc2.1
            obtain ⟨f1, f2⟩ := chunk_ok hk len cells' (by rw [← e2.1]; exact hlen) (e2.all_cell hc2.2)
            intro dst ty pos af gd
            refine opD_appendS (H0 := H.del b') (l := chunk zd.length len cells') (sliceEl_ok hE) hzo hk hx ⟨f2, .inr ⟨b', by simp [Heap.del], by rw [chunk_length], by rw [f1]; exact e1⟩⟩
              (fun c z hz => by simp only [Heap.del] at hz; split at hz; · cases hz
                                · exact hz) hsrc hu (fun inf' hinf' => ?_) (by rw [chunk_length, ← hl]; omega) fun d2 H' q1 q2 q3 => ?_
            · rw [← bytesT_ok hinf', chunk_length, ← hl]
              exact Nat.le_trans (Nat.mul_le_mul h5 h6) (by decide)
            · rcases q1.is with ⟨_, h⟩ | ⟨b2, g1, g2, g3⟩
              · have h8 := (List.append_eq_nil_iff.1 h).2
                rw [h8] at hl
                have h0 : xs = [] := List.length_eq_zero_iff.1 (by simpa using hl)
                subst h0
                cases h7
              · rw [List.length_append, chunk_length, ← hl] at g2
                subst g2
                rw [List.flatMap_append, f1] at g3
                have hb2 : H b2 = none ∨ b2 = b' := by
                  simp only [Heap.del] at g1
                  split at g1
                  · exact .inr (by assumption)
                  · exact .inl g1
                have hrm : ∀ a x, (S.rm b).get a = some x → a ≠ b ∧ S.get a = some x := fun a x hx => by
                  rw [SH.get_rm] at hx
                  split at hx
                  · cases hx
                  · exact ⟨by assumption, hx⟩
                have hno : ∀ a x, (S.rm b).get a = some x → ¬ R a b2 := fun a x hx0 hRa => by
                  obtain ⟨hne, hx1⟩ := hrm a x hx0
                  rcases hb2 with h | h
                  · exact hS.fresh h a x hx1 hRa
                  · subst h
                    exact hne (hS.inj _ _ _ _ _ hx1 hb hRa hR)
                have hold : H b2 = none ∨ ∃ a0 x, S.get a0 = some x ∧ R a0 b2 := by
                  rcases hb2 with h | h
                  · exact .inl h
                  · subst h; exact .inr ⟨b, _, hb, hR⟩
                obtain ⟨g4, g5⟩ := new_block (lo := lo) (S0 := S.rm b) (H' := H') (b0 := b2) hS hlo (fun a x hx => (hrm a x hx).2) (fun a ha => by rw [SH.get_rm, if_neg (by omega)]) hno hold g3 (e2.append hxs.flat) fun c z hz hne hlv => by
                    refine (Classical.em (c = b')).elim (fun hcb => ?_) fun hcb => q2 c z (by simp [Heap.del, hcb, hz])
                    subst hcb
                    have := (hrm b _ (hlv b _ hb hR)).1
                    exact absurd rfl this
                exact ⟨_, g5, .ref _ _ _ (.inr ⟨rfl, rfl⟩), g4⟩
          · split at h
            · rename_i hc2
              cases h
              have hc2 := of_decide_eq_true hc2
              intro dst ty pos af gd
              refine opD_appendIn (sliceEl_ok hE) hinf hsz hk rfl hx e1 hsrc hu (fun h => ?_) (by rw [← hl, ← e2.1]; exact hc2) ?_
              · rw [h] at hl
                have h0 : xs = [] := List.length_eq_zero_iff.1 (by simpa using hl)
                subst h0
                cases h7
              · obtain ⟨g1, g2⟩ := set_block (lo := lo) hS hb hR h4 (e2.setMany hxs.flat (len * zd.length))
                rw [← hl]
                exact ⟨R, g2, .ref _ _ _ hR, g1⟩
            · cases h
      · cases h
    · cases h
  · cases h

end Go.Proofs.YtcdihmhmoddppaaGreat

namespace Go.Proofs.YtcdihmhmoddppaaGreat
open Go.RowKit
set_option linter.unusedVariables false
set_option linter.unusedSimpArgs false

theorem dynE_ok {P : Program} {lo n : Nat} {call : FuncId → List D → SH → Nat → Option (D × SH × Nat)} (hcall : CallR P lo call) {R : Nat → Nat → Prop} {S : SH} {H : Heap} {es er : Env} {op : Op} {r : D × SH × Nat} (hlo : lo ≤ n) (hE : RelE R es er) (hS : RelS R n S H)
    (h : dynE P lo call S n es op = some r) : DynR P lo R n S H er op r := by
  unfold dynE at h
  split at h
  · split at h
    · rename_i zd hz
      cases h
      obtain ⟨hzo, _⟩ := zeroD_ok hz
      intro dst ty pos af gd
      refine opD_alloc hzo fun b hb => ?_
      obtain ⟨g1, g2⟩ := new_block' (lo := lo) hS hlo hb (RnL.lits hzo.lit)
      exact ⟨_, g2, .ptr _ (.inr ⟨rfl, rfl⟩), g1⟩
    · cases h
  · split at h
    · rename_i d hx
      split at h
      · rename_i hc
        cases h
        obtain ⟨d', h1, h2⟩ := hE.ev hx
        intro dst ty pos af gd
        refine opD_box h1 (h2.cells.all_cell hc) fun b hb => ?_
        obtain ⟨g1, g2⟩ := new_block' (lo := lo) hS hlo hb h2.cells
        exact ⟨_, g2, .ptr _ (.inr ⟨rfl, rfl⟩), g1⟩
      · cases h
    · cases h
  · split at h
    · rename_i p d m hp hd hm
      obtain ⟨p', h1, h2⟩ := hE.ev hp
      obtain ⟨d', h3, h4⟩ := hE.ev hd
      exact dStore_ok hS h hm h1 h3 h2 h4
    · cases h
  · split at h
    · rename_i a c E ha hc hs
      obtain ⟨a', h1, h2⟩ := hE.ev ha
      obtain ⟨c', h3, h4⟩ := hE.ev hc
      exact dMake_ok hlo hS h hs h1 h3 h2 h4
    · cases h
  · split at h
    · rename_i x y t t' hx ht
      split at h
      · rename_i d dy E hd hdy hs
        split at h
        · rename_i zd hz
          split at h
          · rename_i hc
            split at h
            · rename_i news hn
              simp only [Bool.and_eq_true, decide_eq_true_eq] at hc
              have htt := Nat.eq_of_beq_eq_true hc.1
              subst htt
              have := two?_ok hx
              subst this
              have := twoT?_ok ht
              subst this
              obtain ⟨d', h1, h2⟩ := hE.ev hd
              obtain ⟨dy', h3, h4⟩ := hE.ev hdy
              obtain ⟨xs', g1, g2, g3⟩ := newsE_ok hS hc.2 hn h4
              exact dAppend_ok (k := 0) hlo hS h hs hz hc.2 h1 h3 h2 g1 g2 g3
            · cases h
          · cases h
        · cases h
      · cases h
    · cases h
  · split at h
    · rename_i x t hx ht
      split at h
      · rename_i b off k E hd hs
        split at h
        · rename_i T cells zd hb hz
          split at h
          · rename_i hc
            cases h
            simp only [Bool.and_eq_true, decide_eq_true_eq] at hc
            obtain ⟨⟨c1, c2⟩, c3⟩ := hc
            have c1 := Nat.eq_of_beq_eq_true c1
            subst c1
            have := one?_ok hx
            subst this
            have := oneT?_ok ht
            subst this
            obtain ⟨d', h1, h2⟩ := hE.ev hd
            obtain ⟨hzo, _⟩ := zeroD_ok hz
            cases h2 with
            | ref _ _ _ hR =>
              obtain ⟨cells', e1, e2⟩ := hS.get hb hR
              intro dst ty pos af gd
              refine opD_clearAt (sliceEl_ok hs) hzo h1 e1 (by rw [← e2.1]; exact c3) ?_
              obtain ⟨g1, g2⟩ := set_block (lo := lo) hS hb hR c2 (e2.setMany (RnL.lits hzo.lit) off)
              exact ⟨R, g2, .tup rfl fun i d d' h => by simp at h, g1⟩
          · cases h
        · cases h
      · cases h
    · cases h
  · split at h
    · rename_i f ds hc
      obtain ⟨caps', ds', h1, h2, h3⟩ := calleeE_ok hE hc
      intro dst ty pos af gd
      exact opD_call h1 h2 (hcall f ds S n r h R H _ hlo h3 hS)
    · cases h
  · cases h

/-! ### Slots -/

def Env.rm : Env → Nat → Env
  | [], _ => []
  | (a, d) :: r, t => bif Nat.beq a t then Env.rm r t else (a, d) :: Env.rm r t

theorem Env.get_rm : ∀ (e : Env) (t s : Nat), (e.rm t).get s = if s = t then none else e.get s
  | [], t, s => by simp [Env.rm, Env.get]
  | (a, d) :: r, t, s => by
    simp only [Env.rm]
    by_cases hat : a = t
    · subst hat
      rw [Nat.beq_refl a]
      simp only [cond_true]
      rw [Env.get_rm r a s]
      by_cases hs : s = a
      · simp [hs]
      · rw [if_neg hs, if_neg hs]; simp only [Env.get]; rw [beq_false (Ne.symm hs)]; rfl
    · rw [beq_false hat]
      simp only [cond_false, Env.get]
      by_cases has : a = s
      · subst has
        rw [Nat.beq_refl, if_neg hat]; rfl
      · rw [beq_false has]
        exact Env.get_rm r t s

def putEv (N : Nat) (es : Env) (dst : Option Tmp) (d : D) : Option Env := match dst with
  | none => some es
  | some t => if Nat.blt t N then some ((t, d) :: es.rm t) else none

theorem putEv_ok {N : Nat} {R : Nat → Nat → Prop} {es es' er : Env} {dst : Option Tmp} {d d' : D} (h : putEv N es dst d = some es') (hE : RelE R es er) (hd : Rn R d d') : dstOk N dst = true ∧ RelE R es' (er.putO dst d') := by
  unfold putEv at h
  split at h
  · cases h; exact ⟨rfl, hE⟩
  · rename_i t
    split at h
    · rename_i hlt
      cases h
      refine ⟨hlt, fun s x hx => ?_⟩
      simp only [Env.putO, Env.get_cons] at hx ⊢
      by_cases hs : t = s
      · rw [if_pos hs] at hx ⊢
        cases hx
        exact ⟨d', rfl, hd⟩
      · rw [if_neg hs] at hx ⊢
        rw [Env.get_rm, if_neg (Ne.symm hs)] at hx
        exact hE s x hx
    · cases h

theorem guard_rel {R : Nat → Nat → Prop} {es er : Env} {ops : List Oper} {j : Nat} {b : Option Bool} (hE : RelE R es er) (h : guardD ops es j = some b) : guardD ops er j = some b := by
  unfold guardD at h ⊢
  split at h
  · rename_i t ht
    split at h
    · rename_i c hc
      obtain ⟨d', h1, h2⟩ := hE t _ hc
      cases h2
      rw [h1]
      exact h
    · rename_i hc
      obtain ⟨d', h1, h2⟩ := hE t _ hc
      cases h2 with
      | tup hl hh =>
        have : _ = [] := List.length_eq_zero_iff.1 hl.symm
        subst this
        rw [h1]
        exact h
    · cases h
  · cases h

/-- Is an operation to be done? -/
def guardE (ops : List Oper) (es : Env) (o : Oper) : Option Bool :=
  match o.guard with
  | none => some true
  | some (j, want) => match guardD ops es j with
    | some b => some (match b with | some c => c == want | none => false)
    | none => none

theorem guardE_yes {R : Nat → Nat → Prop} {es er : Env} {ops : List Oper} {o : Oper} {yes no : Prop} (hE : RelE R es er) (h : guardE ops es o = some true) (hy : yes) : GuardIs ops er o yes no := by
  unfold guardE at h
  unfold GuardIs
  split at h
  · rename_i hg; rw [hg]; exact hy
  · rename_i j want hg
    rw [hg]
    split at h
    · rename_i b hb
      refine ⟨b, guard_rel hE hb, fun _ => hy, fun hne => ?_⟩
      cases b with
      | none => cases h
      | some c =>
        simp only [Option.some.injEq, beq_iff_eq] at h
        subst h
        exact absurd rfl hne
    · cases h

theorem guardE_no {R : Nat → Nat → Prop} {es er : Env} {ops : List Oper} {o : Oper} {yes no : Prop} (hE : RelE R es er) (h : guardE ops es o = some false) (hn : no) : GuardIs ops er o yes no := by
  unfold guardE at h
  unfold GuardIs
  split at h
  · cases h
  · rename_i j want hg
    rw [hg]
    split at h
    · rename_i b hb
      refine ⟨b, guard_rel hE hb, fun he => ?_, fun _ => hn⟩
      subst he
      simp at h
    · cases h

/-! ### The text's order -/

/-- What the runner is handed. -/
structure Run where
  lo : Nat
  N : Nat
  lf : Nat
  aggEq : TypeId → List D → List D → Option Bool
  mb : TypeId → Bool
  pc : SH → Nat → FuncId → List D → Option D
  call : FuncId → List D → SH → Nat → Option (D × SH × Nat)

structure RunOk (P : Program) (X : Run) : Prop where
  agg : AggOk P X.aggEq
  call : CallR P X.lo X.call
  pc : ∀ (R : Nat → Nat → Prop) (n : Nat) (S : SH) (H : Heap), RelS R n S H → PcOk P R H (X.pc S n)

def evOps (P : Program) (X : Run) (ops : List Oper) : List Oper → Env → SH → Nat → Option (Env × SH × Nat)
  | [], es, S, n => some (es, S, n)
  | o :: rest, es, S, n => match guardE ops es o with
    | none => none
    | some false => match putEv X.N es o.dst (.tup []) with
      | some es => evOps P X ops rest es S n
      | none => none
    | some true => match staB P X.mb X.aggEq (X.pc S n) S es o.op with
      | some d => match putEv X.N es o.dst d with
        | some es => evOps P X ops rest es S n
        | none => none
      | none => match dynE P X.lo X.call S n es o.op with
        | some (d, S, n) => match putEv X.N es o.dst d with
          | some es => evOps P X ops rest es S n
          | none => none
        | none => none

/-- What the runner promises. -/
def Out (lo : Nat) (R : Nat → Nat → Prop) (n : Nat) (S : SH) (H : Heap) (es' : Env) (S' : SH) (n' : Nat) (er' : Env) (H' : Heap) : Prop :=
  ∃ R', Adv lo R n S H R' n' S' H' ∧ RelE R' es' er' ∧ RelS R' n' S' H'

theorem Out.trans {lo : Nat} {R : Nat → Nat → Prop} {n n1 n' : Nat} {S S1 S' : SH} {H H1 H' : Heap} {es' er' : Env} {R1 : Nat → Nat → Prop} (hS : RelS R n S H) (hS1 : RelS R1 n1 S1 H1) (h : Adv lo R n S H R1 n1 S1 H1) (g : Out lo R1 n1 S1 H1 es' S' n' er' H') : Out lo R n S H es' S' n' er' H' := by
  obtain ⟨R', g1, g2, g3⟩ := g
  exact ⟨R', h.trans hS.lt hS1.lt g1, g2, g3⟩

theorem evOps_ok {C : Ctx} {X : Run} (hX : RunOk C.P X) (hN : C.N = X.N) {ops : List Oper} : ∀ {l : List Oper} {es es' er : Env} {S S' : SH} {n n' : Nat} {R : Nat → Nat → Prop} {H : Heap}, evOps C.P X ops l es S n = some (es', S', n') → X.lo ≤ n → RelE R es er → RelS R n S H →
    RO C ops l er H fun er' H' => Out X.lo R n S H es' S' n' er' H'
  | [], es, es', er, S, S', n, n', R, H, h, hlo, hE, hS => by
    cases h
    exact ⟨R, .refl _ _ _ _ _, hE, hS⟩
  | o :: rest, es, es', er, S, S', n, n', R, H, h, hlo, hE, hS => by
    unfold evOps at h
    split at h
    · cases h
    · rename_i hg
      split at h
      · rename_i es1 hp
        obtain ⟨h1, h2⟩ := putEv_ok hp hE (.tup rfl fun i d d' h => by simp at h)
        exact ⟨by rw [hN]; exact h1, guardE_no hE hg (evOps_ok hX hN h hlo h2 hS)⟩
      · cases h
    · rename_i hg
      split at h
      · rename_i d hd
        split at h
        · rename_i es1 hp
          obtain ⟨d', g1, g2⟩ := staB_ok hX.agg (hX.pc R n S H hS) hE hS hd
          obtain ⟨h1, h2⟩ := putEv_ok hp hE g1
          exact ⟨by rw [hN]; exact h1, guardE_yes hE hg (OpD.of_sta (g2 H (Over.refl _) _ _ _ _ _) (evOps_ok hX hN h hlo h2 hS))⟩
        · cases h
      · split at h
        · rename_i d S1 n1 hd
          split at h
          · rename_i es1 hp
            have hdst : dstOk C.N o.dst = true := by
              rw [hN]
              unfold putEv at hp
              split at hp
              · rename_i ht; rw [ht]; rfl
              · rename_i t ht
                split at hp
                · rename_i hlt; rw [ht]; exact hlt
                · cases hp
            refine ⟨hdst, guardE_yes hE hg ?_⟩
            refine (dynE_ok hX.call hlo hE hS hd o.dst o.type o.pos o.after o.guard).mono ?_
            rintro d' H' ⟨R', g1, g2, g3⟩
            obtain ⟨_, h2⟩ := putEv_ok hp (hE.mono g1.le) g2
            have ih := evOps_ok hX hN h (Nat.le_trans hlo g1.nn) h2 g3
            exact ih.mono fun er' H' hO => Out.trans hS g3 g1 hO
          · cases h
        · cases h

end Go.Proofs.YtcdihmhmoddppaaGreat

namespace Go.Proofs.YtcdihmhmoddppaaGreat
open Go.RowKit
set_option linter.unusedVariables false
set_option linter.unusedSimpArgs false

theorem only_mem (e : Env) : ∀ (ts : List Nat) (t : Nat) (d : D), (e.only ts).get t = some d → t ∈ ts
  | [], t, d, h => by simp [Env.only, Env.get] at h
  | s :: ts, t, d, h => by
    simp only [Env.only] at h
    split at h
    · rw [Env.get_cons] at h
      split at h
      · rename_i hst; subst hst; simp
      · exact List.mem_cons_of_mem _ (only_mem e ts t d h)
    · exact List.mem_cons_of_mem _ (only_mem e ts t d h)

theorem only_of (e : Env) : ∀ (ts : List Nat) (t : Nat) (d : D), t ∈ ts → e.get t = some d → (e.only ts).get t = some d
  | [], t, d, h, _ => by cases h
  | s :: ts, t, d, h, hd => by
    simp only [Env.only]
    by_cases hst : s = t
    · subst hst
      rw [hd]
      simp only [Env.get_cons, if_true]
    · have ht : t ∈ ts := by
        rcases List.mem_cons.1 h with h | h
        · exact absurd h.symm hst
        · exact h
      split
      · rw [Env.get_cons, if_neg hst]
        exact only_of e ts t d ht hd
      · exact only_of e ts t d ht hd

theorem RelE.mask {R : Nat → Nat → Prop} {es er : Env} (h : RelE R es er) (o : Oper) : RelE R (es.mask o) (er.mask o) := fun t d hd => by
  have h1 := only_mem es _ t d hd
  obtain ⟨d', h2, h3⟩ := h t d (Env.only_get es _ t d hd)
  exact ⟨d', only_of er _ t d' h1 h2, h3⟩

/-- A slice of zeros that is never written. -/
def eMake (P : Program) (t : TypeId) : D → D → Option D
  | .int .i64 a, .int .i64 c => match sliceEl P t with
    | some E => match zeroD P E with
      | some [z] => if decide (0 ≤ a) && decide (a = c) && decide (a ≤ 1000000) && decide (bytesT P E ≤ 1000000) then some (.list 1 (List.replicate a.toNat z)) else none
      | _ => none
    | none => none
  | _, _ => none

theorem eMake_ok {P : Program} {R : Nat → Nat → Prop} {H0 : Heap} {er : Env} {t : TypeId} {x y : Operand} {a a' c c' d : D} (h : eMake P t a c = some d) (hx : er.ev x = some a') (hy : er.ev y = some c') (ha : Rn R a a') (hc : Rn R c c') : StaR P R H0 er (.makeSlice t x y) d := by
  unfold eMake at h
  split at h
  · cases ha; cases hc
    split at h
    · rename_i a c E hE
      split at h
      · rename_i z hz
        split at h
        · rename_i hcc
          cases h
          simp only [Bool.and_eq_true, decide_eq_true_eq] at hcc
          obtain ⟨⟨⟨h1, h2⟩, h3⟩, h4⟩ := hcc
          subst h2
          obtain ⟨n, rfl⟩ := Int.eq_ofNat_of_zero_le h1
          obtain ⟨hzo, inf, hinf, hsz⟩ := zeroD_ok hz
          have hl : litOk z = true := by have := hzo.lit; simpa using this
          have hr : RnL R (List.replicate (Int.toNat (n : Int)) z) (List.replicate (Int.toNat (n : Int)) z) := RnL.lits (by simp [hl])
          have hn : n ≤ 1000000 := by omega
          refine ⟨_, .list hr.1 hr.2, fun H _ dst ty pos af gd => ?_⟩
          rw [Int.toNat_natCast]
          refine sta_make (sliceEl_ok hE) hzo (by simp) (cellsOf_cell (litOk_cell hl)) hx hy (fun inf' hinf' => ?_) (by omega)
          rw [← bytesT_ok hinf']
          exact Nat.le_trans (Nat.mul_le_mul h4 hn) (by decide)
        · cases h
      · cases h
    · cases h
  · cases h

def staM (P : Program) (mb : TypeId → Bool) (aggEq : TypeId → List D → List D → Option Bool) (pc : FuncId → List D → Option D) (S : SH) (es : Env) : Op → Option D
  | .makeSlice t x y => match es.ev x, es.ev y with
    | some a, some c => eMake P t a c
    | _, _ => none
  | op => staB P mb aggEq pc S es op

theorem staM_ok {P : Program} {mb : TypeId → Bool} {aggEq : TypeId → List D → List D → Option Bool} (hagg : AggOk P aggEq) {pc : FuncId → List D → Option D} {R : Nat → Nat → Prop} {n : Nat} {S : SH} {H0 : Heap} {es er : Env} {op : Op} {d : D}
    (hpc : PcOk P R H0 pc) (hE : RelE R es er) (hS : RelS R n S H0) (h : staM P mb aggEq pc S es op = some d) : StaR P R H0 er op d := by
  unfold staM at h
  split at h
  · split at h
    · rename_i a c ha hc
      obtain ⟨a', h1, h2⟩ := hE.ev ha
      obtain ⟨c', h3, h4⟩ := hE.ev hc
      exact eMake_ok h h1 h3 h2 h4
    · cases h
  · exact staB_ok hagg hpc hE hS h

/-! ### Blocks that stay -/

def D.same : D → D → Bool
  | .int k n, .int k' n' => decide (k = k') && decide (n = n')
  | .bool b, .bool b' => decide (b = b')
  | .nil, .nil => true
  | .list k l, .list k' l' => Nat.beq k k' && sameL l l'
  | .agg l, .agg l' => sameL l l'
  | .ref b o n k, .ref b' o' n' k' => Nat.beq b b' && Nat.beq o o' && Nat.beq n n' && Nat.beq k k'
  | .ptr b o, .ptr b' o' => Nat.beq b b' && Nat.beq o o'
  | .ipt k l i j, .ipt k' l' i' j' => Nat.beq k k' && Nat.beq i i' && Nat.beq j j' && sameL l l'
  | .fn f l, .fn f' l' => Nat.beq f f' && sameL l l'
  | .tup l, .tup l' => sameL l l'
  | _, _ => false
where sameL : List D → List D → Bool
  | [], [] => true
  | d :: l, d' :: l' => d.same d' && sameL l l'
  | _, _ => false

mutual
theorem D.same_eq : ∀ (a b : D), a.same b = true → a = b
  | .int k n, b, h => by cases b <;> simp [D.same] at h; simp [h]
  | .bool x, b, h => by cases b <;> simp [D.same] at h; simp [h]
  | .str x, b, h => by cases b <;> simp [D.same] at h
  | .nil, b, h => by cases b <;> simp [D.same] at h; rfl
  | .list k l, b, h => by
    cases b <;> simp [D.same] at h
    rename_i k' l'
    rw [h.1, sameL_eq l l' h.2]
  | .agg l, b, h => by
    cases b <;> simp [D.same] at h
    rename_i l'
    rw [sameL_eq l l' h]
  | .ref _ _ _ _, b, h => by cases b <;> simp [D.same] at h; simp [h]
  | .ptr _ _, b, h => by cases b <;> simp [D.same] at h; simp [h]
  | .ipt k l i j, b, h => by
    cases b <;> simp [D.same] at h
    rename_i k' l' i' j'
    rw [h.1.1.1, h.1.1.2, h.1.2, sameL_eq l l' h.2]
  | .fn f l, b, h => by
    cases b <;> simp [D.same] at h
    rename_i f' l'
    rw [h.1, sameL_eq l l' h.2]
  | .tup l, b, h => by
    cases b <;> simp [D.same] at h
    rename_i l'
    rw [sameL_eq l l' h]
theorem sameL_eq : ∀ (l l' : List D), D.same.sameL l l' = true → l = l'
  | [], l', h => by cases l' <;> simp [D.same.sameL] at h; rfl
  | d :: l, l', h => by
    cases l' <;> simp [D.same.sameL] at h
    rename_i d' l'
    rw [D.same_eq d d' h.1, sameL_eq l l' h.2]
end

/-- Do the blocks still hold this? -/
def sameS (Sf S : SH) : Bool := Sf.all fun p => match S.get p.1 with
  | some x => Nat.beq x.1 p.2.1 && D.same.sameL x.2 p.2.2
  | none => false

theorem SH.get_mem : ∀ {S : SH} {a : Nat} {x : TypeId × List D}, S.get a = some x → (a, x) ∈ S
  | (b, y) :: r, a, x, h => by
    simp only [SH.get] at h
    by_cases hba : b = a
    · subst hba
      rw [Nat.beq_refl] at h
      cases h
      simp
    · rw [beq_false hba] at h
      exact List.mem_cons_of_mem _ (SH.get_mem h)

theorem sameS_ok {Sf S : SH} (h : sameS Sf S = true) (a : Nat) (x : TypeId × List D) (hx : Sf.get a = some x) : S.get a = some x := by
  unfold sameS at h
  rw [List.all_eq_true] at h
  have h1 := h _ (SH.get_mem hx)
  dsimp only at h1
  split at h1
  · rename_i y hy
    simp only [Bool.and_eq_true] at h1
    obtain ⟨t, l⟩ := x
    obtain ⟨t', l'⟩ := y
    have e1 := Nat.eq_of_beq_eq_true h1.1
    have e2 := sameL_eq _ _ h1.2
    dsimp only at e1 e2
    subst e1
    subst e2
    exact hy
  · cases h1

/-- The heap of what stays. -/
theorem keepHeap {R : Nat → Nat → Prop} {n : Nat} {Sf S : SH} {H : Heap} (hS : RelS R n S H) (hs : ∀ a x, Sf.get a = some x → S.get a = some x) : ∃ Hs : Heap, Over Hs H ∧ RelS R n Sf Hs ∧
    ∀ (R' : Nat → Nat → Prop) (n' : Nat) (S' : SH) (H' : Heap), (∀ a b, R a b → R' a b) → RelS R' n' S' H' → (∀ a x, Sf.get a = some x → S'.get a = some x) → Over Hs H' := by
  refine ⟨fun b => @ite _ (∃ a x, Sf.get a = some x ∧ R a b) (Classical.propDecidable _) (H b) none, fun b x h => ?_, ⟨hS.fn, hS.lt, fun a x hx => ?_, fun a a' b x y hx hy h1 h2 => hS.inj a a' b x y (hs a x hx) (hs a' y hy) h1 h2⟩, fun R' n' S' H' hle hS' hs' b z hz => ?_⟩
  · try dsimp only at h
    split at h
    · exact h
    · cases h
  · obtain ⟨b, c, h1, h2, h3⟩ := hS.at' a x (hs a x hx)
    refine ⟨b, c, h1, ?_, h3⟩
    try dsimp only
    rw [if_pos ⟨a, x, hx, h1⟩]
    exact h2
  · try dsimp only at hz
    split at hz
    · rename_i hx
      obtain ⟨a, x, hx, hR⟩ := hx
      obtain ⟨c1, k1, k2⟩ := hS.get (T := x.1) (cells := x.2) (hs a x hx) hR
      obtain ⟨c2, k3, k4⟩ := hS'.get (T := x.1) (cells := x.2) (hs' a x hx) (hle a b hR)
      rw [hz] at k1
      cases k1
      rw [k3, (k2.mono hle).fn_eq hS'.fn k4]
    · cases hz

/-! ### Static ones first -/

def evS (P : Program) (X : Run) (ops : List Oper) (free : List Nat) (Sf S : SH) (n : Nat) : List (Oper × Nat) → Env → Option Env
  | [], es => some es
  | (o, i) :: rest, es => match guardE ops es o with
    | none => none
    | some false => match putEv X.N es o.dst (.tup []) with
      | some es => evS P X ops free Sf S n rest es
      | none => none
    | some true => match staM P X.mb X.aggEq (X.pc (if free.contains i then Sf else S) n) (if free.contains i then Sf else S) (es.mask o) o.op with
      | some d => match putEv X.N es o.dst d with
        | some es => evS P X ops free Sf S n rest es
        | none => none
      | none => none

theorem evS_ok {C : Ctx} {X : Run} (hX : RunOk C.P X) (hN : C.N = X.N) {ops : List Oper} {free : List Nat} {Sf S : SH} {n : Nat} {R : Nat → Nat → Prop} {H Hs : Heap} (hS : RelS R n S H) (hS0 : RelS R n Sf Hs) (hov : Over Hs H) {K : Env → Prop} :
    ∀ {l : List (Oper × Nat)} {es es' er : Env}, evS C.P X ops free Sf S n l es = some es' → RelE R es er → (∀ er', RelE R es' er' → K er') → RX C H Hs free ops l er K
  | [], es, es', er, h, hE, hK => by
    cases h
    exact hK _ hE
  | (o, i) :: rest, es, es', er, h, hE, hK => by
    unfold evS at h
    split at h
    · cases h
    · rename_i hg
      split at h
      · rename_i es1 hp
        obtain ⟨h1, h2⟩ := putEv_ok hp hE (.tup rfl fun i d d' h => by simp at h)
        exact ⟨by rw [hN]; exact h1, guardE_no hE hg (evS_ok hX hN hS hS0 hov h h2 hK)⟩
      · cases h
    · rename_i hg
      split at h
      · rename_i d hd
        split at h
        · rename_i es1 hp
          have hst : ∃ d', Rn R d d' ∧ ∀ H', SeesX H Hs free i H' → Sta C.P H' (er.mask o) o d' := by
            by_cases hf : free.contains i = true
            · rw [if_pos hf] at hd
              obtain ⟨d', g1, g2⟩ := staM_ok hX.agg (hX.pc R n Sf Hs hS0) (hE.mask o) hS0 hd
              exact ⟨d', g1, fun H' hs => g2 H' (hs.elim (fun h b x hx => h b x (hov b x hx)) fun h => h.2) _ _ _ _ _⟩
            · rw [if_neg hf] at hd
              obtain ⟨d', g1, g2⟩ := staM_ok hX.agg (hX.pc R n S H hS) (hE.mask o) hS hd
              refine ⟨d', g1, fun H' hs => g2 H' (hs.elim id fun hx => absurd ?_ hf) _ _ _ _ _⟩
              simpa using hx.1
          obtain ⟨d', g1, g2⟩ := hst
          obtain ⟨h1, h2⟩ := putEv_ok hp hE g1
          exact ⟨by rw [hN]; exact h1, guardE_yes hE hg ⟨d', g2, evS_ok hX hN hS hS0 hov h h2 hK⟩⟩
        · cases h
      · cases h

def evD (P : Program) (X : Run) (ops : List Oper) (Sf : SH) : List (Oper × Nat) → Env → SH → Nat → Option (Env × SH × Nat)
  | [], es, S, n => some (es, S, n)
  | (o, i) :: rest, es, S, n => match guardE ops es o with
    | none => none
    | some false => match putEv X.N es o.dst (.tup []) with
      | some es => evD P X ops Sf rest es S n
      | none => none
    | some true => match staB P X.mb X.aggEq (X.pc S n) S (es.mask o) o.op with
      | some d => match putEv X.N es o.dst d with
        | some es => evD P X ops Sf rest es S n
        | none => none
      | none => match dynE P X.lo X.call S n (es.mask o) o.op with
        | some (d, S, n) => if sameS Sf S then match putEv X.N es o.dst d with
          | some es => evD P X ops Sf rest es S n
          | none => none else none
        | none => none

theorem putEv_dst {N : Nat} {es es' : Env} {dst : Option Tmp} {d : D} (hp : putEv N es dst d = some es') : dstOk N dst = true := by
  unfold putEv at hp
  split at hp
  · rfl
  · split at hp
    · rename_i hlt; exact hlt
    · cases hp

theorem RY.mono {C : Ctx} {Hs : Heap} {ops : List Oper} {K K' : Env → Heap → Prop} (hk : ∀ e H, K e H → K' e H) : ∀ {l : List (Oper × Nat)} {e : Env} {H : Heap}, RY C Hs ops l e H K → RY C Hs ops l e H K'
  | [], e, H, h => hk e H h
  | (o, i) :: rest, e, H, ⟨hd, hg⟩ => by
    refine ⟨hd, ?_⟩
    unfold GuardIs at hg ⊢
    split at hg
    · exact hg.mono fun d H' ⟨h1, h2⟩ => ⟨h1, RY.mono hk h2⟩
    · obtain ⟨b, hb, h1, h2⟩ := hg
      exact ⟨b, hb, fun he => (h1 he).mono fun d H' ⟨h1, h2⟩ => ⟨h1, RY.mono hk h2⟩, fun hne => RY.mono hk (h2 hne)⟩

theorem evD_ok {C : Ctx} {X : Run} (hX : RunOk C.P X) (hN : C.N = X.N) {ops : List Oper} {Sf : SH} {Hs : Heap} : ∀ {l : List (Oper × Nat)} {es es' er : Env} {S S' : SH} {n n' : Nat} {R : Nat → Nat → Prop} {H : Heap}, evD C.P X ops Sf l es S n = some (es', S', n') → X.lo ≤ n → RelE R es er → RelS R n S H →
    Over Hs H → (∀ (R' : Nat → Nat → Prop) (n' : Nat) (S' : SH) (H' : Heap), (∀ a b, R a b → R' a b) → RelS R' n' S' H' → sameS Sf S' = true → Over Hs H') → RY C Hs ops l er H fun er' H' => Out X.lo R n S H es' S' n' er' H'
  | [], es, es', er, S, S', n, n', R, H, h, hlo, hE, hS, hcur, hV => by
    cases h
    exact ⟨R, .refl _ _ _ _ _, hE, hS⟩
  | (o, i) :: rest, es, es', er, S, S', n, n', R, H, h, hlo, hE, hS, hcur, hV => by
    unfold evD at h
    split at h
    · cases h
    · rename_i hg
      split at h
      · rename_i es1 hp
        obtain ⟨h1, h2⟩ := putEv_ok hp hE (.tup rfl fun i d d' h => by simp at h)
        exact ⟨by rw [hN]; exact h1, guardE_no hE hg (evD_ok hX hN h hlo h2 hS hcur hV)⟩
      · cases h
    · rename_i hg
      split at h
      · rename_i d hd
        split at h
        · rename_i es1 hp
          obtain ⟨d', g1, g2⟩ := staB_ok hX.agg (hX.pc R n S H hS) (hE.mask o) hS hd
          obtain ⟨h1, h2⟩ := putEv_ok hp hE g1
          exact ⟨by rw [hN]; exact h1, guardE_yes hE hg (OpD.of_sta (g2 H (Over.refl _) _ _ _ _ _) ⟨hcur, evD_ok hX hN h hlo h2 hS hcur hV⟩)⟩
        · cases h
      · split at h
        · rename_i d S1 n1 hd
          split at h
          · rename_i hsm
            split at h
            · rename_i es1 hp
              refine ⟨by rw [hN]; exact putEv_dst hp, guardE_yes hE hg ?_⟩
              refine (dynE_ok hX.call hlo (hE.mask o) hS hd o.dst o.type o.pos o.after o.guard).mono ?_
              rintro d' H' ⟨R', g1, g2, g3⟩
              obtain ⟨_, h2⟩ := putEv_ok hp (hE.mono g1.le) g2
              have hc1 := hV _ _ _ _ g1.le g3 hsm
              exact ⟨hc1, (evD_ok hX hN h (Nat.le_trans hlo g1.nn) h2 g3 hc1 fun R2 n2 S2 H2 hle => hV R2 n2 S2 H2 fun a b hab => hle a b (g1.le a b hab)).mono fun er' H' hO => Out.trans hS g3 g1 hO⟩
            · cases h
          · cases h
        · cases h

/-- Which operations are static, and which of these may come late: a guess, that is checked. -/
def isDyn (raw : FuncId → Bool) (mb : TypeId → Bool) (es : Env) : Op → Bool
  | .alloc _ => true
  | .box t _ => mb t
  | .store _ _ _ => true
  | .call ⟨.builtin .append, _, _⟩ => true
  | .call ⟨.builtin .clear, _, _⟩ => true
  | .call ⟨.value g, _, _⟩ => match es.ev g with
    | some (.fn f _) => raw f
    | _ => true
  | _ => false

/-- Does it write a slot that was read before? -/
def overwrites (ops : List Oper) (o : Oper) (i : Nat) : Bool := match o.op, o.dst with
  | .assign _, some t => ops.zipIdx.any fun (p, k) => Nat.ble k i && (opTmps p ++ guardTmp ops p).contains t
  | .move _, some t => ops.zipIdx.any fun (p, k) => Nat.ble k i && (opTmps p ++ guardTmp ops p).contains t
  | _, _ => false

def guessSt (raw : FuncId → Bool) (mb : TypeId → Bool) (es : Env) (ops : List Oper) : List (Oper × Nat) → List Nat → List Nat
  | [], _ => []
  | (o, i) :: rest, dy => if isDyn raw mb es o.op || (opTmps o ++ guardTmp ops o).any (fun t => dy.contains t) || overwrites ops o i then guessSt raw mb es ops rest (match o.dst with | some t => t :: dy | none => dy) else i :: guessSt raw mb es ops rest dy

def guessFree (ops : List Oper) (st : List Nat) : List Nat :=
  let ms := masks [] ops
  st.filter fun j => !((List.range ops.length).all fun i => st.contains i || (ms.getD i 0).testBit j)

def ptrOf (es : Env) (t : Nat) : Option Nat := match es.get t with
  | some (.ptr b _) => some b
  | some (.ref b _ _ _) => some b
  | _ => none

def baseIn : List (Nat × Nat) → Nat → Option Nat
  | [], _ => none
  | (s, b) :: r, t => bif Nat.beq s t then some b else baseIn r t

def baseOf (es : Env) (bs : List (Nat × Nat)) (t : Nat) : Option Nat := match baseIn bs t with
  | some b => some b
  | none => ptrOf es t

def fromOp : Op → Option Nat
  | .fieldAddr _ (.tmp u) _ => some u
  | .nilCheck (.tmp u) => some u
  | .move (.tmp u) => some u
  | .indexAddr _ (.tmp u) _ => some u
  | .slice _ (.tmp u) _ _ _ => some u
  | _ => none

def ptrIn : Option D → Option Nat
  | some (.ptr b _) => some b
  | some (.ref b _ _ _) => some b
  | _ => none

/-- A pointer that is read. -/
def fromLoad (es : Env) (S : SH) : Op → Option Nat
  | .load _ (.tmp u) => match es.get u with
    | some (.ipt _ l i j) => ptrIn (cellAt l i j)
    | some (.ptr a off) => match S.get a with
      | some (_, cells) => ptrIn cells[off]?
      | none => none
    | _ => none
  | _ => none

/-- The blocks that an address made in the region leads to. -/
def bases (es : Env) (S : SH) : List Oper → List (Nat × Nat) → List (Nat × Nat)
  | [], bs => bs
  | o :: r, bs => match o.dst with
    | some t => match fromOp o.op with
      | some u => match baseOf es bs u with
        | some b => bases es S r ((t, b) :: bs)
        | none => bases es S r bs
      | none => match fromLoad es S o.op with
        | some b => bases es S r ((t, b) :: bs)
        | none => bases es S r bs
    | none => bases es S r bs

def storeTo (es : Env) (bs : List (Nat × Nat)) (o : Oper) : Option Nat := match o.op with
  | .store _ (.tmp t) _ => baseOf es bs t
  | .call ⟨.builtin .append, xs, _⟩ => match xs.toList with
    | .tmp t :: _ => baseOf es bs t
    | _ => none
  | .call ⟨.builtin .clear, xs, _⟩ => match xs.toList with
    | .tmp t :: _ => baseOf es bs t
    | _ => none
  | _ => none

/-- Which blocks stay: a guess, that is checked. -/
def guessKeep (ops : List Oper) (es : Env) (free : List Nat) (S : SH) : SH := match free with
  | [] => []
  | _ => let bs := bases es S ops []
    let ps := (ops.flatMap fun o => (opTmps o).filterMap (ptrOf es)) ++ bs.map (·.2)
    let ws := ops.filterMap (storeTo es bs)
    S.filter fun p => ps.contains p.1 && !(ws.contains p.1)

def evMix (P : Program) (X : Run) (raw : FuncId → Bool) (ops : List Oper) (es : Env) (S : SH) (n : Nat) : Option (Env × SH × Nat) :=
  let st := guessSt raw X.mb es ops ops.zipIdx []
  let free := guessFree ops st
  let Sf := guessKeep ops es free S
  if ordX ops st free && sameS Sf S then
    match evS P X ops free Sf S n (pickS ops st) es with
    | some es => evD P X ops Sf (pickD ops st) es S n
    | none => none
  else none

theorem evMix_ok {C : Ctx} {X : Run} {raw : FuncId → Bool} (hX : RunOk C.P X) (hN : C.N = X.N) (hm : C.P.follows .mixedOrders = true) {id : Nat} {ops : List Oper} {es es' er : Env} {S S' : SH} {n n' : Nat} {R : Nat → Nat → Prop} {H : Heap} (h : evMix C.P X raw ops es S n = some (es', S', n')) (hlo : X.lo ≤ n) (hE : RelE R es er) (hS : RelS R n S H) :
    DW C (.region id ops.toArray true) er H fun x er' H' => x = .normal ∧ Out X.lo R n S H es' S' n' er' H' := by
  unfold evMix at h
  simp only at h
  split at h
  · rename_i hc
    simp only [Bool.and_eq_true] at hc
    obtain ⟨hord, hsm⟩ := hc
    have hsub := sameS_ok hsm
    split at h
    · rename_i es1 hs
      obtain ⟨Hs, hov, hrel, hlater⟩ := keepHeap hS hsub
      refine DW.drawX _ _ Hs hm hord hov (evS_ok hX hN hS hrel hov hs hE fun er' hE' => ?_)
      refine (RY.mono (fun er2 H2 hO => ?_) (evD_ok hX hN h hlo hE' hS hov fun R' n2 S2 H2 hle hS2 hs2 => hlater _ _ _ _ hle hS2 (sameS_ok hs2)))
      exact ⟨rfl, hO⟩
    · cases h
  · cases h

end Go.Proofs.YtcdihmhmoddppaaGreat
