/-
  Running a function at the data level: all static operations. No condition.
-/
import Derived.Test.YtcdihmhmoddppaaGreatKRc11

namespace Go.Proofs.YtcdihmhmoddppaaGreat
open Go.RowKit
set_option linter.unusedVariables false
set_option linter.unusedSimpArgs false

def unlit : Value → Option D
  | .int k n => some (.int k n)
  | .bool b => some (.bool b)
  | .string s => some (.str s)
  | .slice none 0 0 => some .nil
  | _ => none

theorem unlit_ok {v : Value} {d : D} (h : unlit v = some d) : v = litV d ∧ litOk d = true := by
  unfold unlit at h
  split at h <;> cases h <;> exact ⟨rfl, rfl⟩

def unlits : List Value → Option (List D)
  | [] => some []
  | v :: r => match unlit v, unlits r with
    | some d, some ds => some (d :: ds)
    | _, _ => none

theorem unlits_ok : ∀ {l : List Value} {ds : List D}, unlits l = some ds → l = ds.map litV ∧ ds.all litOk = true
  | [], ds, h => by cases h; exact ⟨rfl, rfl⟩
  | v :: r, ds, h => by
    simp only [unlits] at h
    split at h
    · rename_i d ds' h1 h2
      cases h
      obtain ⟨h3, h4⟩ := unlit_ok h1
      obtain ⟨h5, h6⟩ := unlits_ok h2
      exact ⟨by rw [h3, h5]; rfl, by simp [h4, h6]⟩
    · cases h

def sliceEl (P : Program) (t : TypeId) : Option TypeId := match P.underlying t with | some (.slice E) => some E | _ => none

theorem sliceEl_ok {P : Program} {t E : TypeId} (h : sliceEl P t = some E) : P.underlying t = some (.slice E) := by
  unfold sliceEl at h
  split at h
  · rename_i hu; cases h; exact hu
  · cases h

def sizeT (P : Program) (t : TypeId) : Option Nat := match P.info? t with | some i => some i.size | none => none

theorem sizeT_ok {P : Program} {t : TypeId} {k : Nat} (h : sizeT P t = some k) : ∃ inf, P.info? t = some inf ∧ inf.size = k := by
  unfold sizeT at h
  split at h
  · rename_i i hi; cases h; exact ⟨i, hi, rfl⟩
  · cases h

def bytesT (P : Program) (t : TypeId) : Nat := match P.info? t with | some i => i.bytes | none => 0

theorem bytesT_ok {P : Program} {t : TypeId} {inf : TypeInfo} (h : P.info? t = some inf) : bytesT P t = inf.bytes := by unfold bytesT; rw [h]

def zeroD (P : Program) (t : TypeId) : Option (List D) := match P.info? t with
  | some i => match i.zero with
    | some z => match unlits z.cells.toList with
      | some zd => if Nat.beq zd.length i.size then some zd else none
      | none => none
    | none => none
  | none => none

theorem zeroD_ok {P : Program} {t : TypeId} {zd : List D} (h : zeroD P t = some zd) : ZeroOf P t zd.length zd ∧ ∃ inf, P.info? t = some inf ∧ inf.size = zd.length := by
  unfold zeroD at h
  split at h
  · rename_i i hi
    split at h
    · rename_i z hz
      split at h
      · rename_i zd' hu
        split at h
        · rename_i hs
          cases h
          have hs' := Nat.eq_of_beq_eq_true hs
          obtain ⟨h1, h2⟩ := unlits_ok hu
          exact ⟨⟨⟨i, z, hi, hz, hs'.symm, by rw [← h1]⟩, h2, rfl⟩, i, hi, hs'.symm⟩
        · cases h
      · cases h
    · cases h
  · cases h

def isAggT (P : Program) (t : TypeId) : Option Bool := match P.underlying t with | some td => some (aggD td) | none => none

theorem isAggT_ok {P : Program} {t : TypeId} {b : Bool} (h : isAggT P t = some b) : ∃ td, P.underlying t = some td ∧ aggD td = b := by
  unfold isAggT at h
  split at h
  · rename_i td hu; cases h; exact ⟨td, hu, rfl⟩
  · cases h

def chunk (k : Nat) : Nat → List D → List D
  | 0, _ => []
  | m + 1, l => (bif Nat.beq k 1 then (match l with | [] => .nil | d :: _ => d) else .agg (l.take k)) :: chunk k m (l.drop k)

theorem chunk_length (k : Nat) : ∀ (m : Nat) (l : List D), (chunk k m l).length = m
  | 0, l => rfl
  | m + 1, l => by simp [chunk, chunk_length k m]

theorem cellsOf_cell {d : D} (h : d.isCell = true) : cellsOf d = [d] := by cases d <;> simp_all [cellsOf, D.isCell]

theorem chunk_ok {k : Nat} (hk : 0 < k) : ∀ (m : Nat) (l : List D), l.length = m * k → (∀ d ∈ l, d.isCell = true) → (chunk k m l).flatMap cellsOf = l ∧ Uni k (chunk k m l)
  | 0, l, hl, _ => by
    have : l = [] := List.length_eq_zero_iff.1 (by omega)
    subst this
    exact ⟨rfl, Uni.nil k⟩
  | m + 1, l, hl, hc => by
    have hle : k ≤ l.length := by rw [hl, Nat.add_mul]; omega
    obtain ⟨h1, h2⟩ := chunk_ok hk m (l.drop k) (by rw [List.length_drop, hl, Nat.add_mul]; omega) fun d hd => hc d (List.mem_of_mem_drop hd)
    have key : ∀ (d : D), cellsOf d = l.take k → (d :: chunk k m (l.drop k)).flatMap cellsOf = l ∧ Uni k (d :: chunk k m (l.drop k)) := fun d hd => by
      refine ⟨by rw [List.flatMap_cons, h1, hd, List.take_append_drop], fun x hx => ?_⟩
      rcases List.mem_cons.1 hx with rfl | hx
      · exact ⟨by rw [hd, List.length_take]; omega, fun y hy => hc y (List.mem_of_mem_take (hd ▸ hy))⟩
      · exact h2 x hx
    simp only [chunk]
    by_cases h1k : k = 1
    · subst h1k
      match l, hle, hc with
      | d :: l', _, hc =>
        simp only [Nat.beq_refl, cond_true]
        exact key d (by rw [cellsOf_cell (hc d (by simp))]; rfl)
    · rw [beq_false h1k]
      simp only [cond_false]
      exact key _ rfl

theorem RnL.chunk {R : Nat → Nat → Prop} {k : Nat} : ∀ (m : Nat) {l l' : List D}, RnL R l l' → RnL R (chunk k m l) (Go.Proofs.YtcdihmhmoddppaaGreat.chunk k m l')
  | 0, l, l', h => .nil
  | m + 1, l, l', h => by
    simp only [Go.Proofs.YtcdihmhmoddppaaGreat.chunk]
    refine .cons ?_ (RnL.chunk m (h.drop k))
    by_cases h1k : k = 1
    · subst h1k
      simp only [Nat.beq_refl, cond_true]
      cases l with
      | nil => rw [h.unnil]; exact .nil
      | cons d r =>
        obtain ⟨d', r', rfl, h1, h2⟩ := h.uncons
        exact h1
    · rw [beq_false h1k]
      simp only [cond_false]
      have := h.take k
      exact .agg this.1 this.2

/-! ### The static operations -/

def StaR (P : Program) (R : Nat → Nat → Prop) (H0 : Heap) (er : Env) (op : Op) (d : D) : Prop :=
  ∃ d', Rn R d d' ∧ ∀ H, Over H0 H → ∀ (dst : Option Tmp) (ty : TypeId) (pos : String) (af : Array Edge) (gd : Option (Nat × Bool)), Sta P H er ⟨dst, op, ty, pos, af, gd⟩ d'

def fitsB (n : Int) : Bool := decide (-9223372036854775808 ≤ n) && decide (n ≤ 9223372036854775807)

theorem fitsB_ok {n : Int} (h : fitsB n = true) : -9223372036854775808 ≤ n ∧ n ≤ 9223372036854775807 := by simpa [fitsB] using h

def eInt (op : BinOp) (a b : Int) : Option D :=
  match op with
  | .add => if fitsB (a + b) then some (I (a + b)) else none
  | .sub => if fitsB (a - b) then some (I (a - b)) else none
  | .mul => if fitsB (a * b) then some (I (a * b)) else none
  | .rem => if decide (0 ≤ a) && decide (0 < b) then some (I (a % b)) else none
  | .and => if decide (b = 1) && decide (0 ≤ a) && fitsB a then some (I (a % 2)) else none
  | .eql => some (.bool (a == b))
  | .neq => some (.bool (a != b))
  | .lss => some (.bool (decide (a < b)))
  | .leq => some (.bool (decide (a ≤ b)))
  | .gtr => some (.bool (decide (b < a)))
  | .geq => some (.bool (decide (b ≤ a)))
  | _ => none

section
variable {P : Program} {H : Heap} {e : Env} {dst : Option Tmp} {ty : TypeId} {pos : String} {af : Array Edge} {gd : Option (Nat × Bool)}

theorem eInt_ok {op : BinOp} {a b : Int} {d : D} (h : eInt op a b = some d) {x y : Operand} {tx t2 : TypeId} (hx : e.ev x = some (I a)) (hy : e.ev y = some (I b)) :
    litOk d = true ∧ Sta P H e ⟨dst, .binOp op tx x y t2, ty, pos, af, gd⟩ d := by
  unfold eInt at h
  split at h
  · split at h
    · rename_i hf; cases h; exact ⟨rfl, sta_binI hx hy rfl (fitsB_ok hf)⟩
    · cases h
  · split at h
    · rename_i hf; cases h; exact ⟨rfl, sta_binI hx hy rfl (fitsB_ok hf)⟩
    · cases h
  · split at h
    · rename_i hf; cases h; exact ⟨rfl, sta_binI hx hy rfl (fitsB_ok hf)⟩
    · cases h
  · split at h
    · rename_i hf
      cases h
      simp only [Bool.and_eq_true, decide_eq_true_eq] at hf
      exact ⟨rfl, sta_rem hx hy hf.1 hf.2⟩
    · cases h
  · split at h
    · rename_i hf
      cases h
      simp only [Bool.and_eq_true, decide_eq_true_eq] at hf
      obtain ⟨⟨h1, h2⟩, h3⟩ := hf
      subst h1
      exact ⟨rfl, s_and1 hx hy h2 (fitsB_ok h3).2⟩
    · cases h
  all_goals first | (cases h; exact ⟨rfl, sta_binI hx hy rfl trivial⟩) | cases h

end

/-- Structs held against each other: what is known of them. -/
def AggOk (P : Program) (aggEq : TypeId → List D → List D → Option Bool) : Prop :=
  ∀ (tx : TypeId) (l m : List D) (b : Bool), aggEq tx l m = some b → D.closed.closedL l = true ∧ D.closed.closedL m = true ∧
    ∀ (H : Heap) (e : Env) (x y : Operand) (t2 : TypeId) (dst : Option Tmp) (ty : TypeId) (pos : String) (af : Array Edge) (gd : Option (Nat × Bool)), e.ev x = some (.agg l) → e.ev y = some (.agg m) → Sta P H e ⟨dst, .binOp .eql tx x y t2, ty, pos, af, gd⟩ (.bool b)

def isNilC : Operand → Bool
  | .const (.slice none 0 0) => true
  | _ => false

theorem isNilC_ok {x : Operand} (h : isNilC x = true) : x = .const (.slice none 0 0) := by
  unfold isNilC at h
  split at h
  · rfl
  · cases h

def eBin (P : Program) (aggEq : TypeId → List D → List D → Option Bool) (op : BinOp) (tx : TypeId) (y : Operand) : D → D → Option D
  | .int .i64 a, .int .i64 b => eInt op a b
  | .int .i64 a, .int .u64 b => match op with
    | .shr => if decide (b = 1) && decide (0 ≤ a) then some (I (a / 2)) else none
    | _ => none
  | .bool a, .bool b => match P.underlying tx, op with
    | some .bool, .eql => some (.bool (a == b))
    | some .bool, .neq => some (.bool (a != b))
    | _, _ => none
  | .ref .., .nil => match op, sliceEl P tx with
    | .eql, some _ => if isNilC y then some (.bool false) else none
    | _, _ => none
  | .list k (_ :: _), .nil => match op, sliceEl P tx with
    | .eql, some _ => if isNilC y && decide (0 < k) then some (.bool false) else none
    | _, _ => none
  | .agg l, .agg m => match op with
    | .eql => match aggEq tx l m with
      | some b => some (.bool b)
      | none => none
    | _ => none
  | _, _ => none

theorem eBin_ok {P : Program} {aggEq : TypeId → List D → List D → Option Bool} (hagg : AggOk P aggEq) {R : Nat → Nat → Prop} {H0 : Heap} {er : Env} {op : BinOp} {tx t2 : TypeId} {x y : Operand} {a b a' b' d : D} (h : eBin P aggEq op tx y a b = some d)
    (hx : er.ev x = some a') (hy : er.ev y = some b') (ha : Rn R a a') (hb : Rn R b b') : StaR P R H0 er (.binOp op tx x y t2) d := by
  unfold eBin at h
  split at h
  · cases ha; cases hb
    exact ⟨d, .lit (eInt_ok (P := P) (H := H0) (dst := none) (ty := 0) (pos := "") (af := #[]) (gd := none) (tx := tx) (t2 := t2) h hx hy).1, fun H _ dst ty pos af gd => (eInt_ok h hx hy).2⟩
  · cases ha; cases hb
    split at h
    · split at h
      · rename_i hf
        cases h
        simp only [Bool.and_eq_true, decide_eq_true_eq] at hf
        obtain ⟨h1, h2⟩ := hf
        subst h1
        exact ⟨_, .int _ _, fun H _ dst ty pos af gd => s_shr1 hx hy h2⟩
      · cases h
    · cases h
  · cases ha; cases hb
    split at h
    · rename_i hu
      cases h
      exact ⟨_, .bool _, fun H _ dst ty pos af gd => sta_eqB hu hx hy (.inl ⟨rfl, rfl⟩)⟩
    · rename_i hu
      cases h
      exact ⟨_, .bool _, fun H _ dst ty pos af gd => sta_eqB hu hx hy (.inr ⟨rfl, rfl⟩)⟩
    · cases h
  · cases ha; cases hb
    split at h
    · rename_i E hE
      split at h
      · rename_i hc
        cases h
        have := isNilC_ok hc
        subst this
        exact ⟨_, .bool _, fun H _ dst ty pos af gd => sta_eqNilR (sliceEl_ok hE) hx⟩
      · cases h
    · cases h
  · cases hb
    split at h
    · rename_i E hE
      split at h
      · rename_i hc
        cases h
        simp only [Bool.and_eq_true, decide_eq_true_eq] at hc
        have := isNilC_ok hc.1
        subst this
        cases ha with
        | list hl hh =>
          rename_i l'
          cases l' with
          | nil => simp at hl
          | cons z l' => exact ⟨_, .bool _, fun H _ dst ty pos af gd => sta_eqNilL (sliceEl_ok hE) hc.2 hx⟩
      · cases h
    · cases h
  · split at h
    · split at h
      · rename_i v hv
        cases h
        obtain ⟨h1, h2, h3⟩ := hagg _ _ _ _ hv
        have e1 := ha.closed_eq (by simp only [D.closed]; exact h1)
        have e2 := hb.closed_eq (by simp only [D.closed]; exact h2)
        subst e1
        subst e2
        exact ⟨_, .bool _, fun H _ dst ty pos af gd => h3 H er x y t2 dst ty pos af gd hx hy⟩
      · cases h
    · cases h
  · cases h

def eIndexAddr (P : Program) (t : TypeId) (i : D) : D → Option D
  | .list k l => match i, sliceEl P t with
    | .int kd i, some E => match sizeT P E with
      | some k' => if Nat.beq k' k && decide (0 < k) && decide (0 ≤ i) && decide (i < l.length) then some (.ipt k l i.toNat 0) else none
      | none => none
    | _, _ => none
  | .ref b off n k => match i, sliceEl P t with
    | .int kd i, some E => match sizeT P E with
      | some k' => if Nat.beq k' k && decide (0 ≤ i) && decide (i < n) then some (.ptr b (off + i.toNat * k)) else none
      | none => none
    | _, _ => none
  | _ => none

theorem eIndexAddr_ok {P : Program} {R : Nat → Nat → Prop} {H0 : Heap} {er : Env} {t : TypeId} {x y : Operand} {a a' i i' d : D} (h : eIndexAddr P t i a = some d) (hx : er.ev x = some a') (hy : er.ev y = some i') (ha : Rn R a a') (hi : Rn R i i') :
    StaR P R H0 er (.indexAddr t x y) d := by
  unfold eIndexAddr at h
  split at h
  · split at h
    · rename_i kd i E hE
      cases hi
      split at h
      · rename_i k' hk'
        split at h
        · rename_i hc
          cases h
          simp only [Bool.and_eq_true, decide_eq_true_eq] at hc
          obtain ⟨⟨⟨h1, h2⟩, h3⟩, h4⟩ := hc
          have h1 := Nat.eq_of_beq_eq_true h1
          subst h1
          obtain ⟨inf, hinf, hsz⟩ := sizeT_ok hk'
          cases ha with
          | list hl hh => exact ⟨_, .ipt _ _ hl hh, fun H _ dst ty pos af gd => sta_indexAddr_list (sliceEl_ok hE) hinf hsz h2 hx hy h3 (by rw [← hl]; exact h4)⟩
        · cases h
      · cases h
    · cases h
  · split at h
    · rename_i kd i E hE
      cases hi
      split at h
      · rename_i k' hk'
        split at h
        · rename_i hc
          cases h
          simp only [Bool.and_eq_true, decide_eq_true_eq] at hc
          obtain ⟨⟨h1, h3⟩, h4⟩ := hc
          have h1 := Nat.eq_of_beq_eq_true h1
          subst h1
          obtain ⟨inf, hinf, hsz⟩ := sizeT_ok hk'
          cases ha with
          | ref _ _ _ hR => exact ⟨_, .ptr _ hR, fun H _ dst ty pos af gd => sta_indexAddr_ref (sliceEl_ok hE) hinf hsz hx hy h3 h4⟩
        · cases h
      · cases h
    · cases h
  · cases h

def eLoad (P : Program) (S : SH) (t : TypeId) : D → Option D
  | .ipt k l i j => match isAggT P t with
    | some false => cellAt l i j
    | some true => match l[i]?, sizeT P t with
      | some el, some m => if Nat.beq (((cellsOf el).drop j).take m).length m then some (.agg (((cellsOf el).drop j).take m)) else none
      | _, _ => none
    | none => none
  | .ptr b off => match isAggT P t, S.get b with
    | some false, some (_, cells) => cells[off]?
    | some true, some (_, cells) => match sizeT P t with
      | some m => if Nat.beq ((cells.drop off).take m).length m then some (.agg ((cells.drop off).take m)) else none
      | none => none
    | _, _ => none
  | _ => none

theorem eLoad_ok {P : Program} {R : Nat → Nat → Prop} {n : Nat} {S : SH} {H0 : Heap} {er : Env} {t : TypeId} {x : Operand} {a a' d : D} (hS : RelS R n S H0) (h : eLoad P S t a = some d) (hx : er.ev x = some a') (ha : Rn R a a') :
    StaR P R H0 er (.load t x) d := by
  unfold eLoad at h
  split at h
  · rename_i k0 l0 i0 j0
    cases ha with
    | ipt _ _ hl hh =>
      split at h
      · rename_i hg
        obtain ⟨td, h1, h2⟩ := isAggT_ok hg
        obtain ⟨d', h3, h4⟩ := RnL.cellAt ⟨hl, hh⟩ h
        exact ⟨d', h4, fun H _ dst ty pos af gd => sta_load_cell h1 h2 hx h3⟩
      · rename_i hg
        obtain ⟨td, h1, h2⟩ := isAggT_ok hg
        split at h
        · rename_i el m hel hm
          split at h
          · rename_i hlen
            cases h
            have hlen := Nat.eq_of_beq_eq_true hlen
            obtain ⟨inf, hinf, hsz⟩ := sizeT_ok hm
            subst hsz
            obtain ⟨el', h3, h4⟩ := RnL.get ⟨hl, hh⟩ hel
            have h5 := (h4.cells.drop j0).take inf.size
            exact ⟨_, .agg h5.1 h5.2, fun H _ dst ty pos af gd => sta_load_agg h1 h2 hinf hx h3 rfl (by rw [← h5.1]; exact hlen)⟩
          · cases h
        · cases h
      · cases h
  · rename_i b0 off0
    cases ha with
    | ptr _ hR =>
      split at h
      · rename_i T cells hg hb
        obtain ⟨td, h1, h2⟩ := isAggT_ok hg
        obtain ⟨cells', h3, h4⟩ := hS.get hb hR
        obtain ⟨d', h5, h6⟩ := h4.get h
        exact ⟨d', h6, fun H ho dst ty pos af gd => sta_load_mut h1 h2 hx (ho _ _ h3) h5⟩
      · rename_i T cells hg hb
        obtain ⟨td, h1, h2⟩ := isAggT_ok hg
        obtain ⟨cells', h3, h4⟩ := hS.get hb hR
        split at h
        · rename_i m hm
          split at h
          · rename_i hlen
            cases h
            have hlen := Nat.eq_of_beq_eq_true hlen
            obtain ⟨inf, hinf, hsz⟩ := sizeT_ok hm
            subst hsz
            have h5 := (h4.drop off0).take inf.size
            exact ⟨_, .agg h5.1 h5.2, fun H ho dst ty pos af gd => sta_load_mut_agg h1 h2 hinf hx (ho _ _ h3) rfl (by rw [← h5.1]; exact hlen)⟩
          · cases h
        · cases h
      · cases h
  · cases h

def eFieldAddr (P : Program) (t : TypeId) (f : Nat) : D → Option D
  | .ipt k l i j => match fieldOff P t f with
    | some o => some (.ipt k l i (j + o))
    | none => none
  | .ptr b off => match fieldOff P t f with
    | some o => some (.ptr b (off + o))
    | none => none
  | _ => none

theorem eFieldAddr_ok {P : Program} {R : Nat → Nat → Prop} {H0 : Heap} {er : Env} {t : TypeId} {f : Nat} {x : Operand} {a a' d : D} (h : eFieldAddr P t f a = some d) (hx : er.ev x = some a') (ha : Rn R a a') : StaR P R H0 er (.fieldAddr t x f) d := by
  unfold eFieldAddr at h
  split at h
  · split at h
    · rename_i o ho
      cases h
      cases ha with
      | ipt _ _ hl hh => exact ⟨_, .ipt _ _ hl hh, fun H _ dst ty pos af gd => sta_fieldAddr_ipt ho hx⟩
    · cases h
  · split at h
    · rename_i o ho
      cases h
      cases ha with
      | ptr _ hR => exact ⟨_, .ptr _ hR, fun H _ dst ty pos af gd => sta_fieldAddr_ptr ho hx⟩
    · cases h
  · cases h

def eField (P : Program) (t : TypeId) (f : Nat) : D → Option D
  | .agg l => match P.underlying t with
    | some (.struct fs) => match fs[f]? with
      | some fl => match isAggT P fl.type with
        | some false => l[fl.offset]?
        | _ => none
      | none => none
    | _ => none
  | _ => none

theorem eField_ok {P : Program} {R : Nat → Nat → Prop} {H0 : Heap} {er : Env} {t : TypeId} {f : Nat} {x : Operand} {a a' d : D} (h : eField P t f a = some d) (hx : er.ev x = some a') (ha : Rn R a a') : StaR P R H0 er (.field t x f) d := by
  unfold eField at h
  split at h
  · split at h
    · rename_i fs hu
      split at h
      · rename_i fl hf
        split at h
        · rename_i hg
          obtain ⟨td, h1, h2⟩ := isAggT_ok hg
          cases ha with
          | agg hl hh =>
            obtain ⟨d', h3, h4⟩ := RnL.get ⟨hl, hh⟩ h
            exact ⟨d', h4, fun H _ dst ty pos af gd => sta_fieldV hu hf h1 h2 hx h3⟩
        · cases h
      · cases h
    · cases h
  · cases h

/-- A part of a slice. -/
def eSlice (P : Program) (S : SH) (t : TypeId) (a c : Option Nat) : D → Option D
  | .nil => match a, c, sliceEl P t with
    | some 0, some 0, some E => match sizeT P E with
      | some _ => some .nil
      | none => none
    | _, _, _ => none
  | .list k l => match a, c, sliceEl P t with
    | some a, some c, some E => match sizeT P E with
      | some k' => if Nat.beq k' k && decide (a ≤ c) && decide (c ≤ l.length) then some (.list k ((l.take c).drop a)) else none
      | none => none
    | _, _, _ => none
  | .ref b off n k => match a, c, sliceEl P t with
    | some a, some c, some E => match sizeT P E with
      | some k' => if Nat.beq k' k && decide (0 < k) && decide (a ≤ c) then
          (if decide (c ≤ n) then (if decide (a < n) then some (.ref b (off + a * k) (c - a) k) else if Nat.beq a n && Nat.beq c n then some (.list k []) else none)
          else match S.get b with
            | some (_, cells) => if decide (off + c * k ≤ cells.length) && decide (a < c) then some (.ref b (off + a * k) (c - a) k) else none
            | none => none)
        else none
      | none => none
    | _, _, _ => none
  | _ => none

theorem eSlice_ok {P : Program} {R : Nat → Nat → Prop} {n0 : Nat} {S : SH} {H0 : Heap} {er : Env} {t : TypeId} {x : Operand} {lo hi : Option Operand} {av cv : Option Nat} {a a' d : D} (hS : RelS R n0 S H0) (h : eSlice P S t av cv a = some d) (hx : er.ev x = some a') (ha : Rn R a a')
    (hlo : ∀ m, av = some m → boundD er lo 0 = some m) (hhi : ∀ m n, lenD a = some n → cv = some m → boundD er hi n = some m) : StaR P R H0 er (.slice t x lo hi none) d := by
  unfold eSlice at h
  split at h
  · cases ha
    split at h
    · rename_i E hE
      split at h
      · rename_i k hk
        cases h
        obtain ⟨inf, hinf, hsz⟩ := sizeT_ok hk
        have hb1 := hlo _ rfl
        have hb2 := hhi 0 0 rfl rfl
        exact ⟨_, .nil, fun H _ dst ty pos af gd => sta_slice_nil (k := k) (sliceEl_ok hE) hinf hx hb1 hb2⟩
      · cases h
    · cases h
  · split at h
    · rename_i a0 c0 E hE
      split at h
      · rename_i k' hk'
        split at h
        · rename_i hc
          cases h
          simp only [Bool.and_eq_true, decide_eq_true_eq] at hc
          obtain ⟨⟨h1, h2⟩, h3⟩ := hc
          have h1 := Nat.eq_of_beq_eq_true h1
          subst h1
          obtain ⟨inf, hinf, hsz⟩ := sizeT_ok hk'
          cases ha with
          | list hl hh =>
            have h4 := (RnL.take ⟨hl, hh⟩ c0).drop a0
            exact ⟨_, .list h4.1 h4.2, fun H _ dst ty pos af gd => sta_slice_list (sliceEl_ok hE) hinf hsz hx (hlo _ rfl) (by rw [← hl]; exact hhi _ _ rfl rfl) h2 (by rw [← hl]; exact h3)⟩
        · cases h
      · cases h
    · cases h
  · rename_i b off n k
    split at h
    · rename_i a0 c0 E hE
      split at h
      · rename_i k' hk'
        split at h
        · rename_i hc
          simp only [Bool.and_eq_true, decide_eq_true_eq] at hc
          obtain ⟨⟨h1, h2⟩, h3⟩ := hc
          have h1 := Nat.eq_of_beq_eq_true h1
          subst h1
          obtain ⟨inf, hinf, hsz⟩ := sizeT_ok hk'
          have hb1 := hlo _ rfl
          have hb2 := hhi c0 n rfl rfl
          cases ha with
          | ref _ _ _ hR =>
            split at h
            · rename_i hcn
              have hcn := of_decide_eq_true hcn
              split at h
              · rename_i han
                have han := of_decide_eq_true han
                cases h
                exact ⟨_, .ref _ _ _ hR, fun H _ dst ty pos af gd => sta_slice_ref (T := 0) (cells := []) (sliceEl_ok hE) hinf hsz h2 hx hb1 hb2 h3 (.inl hcn) (.inr han)⟩
              · split at h
                · rename_i hend
                  cases h
                  simp only [Bool.and_eq_true] at hend
                  have e1 := Nat.eq_of_beq_eq_true hend.1
                  have e2 := Nat.eq_of_beq_eq_true hend.2
                  subst e1
                  subst e2
                  exact ⟨_, .list rfl fun i d d' h => by simp at h, fun H _ dst ty pos af gd => sta_slice_end (sliceEl_ok hE) hinf hx hb1 hb2⟩
                · cases h
            · split at h
              · rename_i T cells hb
                split at h
                · rename_i hc2
                  cases h
                  simp only [Bool.and_eq_true, decide_eq_true_eq] at hc2
                  obtain ⟨cells', h5, h6⟩ := hS.get hb hR
                  exact ⟨_, .ref _ _ _ hR, fun H ho dst ty pos af gd => sta_slice_ref (sliceEl_ok hE) hinf hsz h2 hx hb1 hb2 h3 (.inr ⟨ho _ _ h5, by rw [← h6.1]; exact hc2.1⟩) (.inl hc2.2)⟩
                · cases h
              · cases h
        · cases h
      · cases h
    · cases h
  · cases h

end Go.Proofs.YtcdihmhmoddppaaGreat

namespace Go.Proofs.YtcdihmhmoddppaaGreat
open Go.RowKit
set_option linter.unusedVariables false
set_option linter.unusedSimpArgs false

def zeroAgg (P : Program) (t : TypeId) : Option (List D) := match P.info? t with
  | some i => match i.zero with
    | some (.agg cs) => unlits cs.toList
    | _ => none
  | none => none

def eBuild (P : Program) (es : Env) (t : TypeId) (parts : Array (Nat × Operand)) : Option D :=
  match zeroAgg P t, P.underlying t, evParts es parts.toList with
  | some zd, some (.struct fs), some pd => match placesOf P fs with
    | some pl => match fillD (pl[·]?) zd pd with
      | some out => some (.agg out)
      | none => none
    | none => none
  | _, _, _ => none

theorem eBuild_ok {P : Program} {R : Nat → Nat → Prop} {H0 : Heap} {es er : Env} {t : TypeId} {parts : Array (Nat × Operand)} {d : D} (hE : RelE R es er) (h : eBuild P es t parts = some d) : StaR P R H0 er (.build t parts) d := by
  unfold eBuild at h
  split at h
  · rename_i zd fs pd hz hu hpd
    split at h
    · rename_i pl hpl
      split at h
      · rename_i out hout
        cases h
        unfold zeroAgg at hz
        split at hz
        · rename_i inf hinf
          split at hz
          · rename_i cs hcs
            obtain ⟨h1, h2⟩ := unlits_ok hz
            obtain ⟨pd', h3, h4⟩ := hE.evParts hpd
            obtain ⟨out', h5, h6⟩ := fill_rel h4 (RnL.lits h2) hout
            exact ⟨_, .agg h6.1 h6.2, fun H _ dst ty pos af gd => sta_build hinf hcs hu hpl (by rw [← h1]) h2 h3 h5⟩
          · cases hz
        · cases hz
      · cases h
    · cases h
  · cases h

def eBuildSlice (P : Program) (es : Env) (t : TypeId) (n : Nat) (parts : Array (Nat × Operand)) : Option D :=
  match sliceEl P t, evParts es parts.toList with
  | some E, some pd => match zeroD P E with
    | some zd => if Nat.beq n 0 && parts.isEmpty then some .nil else match fillD (fun i => some (i * zd.length, zd.length)) (List.replicate n zd).flatten pd with
      | some out => if decide (0 < n) && decide (0 < zd.length) && decide (n * zd.length ≤ 16777216) && Nat.beq out.length (n * zd.length) && out.all D.isCell then some (.list zd.length (chunk zd.length n out)) else none
      | none => none
    | none => none
  | _, _ => none

theorem RnL.flatten {R : Nat → Nat → Prop} {l : List D} (h : RnL R l l) : ∀ (n : Nat), RnL R (List.replicate n l).flatten (List.replicate n l).flatten
  | 0 => .nil
  | n + 1 => by rw [List.replicate_succ, List.flatten_cons]; exact h.append (RnL.flatten h n)

theorem eBuildSlice_ok {P : Program} {R : Nat → Nat → Prop} {H0 : Heap} {es er : Env} {t : TypeId} {n : Nat} {parts : Array (Nat × Operand)} {d : D} (hE : RelE R es er) (h : eBuildSlice P es t n parts = some d) : StaR P R H0 er (.buildSlice t n parts) d := by
  unfold eBuildSlice at h
  split at h
  · rename_i E pd hs hpd
    split at h
    · rename_i zd hz
      obtain ⟨hzo, inf, hinf, hsz⟩ := zeroD_ok hz
      split at h
      · rename_i hc0
        cases h
        simp only [Bool.and_eq_true] at hc0
        have h0 := Nat.eq_of_beq_eq_true hc0.1
        have h1 := Array.isEmpty_iff.1 hc0.2
        subst h0
        subst h1
        exact ⟨_, .nil, fun H _ dst ty pos af gd => sta_buildEmpty (sliceEl_ok hs) hzo⟩
      · split at h
        · rename_i out hout
          split at h
          · rename_i hc
            cases h
            simp only [Bool.and_eq_true, decide_eq_true_eq] at hc
            obtain ⟨⟨⟨⟨h1, h2⟩, h3⟩, h4⟩, h5⟩ := hc
            have h4 := Nat.eq_of_beq_eq_true h4
            obtain ⟨pd', g1, g2⟩ := hE.evParts hpd
            obtain ⟨out', g3, g4⟩ := fill_rel g2 (RnL.flatten (RnL.lits hzo.lit) n) hout
            obtain ⟨g5, g6⟩ := chunk_ok h2 n out' (by rw [← g4.1]; exact h4) (g4.all_cell h5)
            have g7 := RnL.chunk (k := zd.length) n g4
            exact ⟨_, .list g7.1 g7.2, fun H _ dst ty pos af gd => sta_buildSlice (sliceEl_ok hs) hzo h2 h3 h1 g1 (chunk_length _ _ _) (fun d hd => (g6 d hd).1) (by rw [g5]; exact g3)⟩
          · cases h
        · cases h
    · cases h
  · cases h

/-- Calls that leave all as it was and hand back this datum. -/
def PcOk (P : Program) (R : Nat → Nat → Prop) (H0 : Heap) (pc : FuncId → List D → Option D) : Prop :=
  ∀ (f : FuncId) (ds : List D) (d : D), pc f ds = some d → d.closed = true ∧ ∀ ds', RnL R ds ds' → ∀ H, Over H0 H → PureH P H f ds' d

def one? (xs : List Operand) : Option Operand := match xs with | [x] => some x | _ => none
def two? (xs : List Operand) : Option (Operand × Operand) := match xs with | [x, y] => some (x, y) | _ => none

theorem one?_ok {xs : Array Operand} {x : Operand} (h : one? xs.toList = some x) : xs = #[x] := by
  unfold one? at h
  split at h
  · rename_i hx; cases h; apply Array.ext'; exact hx
  · cases h
theorem two?_ok {xs : Array Operand} {x y : Operand} (h : two? xs.toList = some (x, y)) : xs = #[x, y] := by
  unfold two? at h
  split at h
  · rename_i hx; cases h; apply Array.ext'; exact hx
  · cases h
def oneT? (xs : List TypeId) : Option TypeId := match xs with | [x] => some x | _ => none
theorem oneT?_ok {xs : Array TypeId} {x : TypeId} (h : oneT? xs.toList = some x) : xs = #[x] := by
  unfold oneT? at h
  split at h
  · rename_i hx; cases h; apply Array.ext'; exact hx
  · cases h
def twoT? (xs : List TypeId) : Option (TypeId × TypeId) := match xs with | [x, y] => some (x, y) | _ => none
theorem twoT?_ok {xs : Array TypeId} {x y : TypeId} (h : twoT? xs.toList = some (x, y)) : xs = #[x, y] := by
  unfold twoT? at h
  split at h
  · rename_i hx; cases h; apply Array.ext'; exact hx
  · cases h

/-- Who is called, with what. -/
def calleeE (es : Env) (g : Operand) (xs : Array Operand) : Option (FuncId × List D) :=
  match es.ev g, evList es xs.toList with
  | some (.fn f caps), some ds => some (f, ds ++ caps)
  | _, _ => none

theorem calleeE_ok {R : Nat → Nat → Prop} {es er : Env} {g : Operand} {xs : Array Operand} {f : FuncId} {ds : List D} (hE : RelE R es er) (h : calleeE es g xs = some (f, ds)) :
    ∃ caps' ds', er.ev g = some (.fn f caps') ∧ evList er xs.toList = some ds' ∧ RnL R ds (ds' ++ caps') := by
  unfold calleeE at h
  split at h
  · rename_i f' caps ds0 hg hx
    cases h
    obtain ⟨d', h1, h2⟩ := hE.ev hg
    obtain ⟨ds', h3, h4⟩ := hE.evList hx
    cases h2 with
    | fn _ hl hh => exact ⟨_, ds', h1, h3, h4.append ⟨hl, hh⟩⟩
  · cases h

def eCall (pc : FuncId → List D → Option D) (es : Env) (g : Operand) (xs : Array Operand) : Option D :=
  match calleeE es g xs with
  | some (f, ds) => pc f ds
  | none => none

def eBuiltin (P : Program) (es : Env) (b : Builtin) (xs : Array Operand) (ts : Array TypeId) : Option D :=
  match b with
  | .len => match one? xs.toList, oneT? ts.toList with
    | some x, some t => match es.ev x, sliceEl P t with
      | some d, some _ => match lenD d with
        | some n => some (I n)
        | none => none
      | _, _ => none
    | _, _ => none
  | .max => match two? xs.toList with
    | some (x, y) => match es.ev x, es.ev y with
      | some (.int .i64 a), some (.int .i64 b) => some (I (if b > a then b else a))
      | _, _ => none
    | none => none
  | .min => match two? xs.toList with
    | some (x, y) => match es.ev x, es.ev y with
      | some (.int .i64 a), some (.int .i64 b) => some (I (if b < a then b else a))
      | _, _ => none
    | none => none
  | _ => none

theorem eBuiltin_ok {P : Program} {R : Nat → Nat → Prop} {H0 : Heap} {es er : Env} {b : Builtin} {xs : Array Operand} {ts : Array TypeId} {d : D} (hE : RelE R es er) (h : eBuiltin P es b xs ts = some d) : StaR P R H0 er (.call ⟨.builtin b, xs, ts⟩) d := by
  unfold eBuiltin at h
  split at h
  · split at h
    · rename_i x t hx ht
      split at h
      · rename_i dx E hev hs
        split at h
        · rename_i n hn
          cases h
          have := one?_ok hx
          subst this
          have := oneT?_ok ht
          subst this
          obtain ⟨d', h1, h2⟩ := hE.ev hev
          have hn' : lenD d' = some n := by
            cases h2 with
            | nil => exact hn
            | list hl hh => simp only [lenD] at hn ⊢; rw [← hl]; exact hn
            | ref => exact hn
            | _ => cases hn
          exact ⟨_, .int _ _, fun H _ dst ty pos af gd => sta_len (sliceEl_ok hs) h1 hn'⟩
        · cases h
      · cases h
    · cases h
  · split at h
    · rename_i x y hx
      split at h
      · rename_i a b ha hb
        cases h
        have := two?_ok hx
        subst this
        obtain ⟨a', h1, h2⟩ := hE.ev ha
        obtain ⟨b', h3, h4⟩ := hE.ev hb
        cases h2; cases h4
        exact ⟨_, .int _ _, fun H _ dst ty pos af gd => sta_max h1 h3⟩
      · cases h
    · cases h
  · split at h
    · rename_i x y hx
      split at h
      · rename_i a b ha hb
        cases h
        have := two?_ok hx
        subst this
        obtain ⟨a', h1, h2⟩ := hE.ev ha
        obtain ⟨b', h3, h4⟩ := hE.ev hb
        cases h2; cases h4
        exact ⟨_, .int _ _, fun H _ dst ty pos af gd => sta_min h1 h3⟩
      · cases h
    · cases h
  · cases h

def eConvert (P : Program) (t u : TypeId) : D → Option D
  | .int .i64 a => match P.underlying t, P.underlying u with
    | some (.int .i64), some (.int .u64) => if decide (0 ≤ a) && decide (a < 1000000) then some (.int .u64 a) else none
    | _, _ => none
  | _ => none

def staE (P : Program) (aggEq : TypeId → List D → List D → Option Bool) (pc : FuncId → List D → Option D) (S : SH) (es : Env) : Op → Option D
  | .move x => es.ev x
  | .assign x => es.ev x
  | .pick c a b => match es.ev c with
    | some (.bool true) => es.ev a
    | some (.bool false) => es.ev b
    | _ => none
  | .binOp op tx x y _ => match es.ev x, es.ev y with
    | some a, some b => eBin P aggEq op tx y a b
    | _, _ => none
  | .unOp .not _ x => match es.ev x with
    | some (.bool b) => some (.bool (!b))
    | _ => none
  | .convert t u x => match es.ev x with
    | some a => eConvert P t u a
    | none => none
  | .extract x i => match es.ev x with
    | some (.tup l) => l[i]?
    | _ => none
  | .fieldAddr t x f => match es.ev x with
    | some a => eFieldAddr P t f a
    | none => none
  | .field t x f => match es.ev x with
    | some a => eField P t f a
    | none => none
  | .indexAddr t x y => match es.ev x, es.ev y with
    | some a, some i => eIndexAddr P t i a
    | _, _ => none
  | .load t x => match es.ev x with
    | some a => eLoad P S t a
    | none => none
  | .nilCheck x => match es.ev x with
    | some (.ptr b off) => some (.ptr b off)
    | _ => none
  | .build t parts => eBuild P es t parts
  | .buildSlice t n parts => eBuildSlice P es t n parts
  | .makeFunc (.func f) first caps => if first.isEmpty then match evList es caps.toList with
    | some ds => some (.fn f ds)
    | none => none else none
  | .slice t x lo hi none => match es.ev x with
    | some a => match lenD a with
      | some n => eSlice P S t (boundD es lo 0) (boundD es hi n) a
      | none => none
    | none => none
  | .call ⟨.builtin b, xs, ts⟩ => eBuiltin P es b xs ts
  | .call ⟨.value g, xs, _⟩ => eCall pc es g xs
  | _ => none

theorem staE_ok {P : Program} {aggEq : TypeId → List D → List D → Option Bool} (hagg : AggOk P aggEq) {pc : FuncId → List D → Option D} {R : Nat → Nat → Prop} {n : Nat} {S : SH} {H0 : Heap} {es er : Env} {op : Op} {d : D}
    (hpc : PcOk P R H0 pc) (hE : RelE R es er) (hS : RelS R n S H0) (h : staE P aggEq pc S es op = some d) : StaR P R H0 er op d := by
  unfold staE at h
  split at h
  · obtain ⟨d', h1, h2⟩ := hE.ev h
    exact ⟨d', h2, fun H _ dst ty pos af gd => sta_move h1⟩
  · obtain ⟨d', h1, h2⟩ := hE.ev h
    exact ⟨d', h2, fun H _ dst ty pos af gd => sta_assign h1⟩
  · split at h
    · rename_i hc
      obtain ⟨c', h1, h2⟩ := hE.ev hc
      cases h2
      obtain ⟨d', h3, h4⟩ := hE.ev h
      exact ⟨d', h4, fun H _ dst ty pos af gd => s_pickT h1 h3⟩
    · rename_i hc
      obtain ⟨c', h1, h2⟩ := hE.ev hc
      cases h2
      obtain ⟨d', h3, h4⟩ := hE.ev h
      exact ⟨d', h4, fun H _ dst ty pos af gd => s_pickF h1 h3⟩
    · cases h
  · split at h
    · rename_i a b ha hb
      obtain ⟨a', h1, h2⟩ := hE.ev ha
      obtain ⟨b', h3, h4⟩ := hE.ev hb
      exact eBin_ok hagg h h1 h3 h2 h4
    · cases h
  · split at h
    · rename_i b hb
      cases h
      obtain ⟨b', h1, h2⟩ := hE.ev hb
      cases h2
      exact ⟨_, .bool _, fun H _ dst ty pos af gd => sta_not h1⟩
    · cases h
  · split at h
    · rename_i a ha
      obtain ⟨a', h1, h2⟩ := hE.ev ha
      unfold eConvert at h
      split at h
      · cases h2
        split at h
        · rename_i ht hu
          split at h
          · rename_i hc
            cases h
            simp only [Bool.and_eq_true, decide_eq_true_eq] at hc
            rename_i a0
            obtain ⟨m, rfl⟩ := Int.eq_ofNat_of_zero_le hc.1
            exact ⟨_, .int _ _, fun H _ dst ty pos af gd => s_uint hu ht h1 (by omega)⟩
          · cases h
        · cases h
      · cases h
    · cases h
  · split at h
    · rename_i l hl
      obtain ⟨l', h1, h2⟩ := hE.ev hl
      cases h2 with
      | tup hl hh =>
        obtain ⟨d', h3, h4⟩ := RnL.get ⟨hl, hh⟩ h
        exact ⟨d', h4, fun H _ dst ty pos af gd => sta_extract h1 h3⟩
    · cases h
  · split at h
    · rename_i a ha
      obtain ⟨a', h1, h2⟩ := hE.ev ha
      exact eFieldAddr_ok h h1 h2
    · cases h
  · split at h
    · rename_i a ha
      obtain ⟨a', h1, h2⟩ := hE.ev ha
      exact eField_ok h h1 h2
    · cases h
  · split at h
    · rename_i a i ha hi
      obtain ⟨a', h1, h2⟩ := hE.ev ha
      obtain ⟨i', h3, h4⟩ := hE.ev hi
      exact eIndexAddr_ok h h1 h3 h2 h4
    · cases h
  · split at h
    · rename_i a ha
      obtain ⟨a', h1, h2⟩ := hE.ev ha
      exact eLoad_ok hS h h1 h2
    · cases h
  · split at h
    · rename_i b off ha
      cases h
      obtain ⟨a', h1, h2⟩ := hE.ev ha
      cases h2 with
      | ptr _ hR => exact ⟨_, .ptr _ hR, fun H _ dst ty pos af gd => s_nilCheck h1⟩
    · cases h
  · exact eBuild_ok hE h
  · exact eBuildSlice_ok hE h
  · split at h
    · rename_i hf
      split at h
      · rename_i ds hds
        cases h
        obtain ⟨ds', h1, h2⟩ := hE.evList hds
        rw [Array.isEmpty_iff] at hf
        subst hf
        exact ⟨_, .fn _ h2.1 h2.2, fun H _ dst ty pos af gd => s_fn h1⟩
      · cases h
    · cases h
  · split at h
    · rename_i a ha
      split at h
      · rename_i m hm
        obtain ⟨a', h1, h2⟩ := hE.ev ha
        refine eSlice_ok hS h h1 h2 (fun m hm => hE.bound hm) fun c n' hn hc => ?_
        rw [hm] at hn
        cases hn
        exact hE.bound hc
      · cases h
    · cases h
  · exact eBuiltin_ok hE h
  · unfold eCall at h
    split at h
    · rename_i f ds hc
      obtain ⟨caps', ds', h1, h2, h3⟩ := calleeE_ok hE hc
      obtain ⟨h4, h5⟩ := hpc _ _ _ h
      exact ⟨d, .closed _ h4, fun H ho dst ty pos af gd => sta_call h1 h2 (h5 _ h3 H ho)⟩
    · cases h
  · cases h

/-- A box that nothing writes. -/
def staB (P : Program) (mb : TypeId → Bool) (aggEq : TypeId → List D → List D → Option Bool) (pc : FuncId → List D → Option D) (S : SH) (es : Env) : Op → Option D
  | .box t x => if mb t then none else match es.ev x with
    | some d => some (.ipt (cellsOf d).length [d] 0 0)
    | none => none
  | op => staE P aggEq pc S es op

theorem staB_ok {P : Program} {mb : TypeId → Bool} {aggEq : TypeId → List D → List D → Option Bool} (hagg : AggOk P aggEq) {pc : FuncId → List D → Option D} {R : Nat → Nat → Prop} {n : Nat} {S : SH} {H0 : Heap} {es er : Env} {op : Op} {d : D}
    (hpc : PcOk P R H0 pc) (hE : RelE R es er) (hS : RelS R n S H0) (h : staB P mb aggEq pc S es op = some d) : StaR P R H0 er op d := by
  unfold staB at h
  split at h
  · split at h
    · cases h
    · split at h
      · rename_i d hx
        cases h
        obtain ⟨d', h1, h2⟩ := hE.ev hx
        have h3 := RnL.one h2
        refine ⟨.ipt (cellsOf d).length [d'] 0 0, .ipt 0 0 h3.1 h3.2, fun H _ dst ty pos af gd => sta_box h1 h2.cells.1.symm⟩
      · cases h
  · exact staE_ok hagg hpc hE hS h

end Go.Proofs.YtcdihmhmoddppaaGreat
