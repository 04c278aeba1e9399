/-
  DERIVED: THE SHELF's CONTRACTS AT THIS DUMP, IN PLAIN WORDS (tools/lay-plain.mjs out of 'TryzShelf.lean', which tools/lay-shelf.mjs wrote): THE SAME DECLARATIONS UNDER THE SAME NAMES: 'import', 'namespace', 'open', 'def', 'theorem' AND NOTHING ELSE: no command of the shelf's: FOR A HAND-IN. Each laying: the table of numbers ('.._ren') and one theorem, a field a fact of the dump's own or the kernel's comparison; each contract: ONE APPLICATION.
-/
import Derived.Test.YtcdihmhmoddppaaGreatKRc13
import Derived.Test.YtcdihmhmoddppaaGreatKRc7
import Derived.Test.YtcdihmhmoddppaaGreatKRc8
import Derived.Shelf.Small.Bits
import Derived.Test.YtcdihmhmoddppaaGreatProg

namespace Go.Proofs.YtcdihmhmoddppaaGreat
open Go.RowKit
set_option linter.unusedVariables false
set_option linter.unusedSimpArgs false

/-! ### Two variables made in a drawn region -/

/-- A variable that is made. -/
def allocOf : Oper → Option (Nat × TypeId)
  | ⟨some s, .alloc T, _, _, _, none⟩ => some (s, T)
  | _ => none

theorem allocOf_ok {o : Oper} {s : Nat} {T : TypeId} (h : allocOf o = some (s, T)) : ∃ ty pos af, o = ⟨some s, .alloc T, ty, pos, af, none⟩ := by
  unfold allocOf at h
  split at h
  · cases h; exact ⟨_, _, _, rfl⟩
  · cases h

def split2 : List Oper → Option (List Oper × Oper × Oper × List Oper)
  | o1 :: o2 :: rest => match allocOf o1, allocOf o2 with
    | some _, some _ => some ([], o1, o2, rest)
    | _, _ => match split2 (o2 :: rest) with
      | some (pre, a, b, suf) => some (o1 :: pre, a, b, suf)
      | none => none
  | _ => none

theorem split2_ok : ∀ {l pre suf : List Oper} {a b : Oper}, split2 l = some (pre, a, b, suf) → l = pre ++ ([a, b] ++ suf)
  | [], pre, suf, a, b, h => by cases h
  | [o], pre, suf, a, b, h => by cases h
  | o1 :: o2 :: rest, pre, suf, a, b, h => by
    unfold split2 at h
    split at h
    · cases h; rfl
    · split at h
      · rename_i p a' b' s hs
        cases h
        rw [split2_ok hs]; rfl
      · cases h

/-- Which of the static ones may come late: a guess, that is checked. -/
def guessFree2 (ops : List Oper) (pl : Nat) : List Nat :=
  let ms := masks [] ops
  (List.range pl).filter fun j => !((List.range ops.length).all fun i => Nat.blt i (pl + 2) || (ms.getD i 0).testBit j)

def apartB (ops pre : List Oper) (s1 s2 : Nat) : Bool := pre.all fun o => (opTmps o ++ guardTmp ops o).all fun t => !(Nat.beq t s1) && !(Nat.beq t s2)

theorem apartB_ok {ops pre : List Oper} {s1 s2 : Nat} (h : apartB ops pre s1 s2 = true) (i : Nat) (o : Oper) (ho : pre[i]? = some o) : s1 ∉ opTmps o ++ guardTmp ops o ∧ s2 ∉ opTmps o ++ guardTmp ops o := by
  unfold apartB at h
  have h := List.all_eq_true.1 h o (List.mem_of_getElem? ho)
  constructor
  · intro hm
    have h := List.all_eq_true.1 h _ hm
    rw [Nat.beq_refl] at h
    simp at h
  · intro hm
    have h := List.all_eq_true.1 h _ hm
    rw [Nat.beq_refl s2] at h
    simp at h

def guessKeep2 (ops : List Oper) (es : Env) (free : List Nat) (S : SH) : SH := match free with
  | [] => []
  | _ => let ws := ops.filterMap (storeTo es (bases es S ops []))
    S.filter fun p => !(ws.contains p.1)

def ev2 (P : Program) (X : Run) (ops pre suf : List Oper) (a b : Oper) (es : Env) (S : SH) (n : Nat) : Option (Env × SH × Nat) :=
  match allocOf a, allocOf b with
  | some (s1, T1), some (s2, T2) => match zeroD P T1, zeroD P T2 with
    | some z1, some z2 =>
      let free := guessFree2 ops pre.length
      let Sf := guessKeep2 ops es free S
      if ordX2 ops (List.range pre.length) free (pre.length + 2) && Nat.blt s1 X.N && Nat.blt s2 X.N && apartB ops pre s1 s2 && sameS Sf S then
        match evS P X ops free Sf S n pre.zipIdx es with
        | some es => match putEv X.N es (some s1) (.ptr n 0) with
          | some es => match putEv X.N es (some s2) (.ptr (n + 1) 0) with
            | some es => evD P X ops Sf (suf.zipIdx (pre.length + 2)) es ((n + 1, (T2, z2)) :: (n, (T1, z1)) :: S) (n + 2)
            | none => none
          | none => none
        | none => none
      else none
    | _, _ => none
  | _, _ => none

theorem ev2_ok {C : Ctx} {X : Run} (hX : RunOk C.P X) (hN : C.N = X.N) (hm : C.P.follows .mixedOrders = true) {id : Nat} {ops pre suf : List Oper} {a b : Oper} {es es' er : Env} {S S' : SH} {n n' : Nat} {R : Nat → Nat → Prop} {H : Heap} (hops : ops = pre ++ ([a, b] ++ suf))
    (h : ev2 C.P X ops pre suf a b es S n = some (es', S', n')) (hlo : X.lo ≤ n) (hE : RelE R es er) (hS : RelS R n S H) : DW C (.region id ops.toArray true) er H fun x er' H' => x = .normal ∧ Out X.lo R n S H es' S' n' er' H' := by
  unfold ev2 at h
  split at h
  · rename_i s1 T1 s2 T2 ha hb
    split at h
    · rename_i z1 z2 hz1 hz2
      simp only at h
      split at h
      · rename_i hc
        simp only [Bool.and_eq_true] at hc
        obtain ⟨⟨⟨⟨c1, c2⟩, c3⟩, c4⟩, c5⟩ := hc
        have hsub := sameS_ok c5
        obtain ⟨hzo1, _⟩ := zeroD_ok hz1
        obtain ⟨hzo2, _⟩ := zeroD_ok hz2
        split at h
        · rename_i es1 h1
          split at h
          · rename_i es2 h2
            split at h
            · rename_i es3 h3
              subst hops
              obtain ⟨Hs, hov0, hrel, hlater⟩ := keepHeap hS hsub
              refine DW.draw2X pre suf _ Hs ⟨s1, T1, z1, s2, T2, z2⟩ hm c1 hov0 (apartB_ok c4) hzo1 hzo2 (by rw [hN]; simpa [Nat.blt_eq] using c2) (by rw [hN]; simpa [Nat.blt_eq] using c3) (allocOf_ok ha) (allocOf_ok hb) (evS_ok hX hN hS hrel hov0 h1 hE fun er1 hE1 b1 b2 hb1 hb2 hne => ?_)
              obtain ⟨g1, g2⟩ := new_block' (lo := X.lo) (T := T1) hS hlo hb1 (RnL.lits (R := R) hzo1.lit)
              have hb2' : (H.set b1 (T1, z1)) b2 = none := by rw [Heap.set_other _ _ (Ne.symm hne)]; exact hb2
              obtain ⟨g3, g4⟩ := new_block' (lo := X.lo) (T := T2) g1 (by omega) hb2' (RnL.lits hzo2.lit)
              obtain ⟨_, k1⟩ := putEv_ok (d' := .ptr b1 0) h2 (hE1.mono g2.le) (.ptr _ (.inr ⟨rfl, rfl⟩))
              obtain ⟨_, k2⟩ := putEv_ok (d' := .ptr b2 0) h3 (k1.mono g4.le) (.ptr _ (.inr ⟨rfl, rfl⟩))
              have hle2 : ∀ x y, R x y → addR (addR R n b1) (n + 1) b2 x y := fun x y hxy => .inl (.inl hxy)
              have hov : Over Hs ((H.set b1 (T1, z1)).set b2 (T2, z2)) := (hov0.set (Over.none hov0 hb1)).set (Over.none hov0 hb2)
              refine RY.mono (fun er' H' hO => ⟨rfl, Out.trans hS g3 (g2.trans hS.lt g1.lt g4) hO⟩) (evD_ok hX hN h (by omega) k2 g3 hov fun R' n2 S2 H2 hle hS2 hs2 => hlater _ _ _ _ (fun x y hxy => hle x y (hle2 x y hxy)) hS2 (sameS_ok hs2))
            · cases h
          · cases h
        · cases h
      · cases h
    · cases h
  · cases h

/-! ### A region whose last operation's result nothing reads -/

theorem St.dead2 {C : Ctx} {a : Act} {w : World} {e : Env} {H : Heap} {s : Nat} (h : St C a w e H) (v : Value) : St C (a.put (some s) v) w (e.rm s) H := by
  refine ⟨by simp [Act.put, h.size], h.defers, fun t x hx => ?_, h.heap, h.ext⟩
  rw [Env.get_rm] at hx
  split at hx
  · cases hx
  · rename_i hne
    obtain ⟨u, hu, hr⟩ := h.env t x hx
    refine ⟨u, ?_, hr⟩
    simp only [Act.put]
    rw [Array.getElem?_setIfInBounds, if_neg (fun hh => hne hh.symm)]
    exact hu

theorem RO.soundD2 {C : Ctx} {ops : List Oper} {o0 : Oper} {s : Nat} {K : Env → Heap → Prop} {Q : Exit → Act → World → Prop} (hg0 : o0.guard = none) (hd0 : o0.dst = some s)
    (hQ : ∀ e H a w, K e H → St C a w e H → Q .normal a w) :
    ∀ (r : List Oper) (e : Env) (H : Heap) (a : Act) (w : World), RO C ops r e H (fun e' H' => DeadOp C.P H' e' o0 ∧ K (e'.rm s) H') → St C a w e H → wpList C.P ops.toArray Q (r ++ [o0]) a w
  | [], e, H, a, w, ⟨h1, h3⟩, hst => by
    refine wpList_step fun L hL => ?_
    simp only [Region.wanted, hg0, if_true]
    refine wp_of_opTo (h1 a.eval w hst.agree hst.heap) fun v w' hw => hL _ _ (wpList_nil (hQ _ H _ _ h3 ?_))
    subst hw
    rw [hd0]
    exact hst.dead2 v
  | o :: rest, e, H, a, w, h, hst => by
    obtain ⟨hd, hg⟩ := h
    have yes : (OpD C.P H e o fun d H' => RO C ops rest (e.putO o.dst d) H' _) → ∀ L : Act → World → Prop, (∀ a w, wpList C.P ops.toArray Q (rest ++ [o0]) a w → L a w) → o.wp C.P a w L Q := fun hop L hL =>
      wp_of_opTo (hop.go a.eval w hst.agree hst.heap) fun v w' ⟨d, H', hk, hr, ho, he⟩ => hL _ _ (RO.soundD2 hg0 hd0 hQ rest _ H' _ w' hk (hst.put hd hr ho he))
    have no : RO C ops rest (e.putO o.dst (.tup [])) H _ → wpList C.P ops.toArray Q (rest ++ [o0]) (a.put o.dst undef) w := fun hk =>
      RO.soundD2 hg0 hd0 hQ rest _ H _ w hk (hst.put hd (RepsA.tup (vs := #[]) (ds := []) ⟨rfl, fun j x hx => by simp at hx⟩) hst.heap (.refl _ _))
    refine wpList_step fun L hL => ?_
    unfold GuardIs at hg
    cases hgu : o.guard with
    | none =>
      rw [hgu] at hg
      simp only [Region.wanted, hgu, if_true]
      exact yes hg L hL
    | some jw =>
      obtain ⟨j, want⟩ := jw
      rw [hgu] at hg
      obtain ⟨b, hb, h1, h2⟩ := hg
      have hy := guard_yielded hst hb
      by_cases hbw : b = some want
      · rw [if_pos (by simp only [Region.wanted, hgu, hy, hbw]; exact beq_self_eq_true _)]
        exact yes (h1 hbw) L hL
      · rw [if_neg (by simp only [Region.wanted, hgu, hy]; intro hx; exact hbw (by simpa using hx))]
        exact hL _ _ (no (h2 hbw))

def isSlice3 : Oper → Bool
  | ⟨some _, .slice _ _ (some _) (some _) (some _), _, _, _, none⟩ => true
  | _ => false

def splitLast : List Oper → Option (List Oper × Oper)
  | [] => none
  | [o] => if isSlice3 o then some ([], o) else none
  | o :: rest => match splitLast rest with
    | some (l, x) => some (o :: l, x)
    | none => none

theorem splitLast_ok : ∀ {l pre : List Oper} {x : Oper}, splitLast l = some (pre, x) → l = pre ++ [x]
  | [], pre, x, h => by cases h
  | [o], pre, x, h => by
    unfold splitLast at h
    split at h
    · cases h; rfl
    · cases h
  | o :: o2 :: rest, pre, x, h => by
    simp only [splitLast] at h
    split at h
    · rename_i l y hl
      cases h
      rw [splitLast_ok hl]; rfl
    · cases h

def evDead (P : Program) (X : Run) (ops pre : List Oper) (x : Oper) (es : Env) (S : SH) (n : Nat) : Option (Env × SH × Nat) :=
  match x with
  | ⟨some s, .slice t v (some lo) (some hi) (some mx), _, _, _, none⟩ => match evOps P X ops pre es S n with
    | some (es, S, n) => match es.ev v, es.ev lo, es.ev hi, es.ev mx, sliceEl P t with
      | some (.ref _ _ len _), some (.int .i64 a), some (.int .i64 c), some (.int .i64 m), some E => match sizeT P E with
        | some _ => if decide (0 ≤ a) && decide (a ≤ c) && decide (c ≤ m) && decide (m ≤ len) then some (es.rm s, S, n) else none
        | none => none
      | _, _, _, _, _ => none
    | none => none
  | _ => none

theorem RelE.rm {R : Nat → Nat → Prop} {es er : Env} (h : RelE R es er) (s : Nat) : RelE R (es.rm s) (er.rm s) := fun t d hd => by
  rw [Env.get_rm] at hd ⊢
  split at hd
  · cases hd
  · rename_i hne
    rw [if_neg hne]
    exact h t d hd

theorem evDead_ok {C : Ctx} {X : Run} (hX : RunOk C.P X) (hN : C.N = X.N) {id : Nat} {ops pre : List Oper} {x : Oper} {es es' er : Env} {S S' : SH} {n n' : Nat} {R : Nat → Nat → Prop} {H : Heap} (hops : ops = pre ++ [x])
    (h : evDead C.P X ops pre x es S n = some (es', S', n')) (hlo : X.lo ≤ n) (hE : RelE R es er) (hS : RelS R n S H) : DW C (.region id ops.toArray false) er H fun y er' H' => y = .normal ∧ Out X.lo R n S H es' S' n' er' H' := by
  unfold evDead at h
  split at h
  · rename_i s t v lo hi mx ty pos af
    split at h
    · rename_i es1 S1 n1 h1
      split at h
      · rename_i b off len k a c m E hv hlo' hhi hmx hs
        split at h
        · rename_i kk hk
          split at h
          · rename_i hc
            cases h
            simp only [Bool.and_eq_true, decide_eq_true_eq] at hc
            obtain ⟨⟨⟨c1, c2⟩, c3⟩, c4⟩ := hc
            obtain ⟨inf, hinf, _⟩ := sizeT_ok hk
            obtain ⟨a, rfl⟩ := Int.eq_ofNat_of_zero_le c1
            obtain ⟨c, rfl⟩ := Int.eq_ofNat_of_zero_le (Int.le_trans c1 c2)
            obtain ⟨m, rfl⟩ := Int.eq_ofNat_of_zero_le (Int.le_trans (Int.le_trans c1 c2) c3)
            refine .mk fun ac w hst => wp_region_lit ?_
            have hro := (evOps_ok hX hN h1 hlo hE hS).mono (K' := fun e' H' => DeadOp C.P H' e' ⟨some s, .slice t v (some lo) (some hi) (some mx), ty, pos, af, none⟩ ∧ Out X.lo R n S H (es1.rm s) S' n' (e'.rm s) H') fun er' H' hO => by
              obtain ⟨R', g1, g2, g3⟩ := hO
              obtain ⟨v', e1, e2⟩ := g2.ev hv
              obtain ⟨l', e3, e4⟩ := g2.ev hlo'
              obtain ⟨h', e5, e6⟩ := g2.ev hhi
              obtain ⟨m', e7, e8⟩ := g2.ev hmx
              cases e2; cases e4; cases e6; cases e8
              exact ⟨dead_slice (sliceEl_ok hs) hinf e1 e3 e5 e7 (by omega) (by omega) (by omega), R', g1, g2.rm s, g3⟩
            have := RO.soundD2 (Q := lift C fun y er' H' => y = .normal ∧ Out X.lo R n S H (es1.rm s) S' n' er' H') (K := fun er' H' => Out X.lo R n S H (es1.rm s) S' n' er' H') (s := s) rfl rfl (fun e' H' a' w' hk hs' => ⟨e', H', ⟨rfl, hk⟩, hs'⟩) pre er H ac w hro hst
            rw [← hops] at this
            exact this
          · cases h
        · cases h
      · cases h
    · cases h
  · cases h

/-! ### Parts of a drawn region -/

/-- Where a region may be cut. -/
def cutsOf (ops : List Oper) : List Nat :=
  let ms := masks [] ops
  ((List.range ops.length).map (· + 1)).filter fun c => (List.range ops.length).all fun i => Nat.blt i c || Nat.beq (Nat.land (ms.getD i 0) (2 ^ c - 1)) (2 ^ c - 1)

def freeIn (ops : List Oper) (c cB : Nat) (st : List Nat) : List Nat :=
  let ms := masks [] ops
  st.filter fun j => !((List.range ops.length).all fun i => Nat.blt i c || !Nat.blt i cB || st.contains i || (ms.getD i 0).testBit j)

def evWin (P : Program) (X : Run) (raw : FuncId → Bool) (ops : List Oper) : Nat → List Nat → Env → SH → Nat → Option (Env × SH × Nat)
  | c, [], es, S, n => if Nat.beq c ops.length then some (es, S, n) else none
  | c, cB :: cs, es, S, n =>
    let st := guessSt raw X.mb es ops ((ops.zipIdx.take cB).drop c) []
    let free := freeIn ops c cB st
    let Sf := guessKeep ops es free S
    if ordW ops c cB st free && sameS Sf S then
      match evS P X ops free Sf S n (pickS ops st) es with
      | some es => match evD P X ops Sf (pickW ops c cB st) es S n with
        | some (es, S, n) => evWin P X raw ops cB cs es S n
        | none => none
      | none => none
    else none

theorem RX.mono {C : Ctx} {H Hs : Heap} {free : List Nat} {ops : List Oper} {K K' : Env → Prop} (hk : ∀ e, K e → K' e) : ∀ {l : List (Oper × Nat)} {e : Env}, RX C H Hs free ops l e K → RX C H Hs free ops l e K'
  | [], e, h => hk e h
  | (o, i) :: rest, e, ⟨hd, hg⟩ => by
    refine ⟨hd, ?_⟩
    unfold GuardIs at hg ⊢
    split at hg
    · obtain ⟨d, h1, h2⟩ := hg
      exact ⟨d, h1, RX.mono hk h2⟩
    · obtain ⟨b, hb, h1, h2⟩ := hg
      refine ⟨b, hb, fun he => ?_, fun hne => RX.mono hk (h2 hne)⟩
      obtain ⟨d, h3, h4⟩ := h1 he
      exact ⟨d, h3, RX.mono hk h4⟩

theorem RW.mono {C : Ctx} {ops : List Oper} {K K' : Env → Heap → Prop} (hk : ∀ e H, K e H → K' e H) : ∀ {ws c : Nat} {e : Env} {H : Heap}, RW C ops c ws e H K → RW C ops c ws e H K'
  | 0, c, e, H, h => ⟨h.1, hk e H h.2⟩
  | ws + 1, c, e, H, h => by
    obtain ⟨x, hok, Hs, hHs, h⟩ := h
    exact ⟨x, hok, Hs, hHs, RX.mono (fun ef h => RY.mono (fun e' H' h => RW.mono hk h) h) h⟩

theorem evWin_ok {C : Ctx} {X : Run} {raw : FuncId → Bool} (hX : RunOk C.P X) (hN : C.N = X.N) {ops : List Oper} : ∀ {cs : List Nat} {c : Nat} {es es' er : Env} {S S' : SH} {n n' : Nat} {R : Nat → Nat → Prop} {H : Heap}, evWin C.P X raw ops c cs es S n = some (es', S', n') → X.lo ≤ n → RelE R es er → RelS R n S H →
    RW C ops c cs.length er H fun er' H' => Out X.lo R n S H es' S' n' er' H'
  | [], c, es, es', er, S, S', n, n', R, H, h, hlo, hE, hS => by
    unfold evWin at h
    split at h
    · rename_i hc
      cases h
      exact ⟨Nat.eq_of_beq_eq_true hc, R, .refl _ _ _ _ _, hE, hS⟩
    · cases h
  | cB :: cs, c, es, es', er, S, S', n, n', R, H, h, hlo, hE, hS => by
    unfold evWin at h
    simp only at h
    split at h
    · rename_i hc
      simp only [Bool.and_eq_true] at hc
      obtain ⟨hord, hsm⟩ := hc
      have hsub := sameS_ok hsm
      split at h
      · rename_i es1 hs1
        split at h
        · rename_i es2 S2 n2 hd2
          obtain ⟨Hs, hov0, hrel, hlater⟩ := keepHeap hS hsub
          refine ⟨⟨cB, _, _⟩, hord, Hs, hov0, evS_ok hX hN hS hrel hov0 hs1 hE fun er1 hE1 => ?_⟩
          refine RY.mono (fun er2 H2 hO => ?_) (evD_ok hX hN hd2 hlo hE1 hS hov0 fun R' n2 S2 H2 hle hS2 hs2 => hlater _ _ _ _ hle hS2 (sameS_ok hs2))
          obtain ⟨R2, g1, g2, g3⟩ := hO
          exact RW.mono (fun er3 H3 hO => Out.trans hS g3 g1 hO) (evWin_ok hX hN h (Nat.le_trans hlo g1.nn) g2 g3)
        · cases h
      · cases h
    · cases h

/-! ### Code -/

inductive Ex where
  | normal
  | exit (id : Nat)
  | ret

def Ex.to : Ex → Exit
  | .normal => .normal
  | .exit id => .exit id
  | .ret => .ret

def evRegion (P : Program) (X : Run) (raw : FuncId → Bool) (ops : List Oper) (draw : Bool) (es : Env) (S : SH) (n : Nat) : Option (Env × SH × Nat) :=
  match draw with
  | false => match splitLast ops with
    | some (pre, x) => evDead P X ops pre x es S n
    | none => evOps P X ops ops es S n
  | true => match split2 ops with
    | some (pre, a, b, suf) => ev2 P X ops pre suf a b es S n
    | none => match evMix P X raw ops es S n with
      | some r => some r
      | none => evWin P X raw ops 0 (cutsOf ops) es S n

def iterE (body : Env → SH → Nat → Option (Ex × Env × SH × Nat)) : Nat → Env → SH → Nat → Option (Ex × Env × SH × Nat)
  | 0, _, _, _ => none
  | f + 1, es, S, n => match body es S n with
    | some (.normal, es, S, n) => iterE body f es S n
    | r => r

def evC (P : Program) (X : Run) (raw : FuncId → Bool) : Code → Env → SH → Nat → Option (Ex × Env × SH × Nat)
  | .skip, es, S, n => some (.normal, es, S, n)
  | .exit id, es, S, n => some (.exit id, es, S, n)
  | .ret, es, S, n => some (.ret, es, S, n)
  | .seq a b, es, S, n => match evC P X raw a es S n with
    | some (.normal, es, S, n) => evC P X raw b es S n
    | r => r
  | .cond c a b, es, S, n => match es.ev c with
    | some (.bool true) => evC P X raw a es S n
    | some (.bool false) => evC P X raw b es S n
    | _ => none
  | .block id a, es, S, n => match evC P X raw a es S n with
    | some (.exit id', es, S, n) => if Nat.beq id' id then some (.normal, es, S, n) else some (.exit id', es, S, n)
    | r => r
  | .loop a, es, S, n => iterE (evC P X raw a) X.lf es S n
  | .region _ ops draw, es, S, n => match evRegion P X raw ops.toList draw es S n with
    | some (es, S, n) => some (.normal, es, S, n)
    | none => none
  | _, _, _, _ => none

theorem evRegion_ok {C : Ctx} {X : Run} {raw : FuncId → Bool} (hX : RunOk C.P X) (hN : C.N = X.N) (hm : C.P.follows .mixedOrders = true) {id : Nat} {ops : Array Oper} {draw : Bool} {es es' er : Env} {S S' : SH} {n n' : Nat} {R : Nat → Nat → Prop} {H : Heap}
    (h : evRegion C.P X raw ops.toList draw es S n = some (es', S', n')) (hlo : X.lo ≤ n) (hE : RelE R es er) (hS : RelS R n S H) : DW C (.region id ops draw) er H fun y er' H' => y = .normal ∧ Out X.lo R n S H es' S' n' er' H' := by
  have e0 : ops = ops.toList.toArray := by simp
  generalize hl : ops.toList = l at h e0
  subst e0
  unfold evRegion at h
  split at h
  · split at h
    · rename_i pre x hs
      exact evDead_ok hX hN (splitLast_ok hs) h hlo hE hS
    · exact DW.region ((evOps_ok hX hN h hlo hE hS).mono fun er' H' hO => ⟨rfl, hO⟩)
  · split at h
    · rename_i pre a b suf hs
      exact ev2_ok hX hN hm (split2_ok hs) h hlo hE hS
    · split at h
      · rename_i r hr
        cases h
        exact evMix_ok hX hN hm hr hlo hE hS
      · exact DW.drawW _ hm ((evWin_ok hX hN h hlo hE hS).mono fun er' H' hO => ⟨rfl, hO⟩)

theorem evC_ok {C : Ctx} {X : Run} {raw : FuncId → Bool} (hX : RunOk C.P X) (hN : C.N = X.N) (hm : C.P.follows .mixedOrders = true) : ∀ (c : Code) {es es' er : Env} {S S' : SH} {n n' : Nat} {x : Ex} {R : Nat → Nat → Prop} {H : Heap},
    evC C.P X raw c es S n = some (x, es', S', n') → X.lo ≤ n → RelE R es er → RelS R n S H → DW C c er H fun y er' H' => y = x.to ∧ Out X.lo R n S H es' S' n' er' H' := by
  intro c
  induction c with
  | skip =>
    intro es es' er S S' n n' x R H h hlo hE hS
    cases h
    exact DW.skip ⟨rfl, R, .refl _ _ _ _ _, hE, hS⟩
  | exit id =>
    intro es es' er S S' n n' x R H h hlo hE hS
    cases h
    exact DW.exit ⟨rfl, R, .refl _ _ _ _ _, hE, hS⟩
  | ret =>
    intro es es' er S S' n n' x R H h hlo hE hS
    cases h
    exact DW.ret ⟨rfl, R, .refl _ _ _ _ _, hE, hS⟩
  | seq a b iha ihb =>
    intro es es' er S S' n n' x R H h hlo hE hS
    simp only [evC] at h
    refine DW.seq ?_
    split at h
    · rename_i es1 S1 n1 h1
      refine (iha h1 hlo hE hS).mono fun y er1 H1 hy => ?_
      obtain ⟨rfl, R1, g1, g2, g3⟩ := hy
      refine (ihb h (Nat.le_trans hlo g1.nn) g2 g3).mono fun z er2 H2 hz => ⟨hz.1, Out.trans hS g3 g1 hz.2⟩
    · rename_i hne
      have := iha h hlo hE hS
      refine this.mono fun y er1 H1 hy => ?_
      obtain ⟨rfl, hO⟩ := hy
      cases x with
      | normal => exact absurd h (hne _ _ _)
      | exit id => exact ⟨rfl, hO⟩
      | ret => exact ⟨rfl, hO⟩
  | cond c a b iha ihb =>
    intro es es' er S S' n n' x R H h hlo hE hS
    simp only [evC] at h
    split at h
    · rename_i hc
      obtain ⟨c', h1, h2⟩ := hE.ev hc
      cases h2
      exact DW.condT h1 (iha h hlo hE hS)
    · rename_i hc
      obtain ⟨c', h1, h2⟩ := hE.ev hc
      cases h2
      exact DW.condF h1 (ihb h hlo hE hS)
    · cases h
  | block id a iha =>
    intro es es' er S S' n n' x R H h hlo hE hS
    simp only [evC] at h
    refine DW.block ?_
    split at h
    · rename_i id' es1 S1 n1 h1
      refine (iha h1 hlo hE hS).mono fun y er1 H1 hy => ?_
      obtain ⟨rfl, hO⟩ := hy
      simp only [Ex.to, blockQ]
      cases hid : Nat.beq id' id with
      | true =>
        rw [hid, if_pos rfl] at h
        cases h
        exact ⟨rfl, hO⟩
      | false =>
        rw [hid, if_neg (by decide)] at h
        cases h
        exact ⟨rfl, hO⟩
    · rename_i hne
      refine (iha h hlo hE hS).mono fun y er1 H1 hy => ?_
      obtain ⟨rfl, hO⟩ := hy
      cases x with
      | normal => exact ⟨rfl, hO⟩
      | exit id' => exact absurd h (hne _ _ _ _)
      | ret => exact ⟨rfl, hO⟩
  | loop a iha =>
    intro es es' er S S' n n' x R H h hlo hE hS
    simp only [evC] at h
    refine DW.loop (fun m e Hm => ∃ es1 S1 n1 R1, iterE (evC C.P X raw a) m es1 S1 n1 = some (x, es', S', n') ∧ Adv X.lo R n S H R1 n1 S1 Hm ∧ RelE R1 es1 e ∧ RelS R1 n1 S1 Hm) X.lf ⟨es, S, n, R, h, .refl _ _ _ _ _, hE, hS⟩ fun m e Hm hI => ?_
    obtain ⟨es1, S1, n1, R1, h1, g1, g2, g3⟩ := hI
    cases m with
    | zero => cases h1
    | succ m =>
      simp only [iterE] at h1
      split at h1
      · rename_i es2 S2 n2 h2
        refine (iha h2 (Nat.le_trans hlo g1.nn) g2 g3).mono fun y er1 H1 hy => ?_
        obtain ⟨rfl, R2, k1, k2, k3⟩ := hy
        exact ⟨m, Nat.lt_succ_self m, es2, S2, n2, R2, h1, g1.trans hS.lt g3.lt k1, k2, k3⟩
      · rename_i hne
        refine (iha h1 (Nat.le_trans hlo g1.nn) g2 g3).mono fun y er1 H1 hy => ?_
        obtain ⟨rfl, hO⟩ := hy
        cases x with
        | normal => exact absurd h1 (hne _ _ _)
        | exit id' => exact ⟨rfl, Out.trans hS g3 g1 hO⟩
        | ret => exact ⟨rfl, Out.trans hS g3 g1 hO⟩
  | region id ops draw =>
    intro es es' er S S' n n' x R H h hlo hE hS
    simp only [evC] at h
    split at h
    · rename_i es1 S1 n1 h1
      cases h
      exact (evRegion_ok hX hN hm h1 hlo hE hS).mono fun y er1 H1 hy => hy
    · cases h
  | _ =>
    intro es es' er S S' n n' x R H h hlo hE hS
    simp only [evC] at h
    cases h

end Go.Proofs.YtcdihmhmoddppaaGreat

namespace Go.Proofs.YtcdihmhmoddppaaGreat
open Go.RowKit
set_option linter.unusedVariables false
set_option linter.unusedSimpArgs false

/-! ### Data made immutable -/

inductive FrzX (H H' : Heap) : D → D → Prop
  | same (d : D) : FrzX H H' d d
  | list {k : Nat} {l l' : List D} (hl : l'.length = l.length) (hc : ∀ (i : Nat) (x y : D), l[i]? = some x → l'[i]? = some y → (cellsOf y).length = (cellsOf x).length)
      (h : ∀ (i j : Nat) (x y : D), cellAt l i j = some x → cellAt l' i j = some y → FrzX H H' x y) : FrzX H H' (.list k l) (.list k l')
  | ref {b k : Nat} {l : List D} {T : TypeId} {cells : List D} (hH : H b = some (T, cells)) (hn : H' b = none) (h1 : ∀ (i : Nat) (d : D), l[i]? = some d → (cellsOf d).length = k)
      (hl : (l.flatMap cellsOf).length = cells.length) (h : ∀ (j : Nat) (x y : D), cells[j]? = some x → (l.flatMap cellsOf)[j]? = some y → FrzX H H' x y) : FrzX H H' (.ref b 0 l.length k) (.list k l)
  | agg {l l' : List D} (hl : l'.length = l.length) (h : ∀ (j : Nat) (x y : D), l[j]? = some x → l'[j]? = some y → FrzX H H' x y) : FrzX H H' (.agg l) (.agg l')
  | tup {l l' : List D} (hl : l'.length = l.length) (h : ∀ (j : Nat) (x y : D), l[j]? = some x → l'[j]? = some y → FrzX H H' x y) : FrzX H H' (.tup l) (.tup l')

theorem FrzX.cells {H H' : Heap} {d d' : D} (h : FrzX H H' d d') : (cellsOf d').length = (cellsOf d).length ∧ ∀ (j : Nat) (x y : D), (cellsOf d)[j]? = some x → (cellsOf d')[j]? = some y → FrzX H H' x y := by
  have one : ∀ {a b : D}, FrzX H H' a b → cellsOf a = [a] → cellsOf b = [b] → (cellsOf b).length = (cellsOf a).length ∧ ∀ (j : Nat) (x y : D), (cellsOf a)[j]? = some x → (cellsOf b)[j]? = some y → FrzX H H' x y := fun {a b} h e1 e2 => by
    rw [e1, e2]
    refine ⟨rfl, fun j x y hx hy => ?_⟩
    cases j with
    | zero => cases hx; cases hy; exact h
    | succ j => simp at hx
  cases h with
  | same d => exact ⟨rfl, fun j x y hx hy => by rw [hx] at hy; cases hy; exact .same _⟩
  | list hl hc h => exact one (.list hl hc h) rfl rfl
  | ref hH hn h1 hl h => exact one (.ref hH hn h1 hl h) rfl rfl
  | agg hl h => exact ⟨hl, h⟩
  | tup hl h => exact one (.tup hl h) rfl rfl

theorem cellAt_some {l l' : List D} (hl : l'.length = l.length) (hc : ∀ (i : Nat) (x y : D), l[i]? = some x → l'[i]? = some y → (cellsOf y).length = (cellsOf x).length) {i j : Nat} {y : D} (h : cellAt l' i j = some y) : ∃ x, cellAt l i j = some x := by
  unfold cellAt at h ⊢
  cases hy : l'[i]? with
  | none => rw [hy] at h; cases h
  | some el' =>
    rw [hy] at h
    have hi := (List.getElem?_eq_some_iff.1 hy).1
    have hi' : i < l.length := by omega
    have hx : l[i]? = some l[i] := by simp [hi']
    rw [hx]
    have hlen := hc i _ _ hx hy
    have hj := (List.getElem?_eq_some_iff.1 (show (cellsOf el')[j]? = some y from h)).1
    exact ⟨(cellsOf l[i])[j]'(by omega), by simp⟩

theorem Rep.frzX {w : World} {H H' : Heap} (ho : HOK w H) (hs : H'.sub H) {d d' : D} (hf : FrzX H H' d d') : ∀ {v : Value}, Rep w H v d → Rep w H' v d' := by
  have hnone : ∀ b, H b = none → H' b = none := fun b hb => by
    cases hx : H' b with
    | none => rfl
    | some x => rw [hs b x hx] at hb; cases hb
  induction hf with
  | same d => exact fun hv => hv.kept (.sub hs)
  | @list k l l' hl hc h ih =>
    intro v hv
    cases hv with
    | list vals hcap hm h1 h2 h3 =>
      rename_i a c
      rw [← hl]
      refine .list vals (by rw [hl]; exact hcap) hm (fun i y hy => ?_) (fun i j y hy => ?_) (fun i j y hy => ?_)
      · have hi := (List.getElem?_eq_some_iff.1 hy).1
        have hi' : i < l.length := by omega
        have hx : l[i]? = some l[i] := by simp [hi']
        rw [hc i _ _ hx hy]
        exact h1 i _ hx
      · obtain ⟨x, hx⟩ := cellAt_some hl hc hy
        obtain ⟨b, off, e1, e2, e3⟩ := h2 i j x hx
        exact ⟨b, off, e1, hnone _ e2, e3⟩
      · obtain ⟨x, hx⟩ := cellAt_some hl hc hy
        exact ih i j x y hx hy (h3 i j x hx)
  | @ref b k l T cells hH hn h1 hl h ih =>
    intro v hv
    cases hv with
    | ref hb hsz hle hm =>
      obtain ⟨cs, hcb, hcl, hcr⟩ := ho _ _ _ hH
      refine rep_row hcb hn h1 (fun j y hy => ?_) hle hm
      have hj : j < cells.length := by rw [← hl]; exact (List.getElem?_eq_some_iff.1 hy).1
      have hx : cells[j]? = some cells[j] := by simp [hj]
      obtain ⟨_, u, hu, hrep⟩ := hcr j _ hx
      exact ⟨u, hu, ih j _ _ hx hy hrep⟩
  | @agg l l' hl h ih =>
    intro v hv
    obtain ⟨vs, rfl, hr⟩ := rep_agg hv
    refine RepsA.agg ⟨by rw [hr.1, hl], fun j y hy => ?_⟩
    have hj : j < l.length := by rw [← hl]; exact (List.getElem?_eq_some_iff.1 hy).1
    have hx : l[j]? = some l[j] := by simp [hj]
    obtain ⟨u, hu, hrep⟩ := hr.2 j _ hx
    exact ⟨u, hu, ih j _ _ hx hy hrep⟩
  | @tup l l' hl h ih =>
    intro v hv
    obtain ⟨vs, rfl, hr⟩ := rep_tup hv
    refine RepsA.tup ⟨by rw [hr.1, hl], fun j y hy => ?_⟩
    have hj : j < l.length := by rw [← hl]; exact (List.getElem?_eq_some_iff.1 hy).1
    have hx : l[j]? = some l[j] := by simp [hj]
    obtain ⟨u, hu, hrep⟩ := hr.2 j _ hx
    exact ⟨u, hu, ih j _ _ hx hy hrep⟩

def mapO (f : D → Option D) : List D → Option (List D)
  | [] => some []
  | d :: l => match f d, mapO f l with
    | some d, some l => some (d :: l)
    | _, _ => none

theorem mapO_length {f : D → Option D} : ∀ {l m : List D}, mapO f l = some m → m.length = l.length
  | [], m, h => by cases h; rfl
  | d :: l, m, h => by
    simp only [mapO] at h
    split at h
    · rename_i d' l' h1 h2
      cases h
      simp [mapO_length h2]
    · cases h

theorem mapO_get {f : D → Option D} : ∀ {l m : List D}, mapO f l = some m → ∀ {i : Nat} {x y : D}, l[i]? = some x → m[i]? = some y → f x = some y
  | [], m, h, i, x, y, hx, hy => by simp at hx
  | d :: l, m, h, i, x, y, hx, hy => by
    simp only [mapO] at h
    split at h
    · rename_i d' l' h1 h2
      cases h
      cases i with
      | zero => cases hx; cases hy; exact h1
      | succ i => exact mapO_get h2 (i := i) (by simpa using hx) (by simpa using hy)
    · cases h

/-- What lies in blocks from n0 on becomes lists. -/
def frzE (S : SH) (n0 : Nat) : Nat → D → Option D
  | 0, _ => none
  | fuel + 1, d => if d.closed then some d else match d with
    | .list k l => match mapO (frzE S n0 fuel) l with
      | some l' => some (.list k l')
      | none => none
    | .agg l => match mapO (frzE S n0 fuel) l with
      | some l' => some (.agg l')
      | none => none
    | .tup l => match mapO (frzE S n0 fuel) l with
      | some l' => some (.tup l')
      | none => none
    | .ref b off len k => match S.get b with
      | some (_, cells) => if decide (n0 ≤ b) && Nat.beq off 0 && Nat.beq cells.length (len * k) && decide (0 < k) && cells.all D.isCell then match mapO (frzE S n0 fuel) (chunk k len cells) with
          | some l' => some (.list k l')
          | none => none
        else none
      | none => none
    | _ => none

theorem frzE_ok {R : Nat → Nat → Prop} {n n0 : Nat} {S : SH} {H H' : Heap} (hS : RelS R n S H) (hn : ∀ a b x, n0 ≤ a → S.get a = some x → R a b → H' b = none) : ∀ {fuel : Nat} {d d' df : D}, frzE S n0 fuel d = some df → Rn R d d' → FrzX H H' d' df
  | 0, d, d', df, h, hd => by cases h
  | fuel + 1, d, d', df, h, hd => by
    simp only [frzE] at h
    split at h
    · rename_i hc
      cases h
      rw [hd.closed_eq hc]
      exact .same _
    · have elems : ∀ {l l' m : List D}, mapO (frzE S n0 fuel) l = some m → RnL R l l' → m.length = l'.length ∧ ∀ (i : Nat) (x y : D), l'[i]? = some x → m[i]? = some y → FrzX H H' x y := fun {l l' m} hm hr => by
        refine ⟨by rw [mapO_length hm, hr.1], fun i x y hx hy => ?_⟩
        have hi := (List.getElem?_eq_some_iff.1 hx).1
        have hi' : i < l.length := by rw [hr.1]; exact hi
        have hz : l[i]? = some l[i] := by simp [hi']
        exact frzE_ok hS hn (mapO_get hm hz hy) (hr.2 i _ _ hz hx)
      have cellwise : ∀ {l' m : List D}, (∀ (i : Nat) (x y : D), l'[i]? = some x → m[i]? = some y → FrzX H H' x y) → ∀ (i j : Nat) (x y : D), cellAt l' i j = some x → cellAt m i j = some y → FrzX H H' x y := fun {l' m} h i j x y hx hy => by
        unfold cellAt at hx hy
        cases h1 : l'[i]? with
        | none => rw [h1] at hx; cases hx
        | some a =>
          cases h2 : m[i]? with
          | none => rw [h2] at hy; cases hy
          | some b =>
            rw [h1] at hx
            rw [h2] at hy
            exact (h i a b h1 h2).cells.2 j x y hx hy
      split at h
      · rename_i k l
        split at h
        · rename_i l' hm
          cases h
          cases hd with
          | list hl hh =>
            obtain ⟨e1, e2⟩ := elems hm ⟨hl, hh⟩
            exact .list e1 (fun i x y hx hy => (e2 i x y hx hy).cells.1) (cellwise e2)
        · cases h
      · split at h
        · rename_i l' hm
          cases h
          cases hd with
          | agg hl hh =>
            obtain ⟨e1, e2⟩ := elems hm ⟨hl, hh⟩
            exact .agg e1 e2
        · cases h
      · split at h
        · rename_i l' hm
          cases h
          cases hd with
          | tup hl hh =>
            obtain ⟨e1, e2⟩ := elems hm ⟨hl, hh⟩
            exact .tup e1 e2
        · cases h
      · rename_i b off len k _
        split at h
        · rename_i T cells hb
          split at h
          · rename_i hc
            simp only [Bool.and_eq_true, decide_eq_true_eq] at hc
            obtain ⟨⟨⟨⟨c1, c2⟩, c3⟩, c4⟩, c5⟩ := hc
            have c2 := Nat.eq_of_beq_eq_true c2
            have c3 := Nat.eq_of_beq_eq_true c3
            subst c2
            split at h
            · rename_i l' hm
              cases h
              cases hd with
              | @ref _ b' _ _ _ hR =>
                obtain ⟨cells', g1, g2⟩ := hS.get hb hR
                obtain ⟨g3, g4⟩ := chunk_ok c4 len cells' (by rw [← g2.1]; exact c3) (g2.all_cell c5)
                obtain ⟨e1, e2⟩ := elems hm (g2.chunk (k := k) len)
                rw [chunk_length] at e1
                have hlen : ∀ (i : Nat) (d : D), l'[i]? = some d → (cellsOf d).length = k := fun i y hy => by
                  have hi := (List.getElem?_eq_some_iff.1 hy).1
                  have hx : (chunk k len cells')[i]? = some ((chunk k len cells')[i]'(by rw [chunk_length]; omega)) := by simp
                  rw [(e2 i _ _ hx hy).cells.1]
                  exact (g4 _ (List.getElem_mem _)).1
                have hu1 : ∀ (i : Nat) (d : D), (chunk k len cells')[i]? = some d → (cellsOf d).length = k := fun i d hd => (g4 d (List.mem_of_getElem? hd)).1
                have hfl : ∀ {m : List D}, (∀ (i : Nat) (d : D), m[i]? = some d → (cellsOf d).length = k) → (m.flatMap cellsOf).length = m.length * k := fun {m} => by
                  induction m with
                  | nil => intro _; simp
                  | cons a m ih =>
                    intro hm
                    rw [List.flatMap_cons, List.length_append, ih fun i d hd => hm (i + 1) d (by simpa using hd), hm 0 a rfl, List.length_cons, Nat.add_mul]
                    omega
                rw [← e1]
                refine .ref g1 (hn b b' _ c1 hb hR) hlen ?_ fun j x y hx hy => ?_
                · rw [hfl hlen, e1, ← g2.1]; exact c3.symm
                · have hj : j < l'.length * k := by rw [← hfl hlen]; exact (List.getElem?_eq_some_iff.1 hy).1
                  have hjk : j = (j / k) * k + j % k := by rw [Nat.mul_comm]; exact (Nat.div_add_mod j k).symm
                  have hmod : j % k < k := Nat.mod_lt _ c4
                  rw [← g3, hjk, flat_cell hu1 _ _ hmod] at hx
                  rw [hjk, flat_cell hlen _ _ hmod] at hy
                  exact cellwise e2 _ _ x y hx hy
            · cases h
          · cases h
        · cases h
      · cases h

/-! ### Results -/

def resE (P : Program) (S : SH) (es : Env) : List ResultVar → Option (List D)
  | [] => some []
  | .tmp t :: r => match es.get t, resE P S es r with
    | some d, some ds => some (d :: ds)
    | _, _ => none
  | .cell x t :: r => match es.get x, resE P S es r, isAggT P t, sizeT P t with
    | some (.ptr b 0), some ds, some true, some k => match S.get b with
      | some (_, cells) => if Nat.beq cells.length k then some (.agg cells :: ds) else none
      | none => none
    | _, _, _, _ => none

theorem resE_ok {P : Program} {R : Nat → Nat → Prop} {n : Nat} {S : SH} {H : Heap} {es er : Env} (hE : RelE R es er) (hS : RelS R n S H) : ∀ {l : List ResultVar} {rs : List D}, resE P S es l = some rs → ∃ rs', ResR P er H l rs' ∧ RnL R rs rs'
  | [], rs, h => by cases h; exact ⟨[], .nil, .nil⟩
  | .tmp t :: r, rs, h => by
    simp only [resE] at h
    split at h
    · rename_i d ds h1 h2
      cases h
      obtain ⟨d', g1, g2⟩ := hE t d h1
      obtain ⟨ds', g3, g4⟩ := resE_ok hE hS h2
      exact ⟨_, .tmp g1 g3, .cons g2 g4⟩
    · cases h
  | .cell x t :: r, rs, h => by
    simp only [resE] at h
    split at h
    · rename_i b ds k h1 h2 h3 h4
      split at h
      · rename_i T cells hb
        split at h
        · rename_i hc
          cases h
          have hc := Nat.eq_of_beq_eq_true hc
          obtain ⟨d', g1, g2⟩ := hE x _ h1
          obtain ⟨ds', g3, g4⟩ := resE_ok hE hS h2
          obtain ⟨td, e1, e2⟩ := isAggT_ok h3
          obtain ⟨inf, e3, e4⟩ := sizeT_ok h4
          cases g2 with
          | ptr _ hR =>
            obtain ⟨cells', k1, k2⟩ := hS.get hb hR
            exact ⟨_, .cell ⟨td, inf, e1, e2, e3, by rw [← k2.1, hc]; exact e4⟩ g1 k1 g3, .cons (.agg k2.1 k2.2) g4⟩
        · cases h
      · cases h
    · cases h

theorem Rn.resOne {R : Nat → Nat → Prop} {rs rs' : List D} (h : RnL R rs rs') : Rn R (resOne rs) (Go.Proofs.YtcdihmhmoddppaaGreat.resOne rs') := by
  match rs, rs', h with
  | [], rs', h => rw [h.unnil]; exact .tup rfl fun i d d' h => by simp at h
  | [d], rs', h =>
    obtain ⟨d', r, rfl, h1, h2⟩ := h.uncons
    rw [h2.unnil]
    exact h1
  | d :: e :: l, rs', h =>
    obtain ⟨d', r, rfl, h1, h2⟩ := h.uncons
    obtain ⟨e', r', rfl, h3, h4⟩ := h2.uncons
    exact .tup h.1 h.2

/-! ### Calls -/

/-- A call that changes no block below n, and what it hands back, made immutable. -/
def pureE (call : FuncId → List D → SH → Nat → Option (D × SH × Nat)) (f : FuncId) (ds : List D) (S : SH) (n : Nat) : Option D :=
  match call f ds S n with
  | some (d, S', _) => match frzE S' n 40 d with
    | some df => if df.closed then some df else none
    | none => none
  | none => none

theorem pureE_ok {P : Program} {call : FuncId → List D → SH → Nat → Option (D × SH × Nat)} {n : Nat} (hc : CallR P n call) {R : Nat → Nat → Prop} {S : SH} {H : Heap} (hS : RelS R n S H) {f : FuncId} {ds : List D} {d : D} (h : pureE call f ds S n = some d) :
    d.closed = true ∧ ∀ ds', RnL R ds ds' → ∀ H2, Over H H2 → PureH P H2 f ds' d := by
  unfold pureE at h
  split at h
  · rename_i d0 S' n' hcall
    split at h
    · rename_i df hfz
      split at h
      · rename_i hcl
        cases h
        refine ⟨hcl, fun ds' hds H2 ho2 => ?_⟩
        have hS2 := hS.over ho2
        have hC := hc f ds S n _ hcall R H2 ds' (Nat.le_refl _) hds hS2
        refine ⟨hC.body, fun w args ho ha => (hC.calls w args ho ha).mono fun en w' ⟨v, d', H', e1, ⟨R', g1, g2, g3⟩, e2, e3, e4⟩ => ?_⟩
        have hover : Over H2 H' := fun b z hz => by
          by_cases hlv : ∃ a x, S.get a = some x ∧ R a b
          · obtain ⟨a, x, hx, hR⟩ := hlv
            have hx' : S'.get a = some x := by rw [g1.keep a (hS.lt a b hR)]; exact hx
            obtain ⟨c1, k1, k2⟩ := hS2.get (T := x.1) (cells := x.2) hx hR
            obtain ⟨c2, k3, k4⟩ := g3.get (T := x.1) (cells := x.2) hx' (g1.le a b hR)
            rw [hz] at k1
            cases k1
            rw [k3, (k2.mono g1.le).fn_eq g3.fn k4]
          · exact g1.frame b z hz fun a x hx hR => hlv ⟨a, x, hx, hR⟩
        have hnone : ∀ a b x, n ≤ a → S'.get a = some x → R' a b → H2 b = none := fun a b x ha hx hR => by
          rcases g1.fresh a b hR with h | h | ⟨a0, x0, h1, h2⟩
          · have := hS.lt a b h; omega
          · exact h
          · have hlt := hS.lt a0 b h2
            have hx0 : S'.get a0 = some x0 := by rw [g1.keep a0 hlt]; exact h1
            have := g3.inj _ _ _ _ _ hx hx0 hR (g1.le _ _ h2)
            omega
        exact ⟨v, e1, Rep.frzX e3 hover (frzE_ok g3 hnone hfz g2) e2, e3.sub hover, e4.sub hover⟩
      · cases h
    · cases h
  · cases h

/-- Calls that are known. -/
def KnOk (P : Program) (kn : FuncId → List D → Option D) : Prop := ∀ (f : FuncId) (ds : List D) (d : D), kn f ds = some d → D.closed.closedL ds = true ∧ d.closed = true ∧ Pure P f ds d

/-- Calls that are known to hand back a slice in a block of its own. -/
def KrOk (P : Program) (kr : FuncId → List D → Option (TypeId × List D)) : Prop := ∀ (f : FuncId) (ds : List D) (t : TypeId) (cells : List D), kr f ds = some (t, cells) → D.closed.closedL ds = true ∧ D.closed.closedL cells = true ∧
  ∀ H, CallD P H f ds fun d' H' => ∃ b, H b = none ∧ d' = .ref b 0 cells.length 1 ∧ H' = H.set b (t, cells)

def krE (kr : FuncId → List D → Option (TypeId × List D)) (call : FuncId → List D → SH → Nat → Option (D × SH × Nat)) (f : FuncId) (ds : List D) (S : SH) (n : Nat) : Option (D × SH × Nat) :=
  match kr f ds with
  | some (t, cells) => some (.ref n 0 cells.length 1, (n, (t, cells)) :: S, n + 1)
  | none => call f ds S n

theorem CallD.mono2 {P : Program} {H : Heap} {f : FuncId} {ds : List D} {K K' : D → Heap → Prop} (h : CallD P H f ds K) (hk : ∀ d H', K d H' → K' d H') : CallD P H f ds K' :=
  ⟨h.body, fun w args ho ha => (h.calls w args ho ha).mono fun en w' ⟨v, d, H', h1, h2, h3⟩ => ⟨v, d, H', h1, hk _ _ h2, h3⟩⟩

theorem krE_ok {P : Program} {kr : FuncId → List D → Option (TypeId × List D)} {lo : Nat} {call : FuncId → List D → SH → Nat → Option (D × SH × Nat)} (hk : KrOk P kr) (hc : CallR P lo call) : CallR P lo (krE kr call) := by
  intro f ds S n r h R H ds' hlo hds hS
  unfold krE at h
  split at h
  · rename_i t cells hx
    cases h
    obtain ⟨h1, h2, h3⟩ := hk _ _ _ _ hx
    rw [hds.closed_eq h1]
    refine (h3 H).mono2 fun d' H' ⟨b, g1, g2, g3⟩ => ?_
    subst g2
    subst g3
    obtain ⟨k1, k2⟩ := new_block' (lo := lo) (T := t) hS hlo g1 (RnL.closed cells h2)
    exact ⟨_, k2, .ref _ _ _ (.inr ⟨rfl, rfl⟩), k1⟩
  · exact hc f ds S n r h R H ds' hlo hds hS

def runF (P : Program) (raw : FuncId → Bool) (mb : TypeId → Bool) (aggEq : TypeId → List D → List D → Option Bool) (kn : FuncId → List D → Option D) (kr : FuncId → List D → Option (TypeId × List D)) (lf : Nat) : Nat → Nat → FuncId → List D → SH → Nat → Option (D × SH × Nat)
  | 0, _, _, _, _, _ => none
  | fuel + 1, lo, f, ds, S, n => match P.funcs[f]? with
    | some fn => match fn.body with
      | some c => if !(fn.name == "runtime.NumGoroutine") && decide (ds.length ≤ fn.ntmps) then
          match evC P ⟨lo, fn.ntmps, lf, aggEq, mb, fun S n f ds => match kn f ds with
              | some d => some d
              | none => if raw f then none else pureE (fun f ds S n' => runF P raw mb aggEq kn kr lf fuel n f ds S n') f ds S n,
            krE kr fun f ds S n => if raw f then runF P raw mb aggEq kn kr lf fuel lo f ds S n else none⟩ raw c (argEnv 0 ds) S n with
          | some (.normal, es, S, n) => match resE P S es fn.results.toList with
            | some rs => some (resOne rs, S, n)
            | none => none
          | some (.ret, es, S, n) => match resE P S es fn.results.toList with
            | some rs => some (resOne rs, S, n)
            | none => none
          | _ => none
        else none
      | none => none
    | none => none

theorem argEnv_rel {R : Nat → Nat → Prop} : ∀ {ds ds' : List D} (i : Nat), RnL R ds ds' → RelE R (argEnv i ds) (argEnv i ds')
  | [], ds', i, h => by rw [h.unnil]; exact fun t d hd => by simp [argEnv, Env.get] at hd
  | d :: ds, ds', i, h => by
    obtain ⟨d', r, rfl, h1, h2⟩ := h.uncons
    intro t x hx
    simp only [argEnv, Env.get_cons] at hx ⊢
    split at hx
    · rename_i hit
      rw [if_pos hit]
      cases hx
      exact ⟨d', rfl, h1⟩
    · rename_i hit
      rw [if_neg hit]
      exact argEnv_rel (i + 1) h2 t x hx

theorem runF_ok {P : Program} {raw : FuncId → Bool} {mb : TypeId → Bool} {aggEq : TypeId → List D → List D → Option Bool} {kn : FuncId → List D → Option D} {kr : FuncId → List D → Option (TypeId × List D)} {lf : Nat} (hm : P.follows .mixedOrders = true) (hagg : AggOk P aggEq) (hkn : KnOk P kn) (hkr : KrOk P kr) :
    ∀ (fuel lo : Nat), CallR P lo (fun f ds S n => runF P raw mb aggEq kn kr lf fuel lo f ds S n)
  | 0, lo => fun f ds S n r h => by cases h
  | fuel + 1, lo => by
    intro f ds S n r h R H ds' hlo hds hS
    simp only [runF] at h
    split at h
    · rename_i fn hfn
      split at h
      · rename_i c hbody
        split at h
        · rename_i hcond
          simp only [Bool.and_eq_true, Bool.not_eq_true', decide_eq_true_eq] at hcond
          have hX : RunOk P ⟨lo, fn.ntmps, lf, aggEq, mb, fun S n f ds => match kn f ds with
              | some d => some d
              | none => if raw f then none else pureE (fun f ds S n' => runF P raw mb aggEq kn kr lf fuel n f ds S n') f ds S n,
              krE kr fun f ds S n => if raw f then runF P raw mb aggEq kn kr lf fuel lo f ds S n else none⟩ := by
            refine ⟨hagg, krE_ok hkr fun f ds S n r h => ?_, fun R n S H hS f ds d h => ?_⟩
            · split at h
              · exact runF_ok hm hagg hkn hkr fuel lo f ds S n r h
              · cases h
            · dsimp only at h
              split at h
              · rename_i d0 hk
                cases h
                obtain ⟨h1, h2, h3⟩ := hkn _ _ _ hk
                exact ⟨h2, fun ds' hds H2 _ => by rw [hds.closed_eq h1]; exact h3 H2⟩
              · split at h
                · cases h
                · exact pureE_ok (runF_ok hm hagg hkn hkr fuel n) hS h
          have fin : ∀ {x : Ex} {es' : Env} {S' : SH} {n' : Nat}, (x = .normal ∨ x = .ret) → evC P ⟨lo, fn.ntmps, lf, aggEq, mb, fun S n f ds => match kn f ds with
              | some d => some d
              | none => if raw f then none else pureE (fun f ds S n' => runF P raw mb aggEq kn kr lf fuel n f ds S n') f ds S n,
              krE kr fun f ds S n => if raw f then runF P raw mb aggEq kn kr lf fuel lo f ds S n else none⟩ raw c (argEnv 0 ds) S n = some (x, es', S', n') →
              (match resE P S' es' fn.results.toList with
              | some rs => some (resOne rs, S', n')
              | none => none) = some r → CallD P H f ds' fun d' H' => ∃ R', Adv lo R n S H R' r.2.2 r.2.1 H' ∧ Rn R' r.1 d' ∧ RelS R' r.2.2 r.2.1 H' := fun {x es' S' n'} hx hev hres => by
            split at hres
            · rename_i rs hrs
              cases hres
              refine CallD.of_bodyR hfn hbody hcond.1 (by rw [← hds.1]; exact hcond.2) fun w0 => ?_
              refine (evC_ok (C := ⟨P, fn.ntmps, w0, H⟩) (raw := raw) hX rfl hm c hev hlo (argEnv_rel 0 hds) hS).mono fun y er' H' hy => ?_
              obtain ⟨rfl, R', g1, g2, g3⟩ := hy
              obtain ⟨rs', k1, k2⟩ := resE_ok g2 g3 hrs
              refine ⟨?_, rs', _, H', k1, Heap.sub_refl _, .same _, R', g1, Rn.resOne k2, g3⟩
              rcases hx with rfl | rfl
              · exact .inr rfl
              · exact .inl rfl
            · cases hres
          split at h
          · rename_i hev
            exact fin (.inl rfl) hev h
          · rename_i hev
            exact fin (.inr rfl) hev h
          · cases h
        · cases h
      · cases h
    · cases h

/-- What the run of a function shows: it is pure. -/
theorem Pure.of_run {P : Program} {raw : FuncId → Bool} {mb : TypeId → Bool} {aggEq : TypeId → List D → List D → Option Bool} {kn : FuncId → List D → Option D} {kr : FuncId → List D → Option (TypeId × List D)} (lf fuel : Nat) (hm : P.follows .mixedOrders = true) (hagg : AggOk P aggEq) (hkn : KnOk P kn) (hkr : KrOk P kr) {f : FuncId} {ds : List D} {d : D} (hds : D.closed.closedL ds = true)
    (h : pureE (fun f ds S n => runF P raw mb aggEq kn kr lf fuel 0 f ds S n) f ds [] 0 = some d) : Pure P f ds d := fun H => by
  have hS : RelS (fun _ _ => False) 0 [] H := ⟨fun _ _ _ h => h.elim, fun _ _ h => h.elim, fun a x hx => (by cases hx), fun a a' b x y hx => (by cases hx)⟩
  exact (pureE_ok (runF_ok hm hagg hkn hkr fuel 0) hS h).2 ds (RnL.closed ds hds) H (Over.refl _)

end Go.Proofs.YtcdihmhmoddppaaGreat

namespace Go.Proofs.YtcdihmhmoddppaaGreat
open Go.RowKit
set_option linter.unusedVariables false
set_option linter.unusedSimpArgs false

/-- Calls that are known, as a table. -/
def knT : List (FuncId × List D × D) → FuncId → List D → Option D
  | [], _, _ => none
  | (g, xs, d) :: r, f, ds => bif Nat.beq g f && D.same.sameL xs ds then some d else knT r f ds

theorem knT_ok {P : Program} : ∀ {tab : List (FuncId × List D × D)}, (∀ e ∈ tab, D.closed.closedL e.2.1 = true ∧ e.2.2.closed = true ∧ Pure P e.1 e.2.1 e.2.2) → KnOk P (knT tab)
  | [], _ => fun f ds d h => by cases h
  | (g, xs, x) :: r, hh => fun f ds d h => by
    unfold knT at h
    cases hc : (Nat.beq g f && D.same.sameL xs ds)
    · rw [hc] at h
      exact knT_ok (fun e he => hh e (List.mem_cons_of_mem _ he)) f ds d h
    · rw [hc] at h
      cases h
      simp only [Bool.and_eq_true] at hc
      have h1 := Nat.eq_of_beq_eq_true hc.1
      have h2 := sameL_eq _ _ hc.2
      subst h1
      subst h2
      exact hh (g, xs, x) (by simp)

def krT : List (FuncId × List D × TypeId × List D) → FuncId → List D → Option (TypeId × List D)
  | [], _, _ => none
  | (g, xs, t, l) :: r, f, ds => bif Nat.beq g f && D.same.sameL xs ds then some (t, l) else krT r f ds

theorem krT_ok {P : Program} : ∀ {tab : List (FuncId × List D × TypeId × List D)}, (∀ e ∈ tab, D.closed.closedL e.2.1 = true ∧ D.closed.closedL e.2.2.2 = true ∧ ∀ H, CallD P H e.1 e.2.1 fun d' H' => ∃ b, H b = none ∧ d' = .ref b 0 e.2.2.2.length 1 ∧ H' = H.set b (e.2.2.1, e.2.2.2)) → KrOk P (krT tab)
  | [], _ => fun f ds t l h => by cases h
  | (g, xs, t0, l0) :: r, hh => fun f ds t l h => by
    unfold krT at h
    cases hc : (Nat.beq g f && D.same.sameL xs ds)
    · rw [hc] at h
      exact krT_ok (fun e he => hh e (List.mem_cons_of_mem _ he)) f ds t l h
    · rw [hc] at h
      cases h
      simp only [Bool.and_eq_true] at hc
      have h1 := Nat.eq_of_beq_eq_true hc.1
      have h2 := sameL_eq _ _ hc.2
      subst h1
      subst h2
      exact hh (g, xs, t0, l0) (by simp)

end Go.Proofs.YtcdihmhmoddppaaGreat

namespace Go.Proofs
open Go.Shelf
def Tryz.lays125_ren : Go.Shelf.Ren := ⟨fun | 125 => 139 | 128 => 156 | 129 => 157 | n => n, fun | 46 => 135 | 3 => 3 | 51 => 174 | 53 => 176 | 4 => 4 | 5 => 5 | 9 => 9 | n => n, fun | n => n⟩
theorem Tryz.lays125 : Go.Proofs.Lays.n125 Tryz.prog Tryz.lays125_ren := {
  mixed := by kernel_rfl
  f125 := Tryz.func139.trans (congrArg some (by kernel_rfl))
  f128 := Tryz.func156.trans (congrArg some (by kernel_rfl))
  f129 := Tryz.func157.trans (congrArg some (by kernel_rfl))
  t3 := Tryz.underlying3
  a3 := Tryz.isAgg3
  z3 := Tryz.sizeOf3
  v3 := Tryz.zeroValue3
  t4 := Tryz.underlying4
  a4 := Tryz.isAgg4
  z4 := Tryz.sizeOf4
  v4 := Tryz.zeroValue4
  t5 := Tryz.underlying5
  a5 := Tryz.isAgg5
  z5 := Tryz.sizeOf5
  v5 := Tryz.zeroValue5
  t9 := Tryz.underlying9
  a9 := Tryz.isAgg9
  z9 := Tryz.sizeOf9
  v9 := Tryz.zeroValue9
  t46 := Tryz.underlying135
  a46 := Tryz.isAgg135
  z46 := Tryz.sizeOf135
  v46 := Tryz.zeroValue135
  t51 := Tryz.underlying174
  a51 := Tryz.isAgg174
  z51 := Tryz.sizeOf174
  v51 := Tryz.zeroValue174
  t53 := Tryz.underlying176
  a53 := Tryz.isAgg176
  z53 := Tryz.sizeOf176
  v53 := Tryz.zeroValue176 }
/-- bits.Len: "Len returns the minimum number of bits required to represent x; the result is 0 for x == 0.": IT RETURNS 'Lib.bitLen x'; the world is as it was. (A uint has 64 bits in the model.) ITS CALLEE bits.Len64 IS MET BY ITS OWN CONTRACT OFF THE SHELF (lay that first). (LAID: no walk: one application.) -/
theorem Tryz.bits_Len (x : Int) (w : World) (h0 : 0 ≤ x) (h1 : x ≤ 18446744073709551615) :
    Calls Tryz.prog 139 #[.int .u64 x] w fun e w' => e = .returned (.int .i64 (Lib.bitLen x.toNat)) ∧ w' = w := Any.bits_Len Tryz.lays125 x w h0 h1
end Go.Proofs
