/-
  Regions whose order is drawn, where one operation in their midst writes: static ones that only reckon may come behind it. No condition.
-/
import Derived.Test.YtfjmdhemlfafbaaGreatKHs4
import Derived.RangeFuncIn
import Derived.RangeFuncRecord
import Derived.RangeFuncSeq
import Derived.RangeFuncOwn
import Derived.TacticsIn
import Derived.Test.YtfjmdhemlfafbaaGreatKHs3
set_option linter.unusedVariables false
set_option linter.unusedSimpArgs false

namespace Go.Proofs.YtfjmdhemlfafbaaGreat
open Go.RowKit

def noDefer : Op → Bool
  | .defer _ => false
  | _ => true

theorem wpIn_of_opTo {P : Program} {o : Oper} {a : Act} {w : World} {K : Value → World → Prop} {next : Act → World → Prop} {Q : Exit → Act → World → Prop} {l n : Nat} (hnd : noDefer o.op = true) (h : OpTo P a.eval o w K) (hn : ∀ v w', K v w' → next (a.put o.dst v) w') :
    o.wpIn (Fence.wide.inRound l) n P a w next Q := by
  have hsem : o.semAt (Fence.wide.inRound l).round a.eval = execOp a.eval o := by
    rw [Fence.inRound_round]
    refine Oper.semAt_some l a.eval o fun c hc => ?_
    rw [hc] at hnd
    cases hnd
  refine ⟨fun f _ => trivial, ?_⟩
  rw [hsem]
  unfold OpTo at h
  split at h
  · rename_i v w' hr
    rw [hr]
    exact hn _ _ h
  · rename_i w' hr
    rw [hr]
    exact hn _ _ h
  · rename_i f args w' hr
    rw [hr, Oper.uponIn_enter]
    refine ⟨fun hd => (by cases hd), ?_⟩
    have : CallsIn Fence.wide (n - 1) P f args w' fun e w'' => ∃ v, e = .returned v ∧ K v w'' := callsIn_wide.2 h
    exact CallsIn.mono this fun e w'' ⟨v, he, hv⟩ => by subst he; exact hn _ _ hv
  · exact h.elim

theorem RO.soundIn {C : Ctx} {ops : List Oper} {K : Env → Heap → Prop} {Q : Exit → Act → World → Prop} {r n : Nat} {df : List Deferred} (hQ : ∀ e H a w, K e H → St C a w e H → a.defers = df → Q .normal a w) :
    ∀ (l : List Oper) (e : Env) (H : Heap) (a : Act) (w : World), l.all (fun o => noDefer o.op) = true → RO C ops l e H K → St C a w e H → a.defers = df → wpListIn (Fence.wide.inRound r) n C.P ops.toArray Q l a w
  | [], e, H, a, w, _, h, hs, hdf => wpListIn_nil (hQ e H a w h hs hdf)
  | o :: rest, e, H, a, w, hnd, h, hs, hdf => by
    rw [List.all_cons, Bool.and_eq_true] at hnd
    obtain ⟨hd, hg⟩ := h
    have yes : (OpD C.P H e o fun d H' => RO C ops rest (e.putO o.dst d) H' K) → ∀ L : Act → World → Prop, (∀ a w, wpListIn (Fence.wide.inRound r) n C.P ops.toArray Q rest a w → L a w) → o.wpIn (Fence.wide.inRound r) n C.P a w L Q := fun hop L hL =>
      wpIn_of_opTo hnd.1 (hop.go a.eval w hs.agree hs.heap) fun v w' ⟨d, H', hk, hr, ho, he⟩ => hL _ _ (RO.soundIn hQ rest _ H' _ w' hnd.2 hk (hs.put hd hr ho he) (by rw [Act.put_defers']; exact hdf))
    have no : RO C ops rest (e.putO o.dst (.tup [])) H K → wpListIn (Fence.wide.inRound r) n C.P ops.toArray Q rest (a.put o.dst undef) w := fun hk =>
      RO.soundIn hQ rest _ H _ w hnd.2 hk (hs.put hd (RepsA.tup (vs := #[]) (ds := []) ⟨rfl, fun j x hx => by simp at hx⟩) hs.heap (.refl _ _)) (by rw [Act.put_defers']; exact hdf)
    refine wpListIn_step fun L hL => ?_
    unfold GuardIs at hg
    cases hgu : o.guard with
    | none =>
      rw [hgu] at hg
      simp only [Region.wanted, hgu, if_true]
      exact yes hg L hL
    | some jw =>
      obtain ⟨j, want⟩ := jw
      rw [hgu] at hg
      obtain ⟨b, hb, h1, h2⟩ := hg
      have hy := guard_yielded hs hb
      by_cases hbw : b = some want
      · rw [if_pos (by simp only [Region.wanted, hgu, hy, hbw]; exact beq_self_eq_true _)]
        exact yes (h1 hbw) L hL
      · rw [if_neg (by simp only [Region.wanted, hgu, hy]; intro hx; exact hbw (by simpa using hx))]
        exact ⟨fun f _ => trivial, hL _ _ (no (h2 hbw))⟩

structure DR (C : Ctx) (r : Nat) (c : Code) (e : Env) (H : Heap) (Q : Post) : Prop where
  go : ∀ (n : Nat) (a : Act) (w : World), St C a w e H → c.wpIn (Fence.wide.inRound r) n C.P (fun x a' w' => lift C Q x a' w' ∧ a'.defers = a.defers) a w

section
variable {C : Ctx} {r : Nat} {e : Env} {H : Heap} {Q : Post}

theorem DR.skip (h : Q .normal e H) : DR C r .skip e H Q := .mk fun n a w hs => wpIn_skip ⟨⟨e, H, h, hs⟩, rfl⟩

theorem DR.region {id : Nat} {ops : List Oper} (hnd : ops.all (fun o => noDefer o.op) = true) (h : RO C ops ops e H fun e' H' => Q .normal e' H') : DR C r (.region id ops.toArray false) e H Q := .mk fun n a w hs =>
  wpIn_region_lit (RO.soundIn (fun e' H' a' w' hk hs' hdf => ⟨⟨e', H', hk, hs'⟩, hdf⟩) ops e H a w hnd h hs rfl)

def thenR (C : Ctx) (r : Nat) (y : Code) (Q : Post) : Post
  | .normal, e, H => DR C r y e H Q
  | x, e, H => Q x e H

theorem DR.seq {x y : Code} (h : DR C r x e H (thenR C r y Q)) : DR C r (.seq x y) e H Q := .mk fun n a w hs => wpIn_seq (wpIn_mono (h.go n a w hs) fun z a' w' hz => by
  obtain ⟨⟨e', H', hq, hs'⟩, hdf⟩ := hz
  cases z with
  | normal => exact wpIn_mono (hq.go n a' w' hs') fun z2 a2 w2 h2 => ⟨h2.1, h2.2.trans hdf⟩
  | _ => exact ⟨⟨e', H', hq, hs'⟩, hdf⟩)

theorem DR.cond {c : Operand} {x y : Code} {t : Bool} (hc : e.ev c = some (.bool t)) (h1 : t = true → DR C r x e H Q) (h2 : t = false → DR C r y e H Q) : DR C r (.cond c x y) e H Q := .mk fun n a w hs =>
  wpIn_cond_split (rep_bool (hs.agree c _ hc)) (fun h => (h1 h).go n a w hs) (fun h => (h2 h).go n a w hs)

theorem DR.block {id : Nat} {c : Code} (h : DR C r c e H (blockQ id Q)) : DR C r (.block id c) e H Q := .mk fun n a w hs => wpIn_block (wpIn_mono (h.go n a w hs) fun z a' w' hz => by
  obtain ⟨⟨e', H', q, s⟩, hdf⟩ := hz
  cases z with
  | exit id' =>
    simp only [Exit.inBlock]
    simp only [blockQ] at q
    by_cases hi : id' = id
    · subst hi
      rw [if_pos rfl]
      rw [show Nat.beq id' id' = true from Nat.beq_refl id'] at q
      exact ⟨⟨e', H', q, s⟩, hdf⟩
    · rw [if_neg hi]
      have : Nat.beq id' id = false := by
        cases hb : Nat.beq id' id with
        | false => rfl
        | true => exact absurd (Nat.eq_of_beq_eq_true hb) hi
      rw [this] at q
      exact ⟨⟨e', H', q, s⟩, hdf⟩
  | normal => exact ⟨⟨e', H', q, s⟩, hdf⟩
  | ret => exact ⟨⟨e', H', q, s⟩, hdf⟩
  | goto l => exact ⟨⟨e', H', q, s⟩, hdf⟩
  | panic c => exact ⟨⟨e', H', q, s⟩, hdf⟩
  | outgrown => exact ⟨⟨e', H', q, s⟩, hdf⟩)

theorem DR.mono {c : Code} {Q' : Post} (h : DR C r c e H Q) (hq : ∀ x e' H', Q x e' H' → Q' x e' H') : DR C r c e H Q' :=
  .mk fun n a w hs => wpIn_mono (h.go n a w hs) fun x a' w' ⟨⟨e', H', h1, h2⟩, h3⟩ => ⟨⟨e', H', hq _ _ _ h1, h2⟩, h3⟩

end

theorem kept_put {w : World} {H : Heap} {l : Nat} {o o' : Obj} (hl : w.heap[l]? = some o) (hn : o.isCells = false) : Kept w H (w.putObj l o') H := by
  have hoth : ∀ (b : Nat) (cs : Array Value) (T : TypeId) (fr : Nat × Nat), w.heap[b]? = some (.cells cs T fr) → (w.putObj l o').heap[b]? = w.heap[b]? := fun b cs T fr hb => World.putObj_heap_other fun e => by
    subst e
    rw [hl] at hb
    cases hb
    cases hn
  refine ⟨fun b off v hH hw => ⟨hH, ?_⟩, fun b cs T hb => ⟨cs, (hoth b cs T _ hb).trans hb, rfl⟩⟩
  have hx : ∃ cs T fr, w.heap[b]? = some (.cells cs T fr) := by
    unfold World.cell? at hw
    dsimp only at hw
    split at hw
    · rename_i c T fr hc
      exact ⟨c, T, fr, hc⟩
    · cases hw
  obtain ⟨cs, T, fr, hc⟩ := hx
  exact (World.cell?_of_block (a := ⟨b, off, none⟩) (hoth b cs T fr hc)).trans hw

theorem hok_put {w : World} {H : Heap} {l : Nat} {o o' : Obj} (ho : HOK w H) (hl : w.heap[l]? = some o) (hn : o.isCells = false) : HOK (w.putObj l o') H := by
  have hk := kept_put (H := H) (o' := o') hl hn
  have hoth : ∀ (b : Nat) (cs : Array Value) (T : TypeId) (fr : Nat × Nat), w.heap[b]? = some (.cells cs T fr) → (w.putObj l o').heap[b]? = some (.cells cs T fr) := fun b cs T fr hb => (World.putObj_heap_other fun e => by
    subst e
    rw [hl] at hb
    cases hb
    cases hn).trans hb
  refine ⟨fun b T cells hb => ?_, fun g cs hg => ?_⟩
  · obtain ⟨cs, h1, h2, h3⟩ := ho.at' b T cells hb
    refine ⟨cs, hoth b cs T _ h1, h2, fun j x hj => ?_⟩
    obtain ⟨g1, v, g2, g3⟩ := h3 j x hj
    exact ⟨g1, v, g2, g3.kept hk⟩
  · obtain ⟨h1, T, h2⟩ := ho.inv g cs hg
    exact ⟨h1, T, hoth g cs T _ h2⟩

theorem ext_put {w0 w : World} {H0 H : Heap} {l : Nat} {o o' : Obj} (he : Ext w0 H0 w H) (hl : w.heap[l]? = some o) (hn : o.isCells = false) (h0 : w0.heap.size ≤ l) : Ext w0 H0 (w.putObj l o') H := by
  refine ⟨he.os, he.tape, he.output, by rw [World.putObj_size]; exact he.size, he.tick.trans (.of_le (Nat.le_refl _)), fun b hb hH => ?_, fun b cs T hb => ?_⟩
  · obtain ⟨h1, h2⟩ := he.old b hb hH
    exact ⟨h1, (World.putObj_heap_other (by omega)).trans h2⟩
  · obtain ⟨cs', h1, h2⟩ := he.shape b cs T hb
    refine ⟨cs', (World.putObj_heap_other fun e => ?_).trans h1, h2⟩
    subst e
    rw [hl] at h1
    cases h1
    cases hn

theorem yield_of {P : Program} {N r : Nat} {w W : World} {H Hk : Heap} {rec : Loop} {p : Tmp} {v : Value} {d : D} {e : Env} {K : Heap → Prop}
    (hl : W.heap[r]? = some (.loop rec)) (hrd : rec.state = .ready) (hpn : rec.pending = none) (hps : rec.params = #[p]) (hr : w.heap.size ≤ r) (hsz : rec.tmps.size = N) (hp : p < N)
    (henv : ∀ t d, e.get t = some d → ∃ v, rec.tmps[t]? = some v ∧ Rep W Hk v d) (hv : Rep W Hk v d) (ho : HOK W Hk) (hx : Ext w H W Hk)
    (h : ∀ w0 H0, DR ⟨P, N, w0, H0⟩ r rec.assign ((p, d) :: e) Hk fun x e1 H1 => x = .normal ∧ ∀ w0 H0, DR ⟨P, N, w0, H0⟩ r rec.body e1 H1 fun x e2 H2 => x = .normal ∧ K H2) :
    YieldAt Fence.wide 0 P r #[v] W fun en W' => en = .returned (.bool true) ∧ ∃ H2, K H2 ∧ HOK W' H2 ∧ Ext w H W' H2 ∧ W'.heap[r]? = some (.loop rec) ∧ W.heap.size ≤ W'.heap.size ∧ (∀ b, b < W.heap.size → b ≠ r → Hk b = none → H2 b = none ∧ W'.heap[b]? = W.heap[b]?) ∧ ∀ (b : Nat) (cs : Array Value) (T : TypeId), W.heap[b]? = some (.cells cs T (0, 0)) → ∃ cs' : Array Value, W'.heap[b]? = some (.cells cs' T (0, 0)) ∧ cs'.size = cs.size := by
  have hrl := lt_of_block hl
  have hHr : ∀ {w' : World} {H' : Heap} {o : Obj}, HOK w' H' → w'.heap[r]? = some o → o.isCells = false → H' r = none := fun {w' H' o} ho' hl' hn => by
    cases hc : H' r with
    | none => rfl
    | some x =>
      obtain ⟨T, cells⟩ := x
      obtain ⟨cs, h1, _⟩ := ho'.at' _ _ _ hc
      rw [hl'] at h1
      cases h1
      cases hn
  have hy := run_yield (P := P) (args := #[v]) hl (by rw [hps]; rfl)
  refine ⟨rec.fn, _, rec.assign, rec.body, hy, roundIn_of_wpIn trivial ?_⟩
  rw [hps]
  have hst : St ⟨P, N, W, Hk⟩ { tmps := ((#[p] : Array Tmp).zip #[v]).foldl (fun tmps (t, a) => tmps.setIfInBounds t a) rec.tmps, defers := [] } W ((p, d) :: e) Hk := by
    have hz : ((#[p] : Array Tmp).zip #[v]).foldl (fun tmps (t, a) => tmps.setIfInBounds t a) rec.tmps = rec.tmps.setIfInBounds p v := by simp
    rw [hz]
    refine ⟨by simp [hsz], trivial, fun t x hxt => ?_, ho, .refl _ _⟩
    rw [Env.get_cons] at hxt
    show ∃ u, (rec.tmps.setIfInBounds p v)[t]? = some u ∧ _
    rw [Array.getElem?_setIfInBounds]
    split at hxt
    · rename_i hpt
      cases hxt
      exact ⟨v, by rw [if_pos hpt, if_pos (by rw [hsz]; first | exact hp | (rw [← hpt]; exact hp))], hv⟩
    · rename_i hpt
      obtain ⟨u, h1, h2⟩ := henv t x hxt
      exact ⟨u, by rw [if_neg hpt]; exact h1, h2⟩
  refine wpIn_mono ((h W Hk).go 0 _ W hst) fun x a1 W1 ⟨⟨e1, H1, ⟨hx1, hb⟩, s1⟩, hdf1⟩ => ?_
  subst hx1
  have hl1 : W1.heap[r]? = some (.loop rec) := (s1.ext.old r hrl (hHr ho hl rfl)).2.trans hl
  show ∃ w₂, _
  refine ⟨_, run_beginRound hl1 hrd, ?_⟩
  have ho1 := hok_put (o' := .loop { rec with state := .busy }) s1.heap hl1 rfl
  have hk1 := kept_put (H := H1) (o' := .loop { rec with state := .busy }) hl1 rfl
  have hx1 : Ext w H (W1.putObj r (.loop { rec with state := .busy })) H1 := ext_put (hx.trans s1.ext) hl1 rfl hr
  have hl2 : (W1.putObj r (.loop { rec with state := .busy })).heap[r]? = some (.loop { rec with state := .busy }) := World.putObj_heap_same (lt_of_block hl1)
  have hsz1 : (W1.putObj r (.loop { rec with state := .busy })).heap.size = W1.heap.size := World.putObj_size
  have hoth1 : ∀ b, b ≠ r → (W1.putObj r (.loop { rec with state := .busy })).heap[b]? = W1.heap[b]? := fun b hb => World.putObj_heap_other hb
  obtain ⟨W1', hW1'⟩ : ∃ W1', W1' = W1.putObj r (.loop { rec with state := .busy }) := ⟨_, rfl⟩
  rw [← hW1'] at ho1 hk1 hx1 hl2 hsz1 hoth1 ⊢
  have hst1 : St ⟨P, N, W1', H1⟩ a1 W1' e1 H1 := ⟨s1.size, by rw [hdf1]; trivial, fun t x hxt => by
    obtain ⟨u, h1, h2⟩ := s1.env t x hxt
    exact ⟨u, h1, h2.kept hk1⟩, ho1, .refl _ _⟩
  refine wpIn_mono ((hb W1' H1).go 0 a1 W1' hst1) fun x a2 W2 ⟨⟨e2, H2, ⟨hx2, hK⟩, s2⟩, hdf2⟩ => ?_
  subst hx2
  have hr2 : r < W1'.heap.size := lt_of_block hl2
  have hl3 : W2.heap[r]? = some (.loop { rec with state := .busy }) := (s2.ext.old r hr2 (hHr ho1 hl2 rfl)).2.trans hl2
  have hend := run_endRound (P := P) none hl3
  have hrec : ({ { rec with state := .busy } with state := if (none : Option Code).isNone then .ready else .done, pending := none } : Loop) = rec := by
    obtain ⟨r1, r2, r3, r4, r5, r6, r7, r8⟩ := rec
    simp only at hrd hpn
    subst hrd
    subst hpn
    rfl
  rw [hrec] at hend
  refine ⟨_, _, hend, rfl, H2, hK, hok_put s2.heap hl3 rfl, ext_put (hx1.trans s2.ext) hl3 rfl hr, World.putObj_heap_same (lt_of_block hl3), by rw [World.putObj_size]; have h1 := s1.ext.size; have h2 := s2.ext.size; rw [hsz1] at h2; exact Nat.le_trans h1 h2, fun b hb hbr hHb => ?_, fun b cs T hbc => ?_⟩
  rotate_left
  · have hbr : b ≠ r := fun e => by rw [e, hl] at hbc; cases hbc
    obtain ⟨cs1, g1, g2⟩ := s1.ext.shape b cs T hbc
    obtain ⟨cs2, g3, g4⟩ := s2.ext.shape b cs1 T ((hoth1 b hbr).trans g1)
    exact ⟨cs2, (World.putObj_heap_other hbr).trans g3, g4.trans g2⟩
  obtain ⟨g1, g2⟩ := s1.ext.old b hb hHb
  have hbs : b < W1'.heap.size := by
    have := s1.ext.size
    rw [hsz1]
    exact Nat.lt_of_lt_of_le hb this
  obtain ⟨g3, g4⟩ := s2.ext.old b hbs g1
  exact ⟨g3, (World.putObj_heap_other hbr).trans (g4.trans ((hoth1 b hbr).trans g2))⟩

end Go.Proofs.YtfjmdhemlfafbaaGreat

namespace Go.Proofs.YtfjmdhemlfafbaaGreat
open Go.RowKit

theorem PureH.of_bodyCell {P : Program} {H : Heap} {f : FuncId} {fn : Func} {c : Code} {ds cells : List D} {r : Tmp} {t T0 : TypeId} [AggT P t cells.length] (hf : P.funcs[f]? = some fn) (hb : fn.body = some c) (hn : (fn.name == "runtime.NumGoroutine") = false) (hds : ds.length ≤ fn.ntmps)
    (hres : fn.results = #[.cell r t])
    (h : ∀ w0 : World, DW ⟨P, fn.ntmps, w0, H⟩ c (argEnv 0 ds) H fun x e H' => (x = .ret ∨ x = .normal) ∧ ∃ b, e.get r = some (.ptr b 0) ∧ H' b = some (T0, cells) ∧ Over H H' ∧ H b = none) : PureH P H f ds (.agg cells) := by
  refine ⟨⟨fn, hf, hn, by rw [hb]; rfl⟩, fun w args ho ha => ?_⟩
  refine calls_of_marks hf hb ?_
  have hst : St ⟨P, fn.ntmps, w, H⟩ { tmps := args ++ Array.replicate (fn.ntmps - args.size) undef, defers := [] } w (argEnv 0 ds) H := by
    refine ⟨by simp [ha.1]; omega, trivial, fun t d hd => ?_, ho, .refl _ _⟩
    obtain ⟨_, hd'⟩ := argEnv_get ds 0 t d hd
    obtain ⟨v, hv, hr⟩ := ha.2 t d (by simpa using hd')
    exact ⟨v, by rw [Array.getElem?_append_left (Array.getElem?_eq_some_iff.1 hv).1]; exact hv, hr⟩
  refine wp_mono ((h w).go _ w hst) fun x a' w' hx => ?_
  obtain ⟨e', H', ⟨hxx, b, hget, hHb, hov, hbn⟩, s⟩ := hx
  refine ⟨hxx, s.defers, fun w' hsh => ?_⟩
  have s := s.shut hsh
  obtain ⟨v, hv, hrep⟩ := s.env r _ hget
  have hvp := rep_ptr hrep
  subst hvp
  have hvd : a'.tmps.getD r undef = .pointer (some ⟨b, 0, none⟩) := by simp [Array.getD_eq_getD_getElem?, hv]
  obtain ⟨td, inf, hu, hd, hi, hs⟩ := AggT.h (P := P) (t := t) (k := cells.length)
  obtain ⟨cs, hcb, hcl, hcr⟩ := s.heap b T0 cells hHb
  have hvs : ∀ (m : Nat) (v : Value), ((List.range inf.size).map fun m => cs.getD m undef)[m]? = some v → w'.cell? ((⟨b, 0, none⟩ : Addr).add m) = some v := fun m v hm => by
    simp only [List.getElem?_map, Option.map_eq_some_iff] at hm
    obtain ⟨m', hm', rfl⟩ := hm
    have hlt : m < inf.size := by
      have := (List.getElem?_eq_some_iff.1 hm').1
      simpa using this
    rw [List.getElem?_range hlt] at hm'
    cases hm'
    have hy : cells[m]? = some (cells[m]'(by omega)) := by simp
    obtain ⟨_, u, hu', _⟩ := hcr m _ hy
    rw [addr_add, cell_of_row w' b (0 + m) cs T0 (0, 0) hcb, Nat.zero_add, hu']
    simp [Array.getD_eq_getD_getElem?, hu']
  have hload := run_load_agg hu hd hi w' (by simp) hvs
  simp only [Instr.loadAt, Instr.sureAddr, Sem.run_bind, Sem.run_pure, Result.andThen_ok] at hload
  have hsem : (results fn a'.tmps).run P w' = .ok (.agg ((List.range inf.size).map fun m => cs.getD m undef).toArray) w' := by
    rw [results_eq, hres]
    rw [show (#[ResultVar.cell r t] : Array ResultVar) = [ResultVar.cell r t].toArray from rfl, List.mapM_toArray, Sem.run_bind, Sem.run_map, List.mapM_cons, List.mapM_nil]
    simp [resSem, hvd, asAddr, hload]
  have hsub : H.sub H' := fun c x hc => hov c x hc
  refine ⟨_, hsem, _, rfl, RepsA.agg ⟨by simp [hs], fun m y hy => ?_⟩, s.heap.sub hsub, s.ext.sub hsub⟩
  have hlt : m < inf.size := by rw [hs]; exact (List.getElem?_eq_some_iff.1 hy).1
  obtain ⟨_, u, hu', hrep⟩ := hcr m y hy
  exact ⟨u, by simp [hlt, Array.getD_eq_getD_getElem?, hu'], hrep.kept (.sub hsub)⟩

class BuildT (P : Program) (t : TypeId) (zd : outParam (List D)) (pl : outParam (Array (Nat × Nat))) : Prop where
  is : ∃ inf fs, P.info? t = some inf ∧ inf.zero = some (.agg (zd.map litV).toArray) ∧ P.underlying t = some (.struct fs) ∧ placesOf P fs = some pl
  lit : zd.all litOk = true

theorem BuildT.of {P : Program} {t : TypeId} {zd : List D} {pl : Array (Nat × Nat)} {fs : Array Field} (h1 : (P.info? t).bind (·.zero) = some (.agg (zd.map litV).toArray)) (hu : P.underlying t = some (.struct fs)) (h2 : placesOf P fs = some pl) (h3 : zd.all litOk = true) : BuildT P t zd pl := by
  cases hi : P.info? t with
  | none => rw [hi] at h1; cases h1
  | some inf => rw [hi] at h1; exact ⟨⟨inf, fs, hi, h1, hu, h2⟩, h3⟩

theorem s_buildT {P : Program} {H : Heap} {e : Env} {dst : Option Tmp} {ty : TypeId} {pos : String} {af : Array Edge} {gd : Option (Nat × Bool)} {t : TypeId} {zd out : List D} {pl : Array (Nat × Nat)} {parts : Array (Nat × Operand)} {pd : List (Nat × D)} [BuildT P t zd pl]
    (hp : evParts e parts.toList = some pd) (ho : fillD (pl[·]?) zd pd = some out) : Sta P H e ⟨dst, .build t parts, ty, pos, af, gd⟩ (.agg out) := by
  obtain ⟨inf, fs, h1, h2, h3, h4⟩ := BuildT.is (P := P) (t := t)
  exact sta_build h1 h2 h3 h4 rfl (BuildT.lit (P := P) (t := t) (pl := pl)) hp ho

end Go.Proofs.YtfjmdhemlfafbaaGreat

namespace Go.Proofs.YtfjmdhemlfafbaaGreat
open Go.RowKit

section
variable {P : Program} {H : Heap} {e : Env} {dst : Option Tmp} {ty : TypeId} {pos : String} {af : Array Edge} {gd : Option (Nat × Bool)}

theorem s_addW {x y : Operand} {tx t2 : TypeId} {a b : Int} (hx : e.ev x = some (I a)) (hy : e.ev y = some (I b)) : Sta P H e ⟨dst, .binOp .add tx x y t2, ty, pos, af, gd⟩ (I (wrap64 (a + b))) := .mk fun ρ w ha ho => by
  have h1 := rep_int (ha x _ hx)
  have h2 := rep_int (ha y _ hy)
  simp only [OpTo, execOp, h1, h2, eqGuard, binOp, Op.intArith, bind, pure, Sem.run, Sem.bind, ne_eq, not_true, if_false, Bool.not_eq_true]
  rw [IntWalk.i64_left]
  exact ⟨.int _ _, ho, .refl _ _⟩

theorem s_mulW {x y : Operand} {tx t2 : TypeId} {a b : Int} (hx : e.ev x = some (I a)) (hy : e.ev y = some (I b)) : Sta P H e ⟨dst, .binOp .mul tx x y t2, ty, pos, af, gd⟩ (I (wrap64 (a * b))) := .mk fun ρ w ha ho => by
  have h1 := rep_int (ha x _ hx)
  have h2 := rep_int (ha y _ hy)
  simp only [OpTo, execOp, h1, h2, eqGuard, binOp, Op.intArith, bind, pure, Sem.run, Sem.bind, ne_eq, not_true, if_false, Bool.not_eq_true]
  rw [IntWalk.i64_left]
  exact ⟨.int _ _, ho, .refl _ _⟩

end

end Go.Proofs.YtfjmdhemlfafbaaGreat

namespace Go.Proofs.YtfjmdhemlfafbaaGreat
open Go.RowKit

def Sees (H : Heap) (free : List Nat) (i : Nat) (H' : Heap) : Prop := i ∈ free ∨ Over H H'

def StaM (C : Ctx) (H : Heap) (free : List Nat) (i : Nat) (e : Env) (o : Oper) (d : D) : Prop :=
  dstOk C.N o.dst = true ∧ o.guard = none ∧ ∀ H', Sees H free i H' → Sta C.P H' (e.mask o) o d

def RM (C : Ctx) (H : Heap) (free : List Nat) : Nat → List Oper → Env → (Env → Prop) → Prop
  | _, [], e, K => K e
  | i, o :: rest, e, K => ∃ d, StaM C H free i e o d ∧ RM C H free (i + 1) rest (e.putO o.dst d) K

theorem RM.trace {C : Ctx} {H : Heap} {free : List Nat} : ∀ (n : Nat) (l : List Oper) (e : Env) (K : Env → Prop), RM C H free n l e K →
    ∃ (es : Nat → Env) (ds : Nat → D), es 0 = e ∧ (∀ i o, l[i]? = some o → StaM C H free (n + i) (es i) o (ds i) ∧ es (i + 1) = (es i).putO o.dst (ds i)) ∧ K (es l.length)
  | n, [], e, K, h => ⟨fun _ => e, fun _ => .nil, rfl, fun i o hi => by simp at hi, h⟩
  | n, o :: rest, e, K, ⟨d, hd, hr⟩ => by
    obtain ⟨es, ds, h0, hi, hK⟩ := RM.trace (n + 1) rest _ K hr
    refine ⟨fun i => match i with | 0 => e | i + 1 => es i, fun i => match i with | 0 => d | i + 1 => ds i, rfl, fun i o' ho => ?_, hK⟩
    cases i with
    | zero =>
      simp at ho
      subst ho
      exact ⟨hd, h0⟩
    | succ i =>
      have := hi i o' (by simpa using ho)
      rw [show n + (i + 1) = n + 1 + i by omega]
      exact this

structure InvM (C : Ctx) (H Hn : Heap) (e : Env) (pre : List Oper) (ds : Nat → D) (L : Nat → Prop) (a : Act) (w : World) (Hc : Heap) : Prop where
  size : a.tmps.size = C.N
  defers : Marks C.w0 a.defers w
  heap : HOK w Hc
  ext : Ext C.w0 C.H0 w Hc
  ran : ∀ (k : Nat) (p : Oper) (t : Nat), pre[k]? = some p → L k → p.dst = some t → ∃ v, a.tmps[t]? = some v ∧ Rep w Hc v (ds k)
  rest : ∀ (t : Nat) (d : D), e.get t = some d → (∀ (k : Nat) (p : Oper), pre[k]? = some p → p.dst ≠ some t) → ∃ v, a.tmps[t]? = some v ∧ Rep w Hc v d
  made : (L pre.length → Hc = Hn) ∧ (¬ L pre.length → Hc = H)

theorem InvM.put {C : Ctx} {H Hn : Heap} {e : Env} {pre : List Oper} {ds : Nat → D} {L : Nat → Prop} {a : Act} {w : World} {Hc : Heap} (hi : InvM C H Hn e pre ds L a w Hc)
    (hdist : ∀ (i k : Nat) (o p : Oper) (t : Nat), pre[i]? = some o → pre[k]? = some p → o.dst = some t → p.dst = some t → i = k) {i : Nat} {o : Oper} (ho : pre[i]? = some o) (hd : dstOk C.N o.dst = true)
    {v : Value} {w' : World} (hr : Rep w' Hc v (ds i)) (hok : HOK w' Hc) (hex : Ext w Hc w' Hc) : InvM C H Hn e pre ds (fun j => L j ∨ j = i) (a.put o.dst v) w' Hc := by
  have hlen : i < pre.length := (List.getElem?_eq_some_iff.1 ho).1
  have hdst : ∀ t, o.dst = some t → t < a.tmps.size := fun t ht => by
    rw [ht] at hd
    rw [hi.size]
    simpa [dstOk, Nat.blt_eq] using hd
  refine ⟨?_, ?_, hok, hi.ext.trans hex, ?_, ?_, ?_⟩
  · cases hd : o.dst with
    | none => exact hi.size
    | some t => simp [Act.put, hi.size]
  · rw [Act.put_defers']; exact hi.defers.ext hi.heap hex
  · intro k p t hp hk hpt
    by_cases hki : k = i
    · subst hki
      rw [ho] at hp
      cases hp
      rw [hpt]
      exact ⟨v, put_tmps_self (hdst t hpt), hr⟩
    · obtain ⟨u, hu, hur⟩ := hi.ran k p t hp (hk.resolve_right hki) hpt
      exact ⟨u, put_tmps hu (fun hx => hki (hdist k i p o t hp ho hpt hx)), hur.ext hex⟩
  · intro t d he hn
    obtain ⟨u, hu, hur⟩ := hi.rest t d he hn
    exact ⟨u, put_tmps hu (hn i o ho), hur.ext hex⟩
  · obtain ⟨m1, m2⟩ := hi.made
    exact ⟨fun h => m1 (h.resolve_right (by omega)), fun h => m2 fun h' => h (.inl h')⟩

theorem RM.sta {C : Ctx} {H : Heap} {free : List Nat} {i : Nat} {rest : List Oper} {e : Env} {K : Env → Prop} {dst : Option Tmp} {op : Op} {ty : TypeId} {pos : String} {af : Array Edge} {d : D} (hi : free.contains i = false) (h : ∀ H', Over H H' → Sta C.P H' (e.mask ⟨dst, op, ty, pos, af, none⟩) ⟨dst, op, ty, pos, af, none⟩ d)
    (hd : dstOk C.N dst = true) (hk : RM C H free (i + 1) rest (e.putO dst d) K) : RM C H free i (⟨dst, op, ty, pos, af, none⟩ :: rest) e K :=
  ⟨d, ⟨hd, rfl, fun H' hs => h H' (hs.resolve_left (by simpa using hi))⟩, hk⟩

theorem RM.nil {C : Ctx} {H : Heap} {free : List Nat} {i : Nat} {e : Env} {K : Env → Prop} (h : K e) : RM C H free i [] e K := h

end Go.Proofs.YtfjmdhemlfafbaaGreat
