/-
  THE ENGINE, 4: what the small machine's quiet operations give is what the model's operations give. Nothing here speaks of one program.
-/
import Derived.Test.YtmnmbpcbfmhceaaEng3
set_option linter.unusedSimpArgs false
set_option linter.unusedVariables false
namespace Go.Eng

/-- Nothing that was there has turned. -/
structure Grow (w w' : World) : Prop where
  os : w'.os = w.os
  tape : w'.tape = w.tape
  output : w'.output = w.output
  size : w.heap.size ≤ w'.heap.size
  blk : ∀ b, b < w.heap.size → w'.heap[b]? = w.heap[b]?

theorem Grow.refl (w : World) : Grow w w := ⟨rfl, rfl, rfl, Nat.le_refl _, fun _ _ => rfl⟩
theorem Grow.trans {a b c : World} (h : Grow a b) (k : Grow b c) : Grow a c :=
  ⟨k.os.trans h.os, k.tape.trans h.tape, k.output.trans h.output, Nat.le_trans h.size k.size, fun i hi => (k.blk i (Nat.lt_of_lt_of_le hi h.size)).trans (h.blk i hi)⟩
theorem Grow.alloc (w : World) (o : Go.Obj) : Grow w (w.alloc o) := ⟨rfl, rfl, rfl, by simp, fun b hb => Go.RowKit.Below.heap_alloc w o b hb⟩
theorem Grow.drew (w : World) : Grow w w.drew := ⟨rfl, rfl, rfl, Nat.le_refl _, fun _ _ => rfl⟩
theorem Grow.cell {w w' : World} (h : Grow w w') {b o : Nat} (hb : b < w.heap.size) : w'.cell? ⟨b, o, none⟩ = w.cell? ⟨b, o, none⟩ := by
  simp only [World.cell?, h.blk b hb]
theorem Grow.shp {w w' : World} (h : Grow w w') {b : Nat} (hb : b < w.heap.size) : w'.shape? b = w.shape? b := by
  simp only [World.shape?, h.blk b hb]
theorem Grow.mono {w w' : World} (h : Grow w w') (A : Auth) : Mono w A w' A :=
  ⟨h.size, fun b o v hb hc ha => ⟨(h.cell hb).trans hc, ha⟩, fun b hb ha => ⟨h.blk b hb, ha⟩, fun b hb => h.shp hb⟩
theorem Grow.frm {w w' : World} (h : Grow w w') (A : Auth) : Frm w A w' :=
  ⟨h.os, h.tape, h.output, h.size, fun b o hb _ => h.cell hb, fun b hb _ => h.blk b hb, fun b hb => h.shp hb⟩

theorem RRow.mono {w w' : World} {A A' : Auth} {b : Nat} {cs : List CV} (m : Mono w A w' A') (hb : w'.heap[b]? = w.heap[b]?) (h : RRow w A b cs) : RRow w' A' b cs := by
  obtain ⟨arr, T, h1, h2⟩ := h; exact ⟨arr, T, hb.trans h1, h2.mono m⟩

theorem RO.mono {w w' : World} {A A' : Auth} {b : Nat} {o : Obj} (m : Mono w A w' A') (hb : w'.heap[b]? = w.heap[b]?) (h : RO w A b o) : RO w' A' b o := by
  cases o with
  | row cs => exact RRow.mono m hb h
  | map ks f => obtain ⟨es, cl, h1, h2⟩ := h; exact ⟨es, cl, hb.trans h1, h2⟩
  | tip n e ty => obtain ⟨h0, cur, cap, h1, h2⟩ := h; exact ⟨h0, cur, cap, hb.trans h1, h2⟩

theorem RRow.lt {w : World} {A : Auth} {b : Nat} {cs : List CV} (h : RRow w A b cs) : b < w.heap.size := by
  obtain ⟨arr, T, h1, _⟩ := h; exact lt_of_heap h1
theorem RO.lt {w : World} {A : Auth} {b : Nat} {o : Obj} (h : RO w A b o) : b < w.heap.size := by
  cases o with
  | row cs => exact RRow.lt h
  | map ks f => obtain ⟨es, cl, h1, _⟩ := h; exact lt_of_heap h1
  | tip n e ty => obtain ⟨_, cur, cap, h1, _⟩ := h; exact lt_of_heap h1

theorem RelL.grow {N : Nat} {w0 : World} {A0 R : Auth} {s : St} {a : Act} {w w' : World} {lam : Nat → Nat} (h : RelL N w0 A0 R s a w lam) (g : Grow w w') : RelL N w0 A0 R s a w' lam :=
  have m := g.mono (auth R s lam)
  { size := h.size, defers := h.defers, inj := h.inj, lo := h.lo, hi := fun d hd => Nat.lt_of_lt_of_le (h.hi d hd) g.size, apart := h.apart, scp := h.scp,
    env := fun x v hv => ⟨(h.env x v hv).1, (h.env x v hv).2.mono m⟩,
    loc := fun d cs hd => (h.loc d cs hd).mono m (g.blk _ (h.loc d cs hd).lt),
    heap := fun b o hb => (h.heap b o hb).mono m (g.blk _ (h.heap b o hb).lt),
    frm := h.frm.trans (g.frm A0) (fun _ _ _ h => h), dom := h.dom, dom' := h.dom', res := h.res }

theorem getD_put {a : Act} {N d x : Nat} {v : Value} (hN : a.tmps.size = N) (hd : d < N) : (a.put (some d) v).tmps.getD x undef = if x = d then v else a.tmps.getD x undef := by
  simp only [Act.put, Array.getD_eq_getD_getElem?]
  by_cases h : x = d
  · subst h; simp [hN, hd]
  · simp [h, Array.getElem?_setIfInBounds_ne (Ne.symm h)]

def ScV (s : St) (v : AV) : Prop := ∀ d, refs d v = true → s.loc d ≠ none

theorem RelL.put {N : Nat} {w0 : World} {A0 R : Auth} {s : St} {a : Act} {w : World} {lam : Nat → Nat} (h : RelL N w0 A0 R s a w lam) {d : Nat} (hd : d < N) {v : AV} {u : Value}
    (hv : RA w (auth R s lam) lam v u) (hs : ScV s v) : RelL N w0 A0 R { s with env := put s.env (some d) v } (a.put (some d) u) w lam :=
  { size := by simp [Act.put, h.size], defers := h.defers, inj := h.inj, lo := h.lo, hi := h.hi, apart := h.apart,
    scp := fun x v' hx dd hr => by
      simp only [Eng.put, upd] at hx
      split at hx
      · cases hx; exact hs dd hr
      · exact h.scp x v' hx dd hr
    env := fun x v' hx => by
      simp only [Eng.put, upd] at hx
      rw [getD_put h.size hd]
      split at hx
      · rename_i e; subst e; cases hx; simp only [if_true]; exact ⟨hd, hv⟩
      · rename_i e; simp only [if_neg e]; exact h.env x v' hx
    loc := h.loc, heap := h.heap, frm := h.frm, dom := h.dom, dom' := h.dom', res := h.res }

/-- An operation that leaves everything alone gives a value, in this state. -/
def QS (P : Program) (R : Auth) (o : Oper) (a : Act) (w : World) (s : St) (lam : Nat → Nat) (v : AV) : Prop :=
  ScV s v ∧ ∃ u w', (execOp a.eval o).run P w = .ok (.value u) w' ∧ Grow w w' ∧ RA w' (auth R s lam) lam v u

section
variable {P : Program} {N : Nat} {w0 : World} {A0 R : Auth} {s : St} {a : Act} {w : World} {lam : Nat → Nat} (hr : RelL N w0 A0 R s a w lam)

theorem scv_c (x : CV) : ScV s (.c x) := fun d h => by simp [refs] at h
theorem scv_g (x : List CV) : ScV s (.g x) := fun d h => by simp [refs] at h
theorem scv_ep (x : List CV) : ScV s (.ep x) := fun d h => by simp [refs] at h

theorem constV_sound {t : TypeId} {v : Value} {x : AV} (h : constV P t v = some x) : RA w (auth R s lam) lam x v ∧ ScV s x := by
  unfold constV at h
  split at h <;> cases h
  · exact ⟨RC.z0 _, scv_c _⟩
  all_goals exact ⟨RC.p _ rfl, scv_c _⟩

include hr in
theorem opd_sound {t : TypeId} {x : Operand} {y : O} (h : opd P t x = some y) {v : AV} (hv : ev s.env y = some v) : RA w (auth R s lam) lam v (a.eval x) ∧ ScV s v := by
  cases x with
  | tmp n => simp only [opd, Option.some.injEq] at h; subst h; exact ⟨(hr.env n v hv).2, hr.scp n v hv⟩
  | const c =>
    simp only [opd, Option.map_eq_some_iff] at h
    obtain ⟨x, hx, rfl⟩ := h
    simp only [ev, Option.some.injEq] at hv
    subst hv
    exact constV_sound hx
  | func f =>
    simp only [opd, Option.some.injEq] at h
    subst h
    simp only [ev, Option.some.injEq] at hv
    subst hv
    exact ⟨⟨#[], rfl, trivial⟩, fun d h => by simp [refs] at h⟩
  | global g => simp [opd] at h

/-- What the model's value is, where a plain cell is told. -/
theorem RA.p {w : World} {A : Auth} {v u : Value} (h : RA w A lam (.c (.p v)) u) : u = v := by cases h; rfl

theorem RA.int {w : World} {A : Auth} {k : IntKind} {n : Int} {u : Value} (h : RA w A lam (I k n) u) : u = .int k n := RA.p h
theorem RA.bool {w : World} {A : Auth} {b : Bool} {u : Value} (h : RA w A lam (B b) u) : u = .bool b := RA.p h
theorem RA.mkp {w : World} {A : Auth} (v : Value) (h : v.oneCell' = true) : RA w A lam (.c (.p v)) v := RC.p v h

/-- A value that is one cell is no aggregate. -/
theorem cells_one {v : Value} (h : v.oneCell' = true) : v.cells = #[v] := by
  cases v <;> first | rfl | (simp [Value.oneCell'] at h)

theorem RA.cells {w : World} {A : Auth} {x : AV} {cs : List CV} (hx : x.cells = some cs) {u : Value} (h : RA w A lam x u) : RCs w A cs u.cells.toList := by
  cases x with
  | c x =>
    simp only [AV.cells, Option.some.injEq] at hx
    subst hx
    have h' : RC w A x u := h
    rw [cells_one h'.one]
    exact ⟨h', trivial⟩
  | g xs =>
    simp only [AV.cells, Option.some.injEq] at hx
    subst hx
    obtain ⟨arr, rfl, h2⟩ := h
    exact h2
  | _ => simp [AV.cells] at hx

theorem natOf_sound {w : World} {A : Auth} {x : AV} {n : Int} (hx : natOf x = some n) {u : Value} (h : RA w A lam x u) : ∃ k, u = .int k n := by
  unfold natOf at hx
  split at hx
  · rename_i k m
    cases hx
    exact ⟨k, RA.p h⟩
  · cases hx

/-! ### The operations -/

theorem exec_of {o : Oper} {sm : Sem Value} (h : execOp a.eval o = (do pure (.value (← sm)))) {u : Value} {w' : World} (hs : sm.run P w = .ok u w') : (execOp a.eval o).run P w = .ok (.value u) w' := by
  rw [h]; simp [hs]

theorem QS.of {o : Oper} {sm : Sem Value} (h : execOp a.eval o = (do pure (.value (← sm)))) {u : Value} {v : AV} (hs : sm.run P w = .ok u w) (hv : RA w (auth R s lam) lam v u) (hsc : ScV s v) : QS P R o a w s lam v :=
  ⟨hsc, u, w, exec_of h hs, Grow.refl w, hv⟩

variable {d : Option Tmp} {ty : TypeId} {pos : String} {af : Array Edge} {gd : Option (Nat × Bool)}

include hr in
theorem mv_sound {x : Operand} {y : O} {v : AV} (h : opd P ty x = some y) (hv : ev s.env y = some v) : QS P R ⟨d, .move x, ty, pos, af, gd⟩ a w s lam v :=
  let ⟨h1, h2⟩ := opd_sound hr h hv
  ⟨h2, _, w, rfl, Grow.refl w, h1⟩
include hr in
theorem asg_sound {x : Operand} {y : O} {v : AV} (h : opd P ty x = some y) (hv : ev s.env y = some v) : QS P R ⟨d, .assign x, ty, pos, af, gd⟩ a w s lam v :=
  let ⟨h1, h2⟩ := opd_sound hr h hv
  ⟨h2, _, w, rfl, Grow.refl w, h1⟩

include hr in
theorem pk_sound {c x y : Operand} {c' x' y' : O} {v : AV} (hc : opd P 0 c = some c') (hx : opd P ty x = some x') (hy : opd P ty y = some y') (hv : qv (.pk c' x' y') s = some v) :
    QS P R ⟨d, .pick c x y, ty, pos, af, gd⟩ a w s lam v := by
  simp only [qv] at hv
  split at hv
  · rename_i h1
    have e := RA.p (opd_sound hr hc h1).1
    obtain ⟨k1, k2⟩ := opd_sound hr hx hv
    exact ⟨k2, _, w, by simp [execOp, e, asBool], Grow.refl w, k1⟩
  · rename_i h1
    have e := RA.p (opd_sound hr hc h1).1
    obtain ⟨k1, k2⟩ := opd_sound hr hy hv
    exact ⟨k2, _, w, by simp [execOp, e, asBool], Grow.refl w, k1⟩
  · cases hv

theorem ari_int (op : Ari) (bop : BinOp) (hop : cbin P bop ty (.t 0) (.t 0) = some (.ari op (.t 0) (.t 0))) {k j : IntKind} {x y : Int} {v : AV} (h : ariI op k x j y = some v) (X Y : Operand) :
    ∃ u, v = .c (.p u) ∧ u.oneCell' = true ∧ (do eqGuard bop ty X Y (.int k x) (.int j y); Go.binOp bop ty (.int k x) (.int j y) : Sem Value).run P w = .ok u w := by
  cases bop <;> simp only [cbin, Option.some.injEq, AOp.ari.injEq, and_true, reduceCtorEq] at hop
  case eql => unfold ceq at hop; repeat' split at hop
              all_goals simp [Option.map_eq_some_iff] at hop
  case neq => unfold ceq at hop; repeat' split at hop
              all_goals simp [Option.map_eq_some_iff] at hop
  all_goals subst hop
  all_goals simp only [ariI] at h
  all_goals (split at h <;> try (cases h; done))
  all_goals try (split at h <;> try (cases h; done))
  all_goals cases h
  all_goals refine ⟨_, rfl, rfl, ?_⟩
  all_goals (try subst_vars)
  all_goals simp_all [eqGuard, Go.binOp, Op.intArith, Op.intDiv, Op.intBits, Op.shift]
  all_goals (intro hy; omega)

theorem i64max : IntKind.i64.max = 9223372036854775807 := by decide

theorem ari_bin (op : Ari) (bop : BinOp) (hop : cbin P bop ty (.t 0) (.t 0) = some (.ari op (.t 0) (.t 0))) {a b v : AV} (h : ariV op a b = some v) {A : Auth} {ua ub : Value} (ha : RA w A lam a ua) (hb : RA w A lam b ub) (X Y : Operand) :
    ∃ u, v = .c (.p u) ∧ u.oneCell' = true ∧ (do eqGuard bop ty X Y ua ub; Go.binOp bop ty ua ub : Sem Value).run P w = .ok u w := by
  unfold ariV at h
  split at h
  · rw [RA.p ha, RA.p hb]
    exact ari_int op bop hop h X Y
  · rw [RA.p ha, RA.p hb]
    split at h <;> try (cases h; done)
    split at h <;> try (cases h; done)
    rename_i hle
    cases h
    refine ⟨_, rfl, rfl, ?_⟩
    cases bop <;> simp only [cbin, Option.some.injEq, AOp.ari.injEq, and_true, reduceCtorEq] at hop
    case eql => unfold ceq at hop; repeat' split at hop
                all_goals simp [Option.map_eq_some_iff] at hop
    case neq => unfold ceq at hop; repeat' split at hop
                all_goals simp [Option.map_eq_some_iff] at hop
    simp [eqGuard, Go.binOp, Op.stringOp, i64max]
    omega
  · cases h

theorem beq_str (x y : ByteArray) : (x.toList == y.toList) = decide (x = y) := by
  rw [ByteArray.toList_eq, ByteArray.toList_eq, Bool.eq_iff_iff]
  simp only [beq_iff_eq, decide_eq_true_eq]
  constructor
  · intro h
    cases x; cases y
    simp only [ByteArray.mk.injEq]
    exact Array.ext' h
  · intro h; rw [h]

theorem cmp_bin (op : Cmp) (bop : BinOp) (hop : cbin P bop ty (.t 0) (.t 0) = some (.cmp op (.t 0) (.t 0))) {a b v : AV} (h : cmpV op a b = some v) {A : Auth} {ua ub : Value} (ha : RA w A lam a ua) (hb : RA w A lam b ub) (X Y : Operand) :
    ∃ u, v = .c (.p u) ∧ u.oneCell' = true ∧ (do eqGuard bop ty X Y ua ub; Go.binOp bop ty ua ub : Sem Value).run P w = .ok u w := by
  have hop' : (bop = .lss ∧ op = .lt) ∨ (bop = .leq ∧ op = .le) ∨ (bop = .gtr ∧ op = .gt) ∨ (bop = .geq ∧ op = .ge) ∨ (bop = .eql ∧ op = .eq) ∨ (bop = .neq ∧ op = .ne) := by
    cases bop <;> simp only [cbin, Option.some.injEq, AOp.cmp.injEq, and_true, reduceCtorEq] at hop
    case eql => unfold ceq at hop; split at hop
                all_goals (try split at hop)
                all_goals simp [Option.map_eq_some_iff] at hop
                all_goals simp_all
    case neq => unfold ceq at hop; split at hop
                all_goals (try split at hop)
                all_goals simp [Option.map_eq_some_iff] at hop
                all_goals simp_all
    all_goals simp [hop]
  unfold cmpV at h
  split at h
  · rw [RA.p ha, RA.p hb]
    split at h <;> cases h
    rename_i hk
    subst hk
    refine ⟨_, rfl, rfl, ?_⟩
    rcases hop' with ⟨rfl, rfl⟩ | ⟨rfl, rfl⟩ | ⟨rfl, rfl⟩ | ⟨rfl, rfl⟩ | ⟨rfl, rfl⟩ | ⟨rfl, rfl⟩ <;> simp [eqGuard, Go.binOp, Op.intCmp, cmpI]
    · rw [Bool.eq_iff_iff]; simp
    · rw [Bool.eq_iff_iff]; simp
  · rw [RA.p ha, RA.p hb]
    split at h <;> cases h
    all_goals refine ⟨_, rfl, rfl, ?_⟩
    all_goals rcases hop' with ⟨rfl, h1⟩ | ⟨rfl, h1⟩ | ⟨rfl, h1⟩ | ⟨rfl, h1⟩ | ⟨rfl, h1⟩ | ⟨rfl, h1⟩ <;> cases h1
    all_goals simp [eqGuard, Go.binOp, Op.stringOp, beq_str]
  · cases h

end
end Go.Eng
