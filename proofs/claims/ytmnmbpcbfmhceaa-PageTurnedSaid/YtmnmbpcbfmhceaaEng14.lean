/-
  THE ENGINE, 14: calls, and shared memory that is made. Nothing here speaks of one program.
-/
import Derived.Test.YtmnmbpcbfmhceaaEng13
set_option linter.unusedSimpArgs false
set_option linter.unusedVariables false
namespace Go.Eng

section
variable {P : Program} {N : Nat} {w0 : World} {A0 R : Auth} {s : St} {a : Act} {w : World} {lam : Nat → Nat} (hr : RelL N w0 A0 R s a w lam)
variable {d : Option Tmp} {ty : TypeId} {pos : String} {af : Array Edge} {gd : Option (Nat × Bool)} {K : St → Prop} {K' : Act → World → Prop} {Q : Exit → Act → World → Prop}

/-- What a callee has to leave alone: its caller's local variables, and what that one has to. -/
def resv (R : Auth) (s : St) (lam : Nat → Nat) : Auth := fun b o => (∃ d, s.loc d ≠ none ∧ b = lam d) ∨ R b o

include hr in
/-- Behind a call. -/
theorem RelL.back {w' : World} {H' : Heap} (h : Back (resv R s lam) s.heap w w' H') : RelL N w0 A0 R ⟨s.env, s.loc, H'⟩ a w' lam ∧ Mono w (auth R s lam) w' (auth R ⟨s.env, s.loc, H'⟩ lam) := by
  have m : Mono w (auth R s lam) w' (auth R ⟨s.env, s.loc, H'⟩ lam) :=
    ⟨h.frm.size, fun b o v hb h1 h2 => ⟨(h.frm.cell b o hb (fun h3 => h2 (.inl h3))).trans h1, fun h3 => h2 (h3.imp (h.dom b o hb) id)⟩,
     fun b hb h2 => ⟨h.frm.blk b hb (fun o h3 => h2 o (.inl h3)), fun o h3 => h2 o (h3.imp (h.dom b o hb) id)⟩, h.frm.shp⟩
  have hno : ∀ d, s.loc d ≠ none → ∀ o, ¬ authH s.heap (lam d) o := fun d hd o ho => by
    unfold authH at ho
    rw [hr.apart d hd] at ho
    exact ho
  refine ⟨{ size := hr.size, defers := hr.defers, inj := hr.inj, lo := hr.lo, hi := fun d hd => Nat.lt_of_lt_of_le (hr.hi d hd) h.frm.size, apart := fun d hd => h.dom' _ (hr.hi d hd) (hr.apart d hd), scp := hr.scp, env := ?_, loc := ?_, heap := fun b o hb => h.heap b o hb, frm := ?_, dom := ?_, dom' := ?_, res := fun b o hb => ⟨(hr.res b o hb).1, h.dom' b (Nat.lt_of_lt_of_le (hr.res b o hb).1 hr.frm.size) (hr.res b o hb).2⟩ }, m⟩
  · intro x v hv
    exact ⟨(hr.env x v hv).1, (hr.env x v hv).2.mono m⟩
  · intro d cs hd
    exact (hr.loc d cs hd).mono m (h.frm.blk _ (hr.hi d (by rw [hd]; simp)) (hno d (by rw [hd]; simp)))
  · exact hr.frm.trans h.frm hr.dom
  · intro b o hb ho
    exact hr.dom b o hb (h.dom b o (Nat.lt_of_lt_of_le hb hr.frm.size) ho)
  · intro b hb h1
    exact h.dom' b (Nat.lt_of_lt_of_le hb hr.frm.size) (hr.dom' b hb h1)

theorem RA_plain {w : World} {A : Auth} {v : AV} (hp : plainV v = true) {u : Value} {l1 l2 : Nat → Nat} (h : RA w A l1 v u) : RA w A l2 v u := by
  refine RA.lam (fun d hd => ?_) h
  exfalso
  cases v with
  | t vs =>
    simp only [plainV, List.all_eq_true] at hp
    simp only [refs, List.any_eq_true] at hd
    obtain ⟨x, hx, h2⟩ := hd
    have := hp x hx
    cases x <;> simp_all [plain1]
  | _ => simp_all [plainV, plain1, refs]

theorem scv_plain {v : AV} (hp : plainV v = true) : ScV s v := by
  intro d hd
  exfalso
  cases v with
  | t vs =>
    simp only [plainV, List.all_eq_true] at hp
    simp only [refs, List.any_eq_true] at hd
    obtain ⟨x, hx, h2⟩ := hd
    have := hp x hx
    cases x <;> simp_all [plain1]
  | _ => simp_all [plainV, plain1, refs]

theorem RA1_arg {w : World} {A : Auth} {v : AV} (hp : okArg v = true) {u : Value} (h : RA w A lam v u) : RA1 w A (fun _ => 0) v u := by
  cases v with
  | c x => exact h
  | g x => exact h
  | f f caps =>
    cases caps with
    | nil =>
      obtain ⟨arr, e, k⟩ := h
      refine ⟨arr, e, ?_⟩
      generalize arr.toList = l at *
      cases l <;> exact k
    | cons _ _ => simp [okArg, plain1] at hp
  | _ => simp [okArg, plain1] at hp

include hr in
theorem args_sound {P : Program} : ∀ (l : List (Operand × TypeId)) (xs : List O) (vs : List AV), allM (fun (x : Operand × TypeId) => opd P x.2 x.1) l = some xs → evs s.env xs = some vs → vs.all okArg = true →
    RAcs w (auth R s lam) vs (l.map fun x => a.eval x.1)
  | [], xs, vs, h1, h2, _ => by
    simp only [allM, Option.some.injEq] at h1
    subst h1
    simp only [evs, Option.some.injEq] at h2
    subst h2
    trivial
  | x :: l, xs, vs, h1, h2, h3 => by
    simp only [allM] at h1
    split at h1 <;> cases h1
    rename_i y ys e1 e2
    simp only [evs] at h2
    split at h2 <;> cases h2
    rename_i v vs e3 e4
    simp only [List.all_cons, Bool.and_eq_true] at h3
    exact ⟨RA1_arg h3.1 (opd_sound hr e1 e3).1, args_sound l ys vs e2 e4 h3.2⟩

theorem callFunc_run {f : FuncId} (h : okFn P f = true) (args : Array Value) (w : World) : (callFunc f args).run P w = .ok (.enter f args) w := by
  unfold okFn at h
  split at h <;> try (cases h; done)
  rename_i fn hf
  simp only [Bool.and_eq_true, Bool.not_eq_true', Option.isSome_iff_exists] at h
  obtain ⟨h1, c, hc⟩ := h
  have h2 : ¬ fn.body = none := by rw [hc]; simp
  have h3 : ¬ fn.name = "runtime.NumGoroutine" := by simpa using h1
  simp [callFunc, hf, h3, h2]

theorem zip_map_fst {as : Array Operand} {ts : Array TypeId} (h : as.size = ts.size) : (as.toList.zip ts.toList).map (fun x => a.eval x.1) = (as.map a.eval).toList := by
  show (as.toList.zip ts.toList).map (a.eval ∘ Prod.fst) = _
  rw [← List.map_map, List.map_fst_zip (by simp [h])]
  simp

include hr in
/-- A call that is entered. -/
theorem enter_wp {o : Oper} {f : FuncId} {vs : List AV} {vals : List Value} {Post : AV → Heap → Prop} (hrun : (execOp a.eval o).run P w = .ok (.enter f vals.toArray) w) (hd : ∀ dd, o.dst = some dd → dd < N)
    (hv : RAcs w (auth R s lam) vs vals) (hc : ACalls P f vs s.heap Post) (hk : ∀ s' a' w', Rel N w0 A0 R s' a' w' → K s' → K' a' w') (h : ∀ v H', Post v H' → plainV v = true → K ⟨put s.env o.dst v, s.loc, H'⟩) : o.wp P a w K' Q := by
  unfold Oper.wp
  rw [hrun]
  have hcall := hc (resv R s lam) w vals (fun b o hb => ⟨auth_lt hr (.inr hb : auth R s lam b o), by rcases hb with ⟨d, h1, rfl⟩ | h1; exact hr.apart d h1; exact (hr.res b o h1).2⟩) (fun b o hb => hr.heap b o hb) hv
  refine Calls.mono hcall fun e w' he => ?_
  obtain ⟨v, H', u, hp, hpl, rfl, hra, hback⟩ := he
  obtain ⟨h1, m⟩ := RelL.back hr hback
  have h2 := h v H' hp hpl
  refine hk _ _ _ ⟨lam, ?_⟩ h2
  cases hdst : o.dst with
  | none => exact h1
  | some dd => exact h1.put (hd dd hdst) (RA_plain hpl hra) (scv_plain hpl)

include hr in
theorem call_wp {f : FuncId} {as : Array Operand} {ts : Array TypeId} {xs : List O} (hsz : as.size = ts.size) (hx : args P as ts = some xs) (hd : ∀ dd, d = some dd → dd < N) (hk : ∀ s' a' w', Rel N w0 A0 R s' a' w' → K s' → K' a' w')
    (h : act P d (.call f xs) s K) : (⟨d, .call ⟨.value (.func f), as, ts⟩, ty, pos, af, gd⟩ : Oper).wp P a w K' Q := by
  simp only [act] at h
  split at h <;> try (exact h.elim)
  rename_i vs hvs
  obtain ⟨⟨hok, hfn⟩, Post, hc, h⟩ := h
  refine enter_wp hr (vs := vs) (vals := (as.map a.eval).toList) ?_ hd ?_ hc hk h
  · have := callFunc_run (P := P) hfn (as.map a.eval) w
    simp [execOp, resolve, Deferred.ofValue, Act.eval, invoke, this]
    exact Array.ext' (by simp)
  · rw [← zip_map_fst hsz]
    exact args_sound hr _ _ _ hx hvs hok

include hr in
theorem callp_wp {f : FuncId} {as : Array Operand} {ts : Array TypeId} {xs : List O} (hsz : as.size = ts.size) (hx : args P as ts = some xs) (hd : ∀ dd, d = some dd → dd < N) (hk : ∀ s' a' w', Rel N w0 A0 R s' a' w' → K s' → K' a' w')
    (h : act P d (.callp f xs) s K) : (⟨d, .call ⟨.value (.func f), as, ts⟩, ty, pos, af, gd⟩ : Oper).wp P a w K' Q := by
  refine call_wp hr hsz hx hd hk ?_
  simp only [act] at h ⊢
  split at h <;> try (exact h.elim)
  rename_i vs hvs
  obtain ⟨h1, v, ⟨h2, h3⟩, h4⟩ := h
  refine ⟨h1, _, h2, fun v' H' hp _ => ?_⟩
  obtain ⟨rfl, rfl⟩ := hp
  exact h4

end
end Go.Eng
