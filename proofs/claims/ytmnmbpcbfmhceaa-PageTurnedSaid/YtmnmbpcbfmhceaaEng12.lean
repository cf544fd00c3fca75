/-
  THE ENGINE, 12: stores, copies, slices that are made. Nothing here speaks of one program.
-/
import Derived.Test.YtmnmbpcbfmhceaaEng11
set_option linter.unusedSimpArgs false
set_option linter.unusedVariables false
namespace Go.Eng

section
variable {P : Program} {N : Nat} {w0 : World} {A0 R : Auth} {s : St} {a : Act} {w : World} {lam : Nat → Nat} (hr : RelL N w0 A0 R s a w lam)
variable {d : Option Tmp} {ty : TypeId} {pos : String} {af : Array Edge} {gd : Option (Nat × Bool)} {K : St → Prop} {K' : Act → World → Prop} {Q : Exit → Act → World → Prop}

theorem run_storeVar_at {t : TypeId} {v : Value} {b o : Nat} {arr : Array Value} {T : TypeId} (hg : w.heap[b]? = some (.cells arr T (0, 0))) (hsz : v.cells.size = P.cellsOf t) (h0 : 0 < P.cellsOf t) (ho : o + v.cells.toList.length ≤ arr.size) (h1 : ∀ x ∈ v.cells.toList, x.oneCell' = true) :
    (storeVar t ⟨b, o, none⟩ v).run P w = .ok () (w.setRow b (arr.toList.take o ++ v.cells.toList ++ arr.toList.drop (o + v.cells.toList.length)).toArray) := by
  obtain ⟨i, hi, hs⟩ := info_of_cells h0
  have := run_storeCells_at P b o T v.cells.toList 0 arr w hg (by simpa using ho) h1
  simp only [Nat.add_zero] at this
  simp [storeVar, sizeOf, typeInfo, hi, hs, hsz, this]

include hr in
theorem st_wp {t : TypeId} {x y : Operand} {x' y' : O} (h0 : 0 < P.cellsOf t) (hx : opd P 0 x = some x') (hy : opd P t y = some y') (hk : ∀ s' a' w', Rel N w0 A0 R s' a' w' → K s' → K' a' w') (h : act P none (.st (P.cellsOf t) x' y') s K) :
    (⟨none, .store t x y, ty, pos, af, gd⟩ : Oper).wp P a w K' Q := by
  simp only [act] at h
  split at h <;> try (exact h.elim)
  rename_i dd o cs h1 h2
  split at h <;> try (exact h.elim)
  rename_i old hold
  obtain ⟨⟨hlen, hle⟩, h⟩ := h
  obtain ⟨k1, _⟩ := opd_sound hr hx h1
  have e1 : a.eval x = .pointer (some ⟨lam dd, o, none⟩) := k1
  cases hv : ev s.env y' with
  | none => simp [hv] at h2
  | some av =>
    simp only [hv, Option.bind_some] at h2
    have hra := RA.cells h2 (opd_sound hr hy hv).1
    have hl2 := hra.length
    obtain ⟨arr, T, g1, g2, g3⟩ := RelL.setLoc hr (o := o) hold hra (by omega)
    refine wp_skp ?_ (hk _ _ _ ⟨lam, g3⟩ h)
    simp only [execOp, Instr.storeAt, e1, Instr.sureAddr, Sem.run_bind, Sem.run_pure, Result.andThen_ok]
    rw [run_storeVar_at g1 (by simpa [hlen] using hl2.symm) h0 g2 hra.one]
    rfl

theorem auth_upd_heap {b : Nat} {o o' : Obj} (hb : s.heap b = some o) (he : ∀ x, (match o with | .row _ => True | .map _ _ => True | .tip n e _ => n * e ≤ x) ↔ (match o' with | .row _ => True | .map _ _ => True | .tip n e _ => n * e ≤ x)) :
    authH (upd s.heap b (some o')) = authH s.heap := by
  funext c x
  unfold authH
  simp only [upd]
  by_cases e : c = b
  · subst e
    simp only [if_true, hb]
    have := he x
    cases o <;> cases o' <;> exact propext this.symm
  · simp only [if_neg e]

include hr in
/-- A shared row is written into. -/
theorem RelL.setHeap {b : Nat} {old cs : List CV} (hl : s.heap b = some (.row old)) {o : Nat} {U : List Value} (hc : RCs w (auth R s lam) cs U) (ho : o + cs.length ≤ old.length) :
    ∃ arr T, w.heap[b]? = some (.cells arr T (0, 0)) ∧ o + U.length ≤ arr.size ∧
      RelL N w0 A0 R ⟨s.env, s.loc, upd s.heap b (some (.row (lay old o cs)))⟩ a (w.setRow b (arr.toList.take o ++ U ++ arr.toList.drop (o + U.length)).toArray) lam := by
  obtain ⟨arr, T, h1, h2, h3⟩ := RRow.set (hr.heap _ _ hl) hc ho
  refine ⟨arr, T, h1, h2, ?_⟩
  have hsz : (arr.toList.take o ++ U ++ arr.toList.drop (o + U.length)).toArray.size = arr.size := by simp; omega
  have hAH : ∀ x, authH s.heap b x := fun x => by unfold authH; rw [hl]; trivial
  have hA : ∀ x, auth R s lam b x := fun x => .inl (hAH x)
  have m := Mono.setRow h1 hsz hA
  have haH := auth_upd_heap (o' := .row (lay old o cs)) hl (fun x => Iff.rfl)
  have hau : auth R ⟨s.env, s.loc, upd s.heap b (some (.row (lay old o cs)))⟩ lam = auth R s lam := by
    funext c x; simp only [auth, haH]
  have hne : ∀ d, s.loc d ≠ none → lam d ≠ b := fun d hd e => by
    have := hr.apart d hd
    rw [e, hl] at this
    cases this
  refine { size := hr.size, defers := hr.defers, inj := hr.inj, lo := hr.lo, hi := fun x hx => by simpa using hr.hi x hx, apart := ?_, scp := hr.scp, env := ?_, loc := ?_, heap := ?_, frm := ?_, dom := ?_, dom' := ?_, res := fun x y hx => ⟨(hr.res x y hx).1, by simp only [upd]; rw [if_neg (fun e => by have := (hr.res x y hx).2; rw [e, hl] at this; cases this)]; exact (hr.res x y hx).2⟩ }
  · intro x hx
    simp only [upd, if_neg (hne x hx)]
    exact hr.apart x hx
  · intro x v hv
    rw [hau]
    exact ⟨(hr.env x v hv).1, (hr.env x v hv).2.mono m⟩
  · intro x cs' hx
    rw [hau]
    exact (hr.loc x cs' hx).mono m (setRow_other w _ _ _ (hne x (by rw [hx]; simp)))
  · intro c oc hc'
    rw [hau]
    simp only [upd] at hc'
    split at hc'
    · rename_i e; subst e
      cases hc'
      exact ⟨_, T, setRow_heap w _ arr _ T (0, 0) h1, by simpa using h3.mono m⟩
    · rename_i e
      exact (hr.heap c oc hc').mono m (setRow_other w _ _ _ e)
  · refine hr.frm.trans (A1 := fun c _ => c = b) ⟨by simp, by simp, by simp, by simp, fun c x hb' h => cell_setRow_ne h, fun c hb' h => setRow_other w _ c _ (h 0), fun c _ => shape_setRow h1 hsz c⟩ (fun c x hb' e => by subst e; exact hr.dom c x hb' (hAH x))
  · intro c x hc' h; rw [haH] at h; exact hr.dom c x hc' h
  · intro c hc' h
    have := hr.dom' c hc' h
    simp only [upd]
    split
    · rename_i e; subst e; rw [hl] at this; cases this
    · exact this

include hr in
theorem sth_wp {t : TypeId} {x y : Operand} {x' y' : O} (h0 : 0 < P.cellsOf t) (hx : opd P 0 x = some x') (hy : opd P t y = some y') (hk : ∀ s' a' w', Rel N w0 A0 R s' a' w' → K s' → K' a' w') (h : act P none (.sth (P.cellsOf t) x' y') s K) :
    (⟨none, .store t x y, ty, pos, af, gd⟩ : Oper).wp P a w K' Q := by
  simp only [act] at h
  split at h <;> try (exact h.elim)
  rename_i b o cs h1 h2
  split at h <;> try (exact h.elim)
  rename_i old hold
  obtain ⟨⟨hlen, hle⟩, h⟩ := h
  have e1 := RA.p (opd_sound hr hx h1).1
  cases hv : ev s.env y' with
  | none => simp [hv] at h2
  | some av =>
    simp only [hv, Option.bind_some] at h2
    have hra := RA.cells h2 (opd_sound hr hy hv).1
    have hl2 := hra.length
    obtain ⟨arr, T, g1, g2, g3⟩ := RelL.setHeap hr (o := o) hold hra (by omega)
    refine wp_skp ?_ (hk _ _ _ ⟨lam, g3⟩ h)
    simp only [execOp, Instr.storeAt, e1, Instr.sureAddr, Sem.run_bind, Sem.run_pure, Result.andThen_ok]
    rw [run_storeVar_at g1 (by simpa [hlen] using hl2.symm) h0 g2 hra.one]
    rfl

/-! ### Copies -/

include hr in
/-- What a copy or an append takes from, in the model. -/
theorem src_sound {e : Nat} (he : 0 < e) {x : AV} {m : Nat} {cs : List CV} {u : Value} (hx : srcV s.loc e x = some (m, cs)) (hl : cs.length = m * e) (h : RA w (auth R s lam) lam x u) :
    (Builtin.lenOf u).run P w = .ok m w ∧ ∀ k, k ≤ m → ∃ U : List Value, (Builtin.firstCells e k u).run P w = .ok U.toArray w ∧ RCs w (auth R s lam) (cs.take (k * e)) U ∧ U.length = k * e := by
  unfold srcV at hx
  split at hx
  · rename_i st
    split at hx <;> cases hx
    rename_i he1
    subst he1
    rw [RA.p h]
    refine ⟨rfl, fun k hk => ⟨(st.data.toList.take k).map fun b => .int .u8 b.toNat, ?_, ?_, ?_⟩⟩
    · simp only [Builtin.firstCells, Sem.run_pure]
      congr 1
      apply Array.ext'
      rw [Array.toList_map, ByteArray.data_extract, Array.toList_extract, List.extract_eq_take_drop]
      simp only [List.drop_zero, Nat.sub_zero]
    · simp only [Nat.mul_one, ← List.map_take]
      generalize st.data.toList.take k = l
      induction l with
      | nil => trivial
      | cons b l ih => exact ⟨RC.p _ rfl, ih⟩
    · have h3 : st.data.toList.length = st.size := Array.length_toList
      rw [List.length_map, List.length_take, h3]; omega
  · split at hx <;> cases hx
    rename_i n cs' hn hcs
    obtain ⟨b, m, c, e1, rfl⟩ := lenV_sound hn h
    obtain ⟨A, n', c', U, e2, u1, u2, u3⟩ := elems_sound hcs hr h
    rw [e1] at e2
    simp only [Value.slice.injEq] at e2
    obtain ⟨rfl, rfl, rfl⟩ := e2
    subst e1
    refine ⟨rfl, fun k hk => ?_⟩
    simp only [Int.toNat_natCast] at hk hl ⊢
    have hke : k * e ≤ m * e := Nat.mul_le_mul_right e hk
    refine ⟨U.take (k * e), ?_, u1.take _, by simp; omega⟩
    rcases u3 with rfl | ⟨bb, o, rfl, u3⟩
    · have hk0 : k = 0 := by omega
      subst hk0
      cases b <;> simp [Builtin.firstCells, loadCells_zero]
    · have hld := run_loadCells_list (P := P) w ⟨bb, o, none⟩ (U.take (k * e)) (fun j v hv => by
        obtain ⟨hj, rfl⟩ := List.getElem?_eq_some_iff.1 hv
        have hj' : j < U.length := by simp at hj; omega
        rw [add_none]; simpa using u3 j hj')
      have hlen : (U.take (k * e)).length = k * e := by simp; omega
      rw [hlen] at hld
      simpa [Builtin.firstCells] using hld

theorem exec_copy {t1 t2 : TypeId} {x y : Operand} : execOp a.eval ⟨d, .call ⟨.builtin .copy, #[x, y], #[t1, t2]⟩, ty, pos, af, gd⟩ = (do pure (.value (← Builtin.copy_ #[t1, t2] ty #[a.eval x, a.eval y]))) := by
  simp [execOp, resolve, invoke, Go.builtin]

include hr in
theorem cpy_wp {t1 t2 e : TypeId} {x y : Operand} {x' y' : O} (ht : P.underlying t1 = some (.slice e)) (h0 : 0 < P.cellsOf e) (hx : opd P t1 x = some x') (hy : opd P t2 y = some y') (hd : ∀ dd, d = some dd → dd < N)
    (hk : ∀ s' a' w', Rel N w0 A0 R s' a' w' → K s' → K' a' w') (h : act P d (.cpy (P.cellsOf e) x' y') s K) :
    (⟨d, .call ⟨.builtin .copy, #[x, y], #[t1, t2]⟩, ty, pos, af, gd⟩ : Oper).wp P a w K' Q := by
  obtain ⟨inf, hinf, hs⟩ := info_of_cells h0
  simp only [act] at h
  split at h <;> try (exact h.elim)
  rename_i dd o n c m src h1 h2
  split at h <;> try (exact h.elim)
  rename_i old hold
  obtain ⟨⟨hlen, hle⟩, h⟩ := h
  obtain ⟨k1, _⟩ := opd_sound hr hx h1
  have e1 : a.eval x = .slice (some ⟨lam dd, o, none⟩) n c := k1
  cases hv : ev s.env y' with
  | none => simp [hv] at h2
  | some av =>
    simp only [hv, Option.bind_some] at h2
    obtain ⟨s1, s2⟩ := src_sound (P := P) hr h0 h2 hlen (opd_sound hr hy hv).1
    obtain ⟨U, f1, f2, f3⟩ := s2 (min m n) (Nat.min_le_left _ _)
    have hmn : min m n * P.cellsOf e ≤ n * P.cellsOf e := Nat.mul_le_mul_right _ (Nat.min_le_right _ _)
    have hl2 := f2.length
    obtain ⟨arr, T, g1, g2, g3⟩ := RelL.setLoc hr (o := o) hold f2 (by omega)
    have hst := run_storeCells_at P (lam dd) o T U 0 arr w g1 (by simpa using g2) f2.one
    simp only [Nat.add_zero] at hst
    refine wp_val (u := .int .i64 (min m n : Nat)) (w' := w.setRow (lam dd) (arr.toList.take o ++ U ++ arr.toList.drop (o + U.length)).toArray) ?_ (hk _ _ _ ⟨lam, ?_⟩ h)
    · refine exec_of exec_copy ?_
      rw [e1]
      have f1' : (Builtin.firstCells (P.cellsOf e) (Nat.min m n) (a.eval y)).run P w = .ok U.toArray w := f1
      simp [Builtin.copy_, run_underlying ht, sizeOf, typeInfo, hinf, hs, s1, f1', hst, goInt]
    · cases d with
      | none => exact g3
      | some dst => exact g3.put (hd dst rfl) (RC.p _ rfl) (scv_c _)

end
end Go.Eng
