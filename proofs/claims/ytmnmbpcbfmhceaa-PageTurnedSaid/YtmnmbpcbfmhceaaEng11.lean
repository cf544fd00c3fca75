/-
  THE ENGINE, 11: local variables that are made and written. Nothing here speaks of one program.
-/
import Derived.Test.YtmnmbpcbfmhceaaEng10
set_option linter.unusedSimpArgs false
set_option linter.unusedVariables false
namespace Go.Eng

section
variable {P : Program} {N : Nat} {w0 : World} {A0 R : Auth} {s : St} {a : Act} {w : World} {lam : Nat → Nat} (hr : RelL N w0 A0 R s a w lam)
variable {d : Option Tmp} {ty : TypeId} {pos : String} {af : Array Edge} {gd : Option (Nat × Bool)} {K : St → Prop} {K' : Act → World → Prop} {Q : Exit → Act → World → Prop}

theorem wp_val {o : Oper} {u : Value} {w' : World} (h : (execOp a.eval o).run P w = .ok (.value u) w') (hk : K' (a.put o.dst u) w') : o.wp P a w K' Q := by
  unfold Oper.wp; rw [h]; exact hk
theorem wp_skp {o : Oper} {w' : World} (h : (execOp a.eval o).run P w = .ok .skip w') (hk : K' (a.put o.dst undef) w') : o.wp P a w K' Q := by
  unfold Oper.wp; rw [h]; exact hk

include hr in
theorem quiet_wp {o : Oper} {v : AV} (hq : QS P R o a w s lam v) (hd : ∀ d, o.dst = some d → d < N) (hk : ∀ s' a' w', Rel N w0 A0 R s' a' w' → K s' → K' a' w') (h : K { s with env := put s.env o.dst v }) : o.wp P a w K' Q := by
  obtain ⟨h1, u, w', h2, g, h3⟩ := hq
  refine wp_val h2 (hk _ _ _ ⟨lam, ?_⟩ h)
  have hr' := hr.grow g
  cases hdst : o.dst with
  | none => exact hr'
  | some d => exact hr'.put (hd d hdst) h3 h1

/-- A new local variable and its slot. -/
theorem RelL.newSlot (hr : RelL N w0 A0 R s a w lam) {d : Nat} (hdN : d < N) (hd : s.loc d = none) {cs : List CV} {arr : Array Value} (T : TypeId) (hc : RCs w (auth R s lam) cs arr.toList) {v : AV} {u : Value}
    (hv : ∀ w' A lam', lam' d = w.heap.size → RA w' A lam' v u) (hrf : ∀ x, refs x v = true → x = d) :
    Rel N w0 A0 R ⟨Eng.put s.env (some d) v, upd s.loc d (some cs), s.heap⟩ (a.put (some d) u) (w.alloc (.cells arr T)) := by
  have h1 := hr.newLoc hd T hc
  exact ⟨_, RelL.put h1 hdN (hv _ _ _ (by simp)) (fun x hx => by rw [hrf x hx]; simp [upd])⟩

include hr in
theorem al_wp {t : TypeId} {z : List CV} (hz : zeroT P t = some z) {dd : Nat} (hN : dd < N) (hk : ∀ s' a' w', Rel N w0 A0 R s' a' w' → K s' → K' a' w') (h : act P (some dd) (.al z) s K) :
    (⟨some dd, .alloc t, ty, pos, af, gd⟩ : Oper).wp P a w K' Q := by
  obtain ⟨hl, h⟩ := h
  obtain ⟨i, v, hi, hzv, hz1, hz2, hz3⟩ := zeroT_sound hz
  refine wp_val (u := .pointer (some ⟨w.heap.size, 0, none⟩)) (w' := w.alloc (.cells v.cells t)) ?_ (hk _ _ _ (hr.newSlot hN hl t (hz3 w _) (fun w' A lam' e => ?_) (fun x hx => ?_)) h)
  · simp [execOp, Instr.alloc, zeroValue, typeInfo, hi, hzv, newVar, newRow]
  · simp [RA, RA1, e]
  · simp [refs] at hx; exact hx.symm

include hr in
theorem bx_wp {t : TypeId} {n : Nat} {x : Operand} {x' : O} (hx : opd P t x = some x') {dd : Nat} (hN : dd < N) (hk : ∀ s' a' w', Rel N w0 A0 R s' a' w' → K s' → K' a' w') (h : act P (some dd) (.bx n x') s K) :
    (⟨some dd, .box t x, ty, pos, af, gd⟩ : Oper).wp P a w K' Q := by
  simp only [act] at h
  split at h <;> try (exact h.elim)
  rename_i d' cs he hcs
  cases he
  obtain ⟨⟨hlen, hl⟩, h⟩ := h
  cases hv : ev s.env x' with
  | none => simp [hv] at hcs
  | some av =>
    simp only [hv, Option.bind_some] at hcs
    have hra := RA.cells hcs (opd_sound hr hx hv).1
    refine wp_val (u := .pointer (some ⟨w.heap.size, 0, none⟩)) (w' := w.alloc (.cells (a.eval x).cells t)) ?_ (hk _ _ _ (hr.newSlot hN hl t hra (fun w' A lam' e => ?_) (fun x hx => ?_)) h)
    · simp [execOp, Instr.box, newVar, newRow]
    · simp [RA, RA1, e]
    · simp [refs] at hx; exact hx.symm

/-! ### Writing into a row -/

theorem RRow.set {A : Auth} {b : Nat} {old cs : List CV} (h : RRow w A b old) {U : List Value} (hc : RCs w A cs U) {o : Nat} (ho : o + cs.length ≤ old.length) :
    ∃ arr T, w.heap[b]? = some (.cells arr T (0, 0)) ∧ o + U.length ≤ arr.size ∧ RCs w A (lay old o cs) (arr.toList.take o ++ U ++ arr.toList.drop (o + U.length)) := by
  obtain ⟨arr, T, h1, h2⟩ := h
  have hl := h2.length
  have hl2 := hc.length
  simp at hl
  exact ⟨arr, T, h1, by omega, h2.lay hc o⟩

theorem shape_setRow {g : Nat} {cs : Array Value} {arr : Array Value} {T : TypeId} (hg : w.heap[g]? = some (.cells arr T (0, 0))) (hs : cs.size = arr.size) (b : Nat) : (w.setRow g cs).shape? b = w.shape? b := by
  by_cases h : b = g
  · subst h
    simp only [World.shape?, setRow_heap w b arr cs T (0, 0) hg, hg, hs]
  · simp only [World.shape?, setRow_other w g b cs h]

theorem cell_setRow_ne {g : Nat} {cs : Array Value} {b o : Nat} (h : b ≠ g) : (w.setRow g cs).cell? ⟨b, o, none⟩ = w.cell? ⟨b, o, none⟩ := cell_setRow_other w g cs ⟨b, o, none⟩ h

/-- Behind a write into a block all of which may be written. -/
theorem Mono.setRow {A : Auth} {g : Nat} {cs arr : Array Value} {T : TypeId} (hg : w.heap[g]? = some (.cells arr T (0, 0))) (hs : cs.size = arr.size) (hA : ∀ o, A g o) : Mono w A (w.setRow g cs) A :=
  ⟨by simp, fun b o v hb h1 h2 => ⟨by rw [cell_setRow_ne (fun e => h2 (by rw [e]; exact hA o))]; exact h1, h2⟩,
   fun b hb h => ⟨setRow_other w g b cs (fun e => h 0 (by rw [e]; exact hA 0)), h⟩, fun b _ => shape_setRow hg hs b⟩

include hr in
theorem RelL.setLoc {dd : Nat} {old cs : List CV} (hl : s.loc dd = some old) {o : Nat} {U : List Value} (hc : RCs w (auth R s lam) cs U) (ho : o + cs.length ≤ old.length) :
    ∃ arr T, w.heap[lam dd]? = some (.cells arr T (0, 0)) ∧ o + U.length ≤ arr.size ∧
      RelL N w0 A0 R ⟨s.env, upd s.loc dd (some (lay old o cs)), s.heap⟩ a (w.setRow (lam dd) (arr.toList.take o ++ U ++ arr.toList.drop (o + U.length)).toArray) lam := by
  obtain ⟨arr, T, h1, h2, h3⟩ := (hr.loc _ _ hl).set hc ho
  refine ⟨arr, T, h1, h2, ?_⟩
  have hsz : (arr.toList.take o ++ U ++ arr.toList.drop (o + U.length)).toArray.size = arr.size := by simp; omega
  have hA : ∀ x, auth R s lam (lam dd) x := fun x => .inr (.inl ⟨dd, by rw [hl]; simp, rfl⟩)
  have m := Mono.setRow h1 hsz hA
  have hau : auth R ⟨s.env, upd s.loc dd (some (lay old o cs)), s.heap⟩ lam = auth R s lam := by
    funext b x
    unfold auth
    have : (∃ d, upd s.loc dd (some (lay old o cs)) d ≠ none ∧ b = lam d) ↔ ∃ d, s.loc d ≠ none ∧ b = lam d := by
      constructor
      · rintro ⟨d, h, e⟩
        refine ⟨d, ?_, e⟩
        simp only [upd] at h
        split at h
        · rename_i e'; subst e'; rw [hl]; simp
        · exact h
      · rintro ⟨d, h, e⟩
        refine ⟨d, ?_, e⟩
        simp only [upd]
        split
        · simp
        · exact h
    simp only [this]
  have hdom : ∀ x, upd s.loc dd (some (lay old o cs)) x ≠ none → s.loc x ≠ none := fun x hx => by
    simp only [upd] at hx
    split at hx
    · rename_i e'; subst e'; rw [hl]; simp
    · exact hx
  refine { size := hr.size, defers := hr.defers, inj := fun x y hx hy => hr.inj x y (hdom x hx) (hdom y hy), lo := fun x hx => hr.lo x (hdom x hx), hi := fun x hx => by simpa using hr.hi x (hdom x hx), apart := fun x hx => hr.apart x (hdom x hx), scp := ?_, env := ?_, loc := ?_, heap := ?_, frm := ?_, dom := hr.dom, dom' := hr.dom', res := hr.res }
  · intro x v hv z hz
    have := hr.scp x v hv z hz
    simp only [upd]; split
    · simp
    · exact this
  · intro x v hv
    rw [hau]
    exact ⟨(hr.env x v hv).1, (hr.env x v hv).2.mono m⟩
  · intro x cs' hx
    rw [hau]
    simp only [upd] at hx
    split at hx
    · rename_i e; subst e
      cases hx
      exact ⟨_, T, setRow_heap w _ arr _ T (0, 0) h1, by simpa using h3.mono m⟩
    · rename_i e
      refine (hr.loc x cs' hx).mono m (setRow_other w _ _ _ fun e2 => e (hr.inj x dd (by rw [hx]; simp) (by rw [hl]; simp) e2))
  · intro b ob hb
    rw [hau]
    refine (hr.heap b ob hb).mono m (setRow_other w _ _ _ fun e2 => ?_)
    have := hr.apart dd (by rw [hl]; simp)
    rw [← e2, hb] at this
    cases this
  · have hlo := hr.lo dd (by rw [hl]; simp)
    refine hr.frm.trans (A1 := fun b _ => b = lam dd) ⟨by simp, by simp, by simp, by simp, fun b x hb h => cell_setRow_ne h, fun b hb h => setRow_other w _ b _ (h 0), fun b _ => shape_setRow h1 hsz b⟩ (fun b x hb e => by omega)

end
end Go.Eng
