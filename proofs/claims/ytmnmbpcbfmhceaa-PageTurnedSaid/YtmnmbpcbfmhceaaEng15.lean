/-
  THE ENGINE, 15: calls of function values; shared memory that is made. Nothing here speaks of one program.
-/
import Derived.Test.YtmnmbpcbfmhceaaEng14
set_option linter.unusedSimpArgs false
set_option linter.unusedVariables false
namespace Go.Eng

section
variable {P : Program} {N : Nat} {w0 : World} {A0 R : Auth} {s : St} {a : Act} {w : World} {lam : Nat → Nat} (hr : RelL N w0 A0 R s a w lam)
variable {d : Option Tmp} {ty : TypeId} {pos : String} {af : Array Edge} {gd : Option (Nat × Bool)} {K : St → Prop} {K' : Act → World → Prop} {Q : Exit → Act → World → Prop}

theorem run_callv {x : Operand} {as : Array Operand} {ts : Array TypeId} {f : FuncId} {arr : Array Value} (hx : a.eval x = .func (.func f) #[] arr) (hfn : okFn P f = true) :
    (execOp a.eval ⟨d, .call ⟨.value x, as, ts⟩, ty, pos, af, gd⟩).run P w = .ok (.enter f ((as.map a.eval) ++ arr)) w := by
  have := callFunc_run (P := P) hfn ((as.map a.eval) ++ arr) w
  simp [execOp, resolve, Deferred.ofValue, hx, invoke, this]

theorem RAcs.append {A : Auth} : ∀ {xs : List AV} {us : List Value} {ys : List AV} {vs : List Value}, RAcs w A xs us → RAcs w A ys vs → RAcs w A (xs ++ ys) (us ++ vs)
  | [], [], _, _, _, h => h
  | _ :: _, _ :: _, _, _, h, k => ⟨h.1, RAcs.append h.2 k⟩
  | [], _ :: _, _, _, h, _ => h.elim
  | _ :: _, [], _, _, h, _ => h.elim

theorem RAcs.ptr {A : Auth} (v : Value) (h : v.oneCell' = true) : RAcs w A [.c (.p v)] [v] := ⟨RC.p v h, trivial⟩

theorem RAcs.mono {w w' : World} {A A' : Auth} (m : Mono w A w' A') : ∀ {xs : List AV} {us : List Value}, RAcs w A xs us → RAcs w' A' xs us
  | [], [], _ => trivial
  | _ :: _, _ :: _, h => ⟨h.1.mono m, RAcs.mono m h.2⟩
  | [], _ :: _, h => h.elim
  | _ :: _, [], h => h.elim

theorem Mono.ext {A A' : Auth} (h : ∀ b o, A b o ↔ A' b o) : Mono w A w A' :=
  ⟨Nat.le_refl _, fun b o v _ h1 h2 => ⟨h1, fun h3 => h2 ((h b o).2 h3)⟩, fun b _ h1 => ⟨rfl, fun o h3 => h1 o ((h b o).2 h3)⟩, fun _ _ => rfl⟩

include hr in
theorem callv_wp {x : Operand} {x' : O} {as : Array Operand} {ts : Array TypeId} {xs : List O} (hsz : as.size = ts.size) (hx : opd P 0 x = some x') (has : args P as ts = some xs) (hd : ∀ dd, d = some dd → dd < N)
    (hk : ∀ s' a' w', Rel N w0 A0 R s' a' w' → K s' → K' a' w') (h : act P d (.callv x' xs) s K) : (⟨d, .call ⟨.value x, as, ts⟩, ty, pos, af, gd⟩ : Oper).wp P a w K' Q := by
  simp only [act] at h
  split at h <;> try (exact h.elim)
  · rename_i f vs h1 hvs
    obtain ⟨⟨hok, hfn⟩, Post, hc, h⟩ := h
    obtain ⟨⟨arr, e1, k1⟩, _⟩ := opd_sound hr hx h1
    have harr : arr = #[] := by
      cases hl : arr.toList with
      | nil => exact Array.toList_eq_nil_iff.1 hl
      | cons y ys => rw [hl] at k1; exact k1.elim
    subst harr
    refine enter_wp hr (vs := vs) (vals := (as.map a.eval).toList) ?_ hd ?_ hc hk h
    · rw [run_callv e1 hfn]
      have : as.map a.eval ++ #[] = (as.map a.eval).toList.toArray := Array.ext' (by simp)
      rw [this]
    · rw [← zip_map_fst hsz]
      exact args_sound hr _ _ _ has hvs hok
  · rename_i f x0 vs h1 hvs
    obtain ⟨⟨hok, hfn⟩, old, hold, h⟩ := h
    obtain ⟨⟨arr, e1, k1⟩, _⟩ := opd_sound hr hx h1
    have hne : s.loc x0 ≠ none := by rw [hold]; simp
    have hap := hr.apart x0 hne
    have harr : arr = #[.pointer (some ⟨lam x0, 0, none⟩)] := by
      match hl : arr.toList with
      | [] => rw [hl] at k1; exact k1.elim
      | [y] => rw [hl] at k1; have := k1.1; simp only [RK] at this; subst this; exact Array.ext' (by simp [hl])
      | _ :: _ :: _ => rw [hl] at k1; exact k1.2.elim
    subst harr
    obtain ⟨Post, hc, h⟩ := h (lam x0) hap
    -- what the callee has to leave alone
    let R' : Auth := fun b o => (∃ d, (s.loc d ≠ none ∧ d ≠ x0) ∧ b = lam d) ∨ R b o
    have hH : ∀ b o, authR R' (upd s.heap (lam x0) (some (.row old))) b o ↔ auth R s lam b o := fun b o => by
      constructor
      · rintro (h1 | ⟨d, h1, h2⟩ | h1)
        · unfold authH at h1
          simp only [upd] at h1
          by_cases e : b = lam x0
          · exact .inr (.inl ⟨x0, hne, e⟩)
          · rw [if_neg e] at h1; exact .inl h1
        · exact .inr (.inl ⟨d, h1.1, h2⟩)
        · exact .inr (.inr h1)
      · rintro (h1 | ⟨d, h1, h2⟩ | h1)
        · refine .inl ?_
          unfold authH at h1 ⊢
          simp only [upd]
          by_cases e : b = lam x0
          · rw [if_pos e]; trivial
          · rw [if_neg e]; exact h1
        · by_cases e : d = x0
          · subst e
            refine .inl ?_
            unfold authH
            simp [upd, h2]
          · exact .inr (.inl ⟨d, ⟨h1, e⟩, h2⟩)
        · exact .inr (.inr h1)
    have m0 : Mono w (auth R s lam) w (authR R' (upd s.heap (lam x0) (some (.row old)))) := Mono.ext fun b o => (hH b o).symm
    unfold Oper.wp
    rw [run_callv e1 hfn]
    have hcall := hc R' w ((as.map a.eval).toList ++ [.pointer (some ⟨lam x0, 0, none⟩)]) (fun b o hb => ⟨auth_lt hr ((hH b o).1 (.inr hb)), by
        have hl := hr.lo x0 hne
        simp only [upd]
        rcases hb with ⟨d, ⟨h1, h2⟩, rfl⟩ | h1
        · rw [if_neg (fun e => h2 (hr.inj d x0 h1 hne e))]; exact hr.apart d h1
        · rw [if_neg (by have := (hr.res b o h1).1; omega)]; exact (hr.res b o h1).2⟩) (fun b o hb => by
        simp only [upd] at hb
        split at hb
        · rename_i e; subst e; cases hb
          exact (hr.loc x0 old hold).mono m0 rfl
        · exact (hr.heap b o hb).mono m0 rfl)
      (RAcs.append (by rw [← zip_map_fst hsz]; exact (args_sound hr _ _ _ has hvs hok).mono m0) (RAcs.ptr _ rfl))
    have hargs : ((as.map a.eval).toList ++ [Value.pointer (some ⟨lam x0, 0, none⟩)]).toArray = as.map a.eval ++ #[Value.pointer (some ⟨lam x0, 0, none⟩)] := Array.ext' (by simp)
    rw [hargs] at hcall
    refine Calls.mono hcall fun e w' he => ?_
    obtain ⟨v, H', u, hp, hpl, rfl, hra, hb⟩ := he
    obtain ⟨new, hnew, hK⟩ := h v H' hp hpl
    have hlx := hr.hi x0 hne
    have hH' : ∀ b o, authR R' H' b o ↔ auth R ⟨s.env, upd s.loc x0 (some new), upd H' (lam x0) none⟩ lam b o := fun b o => by
      have hloc : ∀ d, upd s.loc x0 (some new) d ≠ none ↔ s.loc d ≠ none := fun d => by
        simp only [upd]
        by_cases e : d = x0
        · subst e; simp [hne]
        · simp [e]
      constructor
      · rintro (h1 | ⟨d, h1, h2⟩ | h1)
        · by_cases e : b = lam x0
          · exact .inr (.inl ⟨x0, (hloc x0).2 hne, e⟩)
          · refine .inl ?_
            unfold authH at h1 ⊢
            simp only [upd, if_neg e]
            exact h1
        · exact .inr (.inl ⟨d, (hloc d).2 h1.1, h2⟩)
        · exact .inr (.inr h1)
      · rintro (h1 | ⟨d, h1, h2⟩ | h1)
        · refine .inl ?_
          unfold authH at h1 ⊢
          simp only [upd] at h1
          by_cases e : b = lam x0
          · rw [if_pos e] at h1; exact h1.elim
          · rw [if_neg e] at h1; exact h1
        · by_cases e : d = x0
          · subst e
            refine .inl ?_
            unfold authH
            rw [h2, hnew]; trivial
          · exact .inr (.inl ⟨d, ⟨(hloc d).1 h1, e⟩, h2⟩)
        · exact .inr (.inr h1)
    have hloc : ∀ d, upd s.loc x0 (some new) d ≠ none ↔ s.loc d ≠ none := fun d => by
      simp only [upd]
      by_cases e : d = x0
      · subst e; simp [hne]
      · simp [e]
    have hlo := hr.lo x0 hne
    have h1A : ∀ b o, authH (upd s.heap (lam x0) (some (.row old))) b o → auth R s lam b o := fun b o h => (hH b o).1 (.inl h)
    have h1n : ∀ b o, b ≠ lam x0 → (authH (upd s.heap (lam x0) (some (.row old))) b o ↔ authH s.heap b o) := fun b o e => by
      unfold authH; simp only [upd, if_neg e]
    have hA' : ∀ b o, b < w.heap.size → auth R ⟨s.env, upd s.loc x0 (some new), upd H' (lam x0) none⟩ lam b o → auth R s lam b o := fun b o hb1 h => by
      rcases (hH' b o).2 h with h1 | h1
      · exact h1A b o (hb.dom b o hb1 h1)
      · exact (hH b o).1 (.inr h1)
    have m : Mono w (auth R s lam) w' (auth R ⟨s.env, upd s.loc x0 (some new), upd H' (lam x0) none⟩ lam) :=
      ⟨hb.frm.size, fun b o v hb1 h1 h2 => ⟨(hb.frm.cell b o hb1 (fun h3 => h2 (h1A b o h3))).trans h1, fun h3 => h2 (hA' b o hb1 h3)⟩,
       fun b hb1 h2 => ⟨hb.frm.blk b hb1 (fun o h3 => h2 o (h1A b o h3)), fun o h3 => h2 o (hA' b o hb1 h3)⟩, hb.frm.shp⟩
    have mext : Mono w' (authR R' H') w' (auth R ⟨s.env, upd s.loc x0 (some new), upd H' (lam x0) none⟩ lam) := Mono.ext hH'
    have hinj : ∀ d, d ≠ x0 → s.loc d ≠ none → lam d ≠ lam x0 := fun d e h1 h2 => e (hr.inj d x0 h1 hne h2)
    have hr1 : RelL N w0 A0 R ⟨s.env, upd s.loc x0 (some new), upd H' (lam x0) none⟩ a w' lam := by
      refine { size := hr.size, defers := hr.defers, inj := fun d d' h1 h2 => hr.inj d d' ((hloc d).1 h1) ((hloc d').1 h2), lo := fun d h1 => hr.lo d ((hloc d).1 h1), hi := fun d h1 => Nat.lt_of_lt_of_le (hr.hi d ((hloc d).1 h1)) hb.frm.size, apart := ?_, scp := fun x v hv d hdd => (hloc d).2 (hr.scp x v hv d hdd), env := ?_, loc := ?_, heap := ?_, frm := ?_, dom := ?_, dom' := ?_, res := fun b o hR => ⟨(hr.res b o hR).1, by
          have h1 := (hr.res b o hR).1
          have h2 := hr.frm.size
          have e : ¬ b = lam x0 := by omega
          simp only [upd, if_neg e]
          exact hb.dom' b (by omega) (by simp only [upd, if_neg e]; exact (hr.res b o hR).2)⟩ }
      · intro d h1
        have h1' := (hloc d).1 h1
        simp only [upd]
        split
        · rfl
        · rename_i e
          refine hb.dom' _ (hr.hi d h1') ?_
          simp only [upd, if_neg e]
          exact hr.apart d h1'
      · intro x v hv
        exact ⟨(hr.env x v hv).1, (hr.env x v hv).2.mono m⟩
      · intro x cs hx
        simp only [upd] at hx
        split at hx
        · rename_i e; subst e; cases hx
          exact (hb.heap _ _ hnew).mono mext rfl
        · rename_i e
          have hxn : s.loc x ≠ none := by rw [hx]; simp
          refine (hr.loc x cs hx).mono m (hb.frm.blk _ (hr.hi x hxn) fun o ho => ?_)
          rw [h1n _ _ (hinj x e hxn)] at ho
          unfold authH at ho
          rw [hr.apart x hxn] at ho
          exact ho
      · intro b o hbo
        simp only [upd] at hbo
        split at hbo
        · cases hbo
        · exact (hb.heap b o hbo).mono mext rfl
      · refine hr.frm.trans hb.frm (fun b o hb1 h1 => ?_)
        have e : b ≠ lam x0 := by omega
        exact hr.dom b o hb1 ((h1n b o e).1 h1)
      · intro b o hb1 h1
        have e : b ≠ lam x0 := by omega
        have h2 : authH H' b o := by
          unfold authH at h1 ⊢
          simp only [upd, if_neg e] at h1
          exact h1
        exact hr.dom b o hb1 ((h1n b o e).1 (hb.dom b o (Nat.lt_of_lt_of_le hb1 hr.frm.size) h2))
      · intro b hb1 h1
        have e : b ≠ lam x0 := by omega
        simp only [upd, if_neg e]
        refine hb.dom' b (Nat.lt_of_lt_of_le hb1 hr.frm.size) ?_
        simp only [upd, if_neg e]
        exact hr.dom' b hb1 h1
    refine hk _ _ _ ⟨lam, ?_⟩ hK
    cases d with
    | none => exact hr1
    | some dd => exact hr1.put (hd dd rfl) (RA_plain hpl (hra.mono mext)) (scv_plain hpl)

/-- A new object in the shared memory. -/
theorem RelL.newHeap (hr : RelL N w0 A0 R s a w lam) (o : Obj) (ro : Go.Obj) (ho : ∀ A, Mono w (auth R s lam) (w.alloc ro) A → RO (w.alloc ro) A w.heap.size o) :
    RelL N w0 A0 R ⟨s.env, s.loc, upd s.heap w.heap.size (some o)⟩ a (w.alloc ro) lam := by
  have g := Grow.alloc w ro
  have hau : ∀ b x, b < w.heap.size → (auth R ⟨s.env, s.loc, upd s.heap w.heap.size (some o)⟩ lam b x ↔ auth R s lam b x) := fun b x hb => by
    have : ¬ b = w.heap.size := by omega
    unfold auth authH
    simp only [upd, if_neg this]
  have m : Mono w (auth R s lam) (w.alloc ro) (auth R ⟨s.env, s.loc, upd s.heap w.heap.size (some o)⟩ lam) :=
    ⟨g.size, fun b o v hb h1 h2 => ⟨(g.cell hb).trans h1, fun h3 => h2 ((hau b o hb).1 h3)⟩, fun b hb h => ⟨g.blk b hb, fun o h3 => h o ((hau b o hb).1 h3)⟩, fun b hb => g.shp hb⟩
  refine { size := hr.size, defers := hr.defers, inj := hr.inj, lo := hr.lo, hi := fun d hd => Nat.lt_of_lt_of_le (hr.hi d hd) g.size, apart := ?_, scp := hr.scp, env := fun x v hv => ⟨(hr.env x v hv).1, (hr.env x v hv).2.mono m⟩,
           loc := fun d cs hd => (hr.loc d cs hd).mono m (g.blk _ (hr.loc d cs hd).lt), heap := ?_, frm := hr.frm.trans (g.frm A0) (fun _ _ _ h => h), dom := ?_, dom' := ?_, res := fun b x hb => ⟨(hr.res b x hb).1, by have h1 := (hr.res b x hb).1; have h2 := hr.frm.size; simp only [upd, if_neg (show ¬ b = w.heap.size by omega)]; exact (hr.res b x hb).2⟩ }
  · intro d hd
    have := hr.hi d hd
    simp only [upd, if_neg (show ¬ lam d = w.heap.size by omega)]
    exact hr.apart d hd
  · intro b ob hb
    simp only [upd] at hb
    split at hb
    · rename_i e; subst e; cases hb
      exact ho _ m
    · exact (hr.heap b ob hb).mono m (g.blk _ (hr.heap b ob hb).lt)
  · intro b x hb h1
    have hs := hr.frm.size
    have : ¬ b = w.heap.size := by omega
    unfold authH at h1
    simp only [upd, if_neg this] at h1
    exact hr.dom b x hb h1
  · intro b hb h1
    have hs := hr.frm.size
    have : ¬ b = w.heap.size := by omega
    simp only [upd, if_neg this]
    exact hr.dom' b hb h1

theorem heap_fresh (hr : RelL N w0 A0 R s a w lam) : s.heap w.heap.size = none := by
  cases hb : s.heap w.heap.size with
  | none => rfl
  | some o => exact absurd (hr.heap _ _ hb).lt (Nat.lt_irrefl _)

theorem alloc_at (w : World) (o : Go.Obj) : (w.alloc o).heap[w.heap.size]? = some o := by
  show (w.heap.push _)[w.heap.size]? = _
  simp

include hr in
theorem mm_wp {t : TypeId} (hd : ∀ dd, d = some dd → dd < N) (hk : ∀ s' a' w', Rel N w0 A0 R s' a' w' → K s' → K' a' w') (h : act P d .mm s K) : (⟨d, .makeMap t none, ty, pos, af, gd⟩ : Oper).wp P a w K' Q := by
  have h1 := hr.newHeap (.map [] fun _ => none) (.map #[] 0) (fun A m => ⟨#[], 0, alloc_at _ _, ⟨by simp, by simp, by simp⟩⟩)
  refine wp_val (u := .map (some w.heap.size)) (w' := w.alloc (.map #[] 0)) (by simp [execOp, Instr.makeMap]) (hk _ _ _ ⟨lam, ?_⟩ (h w.heap.size (heap_fresh hr) []))
  cases d with
  | none => exact h1
  | some dd => exact h1.put (hd dd rfl) (RC.p _ rfl) (scv_c _)

include hr in
theorem bh_wp {t : TypeId} {n : Nat} {x : Operand} {x' : O} (hx : opd P t x = some x') (hd : ∀ dd, d = some dd → dd < N) (hk : ∀ s' a' w', Rel N w0 A0 R s' a' w' → K s' → K' a' w') (h : act P d (.bh n x') s K) :
    (⟨d, .box t x, ty, pos, af, gd⟩ : Oper).wp P a w K' Q := by
  simp only [act] at h
  split at h <;> try (exact h.elim)
  rename_i cs hcs
  obtain ⟨hlen, h⟩ := h
  cases hv : ev s.env x' with
  | none => simp [hv] at hcs
  | some av =>
    simp only [hv, Option.bind_some] at hcs
    have hra := RA.cells hcs (opd_sound hr hx hv).1
    have h1 := hr.newHeap (.row cs) (.cells (a.eval x).cells t) (fun A m => ⟨_, t, alloc_at _ _, hra.mono m⟩)
    refine wp_val (u := .pointer (some ⟨w.heap.size, 0, none⟩)) (w' := w.alloc (.cells (a.eval x).cells t)) (by simp [execOp, Instr.box, newVar, newRow]) (hk _ _ _ ⟨lam, ?_⟩ (h w.heap.size (heap_fresh hr)))
    cases d with
    | none => exact h1
    | some dd => exact h1.put (hd dd rfl) (RC.p _ rfl) (scv_c _)

end
end Go.Eng
