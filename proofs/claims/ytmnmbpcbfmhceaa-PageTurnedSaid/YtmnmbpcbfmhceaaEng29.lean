/-
  THE ENGINE, 29: forgetting what may grow; lists that grow by append. Nothing here speaks of one program.
-/
import Derived.Test.YtmnmbpcbfmhceaaEng25
set_option linter.unusedSimpArgs false
set_option linter.unusedVariables false
namespace Go.Eng

/-- A fact that only those who ask for it see. -/
structure Hd (p : Prop) : Prop where
  out : p

/-- A cell said with less. -/
inductive WC : CV → CV → Prop
  | r (x : CV) : WC x x
  | z (ty e : Nat) : WC (.z ty) (.s e [] none)
  | s (e : Nat) (xs : List (List CV)) (t : Option Nat) : WC (.s e xs t) (.s e xs none)
def WCs : List CV → List CV → Prop
  | [], [] => True
  | x :: xs, y :: ys => WC x y ∧ WCs xs ys
  | _, _ => False
theorem WCs.refl : ∀ xs : List CV, WCs xs xs
  | [] => trivial
  | x :: xs => ⟨.r x, WCs.refl xs⟩
def WV : AV → AV → Prop
  | .c x, .c y => WC x y
  | .g xs, .g ys => WCs xs ys
  | x, y => x = y
theorem WV.refl : ∀ x : AV, WV x x
  | .c x => WC.r x
  | .g xs => WCs.refl xs
  | .t _ => rfl
  | .lp _ _ => rfl
  | .lw _ _ _ _ => rfl
  | .ep _ => rfl
  | .f _ _ => rfl
  | .u => rfl

theorem RC.weak {w : World} {A : Auth} {x y : CV} {v : Value} (h : RC w A x v) (k : WC x y) : RC w A y v := by
  cases k with
  | r => exact h
  | z ty e =>
    cases h with
    | z0 => exact .s0 _ _ _
    | z1 => exact .s0 _ _ _
  | s e xs t =>
    cases h with
    | s0 => exact .s0 _ _ _
    | s _ _ _ b o c U hne hb hk he hc hr ht => exact .s e xs none b o c U hne hb hk he hc hr (fun t ht => by cases ht)
theorem RCs.weak {w : World} {A : Auth} : ∀ {xs ys : List CV} {vs : List Value}, RCs w A xs vs → WCs xs ys → RCs w A ys vs
  | [], [], [], _, _ => trivial
  | _ :: _, _ :: _, _ :: _, h, k => ⟨h.1.weak k.1, RCs.weak h.2 k.2⟩
  | [], [], _ :: _, h, _ => h.elim
  | [], _ :: _, _, _, k => k.elim
  | _ :: _, [], _, _, k => k.elim
  | _ :: _, _ :: _, [], h, _ => h.elim
theorem RA1.weak {w : World} {A : Auth} {lam : Nat → Nat} {x y : AV} {v : Value} (h : RA1 w A lam x v) (k : WV x y) : RA1 w A lam y v := by
  cases x <;> cases y <;> (try (simp only [WV] at k; first | (subst k; exact h) | (cases k; done) | skip))
  · exact RC.weak h k
  · obtain ⟨arr, h1, h2⟩ := h; exact ⟨arr, h1, h2.weak k⟩
  all_goals (cases k; exact h)
theorem RA.weak {w : World} {A : Auth} {lam : Nat → Nat} {x y : AV} {v : Value} (h : RA w A lam x v) (k : WV x y) : RA w A lam y v := by
  cases x with
  | t vs => cases y <;> (try (cases k; done)); cases k; exact h
  | c x => cases y <;> (try (cases k; done)); exact RC.weak h k
  | g xs => cases y <;> (try (cases k; done)); obtain ⟨arr, h1, h2⟩ := h; exact ⟨arr, h1, h2.weak k⟩
  | _ => cases y <;> (try (cases k; done)) <;> (cases k; exact h)

theorem WV.refs {x y : AV} (k : WV x y) (d : Nat) : refs d y = refs d x := by
  cases x <;> cases y <;> (try (cases k; done)) <;> (try rfl) <;> (cases k; rfl)

section
variable {N : Nat}

theorem RRow.weak {w : World} {A : Auth} {b : Nat} {cs cs' : List CV} (h : RRow w A b cs) (k : WCs cs cs') : RRow w A b cs' := by
  obtain ⟨arr, T, h1, h2⟩ := h; exact ⟨arr, T, h1, h2.weak k⟩

theorem Wk.weak {e e' : Env} {l l' : Loc} {H H' : Heap} (he : ∀ x v', e' x = some v' → ∃ v, e x = some v ∧ WV v v') (hl : ∀ d cs', l' d = some cs' → ∃ cs, l d = some cs ∧ WCs cs cs') (hH : ∀ b o, H' b = some o → H b = some o)
    (hs : Scoped ⟨e', l', H'⟩) : Wk N ⟨e, l, H⟩ ⟨e', l', H'⟩ := by
  rintro w0 A0 R a w ⟨lam, hr⟩
  have hne : ∀ d, l' d ≠ none → l d ≠ none := fun d h => by
    cases h1 : l' d with
    | none => exact absurd h1 h
    | some cs => obtain ⟨cs0, h2, _⟩ := hl d cs h1; rw [h2]; simp
  have hnH : ∀ b, H b = none → H' b = none := fun b h => by
    cases h1 : H' b with
    | none => rfl
    | some o => rw [hH b o h1] at h; cases h
  have hAH : ∀ b o, authH H' b o → authH H b o := fun b o h => by
    unfold authH at h ⊢
    cases h1 : H' b with
    | none => rw [h1] at h; exact h.elim
    | some x => rw [h1] at h; rw [hH b x h1]; exact h
  have hA : ∀ b o, auth R ⟨e', l', H'⟩ lam b o → auth R ⟨e, l, H⟩ lam b o := fun b o h => by
    rcases h with h | ⟨d, h1, h2⟩ | h
    · exact .inl (hAH b o h)
    · exact .inr (.inl ⟨d, hne d h1, h2⟩)
    · exact .inr (.inr h)
  have m : Mono w (auth R ⟨e, l, H⟩ lam) w (auth R ⟨e', l', H'⟩ lam) := ⟨Nat.le_refl _, fun b o v _ h1 h2 => ⟨h1, fun h3 => h2 (hA b o h3)⟩, fun b _ h1 => ⟨rfl, fun o h3 => h1 o (hA b o h3)⟩, fun _ _ => rfl⟩
  refine ⟨lam, { size := hr.size, defers := hr.defers, inj := fun d d' h1 h2 => hr.inj d d' (hne d h1) (hne d' h2), lo := fun d h => hr.lo d (hne d h), hi := fun d h => hr.hi d (hne d h), apart := fun d h => hnH _ (hr.apart d (hne d h)), scp := hs, env := fun x v hx => ?_, loc := fun d cs hd => ?_, heap := fun b o hb => (hr.heap b o (hH b o hb)).mono m rfl, frm := hr.frm, dom := fun b o hb h => hr.dom b o hb (hAH b o h), dom' := fun b hb h => hnH _ (hr.dom' b hb h), res := fun b o h => ⟨(hr.res b o h).1, hnH _ (hr.res b o h).2⟩ }⟩
  · obtain ⟨v0, h1, h2⟩ := he x v hx
    exact ⟨(hr.env x v0 h1).1, ((hr.env x v0 h1).2.mono m).weak h2⟩
  · obtain ⟨cs0, h1, h2⟩ := hl d cs hd
    exact ((hr.loc d cs0 h1).mono m rfl).weak h2

def keepsW (e : Env) : List (Nat × AV × AV) → Prop
  | [] => True
  | (x, v, v') :: l => (e x = some v ∧ WV v v') ∧ keepsW e l
def keeplW (e : Loc) : List (Nat × List CV × List CV) → Prop
  | [] => True
  | (x, v, v') :: l => (e x = some v ∧ WCs v v') ∧ keeplW e l
def weaks {α : Type} (l : List (Nat × α × α)) : List (Nat × α) := l.map fun x => (x.1, x.2.2)

theorem keepsW_spec {e : Env} : ∀ {l : List (Nat × AV × AV)}, keepsW e l → ∀ x v', mk (weaks l) x = some v' → ∃ v, e x = some v ∧ WV v v'
  | [], _, x, v, hx => by cases hx
  | (y, w0, w1) :: l, h, x, v, hx => by
    simp only [weaks, List.map_cons, mk] at hx
    split at hx
    · rename_i e; cases hx; rw [e]; exact ⟨w0, h.1.1, h.1.2⟩
    · exact keepsW_spec h.2 x v hx
theorem keeplW_spec {e : Loc} : ∀ {l : List (Nat × List CV × List CV)}, keeplW e l → ∀ x v', mk (weaks l) x = some v' → ∃ v, e x = some v ∧ WCs v v'
  | [], _, x, v, hx => by cases hx
  | (y, w0, w1) :: l, h, x, v, hx => by
    simp only [weaks, List.map_cons, mk] at hx
    split at hx
    · rename_i e; cases hx; rw [e]; exact ⟨w0, h.1.1, h.1.2⟩
    · exact keeplW_spec h.2 x v hx

theorem Wk.weakL {e : Env} {l : Loc} {H : Heap} (le : List (Nat × AV × AV)) (ll : List (Nat × List CV × List CV)) (H' : Heap) (h1 : keepsW e le) (h2 : keeplW l ll) (h3 : scopes (mk (weaks ll)) (weaks le)) (h4 : ∀ b o, H' b = some o → H b = some o) :
    Wk N ⟨e, l, H⟩ ⟨mk (weaks le), mk (weaks ll), H'⟩ :=
  Wk.weak (keepsW_spec h1) (keeplW_spec h2) h4 (fun x v hx d hd => scopes_spec h3 x v hx d hd)

theorem weaks_nil {α : Type} : weaks ([] : List (Nat × α × α)) = [] := rfl
theorem weaks_cons {α : Type} (x : Nat) (v v' : α) (l : List (Nat × α × α)) : weaks ((x, v, v') :: l) = (x, v') :: weaks l := rfl
theorem keepsW_nil {e : Env} : keepsW e [] = True := rfl
theorem keepsW_cons {e : Env} (x : Nat) (v v' : AV) (l : List (Nat × AV × AV)) : keepsW e ((x, v, v') :: l) = ((e x = some v ∧ WV v v') ∧ keepsW e l) := rfl
theorem keeplW_nil {e : Loc} : keeplW e [] = True := rfl
theorem keeplW_cons {e : Loc} (x : Nat) (v v' : List CV) (l : List (Nat × List CV × List CV)) : keeplW e ((x, v, v') :: l) = ((e x = some v ∧ WCs v v') ∧ keeplW e l) := rfl
theorem WCs_nil : WCs [] [] = True := rfl
theorem WCs_cons (x y : CV) (xs ys : List CV) : WCs (x :: xs) (y :: ys) = (WC x y ∧ WCs xs ys) := rfl
theorem WCs_self (x : List CV) : WCs x x = True := eq_true (WCs.refl x)
theorem WV_self (x : AV) : WV x x = True := eq_true (WV.refl x)
theorem WC_self (x : CV) : WC x x = True := eq_true (WC.r x)
theorem WC_z (ty e : Nat) : WC (.z ty) (.s e [] none) = True := eq_true (WC.z ty e)
theorem WC_s (e : Nat) (xs : List (List CV)) (t : Option Nat) : WC (.s e xs t) (.s e xs none) = True := eq_true (WC.s e xs t)
end

/-! ### Arguments said with less -/

def WVs : List AV → List AV → Prop
  | [], [] => True
  | x :: xs, y :: ys => WV x y ∧ WVs xs ys
  | _, _ => False
theorem RAcs.weak {w : World} {A : Auth} : ∀ {xs ys : List AV} {vs : List Value}, RAcs w A xs vs → WVs xs ys → RAcs w A ys vs
  | [], [], [], _, _ => trivial
  | _ :: _, _ :: _, _ :: _, h, k => ⟨RA1.weak h.1 k.1, RAcs.weak h.2 k.2⟩
  | [], [], _ :: _, h, _ => h.elim
  | [], _ :: _, _, _, k => k.elim
  | _ :: _, [], _, _, k => k.elim
  | _ :: _, _ :: _, [], h, _ => h.elim
theorem ACalls.weakArgs {P : Program} {f : FuncId} {xs ys : List AV} {H : Heap} {Post : AV → Heap → Prop} (h : ACalls P f ys H Post) (k : WVs xs ys) : ACalls P f xs H Post :=
  fun R w vals h1 h2 h3 => h R w vals h1 h2 (h3.weak k)

/-! ### Lists that grow -/

def glc (ty e : Nat) (rows : List (List CV)) (b : Nat) : CV := match rows with | [] => .z ty | _ => .s e rows (some b)
def glH (H : Heap) (ty e : Nat) (rows : List (List CV)) (b : Nat) : Heap := match rows with | [] => H | _ => upd H b (some (.tip rows.length e ty))

theorem WC_gl (ty e : Nat) (rows : List (List CV)) (b : Nat) : WC (glc ty e rows b) (.s e rows none) := by
  cases rows with
  | nil => exact .z ty e
  | cons x l => exact .s e _ _
theorem WC_gl' (ty e : Nat) (rows : List (List CV)) (b : Nat) : WC (glc ty e rows b) (.s e rows none) = True := eq_true (WC_gl ty e rows b)
theorem glH_sub (H : Heap) (ty e : Nat) (rows : List (List CV)) (b : Nat) (hb : rows ≠ [] → H b = none) : ∀ x o, H x = some o → glH H ty e rows b x = some o := fun x o h => by
  cases rows with
  | nil => exact h
  | cons r l =>
    simp only [glH, upd]
    rw [if_neg (fun e => by rw [e, hb (by simp)] at h; cases h)]
    exact h
theorem chunksLen (e : Nat) : ∀ (n : Nat) (cs : List CV), (chunks e n cs).length = n
  | 0, _ => rfl
  | n + 1, cs => by simp [chunks, chunksLen e n]
theorem chunks_one (e : Nat) (cs : List CV) (h : cs.length = e) : chunks e 1 cs = [cs] := by simp [chunks, ← h]

theorem act_ap_gl {P : Program} {d : Option Nat} {K : St → Prop} {e by_ ty : Nat} {x y : O} {ev' : Env} {l : Loc} {H : Heap} (rows : List (List CV)) (b m : Nat) (src : List CV) (hx : ev ev' x = some (.c (glc ty e rows b))) (hy : (ev ev' y).bind (srcE l e) = some (m, src)) (hb : rows ≠ [] → H b = none)
    (hlen : src.length = m * e) (hm : 0 < m) (hby : (rows.length + m) * by_ ≤ 140737488355328) (hmax : rows.length + m ≤ maxLen)
    (hk : ∀ b', H b' = none → K ⟨put ev' d (.c (glc ty e (rows ++ chunks e m src) b')), l, glH H ty e (rows ++ chunks e m src) b'⟩) : act P d (.ap e by_ ty x y) ⟨ev', l, glH H ty e rows b⟩ K := by
  have hc : ∀ b', glc ty e (rows ++ chunks e m src) b' = .s e (rows ++ chunks e m src) (some b') := fun b' => by
    have hl := chunksLen e m src
    cases h : rows ++ chunks e m src with
    | nil => have := congrArg List.length h; rw [List.length_append, hl] at this; simp at this; omega
    | cons => rfl
  have hc2 : ∀ b', glH H ty e (rows ++ chunks e m src) b' = upd H b' (some (.tip (rows.length + m) e ty)) := fun b' => by
    have hl := chunksLen e m src
    have hlen : (rows ++ chunks e m src).length = rows.length + m := by simp [hl]
    cases h : rows ++ chunks e m src with
    | nil => rw [h] at hlen; simp at hlen; omega
    | cons x r => rw [h] at hlen; simp only [glH, hlen]
  cases rows with
  | nil =>
    simp only [act, hx, hy, glc, glH]
    simp only [List.length_nil, Nat.zero_add] at hby hmax
    refine ⟨⟨hlen, trivial, hby, hmax⟩, ?_⟩
    rw [if_neg (by omega)]
    intro b' hb'
    have := hk b' hb'
    rw [hc, hc2] at this
    simpa using this
  | cons r rs =>
    simp only [act, hx, hy, glc, glH]
    refine ⟨⟨hlen, trivial, hby, hmax, by simp [upd]⟩, ?_⟩
    intro b' H' h1 h2 h3 h4
    have hb' : H b' = none := by
      rcases h2 with rfl | h2
      · exact hb (by simp)
      · simp only [upd] at h2
        split at h2
        · cases h2
        · exact h2
    have hH : H' = upd H b' (some (.tip ((r :: rs).length + m) e ty)) := by
      funext z
      by_cases hz : z = b'
      · subst hz; rw [h4]; simp [upd]
      · by_cases hz2 : z = b
        · subst hz2; rw [h3 (fun e => hz e.symm)]; simp [upd, hz, hb (by simp)]
        · rw [h1 z hz2 hz]; simp [upd, hz, hz2]
    have := hk b' hb'
    rw [hc, hc2] at this
    rw [hH]
    exact this

end Go.Eng
