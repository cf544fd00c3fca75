/-
  THE ENGINE, 17: a quiet operation may come later. Nothing here speaks of one program.
-/
import Derived.Test.YtmnmbpcbfmhceaaEng16
set_option linter.unusedSimpArgs false
set_option linter.unusedVariables false
namespace Go.Eng

theorem mem_slots {l : List O} {n : Nat} (h : O.t n ∈ l) : n ∈ slots l := List.mem_filterMap.2 ⟨.t n, h, rfl⟩

/-- Two frames tell the same of these operands. -/
def Agree (e e' : Env) (l : List O) : Prop := ∀ x ∈ l, ev e x = ev e' x

theorem Agree.of {e e' : Env} {l : List O} (h : ∀ n ∈ slots l, e n = e' n) : Agree e e' l := fun x hx => by
  cases x with
  | t n => exact h n (mem_slots hx)
  | k v => rfl

theorem evs_agree {e e' : Env} : ∀ {l : List O}, Agree e e' l → evs e l = evs e' l
  | [], _ => rfl
  | x :: l, h => by
    have h1 : evs e l = evs e' l := evs_agree fun y hy => h y (List.mem_cons_of_mem _ hy)
    simp only [evs, h x (by simp), h1]

theorem fillParts_agree {e e' : Env} : ∀ {l : List (Nat × Nat × O)} {z : List CV}, Agree e e' (l.map (·.2.2)) → fillParts e z l = fillParts e' z l
  | [], _, _ => rfl
  | (o, n, x) :: l, z, h => by
    simp only [fillParts, h x (by simp)]
    split
    · split
      · exact fillParts_agree fun y hy => h y (by simp only [List.map_cons, List.mem_cons]; exact .inr hy)
      · rfl
    · rfl

theorem fillElems_agree {e e' : Env} {sz : Nat} : ∀ {l : List (Nat × O)} {z : List (List CV)}, Agree e e' (l.map (·.2)) → fillElems e sz z l = fillElems e' sz z l
  | [], _, _ => rfl
  | (i, x) :: l, z, h => by
    simp only [fillElems, h x (by simp)]
    split
    · split
      · exact fillElems_agree fun y hy => h y (by simp only [List.map_cons, List.mem_cons]; exact .inr hy)
      · rfl
    · rfl

theorem bound_agree {e e' : Env} {x : Option O} {n : Nat} (h : Agree e e' x.toList) : bound e x n = bound e' x n := by
  cases x with
  | none => rfl
  | some x => simp only [bound, h x (by simp)]

def Ext (l l' : Loc) : Prop := ∀ d cs, l d = some cs → l' d = some cs

theorem elems_ext {l l' : Loc} (h : Ext l l') {e : Nat} {x : AV} {cs : List CV} (hx : elems l e x = some cs) : elems l' e x = some cs := by
  cases x with
  | c x => cases x <;> exact hx
  | lw d o n c =>
    simp only [elems] at hx ⊢
    split at hx
    · rename_i y hy; rw [h _ _ hy]; exact hx
    · cases hx
  | _ => exact hx

/-- What a quiet operation gives, in a frame that tells the same. -/
theorem qv_same {op : AOp} {s s' : St} {v : AV} (ha : Agree s.env s'.env (opds op)) (hm : (rl op = true → Ext s.loc s'.loc) ∧ (rh op = true → s'.heap = s.heap)) (h : qv op s = some v) : qv op s' = some v := by
  have hx : ∀ x, x ∈ opds op → ev s'.env x = ev s.env x := fun x hx => (ha x hx).symm
  cases op
  case bd z l => simp only [qv] at h ⊢; rw [← fillParts_agree ha]; exact h
  case bs e n ty z l => simp only [qv] at h ⊢; rw [← fillElems_agree ha]; exact h
  case mf f l => simp only [qv] at h ⊢; rw [← evs_agree (l := l) ha]; exact h
  case sls x lo hi =>
    simp only [qv] at h ⊢
    have h1 : ∀ n, bound s'.env lo n = bound s.env lo n := fun n => (bound_agree fun y hy => ha y (by simp [opds, List.mem_append, hy])).symm
    have h2 : ∀ n, bound s'.env hi n = bound s.env hi n := fun n => (bound_agree fun y hy => ha y (by simp [opds, List.mem_append, hy])).symm
    simp only [hx x (by simp [opds]), h1, h2]; exact h
  case sla n e x lo hi =>
    simp only [qv] at h ⊢
    have h1 : ∀ n, bound s'.env lo n = bound s.env lo n := fun n => (bound_agree fun y hy => ha y (by simp [opds, List.mem_append, hy])).symm
    have h2 : ∀ n, bound s'.env hi n = bound s.env hi n := fun n => (bound_agree fun y hy => ha y (by simp [opds, List.mem_append, hy])).symm
    simp only [hx x (by simp [opds]), h1, h2]; exact h
  case sl e x lo hi =>
    simp only [qv] at h ⊢
    have h1 : ∀ n, bound s'.env lo n = bound s.env lo n := fun n => (bound_agree fun y hy => ha y (by simp [opds, List.mem_append, hy])).symm
    have h2 : ∀ n, bound s'.env hi n = bound s.env hi n := fun n => (bound_agree fun y hy => ha y (by simp [opds, List.mem_append, hy])).symm
    simp only [hx x (by simp [opds]), h1, h2]; exact h
  case ld n x =>
    have hm := hm.1 rfl
    simp only [qv, hx x (by simp [opds])] at h ⊢
    split at h
    · split at h
      · rename_i y hy; rw [hm _ _ hy]; exact h
      · cases h
    · exact h
    · cases h
  case ldh n x =>
    have hm := hm.2 rfl
    simp only [qv, hx x (by simp [opds]), hm] at h ⊢
    exact h
  case cvs x =>
    have hm := hm.1 rfl
    simp only [qv, hx x (by simp [opds])] at h ⊢
    split at h
    · rename_i v hv
      split at h
      · rename_i l hl
        obtain ⟨cs, h1, h2⟩ := Option.bind_eq_some_iff.1 hl
        rw [elems_ext hm h1]
        simp only [Option.bind_some, h2]
        exact h
      · cases h
    · cases h
  case lk z m k =>
    have hm := hm.2 rfl
    simp only [qv, hx m (by simp [opds]), hx k (by simp [opds]), hm] at h ⊢
    exact h
  case mv x => simp only [qv, hx x (by simp [opds])] at h ⊢; exact h
  case pk a b c => simp only [qv, hx a (by simp [opds]), hx b (by simp [opds]), hx c (by simp [opds])] at h ⊢; exact h
  case ari a x y => simp only [qv, hx x (by simp [opds]), hx y (by simp [opds])] at h ⊢; exact h
  case cmp a x y => simp only [qv, hx x (by simp [opds]), hx y (by simp [opds])] at h ⊢; exact h
  case cmb a x y => simp only [qv, hx x (by simp [opds]), hx y (by simp [opds])] at h ⊢; exact h
  case cmn a x y => simp only [qv, hx x (by simp [opds]), hx y (by simp [opds])] at h ⊢; exact h
  case eqg a b x y => simp only [qv, hx x (by simp [opds]), hx y (by simp [opds])] at h ⊢; exact h
  case not x => simp only [qv, hx x (by simp [opds])] at h ⊢; exact h
  case neg x => simp only [qv, hx x (by simp [opds])] at h ⊢; exact h
  case cpl x => simp only [qv, hx x (by simp [opds])] at h ⊢; exact h
  case cvi a x => simp only [qv, hx x (by simp [opds])] at h ⊢; exact h
  case fa a b x => simp only [qv, hx x (by simp [opds])] at h ⊢; exact h
  case ia a b x y => simp only [qv, hx x (by simp [opds]), hx y (by simp [opds])] at h ⊢; exact h
  case «is» b x y => simp only [qv, hx x (by simp [opds]), hx y (by simp [opds])] at h ⊢; exact h
  case ix x y => simp only [qv, hx x (by simp [opds]), hx y (by simp [opds])] at h ⊢; exact h
  case fd a b x => simp only [qv, hx x (by simp [opds])] at h ⊢; exact h
  case ex a x => simp only [qv, hx x (by simp [opds])] at h ⊢; exact h
  case nc x => simp only [qv, hx x (by simp [opds])] at h ⊢; exact h
  case ln x => simp only [qv, hx x (by simp [opds])] at h ⊢; exact h
  case lns x => simp only [qv, hx x (by simp [opds])] at h ⊢; exact h
  case mn x y => simp only [qv, hx x (by simp [opds]), hx y (by simp [opds])] at h ⊢; exact h
  all_goals simp only [qv] at h; cases h

theorem act_mono {P : Program} {d : Option Nat} {op : AOp} {s : St} {K K' : St → Prop} (hk : ∀ s', K s' → K' s') (h : act P d op s K) : act P d op s K' := by
  cases op <;> simp only [act] at h ⊢
  case ap e by_ ty x y =>
    split at h <;> try (exact h.elim)
    · refine ⟨h.1, ?_⟩
      have h := h.2
      split at h
      · rename_i hm; rw [if_pos hm]; exact hk _ h
      · rename_i hm; rw [if_neg hm]; exact fun b hb => hk _ (h b hb)
    · exact ⟨h.1, fun b' H' h1 h2 h3 h4 => hk _ (h.2 b' H' h1 h2 h3 h4)⟩
  case mm => exact fun b hb ks => hk _ (h b hb ks)
  case bh n x =>
    split at h <;> try (exact h.elim)
    exact ⟨h.1, fun b hb => hk _ (h.2 b hb)⟩
  case mu m k v =>
    split at h <;> try (exact h.elim)
    split at h <;> try (exact h.elim)
    exact ⟨h.1, hk _ h.2⟩
  case call f l =>
    split at h <;> try (exact h.elim)
    obtain ⟨h1, Post, h2, h3⟩ := h
    exact ⟨h1, Post, h2, fun v H' hp hv => hk _ (h3 v H' hp hv)⟩
  case callp f l =>
    split at h <;> try (exact h.elim)
    obtain ⟨h1, v, h2, h3⟩ := h
    exact ⟨h1, v, h2, hk _ h3⟩
  case callv x l =>
    split at h <;> try (exact h.elim)
    · obtain ⟨h1, Post, h2, h3⟩ := h
      exact ⟨h1, Post, h2, fun v H' hp hv => hk _ (h3 v H' hp hv)⟩
    · obtain ⟨h1, old, h2, h3⟩ := h
      refine ⟨h1, old, h2, fun b hb => ?_⟩
      obtain ⟨Post, h4, h5⟩ := h3 b hb
      exact ⟨Post, h4, fun v H' hp hv => let ⟨new, h6, h7⟩ := h5 v H' hp hv; ⟨new, h6, hk _ h7⟩⟩
  case al z =>
    split at h <;> try (exact h.elim)
    exact ⟨h.1, hk _ h.2⟩
  case bx n x =>
    split at h <;> try (exact h.elim)
    exact ⟨h.1, hk _ h.2⟩
  case ms e b z x y =>
    split at h <;> try (exact h.elim)
    exact ⟨h.1, hk _ h.2⟩
  case st n x v =>
    split at h <;> try (exact h.elim)
    split at h <;> try (exact h.elim)
    exact ⟨h.1, hk _ h.2⟩
  case sth n x v =>
    split at h <;> try (exact h.elim)
    split at h <;> try (exact h.elim)
    exact ⟨h.1, hk _ h.2⟩
  case cpy e x y =>
    split at h <;> try (exact h.elim)
    split at h <;> try (exact h.elim)
    exact ⟨h.1, hk _ h.2⟩
  all_goals
    split at h
    · exact hk _ h
    · exact h.elim

end Go.Eng
