/-
  THE ENGINE, 18: what an operation leaves alone; two operations may change places. Nothing here speaks of one program.
-/
import Derived.Test.YtmnmbpcbfmhceaaEng17
set_option linter.unusedSimpArgs false
set_option linter.unusedVariables false
namespace Go.Eng

theorem put_ne {e : Env} {d : Option Nat} {v : AV} {z : Nat} (h : d ≠ some z) : put e d v z = e z := by
  cases d with
  | none => rfl
  | some d => simp only [put, upd]; rw [if_neg]; rintro rfl; exact h rfl

theorem put_comm (e : Env) {d : Option Nat} {d0 : Nat} (h : d ≠ some d0) (v v' : AV) : put (put e (some d0) v) d v' = put (put e d v') (some d0) v := by
  cases d with
  | none => rfl
  | some d =>
    have hne : d ≠ d0 := fun e => h (e ▸ rfl)
    funext x
    simp only [put, upd]
    by_cases h1 : x = d
    · subst h1; simp [hne]
    · simp [h1]

theorem Agree.put {e : Env} {d0 : Nat} {v : AV} {l : List O} (h : d0 ∉ slots l) : Agree (Eng.put e (some d0) v) e l :=
  Agree.of fun n hn => put_ne (fun e => h (by cases e; exact hn))

theorem Ext.refl (l : Loc) : Ext l l := fun _ _ h => h
theorem Ext.upd {l : Loc} {d : Nat} (h : l d = none) (x : Option (List CV)) : Ext l (Eng.upd l d x) := fun y cs hy => by
  have : y ≠ d := by rintro rfl; rw [h] at hy; cases hy
  simp only [Eng.upd, if_neg this]; exact hy

/-- What stays. -/
def Stay (d : Option Nat) (op : AOp) (s s' : St) : Prop := (∀ z, d ≠ some z → s'.env z = s.env z) ∧ (wl op = false → Ext s.loc s'.loc) ∧ (wh op = false → s'.heap = s.heap)

theorem act_env {P : Program} {d : Option Nat} {op : AOp} {s : St} {K : St → Prop} (h : act P d op s K) : act P d op s (fun s' => Stay d op s s' ∧ K s') := by
  have hp : ∀ v z, d ≠ some z → put s.env d v z = s.env z := fun v z hz => put_ne hz
  cases op <;> simp only [act] at h ⊢
  case ap e by_ ty x y =>
    split at h <;> try (exact h.elim)
    · refine ⟨h.1, ?_⟩
      have h := h.2
      split at h
      · rename_i hm; rw [if_pos hm]; exact ⟨⟨hp _, fun _ => Ext.refl _, by simp [wh]⟩, h⟩
      · rename_i hm; rw [if_neg hm]; exact fun b hb => ⟨⟨hp _, fun _ => Ext.refl _, by simp [wh]⟩, h b hb⟩
    · exact ⟨h.1, fun b' H' h1 h2 h3 h4 => ⟨⟨hp _, fun _ => Ext.refl _, by simp [wh]⟩, h.2 b' H' h1 h2 h3 h4⟩⟩
  case mm => exact fun b hb ks => ⟨⟨hp _, fun _ => Ext.refl _, by simp [wh]⟩, h b hb ks⟩
  case bh n x =>
    split at h <;> try (exact h.elim)
    exact ⟨h.1, fun b hb => ⟨⟨hp _, fun _ => Ext.refl _, by simp [wh]⟩, h.2 b hb⟩⟩
  case mu m k v =>
    split at h <;> try (exact h.elim)
    split at h <;> try (exact h.elim)
    exact ⟨h.1, ⟨fun _ _ => rfl, fun _ => Ext.refl _, by simp [wh]⟩, h.2⟩
  case call f l =>
    split at h <;> try (exact h.elim)
    obtain ⟨h1, Post, h2, h3⟩ := h
    exact ⟨h1, Post, h2, fun v H' hP hv => ⟨⟨hp _, fun _ => Ext.refl _, by simp [wh]⟩, h3 v H' hP hv⟩⟩
  case callp f l =>
    split at h <;> try (exact h.elim)
    obtain ⟨h1, v, h2, h3⟩ := h
    exact ⟨h1, v, h2, ⟨hp _, fun _ => Ext.refl _, fun _ => rfl⟩, h3⟩
  case callv x l =>
    split at h <;> try (exact h.elim)
    · obtain ⟨h1, Post, h2, h3⟩ := h
      exact ⟨h1, Post, h2, fun v H' hP hv => ⟨⟨hp _, by simp [wl], by simp [wh]⟩, h3 v H' hP hv⟩⟩
    · obtain ⟨h1, old, h2, h3⟩ := h
      refine ⟨h1, old, h2, fun b hb => ?_⟩
      obtain ⟨Post, h4, h5⟩ := h3 b hb
      exact ⟨Post, h4, fun v H' hP hv => let ⟨new, h6, h7⟩ := h5 v H' hP hv; ⟨new, h6, ⟨hp _, by simp [wl], by simp [wh]⟩, h7⟩⟩
  case al z =>
    split at h <;> try (exact h.elim)
    exact ⟨h.1, ⟨hp _, fun _ => Ext.upd h.1 _, fun _ => rfl⟩, h.2⟩
  case bx n x =>
    split at h <;> try (exact h.elim)
    exact ⟨h.1, ⟨hp _, fun _ => Ext.upd h.1.2 _, fun _ => rfl⟩, h.2⟩
  case ms e b z x y =>
    split at h <;> try (exact h.elim)
    exact ⟨h.1, ⟨hp _, fun _ => Ext.upd h.1.2.2.2.2 _, fun _ => rfl⟩, h.2⟩
  case st n x v =>
    split at h <;> try (exact h.elim)
    split at h <;> try (exact h.elim)
    exact ⟨h.1, ⟨fun _ _ => rfl, by simp [wl], fun _ => rfl⟩, h.2⟩
  case sth n x v =>
    split at h <;> try (exact h.elim)
    split at h <;> try (exact h.elim)
    exact ⟨h.1, ⟨fun _ _ => rfl, fun _ => Ext.refl _, by simp [wh]⟩, h.2⟩
  case cpy e x y =>
    split at h <;> try (exact h.elim)
    split at h <;> try (exact h.elim)
    exact ⟨h.1, ⟨hp _, by simp [wl], fun _ => rfl⟩, h.2⟩
  all_goals
    split at h
    · exact ⟨⟨hp _, fun _ => Ext.refl _, fun _ => rfl⟩, h⟩
    · exact h.elim

/-- A slot that the operation does not look at may be filled later. -/
theorem act_put {P : Program} {d : Option Nat} {op : AOp} {s : St} {K : St → Prop} {d0 : Nat} {v : AV} (h0 : d0 ∉ slots (opds op)) (hd : d ≠ some d0) (h : act P d op { s with env := put s.env (some d0) v } K) :
    act P d op s (fun s' => K { s' with env := put s'.env (some d0) v }) := by
  have hA : Agree (put s.env (some d0) v) s.env (opds op) := Agree.put h0
  have hx : ∀ x, x ∈ opds op → ev (put s.env (some d0) v) x = ev s.env x := fun x hx => hA x hx
  have hq : ∀ r, qv op { s with env := put s.env (some d0) v } = some r → qv op s = some r := fun r hu => qv_same (s := { s with env := put s.env (some d0) v }) hA ⟨fun _ => Ext.refl _, fun _ => rfl⟩ hu
  have hp : ∀ r, put (put s.env (some d0) v) d r = put (put s.env d r) (some d0) v := fun r => put_comm s.env hd v r
  cases op
  case ap e by_ ty x y =>
    simp only [act, hx x (by simp [opds]), hx y (by simp [opds]), hp] at h ⊢
    exact h
  case mm => simp only [act, hp] at h ⊢; exact h
  case bh n x => simp only [act, hx x (by simp [opds]), hp] at h ⊢; exact h
  case mu m k v => simp only [act, hx m (by simp [opds]), hx k (by simp [opds]), hx v (by simp [opds])] at h ⊢; exact h
  case call f l => simp only [act, evs_agree (l := l) hA, hp] at h ⊢; exact h
  case callp f l => simp only [act, evs_agree (l := l) hA, hp] at h ⊢; exact h
  case callv x l =>
    have hl : evs (put s.env (some d0) v) l = evs s.env l := evs_agree fun y hy => hA y (by simp [opds, hy])
    simp only [act, hx x (by simp [opds]), hl, hp] at h ⊢
    exact h
  case al z => simp only [act] at h ⊢; split at h <;> try (exact h.elim)
               rename_i dd; simp only [hp] at h; exact h
  case bx n x => 
    simp only [act, hx x (by simp [opds])] at h ⊢; split at h <;> try (exact h.elim)
    simp only [hp] at h; exact h
  case ms e b z x y =>
    simp only [act, hx x (by simp [opds]), hx y (by simp [opds])] at h ⊢; split at h <;> try (exact h.elim)
    simp only [hp] at h; exact h
  case st n x v => simp only [act, hx x (by simp [opds]), hx v (by simp [opds])] at h ⊢; exact h
  case sth n x v => simp only [act, hx x (by simp [opds]), hx v (by simp [opds])] at h ⊢; exact h
  case cpy e x y => simp only [act, hx x (by simp [opds]), hx y (by simp [opds]), hp] at h ⊢; exact h
  all_goals
    obtain ⟨r, h1, h2⟩ := quiet_act (o := default) rfl h
    have h3 := hq r h1
    simp only [act, h3]
    simp only [hp] at h2
    exact h2

/-! ### Behind a guard -/

section
variable {P : Program} {x y : AO} {s : St} {K K' : St → Prop}

theorem step_mono (hk : ∀ s', K s' → K' s') (h : step P x s K) : step P x s K' := by
  unfold step at h ⊢
  split at h
  · rename_i hg; exact act_mono hk h
  · rename_i hg
    split at h
    · rename_i hc
      split at h
      · rename_i e; rw [if_pos e]; exact act_mono hk h
      · rename_i e; rw [if_neg e]; exact hk _ h
    · exact h.elim

theorem step_env (h : step P x s K) : step P x s (fun s' => Stay x.d x.op s s' ∧ K s') := by
  unfold step at h ⊢
  split at h
  · rename_i hg; exact act_env h
  · rename_i hg
    split at h
    · rename_i hc
      split at h
      · rename_i e; rw [if_pos e]; exact act_env h
      · rename_i e; rw [if_neg e]; exact ⟨⟨fun z hz => put_ne hz, fun _ => Ext.refl _, fun _ => rfl⟩, h⟩
    · exact h.elim

theorem step_put {d0 : Nat} {v : AV} (h0 : d0 ∉ looks x) (hd : x.d ≠ some d0) (h : step P x { s with env := put s.env (some d0) v } K) : step P x s (fun s' => K { s' with env := put s'.env (some d0) v }) := by
  obtain ⟨d, g, op⟩ := x
  have h1 : d0 ∉ slots (opds op) := fun e => h0 (List.mem_append_left _ e)
  cases g with
  | none => exact act_put h1 hd h
  | some tb =>
    obtain ⟨t, b⟩ := tb
    have ht : put s.env (some d0) v t = s.env t := put_ne fun e => h0 (by cases e; simp [looks])
    simp only [step, ht] at h ⊢
    split at h
    · split at h
      · rename_i e; rw [if_pos e]; exact act_put h1 hd h
      · rename_i e; rw [if_neg e, ← put_comm s.env hd]; exact h
    · exact h.elim

/-- What a quiet operation tells, a call that changes nothing among them. -/
def Qt (P : Program) (op : AOp) (s : St) (v : AV) : Prop :=
  match op with
  | .callp f args => ∃ vs, evs s.env args = some vs ∧ (vs.all okArg = true ∧ okFn P f = true) ∧ ACalls P f vs s.heap (fun v' H' => v' = v ∧ H' = s.heap) ∧ plainV v = true
  | q => qv q s = some v

def QtG (P : Program) (x : AO) (s : St) (v : AV) : Prop :=
  match x.g with
  | none => Qt P x.op s v
  | some (t, b) => ∃ c, gv (s.env t) = some c ∧ ((c = some b ∧ Qt P x.op s v) ∨ (c ≠ some b ∧ v = .t []))

theorem act_quiet {d : Option Nat} {op : AOp} (hc : cls op ≤ 1) : act P d op s K ↔ ∃ v, Qt P op s v ∧ K { s with env := put s.env d v } := by
  cases op
  case callp f l =>
    simp only [act, Qt]
    constructor
    · intro h
      split at h <;> try (exact h.elim)
      rename_i vs hvs
      obtain ⟨h1, v, h2, h3⟩ := h
      exact ⟨v, ⟨vs, hvs, h1, h2⟩, h3⟩
    · rintro ⟨v, ⟨vs, hvs, h1, h2⟩, h3⟩
      rw [hvs]
      exact ⟨h1, v, h2, h3⟩
  all_goals first
    | (exfalso; simp [cls] at hc; done)
    | (constructor
       · intro h; exact quiet_act (o := default) rfl h
       · rintro ⟨v, h1, h2⟩
         simp only [Qt] at h1
         simp only [act, h1]
         exact h2)

theorem step_quiet (hc : cls x.op ≤ 1) : step P x s K ↔ ∃ v, QtG P x s v ∧ K { s with env := put s.env x.d v } := by
  obtain ⟨d, g, op⟩ := x
  cases g with
  | none => exact act_quiet hc
  | some tb =>
    obtain ⟨t, b⟩ := tb
    simp only [step, QtG]
    constructor
    · intro h
      split at h
      · rename_i c hc'
        split at h
        · rename_i e
          obtain ⟨v, h1, h2⟩ := (act_quiet hc).1 h
          exact ⟨v, ⟨c, hc', .inl ⟨e, h1⟩⟩, h2⟩
        · rename_i e; exact ⟨.t [], ⟨c, hc', .inr ⟨e, rfl⟩⟩, h⟩
      · exact h.elim
    · rintro ⟨v, ⟨c, hc', h1⟩, h2⟩
      rw [hc']
      rcases h1 with ⟨e, h1⟩ | ⟨e, rfl⟩
      · simp only [if_pos e]; exact (act_quiet hc).2 ⟨v, h1, h2⟩
      · simp only [if_neg e]; exact h2

theorem Qt_same {op : AOp} {s s' : St} {v : AV} (ha : Agree s.env s'.env (opds op)) (hm : (rl op = true → Ext s.loc s'.loc) ∧ (rh op = true → s'.heap = s.heap)) (h : Qt P op s v) : Qt P op s' v := by
  cases op
  case callp f l =>
    have hm := hm.2 rfl
    simp only [Qt, hm] at h ⊢
    rw [← evs_agree (l := l) ha]; exact h
  all_goals exact qv_same ha hm h

theorem QtG_same {s s' : St} {v : AV} (ha : ∀ n ∈ looks x, s'.env n = s.env n) (hm : (rl x.op = true → Ext s.loc s'.loc) ∧ (rh x.op = true → s'.heap = s.heap)) (h : QtG P x s v) : QtG P x s' v := by
  obtain ⟨d, g, op⟩ := x
  have hA : Agree s.env s'.env (opds op) := Agree.of fun n hn => (ha n (List.mem_append_left _ hn)).symm
  cases g with
  | none => exact Qt_same hA hm h
  | some tb =>
    obtain ⟨t, b⟩ := tb
    obtain ⟨c, h1, h2⟩ := h
    exact ⟨c, (congrArg gv (ha t (by simp [looks]))).trans h1, h2.imp (fun h => ⟨h.1, Qt_same hA hm h.2⟩) id⟩

/-- What came first may come second. -/
theorem swap (h : swapOK x y = true) (hs : step P x s (fun s1 => step P y s1 K)) : step P y s (fun s2 => step P x s2 K) := by
  simp only [swapOK, Bool.and_eq_true, decide_eq_true_eq, Bool.not_eq_true', Bool.and_eq_false_iff] at h
  obtain ⟨⟨⟨hx1, hcl⟩, hch⟩, ha⟩ := h
  simp only [apartO, Bool.and_eq_true] at ha
  obtain ⟨v, h1, h2⟩ := (step_quiet hx1).1 hs
  have hfin : ∀ s' : St, Stay y.d y.op s s' → QtG P x s' v := fun s' e => by
    refine QtG_same (fun n hn => e.1 n fun e => ?_) ⟨fun hr => e.2.1 (hcl.resolve_left (by simp [hr])), fun hr => e.2.2 (hch.resolve_left (by simp [hr]))⟩ h1
    have := ha.2
    rw [e] at this
    simp only [Bool.not_eq_true', List.contains_eq_mem, decide_eq_false_iff_not] at this
    exact this hn
  cases hxd : x.d with
  | none =>
    rw [hxd] at h2
    refine step_mono (fun s' h3 => ?_) (step_env h2)
    refine (step_quiet hx1).2 ⟨v, hfin s' h3.1, ?_⟩
    rw [hxd]
    exact h3.2
  | some d0 =>
    have h3 := ha.1
    rw [hxd] at h2 h3
    simp only [Bool.and_eq_true, Bool.not_eq_true', List.contains_eq_mem, decide_eq_false_iff_not, bne_iff_ne, ne_eq] at h3
    refine step_mono (fun s' h4 => ?_) (step_env (step_put h3.1 h3.2 h2))
    refine (step_quiet hx1).2 ⟨v, hfin s' h4.1, ?_⟩
    rw [hxd]
    exact h4.2

/-- What comes to one end: two claims about it are one. -/
theorem step_all {ι : Type} {l : List ι} {L : ι → St → Prop} (hf : firm x.op = true) (hne : l ≠ []) (h : ∀ i ∈ l, step P x s (L i)) : step P x s (fun s' => ∀ i ∈ l, L i s') := by
  obtain ⟨d, g, op⟩ := x
  have hact : ∀ K : ι → St → Prop, (∀ i ∈ l, act P d op s (K i)) → act P d op s (fun s' => ∀ i ∈ l, K i s') := fun K h => by
    obtain ⟨i0, hi0⟩ := List.exists_mem_of_ne_nil l hne
    have h0 := h i0 hi0
    cases op
    case st n x v =>
      simp only [act] at h h0 ⊢
      split at h0 <;> try (exact h0.elim)
      rename_i e1 e2
      rw [e1, e2] at h
      simp only at h ⊢
      split at h0 <;> try (exact h0.elim)
      rename_i e3
      rw [e3] at h
      exact ⟨h0.1, fun i hi => (h i hi).2⟩
    case sth n x v =>
      simp only [act] at h h0 ⊢
      split at h0 <;> try (exact h0.elim)
      rename_i e1 e2
      rw [e1, e2] at h
      simp only at h ⊢
      split at h0 <;> try (exact h0.elim)
      rename_i e3
      rw [e3] at h
      exact ⟨h0.1, fun i hi => (h i hi).2⟩
    case al z =>
      simp only [act] at h h0 ⊢
      cases d with
      | none => exact h0.elim
      | some dd => exact ⟨h0.1, fun i hi => (h i hi).2⟩
    case bx n x =>
      simp only [act] at h h0 ⊢
      split at h0 <;> try (exact h0.elim)
      rename_i e1 e2
      rw [e2] at h
      simp only at h ⊢
      exact ⟨h0.1, fun i hi => (h i hi).2⟩
    case ms e b z x y =>
      simp only [act] at h h0 ⊢
      split at h0 <;> try (exact h0.elim)
      rename_i e1 e2 e3
      rw [e2, e3] at h
      simp only at h ⊢
      exact ⟨h0.1, fun i hi => (h i hi).2⟩
    all_goals first
      | (simp [firm, cls] at hf; done)
      | (obtain ⟨v, h1, h2⟩ := quiet_act (o := default) rfl h0
         simp only [act, h1] at h ⊢
         exact h)
  cases g with
  | none => exact hact L h
  | some tb =>
    obtain ⟨t, b⟩ := tb
    obtain ⟨i0, hi0⟩ := List.exists_mem_of_ne_nil l hne
    have h0 := h i0 hi0
    simp only [step] at h h0 ⊢
    split at h0 <;> try (exact h0.elim)
    rename_i c hc
    rw [hc] at h
    simp only at h ⊢
    split
    · rename_i e
      simp only [if_pos e] at h
      exact hact L h
    · rename_i e
      simp only [if_neg e] at h
      exact h

end
end Go.Eng
