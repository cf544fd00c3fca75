/-
  THE ENGINE, 21: rules by which code of the small machine is evaluated. Nothing here speaks of one program.
-/
import Derived.Test.YtmnmbpcbfmhceaaEng20
set_option linter.unusedSimpArgs false
set_option linter.unusedVariables false
namespace Go.Eng

section
variable {P : Program} {N : Nat} {K : St → Prop} {Q : AX → St → Prop} {s : St} {d : Option Nat}

theorem steps_nil : steps P [] K s = K s := id rfl
theorem steps_cons (x : AO) (l : List AO) : steps P (x :: l) K s = step P x s (steps P l K) := id rfl
theorem step_n (op : AOp) : step P ⟨d, none, op⟩ s K = act P d op s K := id rfl
theorem step_g (t : Nat) (b : Bool) (op : AOp) : step P ⟨d, some (t, b), op⟩ s K = (match gv (s.env t) with
    | some c => if c = some b then act P d op s K else K { s with env := put s.env d (.t []) }
    | none => False) := id rfl

theorem step_o1 (n : Nat) (op : AOp) : step P (o1 n op) s K = act P (some n) op s K := id rfl
theorem step_o0 (op : AOp) : step P (o0 op) s K = act P none op s K := id rfl
theorem step_og (n t : Nat) (b : Bool) (op : AOp) : step P (og n t b op) s K = (match gv (s.env t) with
    | some c => if c = some b then act P (some n) op s K else K { s with env := put s.env (some n) (.t []) }
    | none => False) := id rfl
theorem gv_b (c : Bool) : gv (some (.c (.p (.bool c)))) = some (some c) := id rfl
theorem gv_t : gv (some (.t [])) = some none := id rfl

theorem put_mk (l : List (Nat × AV)) (n : Nat) (v : AV) : put (mk l) (some n) v = mk ((n, v) :: l) := id rfl
theorem put_no (e : Env) (v : AV) : put e none v = e := id rfl
theorem ev_t (e : Env) (n : Nat) : ev e (.t n) = e n := id rfl
theorem ev_k (e : Env) (v : AV) : ev e (.k v) = some v := id rfl
theorem mk_hit {α : Type} (n : Nat) (v : α) (l : List (Nat × α)) : mk ((n, v) :: l) n = some v := by simp [mk]
theorem mk_cons {α : Type} (n x : Nat) (v : α) (l : List (Nat × α)) : mk ((n, v) :: l) x = if x = n then some v else mk l x := id rfl
theorem mk_nil {α : Type} (x : Nat) : (mk [] x : Option α) = none := id rfl
theorem upd_mk {α : Type} (l : List (Nat × α)) (n : Nat) (v : α) : upd (mk l) n (some v) = mk ((n, v) :: l) := id rfl

theorem act_mv (x : O) : act P d (.mv x) s K = (match qv (.mv x) s with | some v => K { s with env := put s.env d v } | none => False) := id rfl
theorem act_pk (x : O) (y : O) (z : O) : act P d (.pk x y z) s K = (match qv (.pk x y z) s with | some v => K { s with env := put s.env d v } | none => False) := id rfl
theorem act_ari (o : Ari) (x : O) (y : O) : act P d (.ari o x y) s K = (match qv (.ari o x y) s with | some v => K { s with env := put s.env d v } | none => False) := id rfl
theorem act_cmp (o : Cmp) (x : O) (y : O) : act P d (.cmp o x y) s K = (match qv (.cmp o x y) s with | some v => K { s with env := put s.env d v } | none => False) := id rfl
theorem act_cmb (o : Bool) (x : O) (y : O) : act P d (.cmb o x y) s K = (match qv (.cmb o x y) s with | some v => K { s with env := put s.env d v } | none => False) := id rfl
theorem act_cmn (o : Bool) (x : O) (y : O) : act P d (.cmn o x y) s K = (match qv (.cmn o x y) s with | some v => K { s with env := put s.env d v } | none => False) := id rfl
theorem act_eqg (o : Bool) (ks : List (Nat × Kd)) (x : O) (y : O) : act P d (.eqg o ks x y) s K = (match qv (.eqg o ks x y) s with | some v => K { s with env := put s.env d v } | none => False) := id rfl
theorem act_not (x : O) : act P d (.not x) s K = (match qv (.not x) s with | some v => K { s with env := put s.env d v } | none => False) := id rfl
theorem act_neg (x : O) : act P d (.neg x) s K = (match qv (.neg x) s with | some v => K { s with env := put s.env d v } | none => False) := id rfl
theorem act_cpl (x : O) : act P d (.cpl x) s K = (match qv (.cpl x) s with | some v => K { s with env := put s.env d v } | none => False) := id rfl
theorem act_cvi (k : IntKind) (x : O) : act P d (.cvi k x) s K = (match qv (.cvi k x) s with | some v => K { s with env := put s.env d v } | none => False) := id rfl
theorem act_fa (m : Nat) (n : Nat) (x : O) : act P d (.fa m n x) s K = (match qv (.fa m n x) s with | some v => K { s with env := put s.env d v } | none => False) := id rfl
theorem act_ia (m : Nat) (n : Nat) (x : O) (y : O) : act P d (.ia m n x y) s K = (match qv (.ia m n x y) s with | some v => K { s with env := put s.env d v } | none => False) := id rfl
theorem act_is (m : Nat) (x : O) (y : O) : act P d (.«is» m x y) s K = (match qv (.«is» m x y) s with | some v => K { s with env := put s.env d v } | none => False) := id rfl
theorem act_ld (n : Option Nat) (x : O) : act P d (.ld n x) s K = (match qv (.ld n x) s with | some v => K { s with env := put s.env d v } | none => False) := id rfl
theorem act_ldh (n : Option Nat) (x : O) : act P d (.ldh n x) s K = (match qv (.ldh n x) s with | some v => K { s with env := put s.env d v } | none => False) := id rfl
theorem act_bd (z : List CV) (l : List (Nat × Nat × O)) : act P d (.bd z l) s K = (match qv (.bd z l) s with | some v => K { s with env := put s.env d v } | none => False) := id rfl
theorem act_bs (m : Nat) (n : Nat) (k : Nat) (z : List CV) (l : List (Nat × O)) : act P d (.bs m n k z l) s K = (match qv (.bs m n k z l) s with | some v => K { s with env := put s.env d v } | none => False) := id rfl
theorem act_ix (x : O) (y : O) : act P d (.ix x y) s K = (match qv (.ix x y) s with | some v => K { s with env := put s.env d v } | none => False) := id rfl
theorem act_fd (m : Nat) (n : Option Nat) (x : O) : act P d (.fd m n x) s K = (match qv (.fd m n x) s with | some v => K { s with env := put s.env d v } | none => False) := id rfl
theorem act_sls (x : O) (y : Option O) (z : Option O) : act P d (.sls x y z) s K = (match qv (.sls x y z) s with | some v => K { s with env := put s.env d v } | none => False) := id rfl
theorem act_sla (m : Nat) (n : Nat) (x : O) (y : Option O) (z : Option O) : act P d (.sla m n x y z) s K = (match qv (.sla m n x y z) s with | some v => K { s with env := put s.env d v } | none => False) := id rfl
theorem act_sl (m : Nat) (x : O) (y : Option O) (z : Option O) : act P d (.sl m x y z) s K = (match qv (.sl m x y z) s with | some v => K { s with env := put s.env d v } | none => False) := id rfl
theorem act_ex (m : Nat) (x : O) : act P d (.ex m x) s K = (match qv (.ex m x) s with | some v => K { s with env := put s.env d v } | none => False) := id rfl
theorem act_nc (x : O) : act P d (.nc x) s K = (match qv (.nc x) s with | some v => K { s with env := put s.env d v } | none => False) := id rfl
theorem act_ln (x : O) : act P d (.ln x) s K = (match qv (.ln x) s with | some v => K { s with env := put s.env d v } | none => False) := id rfl
theorem act_lns (x : O) : act P d (.lns x) s K = (match qv (.lns x) s with | some v => K { s with env := put s.env d v } | none => False) := id rfl
theorem act_mn (x : O) (y : O) : act P d (.mn x y) s K = (match qv (.mn x y) s with | some v => K { s with env := put s.env d v } | none => False) := id rfl
theorem act_cvs (x : O) : act P d (.cvs x) s K = (match qv (.cvs x) s with | some v => K { s with env := put s.env d v } | none => False) := id rfl
theorem act_lk (z : AV) (x : O) (y : O) : act P d (.lk z x y) s K = (match qv (.lk z x y) s with | some v => K { s with env := put s.env d v } | none => False) := id rfl
theorem act_mf (m : Nat) (l : List O) : act P d (.mf m l) s K = (match qv (.mf m l) s with | some v => K { s with env := put s.env d v } | none => False) := id rfl

theorem act_al (z : List CV) : act P d (.al z) s K = (match d with
    | some d => s.loc d = none ∧ K ⟨put s.env (some d) (.lp d 0), upd s.loc d (some z), s.heap⟩
    | none => False) := id rfl
theorem act_bx (n : Nat) (x : O) : act P d (.bx n x) s K = (match d, (ev s.env x).bind AV.cells with
    | some d, some cs => (cs.length = n ∧ s.loc d = none) ∧ K ⟨put s.env (some d) (.lp d 0), upd s.loc d (some cs), s.heap⟩
    | _, _ => False) := id rfl
theorem act_ms (e by_ : Nat) (z : List CV) (len cap : O) : act P d (.ms e by_ z len cap) s K = (match d, (ev s.env len).bind natOf, (ev s.env cap).bind natOf with
    | some d, some l, some c => (l = c ∧ 0 ≤ l ∧ l ≤ 9223372036854775807 ∧ by_ * l ≤ 281474976710656 ∧ s.loc d = none) ∧ K ⟨put s.env (some d) (.lw d 0 l.toNat c.toNat), upd s.loc d (some (repz c.toNat z)), s.heap⟩
    | _, _, _ => False) := id rfl
theorem act_st (n : Nat) (x v : O) : act P d (.st n x v) s K = (match ev s.env x, (ev s.env v).bind AV.cells with
    | some (.lp d o), some cs => match s.loc d with
      | some old => (cs.length = n ∧ o + n ≤ old.length) ∧ K ⟨s.env, upd s.loc d (some (lay old o cs)), s.heap⟩
      | none => False
    | _, _ => False) := id rfl
theorem act_sth (n : Nat) (x v : O) : act P d (.sth n x v) s K = (match ev s.env x, (ev s.env v).bind AV.cells with
    | some (.c (.p (.pointer (some ⟨b, o, none⟩)))), some cs => match s.heap b with
      | some (.row old) => (cs.length = n ∧ o + n ≤ old.length) ∧ K ⟨s.env, s.loc, upd s.heap b (some (.row (lay old o cs)))⟩
      | _ => False
    | _, _ => False) := id rfl
theorem act_cpy (e : Nat) (x y : O) : act P d (.cpy e x y) s K = (match ev s.env x, (ev s.env y).bind (srcV s.loc e) with
    | some (.lw d' o n _), some (m, src) => match s.loc d' with
      | some old => (src.length = m * e ∧ o + n * e ≤ old.length) ∧ K ⟨put s.env d (I .i64 (min m n : Nat)), upd s.loc d' (some (lay old o (src.take (min m n * e)))), s.heap⟩
      | none => False
    | _, _ => False) := id rfl
theorem act_ap (e by_ ty : Nat) (x y : O) : act P d (.ap e by_ ty x y) s K = (match ev s.env x, (ev s.env y).bind (srcE s.loc e) with
    | some (.c (.z ty')), some (m, src) => (src.length = m * e ∧ ty' = ty ∧ m * by_ ≤ 140737488355328 ∧ m ≤ maxLen) ∧
      if m = 0 then K { s with env := put s.env d (.c (.z ty')) }
      else ∀ b, s.heap b = none → K ⟨put s.env d (.c (.s e (chunks e m src) (some b))), s.loc, upd s.heap b (some (.tip m e ty))⟩
    | some (.c (.s e' xs (some b))), some (m, src) => (src.length = m * e ∧ e' = e ∧ (xs.length + m) * by_ ≤ 140737488355328 ∧ xs.length + m ≤ maxLen ∧ s.heap b = some (.tip xs.length e ty)) ∧
      ∀ b' H', (∀ x, x ≠ b → x ≠ b' → H' x = s.heap x) → (b' = b ∨ s.heap b' = none) → (b' ≠ b → H' b = none) → H' b' = some (.tip (xs.length + m) e ty) →
        K ⟨put s.env d (.c (.s e (xs ++ chunks e m src) (some b'))), s.loc, H'⟩
    | _, _ => False) := id rfl
theorem act_bh (n : Nat) (x : O) : act P d (.bh n x) s K = (match (ev s.env x).bind AV.cells with
    | some cs => cs.length = n ∧ ∀ b, s.heap b = none → K ⟨put s.env d (.c (.p (.pointer (some ⟨b, 0, none⟩)))), s.loc, upd s.heap b (some (.row cs))⟩
    | none => False) := id rfl
theorem act_mu (m k v : O) : act P d (.mu m k v) s K = (match ev s.env m, (ev s.env k).bind AV.cells, (ev s.env v).bind AV.cells with
    | some (.c (.p (.map (some r)))), some k, some cs => match s.heap r with
      | some (.map ks f) => (kinds k = ks ∧ (cs.all fun x => match x with | .p _ => true | _ => false) = true) ∧ K ⟨s.env, s.loc, upd s.heap r (some (.map ks fun x => if eqCs k x then some cs else f x))⟩
      | _ => False
    | _, _, _ => False) := id rfl

theorem thn_n (K : St → Prop) (s : St) : thn K Q .n s = K s := id rfl
theorem thn_x (K : St → Prop) (i : Nat) (s : St) : thn K Q (.x i) s = Q (.x i) s := id rfl
theorem thn_r (K : St → Prop) (s : St) : thn K Q .r s = Q .r s := id rfl
theorem blk_n (i : Nat) (s : St) : blk i Q .n s = Q .n s := id rfl
theorem blk_x (i j : Nat) (s : St) : blk i Q (.x j) s = if j = i then Q .n s else Q (.x j) s := id rfl
theorem blk_r (i : Nat) (s : St) : blk i Q .r s = Q .r s := id rfl

/-! ### Forgetting -/

/-- What a state may become when it forgets: fewer slots, fewer local variables; the local variables that are left are all that is spoken of. -/
theorem Wk.forget {e e' : Env} {l l' : Loc} {H : Heap} (he : ∀ x v, e' x = some v → e x = some v ∨ v = .u ∧ x < N) (hl : ∀ d cs, l' d = some cs → l d = some cs) (hs : Scoped ⟨e', l', H⟩) : Wk N ⟨e, l, H⟩ ⟨e', l', H⟩ := by
  rintro w0 A0 R a w ⟨lam, hr⟩
  have hne : ∀ d, l' d ≠ none → l d ≠ none := fun d h => by
    cases h1 : l' d with
    | none => exact absurd h1 h
    | some cs => rw [hl d cs h1]; simp
  have hA : ∀ b o, auth R ⟨e', l', H⟩ lam b o → auth R ⟨e, l, H⟩ lam b o := fun b o h => by
    rcases h with h | ⟨d, h1, h2⟩ | h
    · exact .inl h
    · exact .inr (.inl ⟨d, hne d h1, h2⟩)
    · exact .inr (.inr h)
  have m : Mono w (auth R ⟨e, l, H⟩ lam) w (auth R ⟨e', l', H⟩ lam) := ⟨Nat.le_refl _, fun b o v _ h1 h2 => ⟨h1, fun h3 => h2 (hA b o h3)⟩, fun b _ h1 => ⟨rfl, fun o h3 => h1 o (hA b o h3)⟩, fun _ _ => rfl⟩
  refine ⟨lam, { size := hr.size, defers := hr.defers, inj := fun d d' h1 h2 => hr.inj d d' (hne d h1) (hne d' h2), lo := fun d h => hr.lo d (hne d h), hi := fun d h => hr.hi d (hne d h), apart := fun d h => hr.apart d (hne d h), scp := hs, env := fun x v hx => ?_, loc := fun d cs hd => (hr.loc d cs (hl d cs hd)).mono m rfl, heap := fun b o hb => (hr.heap b o hb).mono m rfl, frm := hr.frm, dom := hr.dom, dom' := hr.dom', res := hr.res }⟩
  rcases he x v hx with h | ⟨rfl, h⟩
  · exact ⟨(hr.env x v h).1, (hr.env x v h).2.mono m⟩
  · exact ⟨h, trivial⟩

/-- The same by lists. -/
def keeps (e : Env) : List (Nat × AV) → Prop
  | [] => True
  | (x, v) :: l => e x = some v ∧ keeps e l
def keepl (e : Loc) : List (Nat × List CV) → Prop
  | [] => True
  | (x, v) :: l => e x = some v ∧ keepl e l
def scopes (l : Loc) : List (Nat × AV) → Prop
  | [] => True
  | (_, v) :: r => (∀ d, refs d v = true → l d ≠ none) ∧ scopes l r

theorem keeps_spec {e : Env} : ∀ {l : List (Nat × AV)}, keeps e l → ∀ x v, mk l x = some v → e x = some v
  | [], _, x, v, hx => by cases hx
  | (y, u') :: l, h, x, v, hx => by
    simp only [mk] at hx
    split at hx
    · rename_i e; cases hx; rw [e]; exact h.1
    · exact keeps_spec h.2 x v hx
theorem keepl_spec {e : Loc} : ∀ {l : List (Nat × List CV)}, keepl e l → ∀ x v, mk l x = some v → e x = some v
  | [], _, x, v, hx => by cases hx
  | (y, u') :: l, h, x, v, hx => by
    simp only [mk] at hx
    split at hx
    · rename_i e; cases hx; rw [e]; exact h.1
    · exact keepl_spec h.2 x v hx
theorem scopes_spec {e : Loc} : ∀ {l : List (Nat × AV)}, scopes e l → ∀ x v, mk l x = some v → ∀ d, refs d v = true → e d ≠ none
  | [], _, x, v, hx => by cases hx
  | (y, u') :: l, h, x, v, hx => by
    simp only [mk] at hx
    split at hx
    · cases hx; exact h.1
    · exact scopes_spec h.2 x v hx

theorem Wk.lists {e : Env} {l : Loc} {H : Heap} (le : List (Nat × AV)) (ll : List (Nat × List CV)) (h1 : keeps e le) (h2 : keepl l ll) (h3 : scopes (mk ll) le) : Wk N ⟨e, l, H⟩ ⟨mk le, mk ll, H⟩ :=
  Wk.forget (fun x v hx => .inl (keeps_spec h1 x v hx)) (fun d cs hd => keepl_spec h2 d cs hd) (fun x v hx d hd => scopes_spec h3 x v hx d hd)

theorem keeps_nil {e : Env} : keeps e [] = True := id rfl
theorem keeps_cons {e : Env} (x : Nat) (v : AV) (l : List (Nat × AV)) : keeps e ((x, v) :: l) = (e x = some v ∧ keeps e l) := id rfl
theorem keepl_nil {e : Loc} : keepl e [] = True := id rfl
theorem keepl_cons {e : Loc} (x : Nat) (v : List CV) (l : List (Nat × List CV)) : keepl e ((x, v) :: l) = (e x = some v ∧ keepl e l) := id rfl
theorem scopes_nil {e : Loc} : scopes e [] = True := id rfl
theorem scopes_c {e : Loc} (x : Nat) (v : CV) (l : List (Nat × AV)) : scopes e ((x, .c v) :: l) = scopes e l := by simp [scopes, refs]
theorem scopes_g {e : Loc} (x : Nat) (v : List CV) (l : List (Nat × AV)) : scopes e ((x, .g v) :: l) = scopes e l := by simp [scopes, refs]
theorem scopes_u {e : Loc} (x : Nat) (l : List (Nat × AV)) : scopes e ((x, .u) :: l) = scopes e l := by simp [scopes, refs]
theorem scopes_ep {e : Loc} (x : Nat) (v : List CV) (l : List (Nat × AV)) : scopes e ((x, .ep v) :: l) = scopes e l := by simp [scopes, refs]
theorem scopes_lp {e : Loc} (x d o : Nat) (l : List (Nat × AV)) : scopes e ((x, .lp d o) :: l) = (e d ≠ none ∧ scopes e l) := by
  simp [scopes, refs]
theorem scopes_lw {e : Loc} (x d o n c : Nat) (l : List (Nat × AV)) : scopes e ((x, .lw d o n c) :: l) = (e d ≠ none ∧ scopes e l) := by
  simp [scopes, refs]

end
end Go.Eng
