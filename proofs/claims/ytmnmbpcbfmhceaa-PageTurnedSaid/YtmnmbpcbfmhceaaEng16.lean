/-
  THE ENGINE, 16: whatever one operation is compiled to serves it. Nothing here speaks of one program.
-/
import Derived.Test.YtmnmbpcbfmhceaaEng15
import Derived.Test.YtmnmbpcbfmhceaaEng5e
import Derived.Test.YtmnmbpcbfmhceaaEng15a
set_option linter.unusedSimpArgs false
set_option linter.unusedVariables false
namespace Go.Eng

section
variable {P : Program} {N : Nat} {w0 : World} {A0 R : Auth} {s : St} {a : Act} {w : World} {lam : Nat → Nat} (hr : RelL N w0 A0 R s a w lam)
variable {K : St → Prop} {K' : Act → World → Prop} {Q : Exit → Act → World → Prop}

theorem quiet_act {o : Oper} {op : AOp} {d : Option Nat} (hq : act P d op s K = (match qv op s with | some v => K { s with env := put s.env d v } | none => False)) (h : act P d op s K) : ∃ v, qv op s = some v ∧ K { s with env := put s.env d v } := by
  rw [hq] at h
  split at h
  · exact ⟨_, by assumption, h⟩
  · exact h.elim

include hr in
theorem binOp_sound {bop : BinOp} {t u : TypeId} {x y : Operand} {x' y' : O} {op : AOp} (hx : opd P t x = some x') (hy : opd P u y = some y') (hc : cbin P bop t x' y' = some op) {d : Option Tmp} {ty : TypeId} {pos : String} {af : Array Edge} {gd : Option (Nat × Bool)}
    (hd : ∀ dd, d = some dd → dd < N) (hk : ∀ s' a' w', Rel N w0 A0 R s' a' w' → K s' → K' a' w') (h : act P d op s K) : (⟨d, .binOp bop t x y u, ty, pos, af, gd⟩ : Oper).wp P a w K' Q := by
  cases bop <;> simp only [cbin, Option.some.injEq] at hc
  case eql =>
    unfold ceq at hc
    split at hc <;> (try simp only [Option.some.injEq] at hc) <;> (try subst hc) <;> try (cases hc; done)
    · obtain ⟨v, h1, h2⟩ := quiet_act (o := default) rfl h
      exact quiet_wp hr (cmp_sound hr _ _ hx hy (by simp [cbin, ceq, *]) h1) hd hk h2
    · obtain ⟨v, h1, h2⟩ := quiet_act (o := default) rfl h
      exact quiet_wp hr (cmp_sound hr _ _ hx hy (by simp [cbin, ceq, *]) h1) hd hk h2
    · obtain ⟨v, h1, h2⟩ := quiet_act (o := default) rfl h
      exact quiet_wp hr (cmb_sound hr false _ rfl hx hy (by assumption) h1) hd hk h2
    · obtain ⟨v, h1, h2⟩ := quiet_act (o := default) rfl h
      exact quiet_wp hr (cmn_sound hr false _ rfl hx hy (by assumption) h1) hd hk h2
    · rename_i hu
      split at hc <;> (try cases hc; done)
      rename_i hg
      simp only [Option.map_eq_some_iff] at hc
      obtain ⟨ks, hks, rfl⟩ := hc
      obtain ⟨v, h1, h2⟩ := quiet_act (o := default) rfl h
      exact quiet_wp hr (eqg_sound hr false _ rfl hx hy (by simp [isAggT, hu]) (by simpa using hg) hks h1) hd hk h2
    · rename_i hu
      split at hc <;> (try cases hc; done)
      rename_i hg
      simp only [Option.map_eq_some_iff] at hc
      obtain ⟨ks, hks, rfl⟩ := hc
      obtain ⟨v, h1, h2⟩ := quiet_act (o := default) rfl h
      exact quiet_wp hr (eqg_sound hr false _ rfl hx hy (by simp [isAggT, hu]) (by simpa using hg) hks h1) hd hk h2
  case neq =>
    unfold ceq at hc
    split at hc <;> (try simp only [Option.some.injEq] at hc) <;> (try subst hc) <;> try (cases hc; done)
    · obtain ⟨v, h1, h2⟩ := quiet_act (o := default) rfl h
      exact quiet_wp hr (cmp_sound hr _ _ hx hy (by simp [cbin, ceq, *]) h1) hd hk h2
    · obtain ⟨v, h1, h2⟩ := quiet_act (o := default) rfl h
      exact quiet_wp hr (cmp_sound hr _ _ hx hy (by simp [cbin, ceq, *]) h1) hd hk h2
    · obtain ⟨v, h1, h2⟩ := quiet_act (o := default) rfl h
      exact quiet_wp hr (cmb_sound hr true _ rfl hx hy (by assumption) h1) hd hk h2
    · obtain ⟨v, h1, h2⟩ := quiet_act (o := default) rfl h
      exact quiet_wp hr (cmn_sound hr true _ rfl hx hy (by assumption) h1) hd hk h2
    · rename_i hu
      split at hc <;> (try cases hc; done)
      rename_i hg
      simp only [Option.map_eq_some_iff] at hc
      obtain ⟨ks, hks, rfl⟩ := hc
      obtain ⟨v, h1, h2⟩ := quiet_act (o := default) rfl h
      exact quiet_wp hr (eqg_sound hr true _ rfl hx hy (by simp [isAggT, hu]) (by simpa using hg) hks h1) hd hk h2
    · rename_i hu
      split at hc <;> (try cases hc; done)
      rename_i hg
      simp only [Option.map_eq_some_iff] at hc
      obtain ⟨ks, hks, rfl⟩ := hc
      obtain ⟨v, h1, h2⟩ := quiet_act (o := default) rfl h
      exact quiet_wp hr (eqg_sound hr true _ rfl hx hy (by simp [isAggT, hu]) (by simpa using hg) hks h1) hd hk h2
  all_goals subst hc
  all_goals obtain ⟨v, h1, h2⟩ := quiet_act (o := default) rfl h
  all_goals first
    | exact quiet_wp hr (ari_sound hr _ _ hx hy (by rfl) h1) hd hk h2
    | exact quiet_wp hr (cmp_sound hr _ _ hx hy (by rfl) h1) hd hk h2

include hr in
theorem builtin_sound {b : Builtin} {as : Array Operand} {ts : Array TypeId} {op : AOp} (hsz : as.size = ts.size) (hc : cbuiltin P b as ts = some op) {d : Option Tmp} {ty : TypeId} {pos : String} {af : Array Edge} {gd : Option (Nat × Bool)}
    (hd : ∀ dd, d = some dd → dd < N) (hk : ∀ s' a' w', Rel N w0 A0 R s' a' w' → K s' → K' a' w') (h : act P d op s K) : (⟨d, .call ⟨.builtin b, as, ts⟩, ty, pos, af, gd⟩ : Oper).wp P a w K' Q := by
  have two : ∀ x y, args P as ts = some [x, y] → ∃ p q t u, as = #[p, q] ∧ ts = #[t, u] ∧ opd P t p = some x ∧ opd P u q = some y := fun x y e => by
    obtain ⟨as⟩ := as
    obtain ⟨ts⟩ := ts
    simp only [args] at e
    match as, ts, hsz with
    | [p, q], [t, u], _ =>
      simp only [List.zip_cons_cons, List.zip_nil_right, allM] at e
      cases e1 : opd P t p <;> cases e2 : opd P u q <;> simp [e1, e2] at e
      exact ⟨p, q, t, u, rfl, rfl, by rw [e1, e.1], by rw [e2, e.2]⟩
    | [], [], _ => simp [allM] at e
    | [p], [t], _ =>
      simp only [List.zip_cons_cons, List.zip_nil_right, allM] at e
      cases e1 : opd P t p <;> simp [e1] at e
    | p :: q :: r :: l, t :: u :: v :: m, _ =>
      simp only [List.zip_cons_cons, List.zip_nil_right, allM] at e
      cases e1 : opd P t p <;> cases e2 : opd P u q <;> cases e3 : opd P v r <;> cases e4 : allM (fun (x : Operand × TypeId) => opd P x.2 x.1) (l.zip m) <;> simp [e1, e2, e3, e4] at e
    | [], _ :: _, h => simp at h
    | [_], [], h => simp at h
    | [_], _ :: _ :: _, h => simp at h
    | _ :: _ :: _, [], h => simp at h
    | _ :: _ :: _, [_], h => simp at h
    | [_, _], _ :: _ :: _ :: _, h => simp at h
    | _ :: _ :: _ :: _, [_, _], h => simp at h
  have one : ∀ x, args P as ts = some [x] → ∃ p t, as = #[p] ∧ ts = #[t] ∧ opd P t p = some x := fun x e => by
    obtain ⟨as⟩ := as
    obtain ⟨ts⟩ := ts
    simp only [args] at e
    match as, ts, hsz with
    | [p], [t], _ =>
      simp only [List.zip_cons_cons, List.zip_nil_right, allM] at e
      cases e1 : opd P t p <;> simp [e1] at e
      exact ⟨p, t, rfl, rfl, by rw [e1, e]⟩
    | [], [], _ => simp [allM] at e
    | p :: q :: l, t :: u :: m, _ =>
      simp only [List.zip_cons_cons, List.zip_nil_right, allM] at e
      cases e1 : opd P t p <;> cases e2 : opd P u q <;> cases e4 : allM (fun (x : Operand × TypeId) => opd P x.2 x.1) (l.zip m) <;> simp [e1, e2, e4] at e
    | [], _ :: _, h => simp at h
    | [_], [], h => simp at h
    | [_], _ :: _ :: _, h => simp at h
    | _ :: _ :: _, [], h => simp at h
    | _ :: _ :: _, [_], h => simp at h
  unfold cbuiltin at hc
  split at hc <;> (try cases hc; done)
  · rename_i x hx
    obtain ⟨p, t, rfl, rfl, e1⟩ := one x hx
    split at hc <;> (try cases hc; done) <;> simp only [Option.some.injEq] at hc <;> subst hc
    · rename_i ht
      obtain ⟨v, h1, h2⟩ := quiet_act (o := default) rfl h
      exact quiet_wp hr (lns_sound hr e1 (by simpa using ht) h1) hd hk h2
    · rename_i ht
      obtain ⟨v, h1, h2⟩ := quiet_act (o := default) rfl h
      exact quiet_wp hr (ln_sound hr e1 (by simpa using ht) h1) hd hk h2
  · rename_i x y hx
    obtain ⟨p, q, t, u, rfl, rfl, e1, e2⟩ := two x y hx
    simp only [Option.some.injEq] at hc
    subst hc
    obtain ⟨v, h1, h2⟩ := quiet_act (o := default) rfl h
    exact quiet_wp hr (mn_sound hr e1 e2 h1) hd hk h2
  · rename_i x y hx
    obtain ⟨p, q, t, u, rfl, rfl, e1, e2⟩ := two x y hx
    split at hc <;> (try cases hc; done)
    rename_i ht
    split at hc <;> (try cases hc; done)
    rename_i h0
    simp only [Option.some.injEq] at hc
    subst hc
    exact cpy_wp hr (by simpa using ht) h0 e1 e2 hd hk h
  · rename_i x y hx
    obtain ⟨p, q, t, u, rfl, rfl, e1, e2⟩ := two x y hx
    split at hc <;> (try cases hc; done)
    rename_i ht
    split at hc <;> (try cases hc; done)
    rename_i h0
    simp only [Option.some.injEq] at hc
    subst hc
    obtain ⟨htt, h0, hz⟩ := h0
    have htu : t = u := by simpa using htt
    subst htu
    obtain ⟨z, hz⟩ := Option.isSome_iff_exists.1 hz
    exact ap_wp hr (by simpa using ht) h0 hz e1 e2 hd hk h

include hr in
/-- Whatever an operation is compiled to, serves it. -/
theorem act_sound {ci : CI} {ops : Array Oper} {o : Oper} {op : AOp} (hc : cop P ci ops o = some op) (hn : o.dst.isSome = needsDst op) (hd : ∀ dd, o.dst = some dd → dd < N)
    (hk : ∀ s' a' w', Rel N w0 A0 R s' a' w' → K s' → K' a' w') (h : act P o.dst op s K) : o.wp P a w K' Q := by
  obtain ⟨d, op1, ty, pos, af, gd⟩ := o
  have ds : needsDst op = true → ∃ dd, d = some dd := fun e => by
    simp only [e] at hn
    exact Option.isSome_iff_exists.1 hn
  have dn : needsDst op = false → d = none := fun e => by
    simp only [e] at hn
    cases d with
    | none => rfl
    | some x => cases hn
  unfold cop at hc
  split at hc <;> rename_i hop <;> simp only at hop <;> (try subst hop)
  · -- move
    simp only [Option.map_eq_some_iff] at hc
    obtain ⟨x', hx, rfl⟩ := hc
    obtain ⟨v, h1, h2⟩ := quiet_act (o := default) rfl h
    exact quiet_wp hr (mv_sound hr hx h1) hd hk h2
  · -- assign
    simp only [Option.map_eq_some_iff] at hc
    obtain ⟨x', hx, rfl⟩ := hc
    obtain ⟨v, h1, h2⟩ := quiet_act (o := default) rfl h
    exact quiet_wp hr (asg_sound hr hx h1) hd hk h2
  · -- pick
    split at hc <;> cases hc
    obtain ⟨v, h1, h2⟩ := quiet_act (o := default) rfl h
    exact quiet_wp hr (pk_sound hr (by assumption) (by assumption) (by assumption) h1) hd hk h2
  · -- binOp
    split at hc <;> (try cases hc; done)
    exact binOp_sound hr (by assumption) (by assumption) hc hd hk h
  · -- unOp
    split at hc <;> cases hc <;> obtain ⟨v, h1, h2⟩ := quiet_act (o := default) rfl h
    · exact quiet_wp hr (not_sound hr (by assumption) h1) hd hk h2
    · exact quiet_wp hr (neg_sound hr (by assumption) h1) hd hk h2
    · exact quiet_wp hr (cpl_sound hr (by assumption) h1) hd hk h2
  · -- convert
    split at hc <;> (try cases hc; done)
    · cases hc
      obtain ⟨v, h1, h2⟩ := quiet_act (o := default) rfl h
      exact quiet_wp hr (cvi_sound hr (by assumption) (by assumption) (by assumption) h1) hd hk h2
    · split at hc <;> (try cases hc; done)
      rename_i hu
      cases hc
      obtain ⟨v, h1, h2⟩ := quiet_act (o := default) rfl h
      exact quiet_wp hr (cvs_sound hr (by assumption) (by assumption) (by assumption) hu h1) hd hk h2
  · -- alloc
    split at hc <;> (try cases hc; done)
    simp only [Option.map_eq_some_iff] at hc
    obtain ⟨z, hz, rfl⟩ := hc
    obtain ⟨dd, rfl⟩ := ds rfl
    exact al_wp hr hz (hd dd rfl) hk h
  · -- box
    simp only [Option.map_eq_some_iff] at hc
    obtain ⟨x', hx, hc⟩ := hc
    split at hc <;> subst hc
    · obtain ⟨dd, rfl⟩ := ds rfl
      exact bx_wp hr hx (hd dd rfl) hk h
    · exact bh_wp hr hx hd hk h
  · -- fieldAddr
    split at hc <;> (try cases hc; done)
    split at hc <;> (try cases hc; done)
    split at hc <;> cases hc
    obtain ⟨v, h1, h2⟩ := quiet_act (o := default) rfl h
    exact quiet_wp hr (fa_sound hr (by assumption) (by assumption) (by assumption) (by assumption) h1) hd hk h2
  · -- indexAddr
    split at hc <;> (try cases hc; done) <;> split at hc <;> cases hc <;> obtain ⟨v, h1, h2⟩ := quiet_act (o := default) rfl h
    · exact quiet_wp hr (ia_sound hr (by assumption) (by assumption) (by assumption) (by assumption) h1) hd hk h2
    · exact quiet_wp hr (is_sound hr (by assumption) (by assumption) (by assumption) (by assumption) h1) hd hk h2
  · -- load
    split at hc <;> (try cases hc; done)
    simp only [Option.map_eq_some_iff] at hc
    obtain ⟨x', hx, hc⟩ := hc
    split at hc <;> subst hc <;> obtain ⟨v, h1, h2⟩ := quiet_act (o := default) rfl h
    · exact quiet_wp hr (ldh_sound hr (by assumption) hx h1) hd hk h2
    · exact quiet_wp hr (ld_sound hr (by assumption) hx h1) hd hk h2
  · -- store
    split at hc <;> (try cases hc; done)
    split at hc <;> (try cases hc; done)
    rename_i h0
    simp only [Option.some.injEq] at hc
    split at hc <;> subst hc
    · have := dn rfl; subst this
      exact sth_wp hr (by omega) (by assumption) (by assumption) hk h
    · have := dn rfl; subst this
      exact st_wp hr (by omega) (by assumption) (by assumption) hk h
  · -- build
    split at hc <;> cases hc
    obtain ⟨v, h1, h2⟩ := quiet_act (o := default) rfl h
    exact quiet_wp hr (bd_sound hr (by assumption) (by assumption) h1) hd hk h2
  · -- buildSlice
    split at hc <;> (try cases hc; done)
    split at hc <;> (try cases hc; done)
    split at hc <;> cases hc
    rename_i hh
    obtain ⟨v, h1, h2⟩ := quiet_act (o := default) rfl h
    exact quiet_wp hr (bs_sound hr (by assumption) (by assumption) (by assumption) hh.1 hh.2.1 h1 (fun e => by simpa using hh.2.2 e)) hd hk h2
  · -- index
    split at hc <;> cases hc
    obtain ⟨v, h1, h2⟩ := quiet_act (o := default) rfl h
    exact quiet_wp hr (ix_sound hr (by assumption) (by assumption) (by assumption) h1) hd hk h2
  · -- field
    split at hc <;> (try cases hc; done)
    split at hc <;> (try cases hc; done)
    split at hc <;> cases hc
    obtain ⟨v, h1, h2⟩ := quiet_act (o := default) rfl h
    exact quiet_wp hr (fd_sound hr (by assumption) (by assumption) (by assumption) (by assumption) h1) hd hk h2
  · -- slice
    split at hc <;> (try cases hc; done)
    · cases hc
      obtain ⟨v, h1, h2⟩ := quiet_act (o := default) rfl h
      exact quiet_wp hr (sls_sound hr (by assumption) (by assumption) (by assumption) (by assumption) h1) hd hk h2
    · split at hc <;> cases hc
      obtain ⟨v, h1, h2⟩ := quiet_act (o := default) rfl h
      exact quiet_wp hr (sla_sound hr (by assumption) (by assumption) (by assumption) (by assumption) (by assumption) h1) hd hk h2
    · split at hc <;> cases hc
      obtain ⟨v, h1, h2⟩ := quiet_act (o := default) rfl h
      exact quiet_wp hr (sl_sound hr (by assumption) (by assumption) (by assumption) (by assumption) (by assumption) h1) hd hk h2
  · -- extract
    simp only [Option.map_eq_some_iff] at hc
    obtain ⟨x', hx, rfl⟩ := hc
    obtain ⟨v, h1, h2⟩ := quiet_act (o := default) rfl h
    exact quiet_wp hr (ex_sound hr hx h1) hd hk h2
  · -- nilCheck
    simp only [Option.map_eq_some_iff] at hc
    obtain ⟨x', hx, rfl⟩ := hc
    obtain ⟨v, h1, h2⟩ := quiet_act (o := default) rfl h
    exact quiet_wp hr (nc_sound hr hx h1) hd hk h2
  · -- makeSlice
    split at hc <;> (try cases hc; done)
    simp only [Option.map_eq_some_iff] at hc
    obtain ⟨z, hz, rfl⟩ := hc
    obtain ⟨dd, rfl⟩ := ds rfl
    exact ms_wp hr (by assumption) hz (by assumption) (by assumption) (hd dd rfl) hk h
  · -- makeFunc
    split at hc <;> (try cases hc; done)
    rename_i hf
    have hf := Array.toList_eq_nil_iff.1 (List.isEmpty_iff.1 hf)
    subst hf
    simp only [Option.map_eq_some_iff] at hc
    obtain ⟨l, hl, rfl⟩ := hc
    obtain ⟨v, h1, h2⟩ := quiet_act (o := default) rfl h
    exact quiet_wp hr (mf_sound hr hl h1) hd hk h2
  · -- makeMap
    cases hc
    exact mm_wp hr hd hk h
  · split at hc <;> (try cases hc; done)
  · split at hc <;> (try cases hc; done)
  · -- call
    split at hc <;> (try cases hc; done)
    rename_i c hsz
    simp only [Decidable.not_not] at hsz
    obtain ⟨callee, as, ts⟩ := c
    simp only at hsz hc
    split at hc <;> (try cases hc; done)
    · exact builtin_sound hr hsz hc hd hk h
    · simp only [Option.map_eq_some_iff] at hc
      obtain ⟨l, hl, hc⟩ := hc
      split at hc <;> subst hc
      · exact callp_wp hr hsz hl hd hk h
      · exact call_wp hr hsz hl hd hk h
    · split at hc <;> cases hc
      exact callv_wp hr hsz (by assumption) (by assumption) hd hk h
  · cases hc

end
end Go.Eng
