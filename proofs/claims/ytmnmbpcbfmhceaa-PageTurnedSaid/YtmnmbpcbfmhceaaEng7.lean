/-
  THE ENGINE, 7: more quiet operations: parts, slices, conversions. Nothing here speaks of one program.
-/
import Derived.Test.YtmnmbpcbfmhceaaEng6
set_option linter.unusedSimpArgs false
set_option linter.unusedVariables false
namespace Go.Eng

section
variable {P : Program} {N : Nat} {w0 : World} {A0 R : Auth} {s : St} {a : Act} {w : World} {lam : Nat → Nat} (hr : RelL N w0 A0 R s a w lam)
variable {d : Option Tmp} {ty : TypeId} {pos : String} {af : Array Edge} {gd : Option (Nat × Bool)}

/-! ### Slices -/

def RBd (v : Option Value) (dflt n : Nat) : Prop := match v with | none => n = dflt | some v => ∃ k, v = .int k n

theorem run_bounds (b : Bool) (len cap : Nat) {lo hi : Option Value} {l h : Nat} (hl : RBd lo 0 l) (hh : RBd hi len h) (h1 : l ≤ h) (h2 : h ≤ cap) (w : World) :
    (Instr.sliceBounds b len cap lo hi none).run P w = .ok (l, h, cap) w := by
  have e1 : (0 : Int) ≤ l := by omega
  have e2 : (0 : Int) ≤ h := by omega
  have e3 : (h : Int) ≤ cap := by omega
  have e4 : (l : Int) ≤ h := by omega
  cases lo with
  | none =>
    simp only [RBd] at hl
    subst hl
    cases hi with
    | none => simp only [RBd] at hh; subst hh; simp [Instr.sliceBounds]
    | some hv => obtain ⟨k, rfl⟩ := hh; simp [Instr.sliceBounds, run_sliceBound, e2, e3]
  | some lv =>
    obtain ⟨j, rfl⟩ := hl
    cases hi with
    | none => simp only [RBd] at hh; subst hh; simp [Instr.sliceBounds, run_sliceBound, e1, e4, h1]
    | some hv => obtain ⟨k, rfl⟩ := hh; simp [Instr.sliceBounds, run_sliceBound, e1, e2, e3, e4, h1]

include hr in
theorem bound_sound {x : Option Operand} {x' : Option O} {dflt : Nat} {n : Int} (hx : opdO P 0 x = some x') (h : bound s.env x' dflt = some n) (hn : 0 ≤ n) : RBd (x.map a.eval) dflt n.toNat := by
  cases x with
  | none =>
    simp only [opdO, Option.some.injEq] at hx
    subst hx
    simp only [bound, Option.some.injEq] at h
    subst h
    simp [RBd]
  | some x =>
    simp only [opdO, Option.map_eq_some_iff] at hx
    obtain ⟨y, hy, rfl⟩ := hx
    simp only [bound] at h
    obtain ⟨k, hk⟩ := idx_sound hr hy h
    refine ⟨k, ?_⟩
    rw [hk]; simp [Int.toNat_of_nonneg hn]

theorem exec_slice {t : TypeId} {x : Operand} {lo hi : Option Operand} : execOp a.eval ⟨d, .slice t x lo hi none, ty, pos, af, gd⟩ = (do pure (.value (← Instr.sliceAt t (a.eval x) (lo.map a.eval) (hi.map a.eval) none))) := rfl

include hr in
theorem sls_sound {t : TypeId} {x : Operand} {lo hi : Option Operand} {x' : O} {lo' hi' : Option O} {v : AV} (ht : P.underlying t = some .string) (hx : opd P t x = some x') (hl : opdO P 0 lo = some lo') (hh : opdO P 0 hi = some hi')
    (hv : qv (.sls x' lo' hi') s = some v) : QS P R ⟨d, .slice t x lo hi none, ty, pos, af, gd⟩ a w s lam v := by
  simp only [qv] at hv
  split at hv <;> try (cases hv; done)
  rename_i st h1
  split at hv <;> try (cases hv; done)
  rename_i l h b1 b2
  split at hv <;> cases hv
  rename_i hb
  have e1 := RA.p (opd_sound hr hx h1).1
  refine QS.of exec_slice (u := .string (st.extract l.toNat h.toNat)) ?_ (RC.p _ rfl) (scv_c _)
  have hbd := run_bounds (P := P) false st.size st.size (bound_sound hr hl b1 hb.1) (bound_sound hr hh b2 (by omega)) (by omega) (by omega) w
  rw [e1]
  simp [Instr.sliceAt, run_underlying ht, Instr.slice, hbd]

include hr in
theorem sla_sound {t e : TypeId} {n : Nat} {x : Operand} {lo hi : Option Operand} {x' : O} {lo' hi' : Option O} {v : AV} (ht : P.underlying t = some (.array n e)) (hsz : 0 < P.cellsOf e) (hx : opd P t x = some x') (hl : opdO P 0 lo = some lo') (hh : opdO P 0 hi = some hi')
    (hv : qv (.sla n (P.cellsOf e) x' lo' hi') s = some v) : QS P R ⟨d, .slice t x lo hi none, ty, pos, af, gd⟩ a w s lam v := by
  obtain ⟨inf, hinf, hs⟩ := info_of_cells hsz
  simp only [qv] at hv
  split at hv <;> try (cases hv; done)
  rename_i dd o l h h1 b1 b2
  split at hv
  · rename_i hb
    cases hv
    obtain ⟨k1, k2⟩ := opd_sound hr hx h1
    have e1 : a.eval x = .pointer (some ⟨lam dd, o, none⟩) := k1
    refine QS.of exec_slice (u := .slice (some ⟨lam dd, o + l.toNat * P.cellsOf e, none⟩) (h.toNat - l.toNat) (n - l.toNat)) ?_ rfl (fun d h => k2 d h)
    have hbd := run_bounds (P := P) false n n (bound_sound hr hl b1 hb.1) (bound_sound hr hh b2 (by omega)) (by omega) (by omega) w
    have hne : ¬ n = l.toNat := by omega
    rw [e1]
    simp [Instr.sliceAt, run_underlying ht, Instr.sureAddr, hbd, sizeOf, typeInfo, hinf, hs, hne, add_none]
  · split at hv <;> cases hv
    rename_i hb
    obtain ⟨k1, k2⟩ := opd_sound hr hx h1
    have e1 : a.eval x = .pointer (some ⟨lam dd, o, none⟩) := k1
    refine QS.of exec_slice (u := .slice (some ⟨lam dd, o, none⟩) (h.toNat - l.toNat) (n - l.toNat)) ?_ ?_ (fun d h => by simp [refs] at h)
    · have hbd := run_bounds (P := P) false n n (bound_sound hr hl b1 (by omega)) (bound_sound hr hh b2 (by omega)) (by omega) (by omega) w
      have hne : n = l.toNat := by omega
      rw [e1]
      simp [Instr.sliceAt, run_underlying ht, Instr.sureAddr, hbd, sizeOf, typeInfo, hinf, hs, ← hne, add_none]
    · have h0 : h.toNat - l.toNat = 0 := by omega
      rw [h0]
      exact RC.s0 _ _ _

include hr in
theorem sl_sound {t e : TypeId} {x : Operand} {lo hi : Option Operand} {x' : O} {lo' hi' : Option O} {v : AV} (ht : P.underlying t = some (.slice e)) (hsz : 0 < P.cellsOf e) (hx : opd P t x = some x') (hl : opdO P 0 lo = some lo') (hh : opdO P 0 hi = some hi')
    (hv : qv (.sl (P.cellsOf e) x' lo' hi') s = some v) : QS P R ⟨d, .slice t x lo hi none, ty, pos, af, gd⟩ a w s lam v := by
  obtain ⟨inf, hinf, hs⟩ := info_of_cells hsz
  have key : ∀ (A : Option Addr) (m c l h : Nat), a.eval x = .slice A m c → RBd (lo.map a.eval) 0 l → RBd (hi.map a.eval) m h → l ≤ h → h ≤ c →
      (Instr.sliceAt t (a.eval x) (lo.map a.eval) (hi.map a.eval) none).run P w = .ok (.slice (if c = l then A else A.map (·.add (l * P.cellsOf e))) (h - l) (c - l)) w := fun A m c l h he hl hh h1 h2 => by
    have hbd := run_bounds (P := P) true m c hl hh h1 h2 w
    rw [he]
    simp [Instr.sliceAt, Instr.slice, run_underlying ht, hbd, sizeOf, typeInfo, hinf, hs]
  simp only [qv] at hv
  split at hv <;> try (cases hv; done)
  · rename_i dd o n c h1
    split at hv <;> try (cases hv; done)
    rename_i l h b1 b2
    split at hv <;> cases hv
    rename_i hb
    obtain ⟨k1, k2⟩ := opd_sound hr hx h1
    have e1 : a.eval x = .slice (some ⟨lam dd, o, none⟩) n c := k1
    refine QS.of exec_slice (key _ n c l.toNat h.toNat e1 (bound_sound hr hl b1 hb.1) (bound_sound hr hh b2 (by omega)) (by omega) (by omega)) ?_ (fun d h => k2 d h)
    have hne : ¬ c = l.toNat := by omega
    simp [hne, add_none, RA, RA1]
  · rename_i e' xs tok h1
    split at hv <;> try (cases hv; done)
    rename_i l h b1 b2
    split at hv <;> cases hv
    rename_i hb
    obtain ⟨hb0, hb1, hb2, rfl⟩ := hb
    obtain ⟨k1, _⟩ := opd_sound hr hx h1
    by_cases hne : xs = []
    · subst hne
      have hl0 : l.toNat = 0 := by simp at hb2; omega
      have hh0 : h.toNat = 0 := by simp at hb2; omega
      have k1' : RC w (auth R s lam) (.s (P.cellsOf e) [] tok) (a.eval x) := k1
      cases hx0 : a.eval x with
      | slice A m c =>
        rw [hx0] at k1'
        have hm : m = 0 := by cases k1' <;> simp
        subst hm
        refine QS.of exec_slice (key _ 0 c l.toNat h.toNat hx0 (bound_sound hr hl b1 hb0) (by simpa using bound_sound hr hh b2 (by omega)) (by omega) (by omega)) ?_ (scv_c _)
        simp only [List.take_nil, List.drop_nil, hl0, hh0]
        exact RC.s0 _ _ _
      | _ => rw [hx0] at k1'; cases k1'
    · obtain ⟨b, o, c, U, e1, kb, ke, k2, kl, k3, _, hk⟩ := RC.rows k1 hne
      refine QS.of exec_slice (key _ _ c l.toNat h.toNat e1 (bound_sound hr hl b1 hb0) (bound_sound hr hh b2 (by omega)) (by omega) (by omega)) ?_ (scv_c _)
      have hlen : ((xs.take h.toNat).drop l.toNat).length = h.toNat - l.toNat := by simp; omega
      by_cases hz : h.toNat - l.toNat = 0
      · have : (xs.take h.toNat).drop l.toNat = [] := List.eq_nil_of_length_eq_zero (by omega)
        rw [this, hz]
        exact RC.s0 _ _ _
      · have hne2 : ¬ c = l.toNat := by omega
        rw [if_neg hne2, Option.map_some, add_none, ← hlen]
        have ke2 : ∀ x ∈ xs.take h.toNat, x.length = P.cellsOf e := fun x hx => ke x (List.mem_of_mem_take hx)
        have hfl : ((xs.take h.toNat).drop l.toNat).flatten = (xs.flatten.take (h.toNat * P.cellsOf e)).drop (l.toNat * P.cellsOf e) := by rw [flat_drop _ ke2, flat_take _ ke]
        refine RC.mk (U := (U.take (h.toNat * P.cellsOf e)).drop (l.toNat * P.cellsOf e)) (by intro h0; rw [h0] at hlen; simp at hlen; omega) kb (by omega) (fun x hx => ke2 x (List.mem_of_mem_drop hx)) (by rw [hfl]; exact (k2.take _).drop _) (fun i hi => ?_) (fun t ht => by cases ht)
        simp only [List.length_drop, List.length_take] at hi
        have := k3 (l.toNat * P.cellsOf e + i) (by omega)
        simpa [Nat.add_assoc] using this
  · rename_i ty' h1
    split at hv <;> try (cases hv; done)
    rename_i l h b1 b2
    split at hv <;> cases hv
    rename_i hb
    obtain ⟨rfl, rfl⟩ := hb
    obtain ⟨k1, _⟩ := opd_sound hr hx h1
    have k1' : RC w (auth R s lam) (.z ty') (a.eval x) := k1
    have hbl := bound_sound hr hl b1 (by omega)
    have hbh := bound_sound hr hh b2 (by omega)
    cases hx0 : a.eval x with
    | slice A m c =>
      rw [hx0] at k1'
      have hm : m = 0 ∧ c = 0 := by cases k1' <;> simp
      obtain ⟨rfl, rfl⟩ := hm
      have hq := key A 0 0 0 0 hx0 hbl hbh (by omega) (by omega)
      simp only [if_true, Nat.sub_zero] at hq
      exact QS.of exec_slice hq k1' (scv_c _)
    | _ => rw [hx0] at k1'; cases k1'

end
end Go.Eng
