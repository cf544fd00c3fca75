/-
  THE ENGINE, 5: more quiet operations. Nothing here speaks of one program.
-/
import Derived.Test.YtmnmbpcbfmhceaaEng4
set_option linter.unusedSimpArgs false
set_option linter.unusedVariables false
namespace Go.Eng

section
variable {P : Program} {N : Nat} {w0 : World} {A0 R : Auth} {s : St} {a : Act} {w : World} {lam : Nat → Nat} (hr : RelL N w0 A0 R s a w lam)
variable {d : Option Tmp} {ty : TypeId} {pos : String} {af : Array Edge} {gd : Option (Nat × Bool)}

include hr in
theorem ari_sound (op : Ari) (bop : BinOp) {t u : TypeId} {x y : Operand} {x' y' : O} {v : AV} (hx : opd P t x = some x') (hy : opd P u y = some y') (hop : cbin P bop t (.t 0) (.t 0) = some (.ari op (.t 0) (.t 0)))
    (hv : qv (.ari op x' y') s = some v) : QS P R ⟨d, .binOp bop t x y u, ty, pos, af, gd⟩ a w s lam v := by
  simp only [qv] at hv
  split at hv <;> try (cases hv; done)
  rename_i h1 h2
  obtain ⟨z, rfl, h4, h5⟩ := ari_bin op bop hop hv (opd_sound hr hx h1).1 (opd_sound hr hy h2).1 x y (w := w)
  exact QS.of rfl h5 (RC.p _ h4) (scv_c _)

include hr in
theorem cmp_sound (op : Cmp) (bop : BinOp) {t u : TypeId} {x y : Operand} {x' y' : O} {v : AV} (hx : opd P t x = some x') (hy : opd P u y = some y') (hop : cbin P bop t (.t 0) (.t 0) = some (.cmp op (.t 0) (.t 0)))
    (hv : qv (.cmp op x' y') s = some v) : QS P R ⟨d, .binOp bop t x y u, ty, pos, af, gd⟩ a w s lam v := by
  simp only [qv] at hv
  split at hv <;> try (cases hv; done)
  rename_i h1 h2
  obtain ⟨z, rfl, h4, h5⟩ := cmp_bin op bop hop hv (opd_sound hr hx h1).1 (opd_sound hr hy h2).1 x y (w := w)
  exact QS.of rfl h5 (RC.p _ h4) (scv_c _)

theorem run_equal_bool {t : TypeId} (ht : P.underlying t = some .bool) (x y : Bool) (w : World) : (Op.equal t (.bool x) (.bool y)).run P w = .ok (x == y) w := by
  have : Op.equal t (.bool x) (.bool y) = Op.equalIn (9999 + 1) t (.bool x) (.bool y) := rfl
  rw [this, Op.equalIn]
  simp [run_underlying ht]

theorem run_equal_nilp {t el : TypeId} (ht : P.underlying t = some (.pointer el)) (x : Option Addr) (w : World) : (Op.equal t (.pointer x) (.pointer none)).run P w = .ok (isNilP x) w := by
  have : Op.equal t (.pointer x) (.pointer none) = Op.equalIn (9999 + 1) t (.pointer x) (.pointer none) := rfl
  rw [this, Op.equalIn]
  cases x <;> simp [run_underlying ht, isNilP]

include hr in
theorem cmb_sound (ne : Bool) (bop : BinOp) (hb : bop = if ne then .neq else .eql) {t u : TypeId} {x y : Operand} {x' y' : O} {v : AV} (hx : opd P t x = some x') (hy : opd P u y = some y') (ht : P.underlying t = some .bool)
    (hv : qv (.cmb ne x' y') s = some v) : QS P R ⟨d, .binOp bop t x y u, ty, pos, af, gd⟩ a w s lam v := by
  simp only [qv] at hv
  split at hv <;> try (cases hv; done)
  rename_i h1 h2
  cases hv
  have e1 := RA.p (opd_sound hr hx h1).1
  have e2 := RA.p (opd_sound hr hy h2).1
  refine QS.of rfl (u := .bool (if ne then !(_ == _) else _ == _)) ?_ (RC.p _ rfl) (scv_c _)
  rw [e1, e2]
  cases ne <;> subst hb <;> simp [eqGuard, Go.binOp, run_equal_bool ht]

include hr in
theorem cmn_sound (ne : Bool) (bop : BinOp) (hb : bop = if ne then .neq else .eql) {t u el : TypeId} {x y : Operand} {x' y' : O} {v : AV} (hx : opd P t x = some x') (hy : opd P u y = some y') (ht : P.underlying t = some (.pointer el))
    (hv : qv (.cmn ne x' y') s = some v) : QS P R ⟨d, .binOp bop t x y u, ty, pos, af, gd⟩ a w s lam v := by
  simp only [qv] at hv
  split at hv <;> try (cases hv; done)
  rename_i pa h1 h2
  cases hv
  have e1 := RA.p (opd_sound hr hx h1).1
  have e2 := RA.p (opd_sound hr hy h2).1
  refine QS.of rfl (u := .bool (if ne then !(isNilP pa) else isNilP pa)) ?_ (RC.p _ rfl) (scv_c _)
  rw [e1, e2]
  cases ne <;> subst hb <;> simp [eqGuard, Go.binOp, run_equal_nilp ht]

include hr in
theorem not_sound {t : TypeId} {x : Operand} {x' : O} {v : AV} (hx : opd P t x = some x') (hv : qv (.not x') s = some v) : QS P R ⟨d, .unOp .not t x, ty, pos, af, gd⟩ a w s lam v := by
  simp only [qv] at hv
  split at hv <;> try (cases hv; done)
  rename_i b h1
  cases hv
  have e1 := RA.p (opd_sound hr hx h1).1
  exact QS.of rfl (u := .bool (!b)) (by rw [e1]; simp [Op.unary]) (RC.p _ rfl) (scv_c _)

include hr in
theorem neg_sound {t : TypeId} {x : Operand} {x' : O} {v : AV} (hx : opd P t x = some x') (hv : qv (.neg x') s = some v) : QS P R ⟨d, .unOp .neg t x, ty, pos, af, gd⟩ a w s lam v := by
  simp only [qv] at hv
  split at hv <;> try (cases hv; done)
  rename_i k n h1
  cases hv
  have e1 := RA.p (opd_sound hr hx h1).1
  exact QS.of rfl (u := .int k (k.wrap (0 - n))) (by rw [e1]; simp [Op.unary, Op.intArith]) (RC.p _ rfl) (scv_c _)

include hr in
theorem cpl_sound {t : TypeId} {x : Operand} {x' : O} {v : AV} (hx : opd P t x = some x') (hv : qv (.cpl x') s = some v) : QS P R ⟨d, .unOp .xor t x, ty, pos, af, gd⟩ a w s lam v := by
  simp only [qv] at hv
  split at hv <;> try (cases hv; done)
  rename_i k n h1
  cases hv
  have e1 := RA.p (opd_sound hr hx h1).1
  exact QS.of rfl (by rw [e1]; rfl) (RC.p _ rfl) (scv_c _)

include hr in
theorem cvi_sound {t e : TypeId} {j k : IntKind} {x : Operand} {x' : O} {v : AV} (hx : opd P t x = some x') (h1 : P.underlying t = some (.int j)) (h2 : P.underlying e = some (.int k)) (hv : qv (.cvi k x') s = some v) :
    QS P R ⟨d, .convert t e x, ty, pos, af, gd⟩ a w s lam v := by
  simp only [qv] at hv
  split at hv <;> try (cases hv; done)
  rename_i j' n h3
  cases hv
  have e1 := RA.p (opd_sound hr hx h3).1
  exact QS.of rfl (u := .int k (k.wrap n)) (by rw [e1]; simp [Go.convert, run_underlying h1, run_underlying h2, Conv.intToInt]) (RC.p _ rfl) (scv_c _)

theorem add_none (b o n : Nat) : (⟨b, o, none⟩ : Addr).add n = ⟨b, o + n, none⟩ := by unfold Addr.add; split <;> simp_all

theorem info_of_cells {t : TypeId} (h : 0 < P.cellsOf t) : ∃ i, P.info? t = some i ∧ i.size = P.cellsOf t := by
  unfold Program.cellsOf at *
  cases hi : P.info? t with
  | none => simp [hi] at h
  | some i => exact ⟨i, rfl, by simp⟩

theorem RCs.part {w : World} {A : Auth} {xs : List CV} {ys : List Value} (h : RCs w A xs ys) (o n : Nat) : RCs w A (part xs o n) ((ys.drop o).take n) := (h.drop o).take n

include hr in
theorem fa_sound {t : TypeId} {fs : Array Field} {f : Nat} {fl : Field} {x : Operand} {x' : O} {v : AV} (ht : P.underlying t = some (.struct fs)) (hf : fs[f]? = some fl) (hx : opd P 0 x = some x') (hsz : 0 < P.cellsOf fl.type)
    (hv : qv (.fa fl.offset (P.cellsOf fl.type) x') s = some v) : QS P R ⟨d, .fieldAddr t x f, ty, pos, af, gd⟩ a w s lam v := by
  obtain ⟨i, hi, hs⟩ := info_of_cells hsz
  have key : ∀ b o, a.eval x = .pointer (some ⟨b, o, none⟩) → (Instr.fieldAt t (a.eval x) f).run P w = .ok (.pointer (some ⟨b, o + fl.offset, none⟩)) w := fun b o he => by
    rw [he]
    have hne : ¬ i.size = 0 := by omega
    simp [Instr.fieldAt, run_underlying ht, hf, Instr.sureAddr, fieldPlace, sizeOf, typeInfo, hi, hne, add_none]
  simp only [qv] at hv
  split at hv <;> cases hv
  · rename_i dd o h1
    obtain ⟨k1, k2⟩ := opd_sound hr hx h1
    exact QS.of rfl (key _ _ k1) rfl (fun d h => k2 d h)
  · rename_i cs h1
    obtain ⟨⟨b, o, U, k1, kb, k2, k3⟩, _⟩ := opd_sound hr hx h1
    refine QS.of rfl (key _ _ k1) ⟨b, o + fl.offset, (U.drop fl.offset).take (P.cellsOf fl.type), rfl, kb, k2.part _ _, fun j hj => ?_⟩ (scv_ep _)
    simp only [List.length_take, List.length_drop] at hj
    have := k3 (fl.offset + j) (by omega)
    simpa [Nat.add_assoc] using this
  · rename_i b o h1
    have e1 := RA.p (opd_sound hr hx h1).1
    exact QS.of rfl (key _ _ e1) (RC.p _ rfl) (scv_c _)

end
end Go.Eng
