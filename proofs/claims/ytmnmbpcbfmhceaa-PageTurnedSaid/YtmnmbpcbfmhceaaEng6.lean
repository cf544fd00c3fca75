/-
  THE ENGINE, 6: more quiet operations: addresses, loads, slices. Nothing here speaks of one program.
-/
import Derived.Test.YtmnmbpcbfmhceaaEng5
set_option linter.unusedSimpArgs false
set_option linter.unusedVariables false
namespace Go.Eng

section
variable {P : Program} {N : Nat} {w0 : World} {A0 R : Auth} {s : St} {a : Act} {w : World} {lam : Nat → Nat} (hr : RelL N w0 A0 R s a w lam)
variable {d : Option Tmp} {ty : TypeId} {pos : String} {af : Array Edge} {gd : Option (Nat × Bool)}

theorem natOf_bind {x : O} {n : Int} (h : (ev s.env x).bind natOf = some n) : ∃ v, ev s.env x = some v ∧ natOf v = some n := by
  cases hv : ev s.env x with
  | none => simp [hv] at h
  | some v => exact ⟨v, rfl, by simpa [hv] using h⟩

include hr in
theorem idx_sound {t : TypeId} {x : Operand} {x' : O} (hx : opd P t x = some x') {n : Int} (h : (ev s.env x').bind natOf = some n) : ∃ k, a.eval x = .int k n := by
  obtain ⟨v, h1, h2⟩ := natOf_bind h
  exact natOf_sound h2 (opd_sound hr hx h1).1

include hr in
theorem ia_sound {t e : TypeId} {n : Nat} {x i : Operand} {x' i' : O} {v : AV} (ht : P.underlying t = some (.array n e)) (hx : opd P t x = some x') (hi : opd P 0 i = some i') (hsz : 0 < P.cellsOf e)
    (hv : qv (.ia n (P.cellsOf e) x' i') s = some v) : QS P R ⟨d, .indexAddr t x i, ty, pos, af, gd⟩ a w s lam v := by
  obtain ⟨inf, hinf, hs⟩ := info_of_cells hsz
  have key : ∀ b o k (j : Int), a.eval x = .pointer (some ⟨b, o, none⟩) → a.eval i = .int k j → 0 ≤ j → j < n →
      (Instr.indexAt t (a.eval x) (a.eval i)).run P w = .ok (.pointer (some ⟨b, o + j.toNat * P.cellsOf e, none⟩)) w := fun b o k j he hi h0 h1 => by
    rw [he, hi]
    simp [Instr.indexAt, asIntOf, run_underlying ht, Instr.sureAddr, h0, h1, sizeOf, typeInfo, hinf, hs, add_none]
  simp only [qv] at hv
  split at hv <;> try (cases hv; done)
  · rename_i dd o j h1 h2
    split at hv <;> cases hv
    rename_i hb
    obtain ⟨k, hk⟩ := idx_sound hr hi h2
    obtain ⟨k1, k2⟩ := opd_sound hr hx h1
    exact QS.of rfl (key _ _ k j k1 hk hb.1 hb.2) rfl (fun d h => k2 d h)
  · rename_i cs j h1 h2
    split at hv <;> cases hv
    rename_i hb
    obtain ⟨k, hk⟩ := idx_sound hr hi h2
    obtain ⟨⟨b, o, U, k1, kb, k2, k3⟩, _⟩ := opd_sound hr hx h1
    refine QS.of rfl (key _ _ k j k1 hk hb.1 hb.2) ⟨b, o + j.toNat * P.cellsOf e, (U.drop (j.toNat * P.cellsOf e)).take (P.cellsOf e), rfl, kb, k2.part _ _, fun q hq => ?_⟩ (scv_ep _)
    simp only [List.length_take, List.length_drop] at hq
    have := k3 (j.toNat * P.cellsOf e + q) (by omega)
    simpa [Nat.add_assoc] using this

theorem flat_len {e : Nat} : ∀ {xs : List (List CV)}, (∀ x ∈ xs, x.length = e) → xs.flatten.length = xs.length * e
  | [], _ => by simp
  | x :: xs, h => by
    have h1 := h x (by simp)
    have h2 := flat_len (xs := xs) fun y hy => h y (by simp [hy])
    simp only [List.flatten_cons, List.length_append, List.length_cons, h1, h2, Nat.add_mul]
    omega

theorem flat_get {e : Nat} : ∀ {xs : List (List CV)} (h : ∀ x ∈ xs, x.length = e) (i : Nat) (hi : i < xs.length), (xs.flatten.drop (i * e)).take e = xs[i]
  | x :: xs, h, 0, _ => by
    have hx := h x (by simp)
    simp [List.take_append, hx, List.take_of_length_le]
  | x :: xs, h, i + 1, hi => by
    have hx := h x (by simp)
    have := flat_get (xs := xs) (fun y hy => h y (by simp [hy])) i (by simpa using hi)
    simp only [List.flatten_cons, List.getElem_cons_succ]
    rw [← this, Nat.add_mul, Nat.add_comm]
    congr 1
    rw [List.drop_append]
    simp [hx]

/-- The elements of a slice that is known: where they lie. -/
theorem RC.rows {w : World} {A : Auth} {e : Nat} {xs : List (List CV)} {tok : Option Nat} {u : Value} (h : RC w A (.s e xs tok) u) (hne : xs ≠ []) :
    ∃ b o c U, u = .slice (some ⟨b, o, none⟩) xs.length c ∧ b < w.heap.size ∧ (∀ x ∈ xs, x.length = e) ∧ RCs w A xs.flatten U ∧ U.length = xs.length * e ∧
      (∀ i (h : i < U.length), w.cell? ⟨b, o + i, none⟩ = some U[i] ∧ ¬ A b (o + i)) ∧ (∀ t, tok = some t → t = b ∧ o = 0 ∧ ∃ T, w.shape? b = some (T, c * e)) ∧ xs.length ≤ c := by
  cases h with
  | s0 => exact absurd rfl hne
  | s _ _ _ b o c U hne hb hk he hc hr ht =>
    have hl := flat_len he
    refine ⟨b, o, c, (List.range (xs.length * e)).map U, rfl, hb, he, RCs.of (by simp [hl]) (fun i h1 h2 => by simpa using hr i h1), by simp, fun i hi => ?_, ht, hk⟩
    simp only [List.length_map, List.length_range] at hi
    simpa using hc i hi

/-- The same the other way round. -/
theorem RC.mk {w : World} {A : Auth} {e : Nat} {xs : List (List CV)} {tok : Option Nat} {b o c : Nat} {U : List Value} (hne : xs ≠ []) (hb : b < w.heap.size) (hk : xs.length ≤ c) (he : ∀ x ∈ xs, x.length = e) (hr : RCs w A xs.flatten U)
    (hc : ∀ i (h : i < U.length), w.cell? ⟨b, o + i, none⟩ = some U[i] ∧ ¬ A b (o + i)) (ht : ∀ t, tok = some t → t = b ∧ o = 0 ∧ ∃ T, w.shape? b = some (T, c * e)) : RC w A (.s e xs tok) (.slice (some ⟨b, o, none⟩) xs.length c) := by
  have hl := flat_len he
  have hl2 := hr.length
  refine .s e xs tok b o c (fun i => U.getD i undef) hne hb hk he (fun i hi => ?_) (fun i hi => ?_) ht
  · have h2 : i < U.length := by omega
    have := hc i h2
    simpa [List.getD, h2] using this
  · have h2 : i < U.length := by omega
    have := hr.get i hi h2
    simpa [List.getD, h2] using this

theorem flat_take {e : Nat} : ∀ (n : Nat) {xs : List (List CV)}, (∀ x ∈ xs, x.length = e) → (xs.take n).flatten = xs.flatten.take (n * e)
  | 0, xs, _ => by simp
  | n + 1, [], _ => by simp
  | n + 1, x :: xs, h => by
    have h1 := h x (by simp)
    have h2 := flat_take n (xs := xs) fun y hy => h y (by simp [hy])
    simp only [List.take_succ_cons, List.flatten_cons, h2, List.take_append, h1]
    have h3 : (n + 1) * e - e = n * e := by rw [Nat.succ_mul]; omega
    have h4 : x.length ≤ (n + 1) * e := by rw [h1, Nat.succ_mul]; omega
    rw [h3, List.take_of_length_le (l := x) h4]

theorem flat_drop {e : Nat} : ∀ (n : Nat) {xs : List (List CV)}, (∀ x ∈ xs, x.length = e) → (xs.drop n).flatten = xs.flatten.drop (n * e)
  | 0, xs, _ => by simp
  | n + 1, [], _ => by simp
  | n + 1, x :: xs, h => by
    have h1 := h x (by simp)
    have h2 := flat_drop n (xs := xs) fun y hy => h y (by simp [hy])
    simp only [List.drop_succ_cons, List.flatten_cons, h2, List.drop_append, h1]
    have h3 : (n + 1) * e - e = n * e := by rw [Nat.succ_mul]; omega
    have h4 : x.length ≤ (n + 1) * e := by rw [h1, Nat.succ_mul]; omega
    rw [h3, List.drop_eq_nil_of_le (as := x) h4, List.nil_append]

include hr in
theorem is_sound {t e : TypeId} {x i : Operand} {x' i' : O} {v : AV} (ht : P.underlying t = some (.slice e)) (hx : opd P t x = some x') (hi : opd P 0 i = some i') (hsz : 0 < P.cellsOf e)
    (hv : qv (.is (P.cellsOf e) x' i') s = some v) : QS P R ⟨d, .indexAddr t x i, ty, pos, af, gd⟩ a w s lam v := by
  obtain ⟨inf, hinf, hs⟩ := info_of_cells hsz
  have key : ∀ b o n c k (j : Int), a.eval x = .slice (some ⟨b, o, none⟩) n c → a.eval i = .int k j → 0 ≤ j → j < n →
      (Instr.indexAt t (a.eval x) (a.eval i)).run P w = .ok (.pointer (some ⟨b, o + j.toNat * P.cellsOf e, none⟩)) w := fun b o n c k j he hi h0 h1 => by
    rw [he, hi]
    simp [Instr.indexAt, asIntOf, run_underlying ht, Instr.sureAddr, h0, h1, sizeOf, typeInfo, hinf, hs, add_none]
  simp only [qv] at hv
  split at hv <;> try (cases hv; done)
  · rename_i dd o n c j h1 h2
    split at hv <;> cases hv
    rename_i hb
    obtain ⟨k, hk⟩ := idx_sound hr hi h2
    obtain ⟨k1, k2⟩ := opd_sound hr hx h1
    exact QS.of rfl (key _ _ _ _ k j k1 hk hb.1 hb.2) rfl (fun d h => k2 d h)
  · rename_i e' xs tok j h1 h2
    split at hv <;> try (cases hv; done)
    rename_i hb
    obtain ⟨hb0, hb1, rfl⟩ := hb
    obtain ⟨k, hk⟩ := idx_sound hr hi h2
    have hlt : j.toNat < xs.length := by omega
    obtain ⟨b, o, c, U, k1, kb, ke, k2, kl, k3, _, _⟩ := RC.rows (opd_sound hr hx h1).1 (by intro h; simp [h] at hlt)
    rw [List.getElem?_eq_getElem hlt] at hv
    simp only [Option.map_some, Option.some.injEq] at hv
    subst hv
    have hmul : j.toNat * P.cellsOf e + P.cellsOf e ≤ xs.length * P.cellsOf e := by rw [← Nat.succ_mul]; exact Nat.mul_le_mul_right _ hlt
    refine QS.of rfl (key _ _ _ _ k j k1 hk hb0 hb1) ⟨b, o + j.toNat * P.cellsOf e, (U.drop (j.toNat * P.cellsOf e)).take (P.cellsOf e), rfl, kb, ?_, fun q hq => ?_⟩ (scv_ep _)
    · rw [← flat_get ke j.toNat hlt]; exact (k2.drop _).take _
    · simp only [List.length_take, List.length_drop] at hq
      have := k3 (j.toNat * P.cellsOf e + q) (by omega)
      simpa [Nat.add_assoc] using this

/-! ### Loads -/

theorem und_info {t : TypeId} {u : TypeDesc} (h : P.underlying t = some u) : ∃ i, P.info? t = some i ∧ i.size = P.cellsOf t := by
  unfold Program.underlying at h
  unfold Program.cellsOf
  cases hi : P.info? t with
  | none => simp [hi] at h
  | some i => exact ⟨i, rfl, by simp⟩

theorem run_isAgg {t : TypeId} (h : (P.underlying t).isSome) (w : World) : (isAgg t).run P w = .ok (isAggT P t) w := by
  obtain ⟨u, hu⟩ := Option.isSome_iff_exists.1 h
  unfold isAgg isAggT
  rw [Sem.run_bind, run_underlying hu, hu]
  cases u <;> rfl

theorem load_sound {t : TypeId} (h : (P.underlying t).isSome) {A : Auth} {b o : Nat} {cs : List CV} {U : List Value} (hc : RCs w A cs U) (hl : U.length = (szOf P t).getD 1)
    (hU : ∀ i (h : i < U.length), w.cell? ⟨b, o + i, none⟩ = some U[i]) {v : AV} (hv : AV.ofCells (szOf P t) cs = some v) :
    ∃ u, (loadVar t ⟨b, o, none⟩).run P w = .ok u w ∧ RA w A lam v u ∧ (∃ x, v = .c x ∨ ∃ y, v = .g y) := by
  obtain ⟨ud, hu⟩ := Option.isSome_iff_exists.1 h
  obtain ⟨i, hi, hs⟩ := und_info hu
  unfold szOf at *
  by_cases hagg : isAggT P t = true
  · rw [if_pos hagg] at hv hl
    simp only [AV.ofCells, Option.some.injEq] at hv
    subst hv
    refine ⟨.agg U.toArray, ?_, ⟨U.toArray, rfl, by simpa using hc⟩, ⟨default, .inr ⟨_, rfl⟩⟩⟩
    have hld := run_loadCells_list (P := P) w ⟨b, o, none⟩ U (fun j v hv => by
      obtain ⟨hj, rfl⟩ := List.getElem?_eq_some_iff.1 hv
      rw [add_none]; exact hU j hj)
    simp only [Option.getD_some] at hl
    simp [loadVar, run_isAgg h, hagg, sizeOf, typeInfo, hi, hs, ← hl, hld]
  · rw [if_neg hagg] at hv hl
    simp only [Option.getD_none] at hl
    simp only [AV.ofCells] at hv
    split at hv <;> cases hv
    rename_i x
    have hlen := hc.length
    match U, hl, hc, hU with
    | [u], _, hc, hU =>
      refine ⟨u, ?_, hc.1, ⟨x, .inl rfl⟩⟩
      have h0 := hU 0 (by simp)
      simp only [Nat.add_zero, List.getElem_cons_zero] at h0
      simp [loadVar, run_isAgg h, hagg, h0]

theorem row_cells {A : Auth} {b : Nat} {cs : List CV} (h : RRow w A b cs) {o n : Nat} (ho : o + n ≤ cs.length) :
    ∃ U, RCs w A (part cs o n) U ∧ U.length = n ∧ ∀ i (h : i < U.length), w.cell? ⟨b, o + i, none⟩ = some U[i] := by
  obtain ⟨arr, T, h1, h2⟩ := h
  have hl := h2.length
  refine ⟨(arr.toList.drop o).take n, (h2.drop o).take n, by simp at hl ⊢; omega, fun i hi => ?_⟩
  simp only [List.length_take, List.length_drop] at hi
  simp only [World.cell?, h1, List.getElem_take, List.getElem_drop, Array.getElem_toList]
  have : o + i < arr.size := by simp at hi; omega
  simp [this]

include hr in
theorem ld_sound {t : TypeId} (h : (P.underlying t).isSome) {x : Operand} {x' : O} {v : AV} (hx : opd P 0 x = some x') (hv : qv (.ld (szOf P t) x') s = some v) : QS P R ⟨d, .load t x, ty, pos, af, gd⟩ a w s lam v := by
  simp only [qv] at hv
  split at hv <;> try (cases hv; done)
  · rename_i dd o h1
    split at hv <;> try (cases hv; done)
    rename_i cs hcs
    split at hv <;> try (cases hv; done)
    rename_i hle
    obtain ⟨k1, k2⟩ := opd_sound hr hx h1
    obtain ⟨U, u1, u2, u3⟩ := row_cells (hr.loc _ _ hcs) hle
    obtain ⟨u, r1, r2, _, r3⟩ := load_sound (lam := lam) h u1 u2 u3 hv
    have k1' : a.eval x = .pointer (some ⟨lam dd, o, none⟩) := k1
    refine QS.of rfl (u := u) ?_ r2 ?_
    · rw [k1']; simpa [Instr.loadAt, Instr.sureAddr] using r1
    · rcases r3 with rfl | ⟨y, rfl⟩
      · exact scv_c _
      · exact scv_g _
  · rename_i cs h1
    split at hv <;> try (cases hv; done)
    rename_i hle
    obtain ⟨⟨b, o, U, k1, kb, k2, k3⟩, _⟩ := opd_sound hr hx h1
    obtain ⟨u, r1, r2, _, r3⟩ := load_sound (lam := lam) h k2 (by rw [← k2.length, hle]) (fun i hi => (k3 i hi).1) hv
    refine QS.of rfl (u := u) ?_ r2 ?_
    · rw [k1]; simpa [Instr.loadAt, Instr.sureAddr] using r1
    · rcases r3 with rfl | ⟨y, rfl⟩
      · exact scv_c _
      · exact scv_g _

include hr in
theorem ldh_sound {t : TypeId} (h : (P.underlying t).isSome) {x : Operand} {x' : O} {v : AV} (hx : opd P 0 x = some x') (hv : qv (.ldh (szOf P t) x') s = some v) : QS P R ⟨d, .load t x, ty, pos, af, gd⟩ a w s lam v := by
  simp only [qv] at hv
  split at hv <;> try (cases hv; done)
  rename_i b o h1
  split at hv <;> try (cases hv; done)
  rename_i cs hcs
  split at hv <;> try (cases hv; done)
  rename_i hle
  have k1 := RA.p (opd_sound hr hx h1).1
  obtain ⟨U, u1, u2, u3⟩ := row_cells (hr.heap _ _ hcs) hle
  obtain ⟨u, r1, r2, _, r3⟩ := load_sound (lam := lam) h u1 u2 u3 hv
  refine QS.of rfl (u := u) ?_ r2 ?_
  · rw [k1]; simpa [Instr.loadAt, Instr.sureAddr] using r1
  · rcases r3 with rfl | ⟨y, rfl⟩
    · exact scv_c _
    · exact scv_g _

/-! ### Strings, lengths, results -/

include hr in
theorem ix_sound {t : TypeId} {x i : Operand} {x' i' : O} {v : AV} (ht : P.underlying t = some .string) (hx : opd P t x = some x') (hi : opd P 0 i = some i') (hv : qv (.ix x' i') s = some v) :
    QS P R ⟨d, .index t x i, ty, pos, af, gd⟩ a w s lam v := by
  simp only [qv] at hv
  split at hv <;> try (cases hv; done)
  rename_i st j h1 h2
  split at hv <;> cases hv
  rename_i hb
  have e1 := RA.p (opd_sound hr hx h1).1
  obtain ⟨k, hk⟩ := idx_sound hr hi h2
  have hlt : j.toNat < st.size := by omega
  refine QS.of rfl (u := .int .u8 ((st.data.toList.getD j.toNat 0).toNat : Nat)) ?_ (RC.p _ rfl) (scv_c _)
  rw [e1, hk]
  have hlt' : j.toNat < st.data.size := hlt
  have h3 : st[j.toNat]? = some (st.data.toList.getD j.toNat 0) := by
    have h4 : st[j.toNat]? = some st[j.toNat] := by simp [hlt]
    rw [h4]
    simp only [List.getD, Array.getElem?_toList, Array.getElem?_eq_getElem hlt', Option.getD_some]
    rfl
  simp [Instr.index, asIntOf, run_underlying ht, hb.1, h3]

/-- How 'len' and its like are run. -/
theorem exec_len {t : TypeId} {x : Operand} : execOp a.eval ⟨d, .call ⟨.builtin .len, #[x], #[t]⟩, ty, pos, af, gd⟩ = (do pure (.value (← Builtin.len_ #[t] ty #[a.eval x]))) := by
  simp [execOp, resolve, invoke, Go.builtin]

include hr in
theorem lns_sound {t : TypeId} {x : Operand} {x' : O} {v : AV} (hx : opd P t x = some x') (ht : P.underlying t = some .string) (hv : qv (.lns x') s = some v) : QS P R ⟨d, .call ⟨.builtin .len, #[x], #[t]⟩, ty, pos, af, gd⟩ a w s lam v := by
  simp only [qv] at hv
  split at hv <;> cases hv
  rename_i st h1
  have e1 := RA.p (opd_sound hr hx h1).1
  exact QS.of exec_len (u := .int .i64 st.size) (by rw [e1]; simp [Builtin.len_, run_underlying ht, goInt]) (RC.p _ rfl) (scv_c _)

theorem lenV_sound {A : Auth} {x : AV} {n : Int} (hn : lenV x = some n) {u : Value} (h : RA w A lam x u) : ∃ a m c, u = .slice a m c ∧ n = m := by
  unfold lenV at hn
  split at hn <;> cases hn
  · rename_i e xs tok
    have h' : RC w A (.s e xs tok) u := h
    cases h' with
    | s0 => exact ⟨_, _, _, rfl, rfl⟩
    | s => exact ⟨_, _, _, rfl, rfl⟩
  · rename_i ty
    have h' : RC w A (.z ty) u := h
    cases h' with
    | z0 => exact ⟨_, _, _, rfl, rfl⟩
    | z1 => exact ⟨_, _, _, rfl, rfl⟩
  · exact ⟨_, _, _, h, rfl⟩

include hr in
theorem ln_sound {t e : TypeId} {x : Operand} {x' : O} {v : AV} (hx : opd P t x = some x') (ht : P.underlying t = some (.slice e)) (hv : qv (.ln x') s = some v) : QS P R ⟨d, .call ⟨.builtin .len, #[x], #[t]⟩, ty, pos, af, gd⟩ a w s lam v := by
  simp only [qv, Option.map_eq_some_iff] at hv
  obtain ⟨n, hn, rfl⟩ := hv
  cases hx' : ev s.env x' with
  | none => simp [hx'] at hn
  | some av =>
    simp only [hx', Option.bind_some] at hn
    obtain ⟨b, m, c, e1, rfl⟩ := lenV_sound hn (opd_sound hr hx hx').1
    exact QS.of exec_len (u := .int .i64 m) (by rw [e1]; simp [Builtin.len_, run_underlying ht, goInt]) (RC.p _ rfl) (scv_c _)

include hr in
theorem mn_sound {t u : TypeId} {x y : Operand} {x' y' : O} {v : AV} (hx : opd P t x = some x') (hy : opd P u y = some y') (hv : qv (.mn x' y') s = some v) : QS P R ⟨d, .call ⟨.builtin .min, #[x, y], #[t, u]⟩, ty, pos, af, gd⟩ a w s lam v := by
  simp only [qv] at hv
  split at hv <;> try (cases hv; done)
  rename_i k p j q h1 h2
  split at hv <;> cases hv
  rename_i hk
  subst hk
  have e1 := RA.p (opd_sound hr hx h1).1
  have e2 := RA.p (opd_sound hr hy h2).1
  refine QS.of (sm := Builtin.min_ #[t, u] ty #[a.eval x, a.eval y]) (by simp [execOp, resolve, invoke, Go.builtin]) (u := .int k (if q < p then q else p)) ?_ (RC.p _ rfl) (scv_c _)
  rw [e1, e2]
  exact run_min_int2 w _ _ _ _ _ _

include hr in
theorem ex_sound {i : Nat} {x : Operand} {x' : O} {v : AV} (hx : opd P 0 x = some x') (hv : qv (.ex i x') s = some v) : QS P R ⟨d, .extract x i, ty, pos, af, gd⟩ a w s lam v := by
  simp only [qv] at hv
  split at hv <;> try (cases hv; done)
  rename_i vs h1
  obtain ⟨⟨arr, e1, k1⟩, k2⟩ := opd_sound hr hx h1
  have key : ∀ (i : Nat) (vs : List AV) (us : List Value), RA1s w (auth R s lam) lam vs us → vs[i]? = some v → ∃ u, us[i]? = some u ∧ RA1 w (auth R s lam) lam v u := by
    intro i
    induction i with
    | zero =>
      intro vs us h hv
      match vs, us, h with
      | x :: xs, y :: ys, h => simp at hv; subst hv; exact ⟨y, by simp, h.1⟩
    | succ i ih =>
      intro vs us h hv
      match vs, us, h with
      | x :: xs, y :: ys, h => obtain ⟨u, h1, h2⟩ := ih xs ys h.2 (by simpa using hv); exact ⟨u, by simpa using h1, h2⟩
  obtain ⟨u, h2, h3⟩ := key i vs arr.toList k1 hv
  have h4 : RA w (auth R s lam) lam v u := by cases v <;> first | exact h3 | exact h3.elim
  refine QS.of rfl (u := u) ?_ h4 (fun d hd => k2 d ?_)
  · rw [e1]
    simp at h2
    simp [Instr.extract, h2]
  · have hm : v ∈ vs := List.mem_of_getElem? hv
    simp only [refs, List.any_eq_true]
    refine ⟨v, hm, ?_⟩
    cases v <;> first | rfl | (simp [refs] at hd)

include hr in
theorem nc_sound {x : Operand} {x' : O} {v : AV} (hx : opd P 0 x = some x') (hv : qv (.nc x') s = some v) : QS P R ⟨d, .nilCheck x, ty, pos, af, gd⟩ a w s lam v := by
  simp only [qv] at hv
  split at hv <;> cases hv
  · rename_i h1
    obtain ⟨k1, k2⟩ := opd_sound hr hx h1
    have k1' : a.eval x = _ := k1
    exact ⟨k2, _, w, by simp [execOp, k1'], Grow.refl w, rfl⟩
  · rename_i h1
    obtain ⟨k1, k2⟩ := opd_sound hr hx h1
    obtain ⟨b, o, U, e1, rest⟩ := k1
    exact ⟨k2, _, w, by simp [execOp, e1], Grow.refl w, b, o, U, rfl, rest⟩
  · rename_i h1
    obtain ⟨k1, k2⟩ := opd_sound hr hx h1
    have e1 := RA.p k1
    exact ⟨k2, _, w, by simp [execOp, e1], Grow.refl w, RC.p _ rfl⟩

end
end Go.Eng
