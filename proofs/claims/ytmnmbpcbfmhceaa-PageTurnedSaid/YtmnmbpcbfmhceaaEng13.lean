/-
  THE ENGINE, 13: slices that are made or written out. Nothing here speaks of one program.
-/
import Derived.Test.YtmnmbpcbfmhceaaEng12
set_option linter.unusedSimpArgs false
set_option linter.unusedVariables false
namespace Go.Eng

theorem repz_len (z : List CV) : ∀ n, (repz n z).length = n * z.length
  | 0 => by simp [repz]
  | n + 1 => by
    have := repz_len z n
    simp only [repz] at this ⊢
    simp only [List.replicate_succ, List.flatten_cons, List.length_append, this, Nat.succ_mul]
    omega

theorem repz_get (z : List CV) : ∀ n k (h : k < (repz n z).length) (h2 : k % z.length < z.length), (repz n z)[k] = z[k % z.length]
  | 0, k, h, _ => by simp [repz] at h
  | n + 1, k, h, h2 => by
    have hz : 0 < z.length := by omega
    simp only [repz, List.replicate_succ, List.flatten_cons]
    by_cases hk : k < z.length
    · rw [List.getElem_append_left hk]
      simp only [Nat.mod_eq_of_lt hk]
    · rw [List.getElem_append_right (by omega)]
      have h3 : k - z.length < (repz n z).length := by
        have e1 := repz_len z (n + 1)
        have e2 := repz_len z n
        rw [e1, Nat.succ_mul] at h
        omega
      have hm : (k - z.length) % z.length = k % z.length := by
        rw [← Nat.mod_eq_sub_mod (by omega)]
      have := repz_get z n (k - z.length) h3 (by rw [hm]; exact h2)
      simp only [repz] at this
      rw [this]
      simp only [hm]

theorem RCs.made {w : World} {A : Auth} {z : List CV} {zv : Array Value} (h : RCs w A z zv.toList) (n : Nat) : RCs w A (repz n z) (madeCells zv (n * z.length)).toList := by
  have hl := h.length
  simp at hl
  refine RCs.of (by rw [repz_len]; simp [madeCells]) (fun i h1 h2 => ?_)
  have hz : 0 < z.length := by
    rcases Nat.eq_zero_or_pos z.length with e | e
    · rw [repz_len, e] at h1; simp at h1
    · exact e
  have hm : i % z.length < z.length := Nat.mod_lt _ hz
  rw [repz_get z n i h1 hm]
  have hg := h.get (i % z.length) hm (by simp; omega)
  have : (madeCells zv (n * z.length)).toList[i] = zv.toList[i % z.length]'(by simp; omega) := by
    simp only [madeCells, Array.toList_map, Array.toList_range, List.getElem_map, List.getElem_range]
    rw [getElem!_pos zv (i % zv.size) (by rw [← hl]; exact hm)]
    simp [hl]
  rw [this]
  exact hg

section
variable {P : Program} {N : Nat} {w0 : World} {A0 R : Auth} {s : St} {a : Act} {w : World} {lam : Nat → Nat} (hr : RelL N w0 A0 R s a w lam)
variable {d : Option Tmp} {ty : TypeId} {pos : String} {af : Array Edge} {gd : Option (Nat × Bool)} {K : St → Prop} {K' : Act → World → Prop} {Q : Exit → Act → World → Prop}

include hr in
theorem ms_wp {t e : TypeId} {z : List CV} {x y : Operand} {x' y' : O} (ht : P.underlying t = some (.slice e)) (hz : zeroT P e = some z) (hx : opd P 0 x = some x') (hy : opd P 0 y = some y') {dd : Nat} (hN : dd < N)
    (hk : ∀ s' a' w', Rel N w0 A0 R s' a' w' → K s' → K' a' w') (h : act P (some dd) (.ms (P.cellsOf e) (P.bytesOf e) z x' y') s K) :
    (⟨some dd, .makeSlice t x y, ty, pos, af, gd⟩ : Oper).wp P a w K' Q := by
  simp only [act] at h
  split at h <;> try (exact h.elim)
  rename_i d' l c he h1 h2
  cases he
  obtain ⟨⟨rfl, h0, h63, hby, hl⟩, h⟩ := h
  obtain ⟨i, v, hi, hzv, hz1, hz2, hz3⟩ := zeroT_sound hz
  obtain ⟨k1, e1⟩ := idx_sound hr hx h1
  obtain ⟨k2, e2⟩ := idx_sound hr hy h2
  have hbi : P.bytesOf e = i.bytes := by simp [Program.bytesOf, hi]
  have hrun := run_make (P := P) w t e i v ht hi hzv k1 k2 l l h0 (Int.le_refl _) (by rw [← hbi]; exact hby) h63
  refine wp_val (u := .slice (some ⟨w.heap.size, 0, none⟩) l.toNat l.toNat) (w' := w.alloc (.cells (madeCells v.cells (l.toNat * i.size)) e)) ?_ (hk _ _ _ (hr.newSlot hN hl e ?_ (fun w' A lam' e => ?_) (fun x hx => ?_)) h)
  · exact exec_of rfl (by rw [e1, e2]; exact hrun)
  · rw [← hz1]; exact (hz3 w _).made l.toNat
  · simp [RA, RA1, e]
  · simp [refs] at hx; exact hx.symm

theorem flat_set {e : Nat} {cs : List CV} (hc : cs.length = e) : ∀ {xs : List (List CV)} (i : Nat), (∀ x ∈ xs, x.length = e) → i < xs.length → (xs.set i cs).flatten = lay xs.flatten (i * e) cs
  | x :: xs, 0, h, _ => by
    have hx := h x (by simp)
    simp only [List.set_cons_zero, List.flatten_cons, lay, Nat.zero_mul, List.take_zero, List.nil_append, Nat.zero_add, hc]
    rw [List.drop_append, List.drop_eq_nil_of_le (by omega), hx]
    simp
  | x :: xs, i + 1, h, hi => by
    have hx := h x (by simp)
    have ih := flat_set hc (xs := xs) i (fun y hy => h y (by simp [hy])) (by simpa using hi)
    simp only [List.set_cons_succ, List.flatten_cons, ih, lay]
    have e1 : (i + 1) * e = e + i * e := by rw [Nat.succ_mul]; omega
    have e2 : (x ++ xs.flatten).take ((i + 1) * e) = x ++ xs.flatten.take (i * e) := by
      rw [List.take_append, List.take_of_length_le (by omega), hx]
      congr 2; omega
    have e3 : (x ++ xs.flatten).drop ((i + 1) * e + cs.length) = xs.flatten.drop (i * e + cs.length) := by
      rw [List.drop_append, List.drop_eq_nil_of_le (by omega), hx, List.nil_append]
      congr 1; omega
    rw [e2, e3]
    simp

theorem elems_len {e : Nat} {env : Env} : ∀ {l : List (Nat × O)} {z out : List (List CV)}, fillElems env e z l = some out → (∀ x ∈ z, x.length = e) → out.length = z.length ∧ ∀ x ∈ out, x.length = e
  | [], z, out, h, hz => by simp only [fillElems, Option.some.injEq] at h; subst h; exact ⟨rfl, hz⟩
  | (i, x) :: l, z, out, h, hz => by
    simp only [fillElems] at h
    split at h <;> try (cases h; done)
    rename_i cs hcs
    split at h <;> try (cases h; done)
    rename_i hc
    have := elems_len h (fun y hy => by
      rcases List.mem_or_eq_of_mem_set hy with h1 | h1
      · exact hz y h1
      · rw [h1]; exact hc.1)
    simpa using this

/-- Elements laid into a row, one behind the other. -/
theorem fillE_sound {A : Auth} {e : Nat} : ∀ (ps : List (Nat × Operand)) (l : List (Nat × O)) (z out : List (List CV)) (cells : Array Value),
    (∀ (i : Nat) (p : Nat × Operand) (q : Nat × O), ps[i]? = some p → l[i]? = some q → p.1 = q.1 ∧ ∀ v, ev s.env q.2 = some v → RA w A lam v (a.eval p.2)) → ps.length = l.length → (∀ x ∈ z, x.length = e) →
    RCs w A z.flatten cells.toList → fillElems s.env e z l = some out → ∃ res, Instr.fill (fun i => some (i * e, e)) cells (ps.map fun p => (p.1, a.eval p.2)) = some res ∧ RCs w A out.flatten res.toList
  | [], [], z, out, cells, _, _, _, hz, h => by
    simp only [fillElems, Option.some.injEq] at h
    subst h
    exact ⟨cells, rfl, hz⟩
  | p :: ps, q :: l, z, out, cells, hp, hlen, he, hz, h => by
    obtain ⟨i, x⟩ := q
    simp only [fillElems] at h
    split at h <;> try (cases h; done)
    rename_i cs1 hc1
    split at h <;> try (cases h; done)
    rename_i hsz
    obtain ⟨hn, hle⟩ := hsz
    obtain ⟨h1, h2⟩ := hp 0 p (i, x) rfl rfl
    simp only at h1
    cases hv : ev s.env x with
    | none => simp [hv] at hc1
    | some v =>
      simp only [hv, Option.bind_some] at hc1
      have hra := RA.cells hc1 (h2 v hv)
      have hl1 := hra.length
      have hl2 := hz.length
      have hfl := flat_len he
      simp only [List.map_cons, Instr.fill, h1]
      have hsize : (a.eval p.2).cells.size = e := by simpa [hn] using hl1.symm
      have hcz : cells.size = z.length * e := by simpa [hfl] using hl2.symm
      have hie : i * e + e ≤ z.length * e := by rw [← Nat.succ_mul]; exact Nat.mul_le_mul_right _ hle
      rw [if_neg (by simp [hsize]; omega)]
      have hfold := foldl_set (i * e) (a.eval p.2).cells.toList 0 cells (by simp [hsize]; omega)
      rw [← Array.toList_zipIdx, Array.foldl_toList] at hfold
      refine fillE_sound ps l (z.set i cs1) out _ (fun i p' q' e1 e2 => hp (i + 1) p' q' (by simpa using e1) (by simpa using e2)) (by simpa using hlen) (fun y hy => ?_) ?_ h
      · rcases List.mem_or_eq_of_mem_set hy with h1 | h1
        · exact he y h1
        · rw [h1]; exact hn
      · rw [hfold, flat_set hn i he hle]
        simpa using hz.lay hra (i * e)
  | [], _ :: _, _, _, _, _, hlen, _, _, _ => by simp at hlen
  | _ :: _, [], _, _, _, _, hlen, _, _, _ => by simp at hlen

include hr in
theorem bs_sound {t e : TypeId} {n : Nat} {ps : Array (Nat × Operand)} {z : List CV} {l : List (Nat × O)} {v : AV} (ht : P.underlying t = some (.slice e)) (hz : zeroT P e = some z)
    (hc : allM (fun (p : Nat × Operand) => (opd P e p.2).map fun x => (p.1, x)) ps.toList = some l) (h0 : 0 < z.length) (hn : n * z.length ≤ 2 ^ 24) (hv : qv (.bs z.length n e z l) s = some v) (hps : n = 0 → l = []) :
    QS P R ⟨d, .buildSlice t n ps, ty, pos, af, gd⟩ a w s lam v := by
  obtain ⟨it, zv, hi, hzv, hz1, hz2, hz3⟩ := zeroT_sound hz
  obtain ⟨hlen, hget⟩ := allM_get hc
  simp only [qv] at hv
  split at hv
  · rename_i hn0
    subst hn0
    cases hv
    have hl0 := hps rfl
    subst hl0
    have hp0 : ps = #[] := by
      have : ps.toList = [] := List.eq_nil_of_length_eq_zero (by simpa using hlen)
      exact Array.toList_eq_nil_iff.1 this
    subst hp0
    refine ⟨scv_c _, .slice (some ⟨w.heap.size, 0, none⟩) 0 0, w.alloc (.cells #[] e), ?_, Grow.alloc _ _, ?_⟩
    · simp [execOp, Instr.buildSlice, run_underlying ht, sizeOf, typeInfo, hi, newRow, Instr.fill, Array.range_zero']
    · refine RC.z1 _ _ ?_ (fun o ho => ?_)
      · show (w.heap.push _)[w.heap.size]? = _
        simp
      · exact absurd (auth_lt hr ho) (Nat.lt_irrefl _)
  · rename_i hn0
    simp only [Option.map_eq_some_iff] at hv
    obtain ⟨xs, hxs, rfl⟩ := hv
    have hrep : ∀ x ∈ List.replicate n z, x.length = z.length := fun x hx => by rw [List.eq_of_mem_replicate hx]
    obtain ⟨hxl, hxe⟩ := elems_len hxs hrep
    simp only [List.length_replicate] at hxl
    obtain ⟨res, h1, h2⟩ := fillE_sound (a := a) (s := s) (lam := lam) (A := auth R s lam) (w := w) ps.toList l (List.replicate n z) xs (madeCells zv.cells (n * z.length)) (fun i p q e1 e2 => by
      have := hget i p q e1 e2
      simp only [Option.map_eq_some_iff] at this
      obtain ⟨y, hy, rfl⟩ := this
      exact ⟨rfl, fun v hv => (opd_sound hr hy hv).1⟩) hlen hrep ((hz3 w _).made n) hxs
    have hfl := flat_len hxe
    have hl2 := h2.length
    have hnz : ¬ (n = 0 ∨ it.size = 0) := by omega
    refine ⟨scv_c _, .slice (some ⟨w.heap.size, 0, none⟩) n n, w.alloc (.cells res e), ?_, Grow.alloc _ _, ?_⟩
    · rw [hz1] at h1 hn h0
      have h1' : Instr.fill (fun i => some (i * it.size, it.size)) ((Array.range (n * it.size)).map (zv.cells[· % zv.cells.size]!)) (ps.map fun p => (p.1, a.eval p.2)).toList = some res := by
        simpa [madeCells] using h1
      have hlim2 : ¬ (n * it.size > 2 ^ 24) := by omega
      have hnz2 : ¬ (n * it.size = 0) := by
        intro h3
        rcases Nat.mul_eq_zero.1 h3 with h3 | h3 <;> omega
      refine exec_of (sm := Instr.buildSlice t n (ps.map fun p => (p.1, a.eval p.2))) rfl ?_
      simp only [Instr.buildSlice, Sem.run_bind, run_underlying ht, Result.andThen_ok, sizeOf, typeInfo, run_program, hi, Sem.run_pure, if_neg hlim2, if_neg hnz2, zeroValue, hzv, h1', newRow, run_newObj]
      rfl
    · rw [← hxl]
      refine RC.mk (U := res.toList) (o := 0) (by intro h; subst h; simp at hxl; omega) (by simp) (by omega) hxe (h2.mono ((Grow.alloc w (.cells res e)).mono _)) (fun i hi => ?_) (fun t ht => by cases ht)
      have hcell : (w.alloc (.cells res e)).heap[w.heap.size]? = some (.cells res e (0, 0)) := by
        show (w.heap.push _)[w.heap.size]? = _
        simp
      simp at hi
      refine ⟨by simp only [World.cell?, hcell]; simp [hi], fun ho => absurd (auth_lt hr ho) (Nat.lt_irrefl _)⟩

end
end Go.Eng
