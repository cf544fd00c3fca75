/-
  THE ENGINE, 8: more quiet operations: structs and slices that are written out, bytes to a string, functions. Nothing here speaks of one program.
-/
import Derived.Test.YtmnmbpcbfmhceaaEng7
set_option linter.unusedSimpArgs false
set_option linter.unusedVariables false
namespace Go.Eng

section
variable {P : Program} {N : Nat} {w0 : World} {A0 R : Auth} {s : St} {a : Act} {w : World} {lam : Nat → Nat} (hr : RelL N w0 A0 R s a w lam)
variable {d : Option Tmp} {ty : TypeId} {pos : String} {af : Array Edge} {gd : Option (Nat × Bool)}

include hr in
theorem fd_sound {t : TypeId} {fs : Array Field} {f : Nat} {fl : Field} {x : Operand} {x' : O} {v : AV} (ht : P.underlying t = some (.struct fs)) (hf : fs[f]? = some fl) (hx : opd P t x = some x') (hu : (P.underlying fl.type).isSome)
    (hv : qv (.fd fl.offset (szOf P fl.type) x') s = some v) : QS P R ⟨d, .field t x f, ty, pos, af, gd⟩ a w s lam v := by
  simp only [qv] at hv
  split at hv <;> try (cases hv; done)
  rename_i cs h1
  split at hv <;> try (cases hv; done)
  rename_i hle
  obtain ⟨⟨arr, e1, k1⟩, _⟩ := opd_sound hr hx h1
  have hl := k1.length
  obtain ⟨u, hu'⟩ := Option.isSome_iff_exists.1 hu
  obtain ⟨i, hi, hs⟩ := und_info hu'
  have hsc : ScV s v := by
    unfold AV.ofCells at hv
    split at hv
    · cases hv; exact scv_g _
    · split at hv <;> cases hv; exact scv_c _
  unfold szOf at hv hle
  by_cases hagg : isAggT P fl.type = true
  · rw [if_pos hagg] at hv hle
    simp only [AV.ofCells, Option.some.injEq] at hv
    subst hv
    refine QS.of rfl (u := .agg (arr.extract fl.offset (fl.offset + P.cellsOf fl.type))) ?_ ⟨_, rfl, ?_⟩ hsc
    · rw [e1]; simp [Instr.field, run_underlying ht, hf, asAgg, Go.part, run_isAgg hu, hagg, sizeOf, typeInfo, hi, hs]
    · simp only [Array.toList_extract, List.extract_eq_take_drop, Nat.add_sub_cancel_left]
      exact k1.part _ _
  · rw [if_neg hagg] at hv hle
    simp only [Option.getD_none] at hv hle
    simp only [AV.ofCells] at hv
    split at hv <;> cases hv
    rename_i x0 hp
    have hlt : fl.offset < arr.size := by simp at hl; omega
    have hk := k1.part fl.offset 1
    rw [hp] at hk
    have he : (arr.toList.drop fl.offset).take 1 = [arr[fl.offset]] := by
      rw [List.drop_eq_getElem_cons (by simpa using hlt)]; simp
    rw [he] at hk
    refine QS.of rfl (u := arr[fl.offset]) ?_ hk.1 hsc
    rw [e1]; simp [Instr.field, run_underlying ht, hf, asAgg, Go.part, run_isAgg hu, hagg, hlt]

/-! ### Zero values -/

theorem bytes_eq {x y : ByteArray} (h : x.data.toList = y.data.toList) : x = y := by
  cases x; cases y
  simp only [ByteArray.mk.injEq] at h ⊢
  exact Array.ext' h

theorem okZ_sound {w : World} {A : Auth} {x : CV} {v : Value} (h : okZ x v = true) : RC w A x v := by
  unfold okZ at h
  split at h
  · simp only [Bool.and_eq_true, beq_iff_eq] at h; obtain ⟨h1, h2⟩ := h; subst h1; subst h2; exact RC.p _ rfl
  · simp only [beq_iff_eq] at h; subst h; exact RC.p _ rfl
  · simp only [beq_iff_eq] at h; cases bytes_eq h; exact RC.p _ rfl
  · exact RC.p _ rfl
  · exact RC.p _ rfl
  · exact RC.p _ rfl
  · exact RC.z0 _
  · cases h

theorem okZs_sound {w : World} {A : Auth} : ∀ {xs : List CV} {vs : List Value}, okZs xs vs = true → RCs w A xs vs
  | [], [], _ => trivial
  | x :: xs, v :: vs, h => by
    simp only [okZs, Bool.and_eq_true] at h
    exact ⟨okZ_sound h.1, okZs_sound h.2⟩
  | [], _ :: _, h => by simp [okZs] at h
  | _ :: _, [], h => by simp [okZs] at h

theorem zeroT_sound {t : TypeId} {z : List CV} (h : zeroT P t = some z) : ∃ i v, P.info? t = some i ∧ i.zero = some v ∧ z.length = i.size ∧ i.size = P.cellsOf t ∧ ∀ (w : World) (A : Auth), RCs w A z v.cells.toList := by
  unfold zeroT at h
  split at h <;> try (cases h; done)
  rename_i z' v h1 h2
  split at h <;> cases h
  rename_i hk
  simp only [Bool.and_eq_true, beq_iff_eq] at hk
  cases hi : P.info? t with
  | none => simp [hi] at h2
  | some i =>
    simp only [hi, Option.bind_some] at h2
    have hs : i.size = P.cellsOf t := by simp [Program.cellsOf, hi]
    exact ⟨i, v, rfl, h2, by rw [hk.2, hs], hs, fun w A => okZs_sound hk.1⟩

/-! ### Laying cells over cells -/

theorem foldl_set (off : Nat) : ∀ (vs : List Value) (k : Nat) (cells : Array Value), off + k + vs.length ≤ cells.size →
    ((vs.zipIdx k).foldl (fun cs (p : Value × Nat) => cs.setIfInBounds (off + p.2) p.1) cells).toList = cells.toList.take (off + k) ++ vs ++ cells.toList.drop (off + k + vs.length)
  | [], k, cells, _ => by simp
  | v :: vs, k, cells, h => by
    simp only [List.zipIdx_cons, List.foldl_cons]
    rw [foldl_set off vs (k + 1) _ (by simp at h ⊢; omega)]
    have := list_seg_step cells.toList (off + k) v vs (by simp at h ⊢; omega)
    simp only [Array.toList_setIfInBounds]
    simpa [Nat.add_assoc] using this

theorem RCs.lay {w : World} {A : Auth} {xs ns : List CV} {ys ms : List Value} (h : RCs w A xs ys) (k : RCs w A ns ms) (off : Nat) : RCs w A (lay xs off ns) (ys.take off ++ ms ++ ys.drop (off + ms.length)) := by
  unfold Eng.lay
  rw [k.length]
  exact ((h.take off).append k).append (h.drop _)

/-- What is laid into a struct or an array, one part behind the other. -/
theorem fill_sound {A : Auth} (place : Nat → Option (Nat × Nat)) : ∀ (ps : List (Nat × Operand)) (l : List (Nat × Nat × O)) (z cs : List CV) (cells : Array Value),
    (∀ (i : Nat) (p : Nat × Operand) (q : Nat × Nat × O), ps[i]? = some p → l[i]? = some q → place p.1 = some (q.1, q.2.1) ∧ ∀ v, ev s.env q.2.2 = some v → RA w A lam v (a.eval p.2)) → ps.length = l.length →
    RCs w A z cells.toList → fillParts s.env z l = some cs → ∃ out, Instr.fill place cells (ps.map fun p => (p.1, a.eval p.2)) = some out ∧ RCs w A cs out.toList
  | [], [], z, cs, cells, _, _, hz, h => by
    simp only [fillParts, Option.some.injEq] at h
    subst h
    exact ⟨cells, rfl, hz⟩
  | p :: ps, q :: l, z, cs, cells, hp, hlen, hz, h => by
    obtain ⟨off, n, x⟩ := q
    simp only [fillParts] at h
    split at h <;> try (cases h; done)
    rename_i cs1 hc1
    split at h <;> try (cases h; done)
    rename_i hsz
    obtain ⟨hn, hle⟩ := hsz
    obtain ⟨h1, h2⟩ := hp 0 p (off, n, x) rfl rfl
    cases hv : ev s.env x with
    | none => simp [hv] at hc1
    | some v =>
      simp only [hv, Option.bind_some] at hc1
      have hra := RA.cells hc1 (h2 v hv)
      have hl1 := hra.length
      have hl2 := hz.length
      simp only [List.map_cons, Instr.fill, h1]
      have hsize : (a.eval p.2).cells.size = n := by simpa [hn] using hl1.symm
      have hzl : z.length = cells.size := by simpa using hl2
      rw [if_neg (by simp [hsize]; omega)]
      have hfold := foldl_set off (a.eval p.2).cells.toList 0 cells (by simp [hsize]; omega)
      rw [← Array.toList_zipIdx, Array.foldl_toList] at hfold
      refine fill_sound place ps l (lay z off cs1) cs _ (fun i p' q' e1 e2 => hp (i + 1) p' q' (by simpa using e1) (by simpa using e2)) (by simpa using hlen) ?_ h
      rw [hfold]
      simpa using hz.lay hra off
  | [], _ :: _, _, _, _, _, hlen, _, _ => by simp at hlen
  | _ :: _, [], _, _, _, _, hlen, _, _ => by simp at hlen

theorem allM_get {α β : Type} {f : α → Option β} : ∀ {l : List α} {r : List β}, allM f l = some r → l.length = r.length ∧ ∀ (i : Nat) (x : α) (y : β), l[i]? = some x → r[i]? = some y → f x = some y
  | [], r, h => by simp only [allM, Option.some.injEq] at h; subst h; simp
  | x :: xs, r, h => by
    simp only [allM] at h
    split at h <;> cases h
    rename_i y ys h1 h2
    obtain ⟨k1, k2⟩ := allM_get h2
    refine ⟨by simp [k1], fun i x' y' e1 e2 => ?_⟩
    cases i with
    | zero => simp at e1 e2; subst e1; subst e2; exact h1
    | succ i => exact k2 i x' y' (by simpa using e1) (by simpa using e2)

theorem mapM_info {fs : List Field} (h : ∀ f ∈ fs, ∃ i, P.info? f.type = some i) : ∃ pl, fs.mapM (fun f => (P.info? f.type).map fun i => (f.offset, i.size)) = some pl ∧ ∀ (i : Nat) (f : Field), fs[i]? = some f → pl[i]? = some (f.offset, P.cellsOf f.type) := by
  induction fs with
  | nil => exact ⟨[], rfl, fun i f h => by simp at h⟩
  | cons f fs ih =>
    obtain ⟨i, hi⟩ := h f (by simp)
    obtain ⟨pl, h1, h2⟩ := ih fun g hg => h g (by simp [hg])
    refine ⟨(f.offset, i.size) :: pl, by simp [List.mapM_cons, hi, h1], fun j g hj => ?_⟩
    cases j with
    | zero => simp at hj; subst hj; simp [Program.cellsOf, hi]
    | succ j => simpa using h2 j g (by simpa using hj)

end
end Go.Eng
