/-
  THE ENGINE, 9: structs and slices that are written out, bytes to a string, functions. Nothing here speaks of one program.
-/
import Derived.Test.YtmnmbpcbfmhceaaEng8
set_option linter.unusedSimpArgs false
set_option linter.unusedVariables false
namespace Go.Eng

section
variable {P : Program} {N : Nat} {w0 : World} {A0 R : Auth} {s : St} {a : Act} {w : World} {lam : Nat → Nat} (hr : RelL N w0 A0 R s a w lam)
variable {d : Option Tmp} {ty : TypeId} {pos : String} {af : Array Edge} {gd : Option (Nat × Bool)}

theorem exec_build {t : TypeId} {ps : Array (Nat × Operand)} : execOp a.eval ⟨d, .build t ps, ty, pos, af, gd⟩ = (do pure (.value (← Instr.build t (ps.map fun p => (p.1, a.eval p.2))))) := rfl

include hr in
theorem bd_sound {t : TypeId} {ps : Array (Nat × Operand)} {z : List CV} {l : List (Nat × Nat × O)} {v : AV} (hz : zeroT P t = some z) (hc : cparts P t ps = some l) (hv : qv (.bd z l) s = some v) : QS P R ⟨d, .build t ps, ty, pos, af, gd⟩ a w s lam v := by
  simp only [qv, Option.map_eq_some_iff] at hv
  obtain ⟨cs, hcs, rfl⟩ := hv
  obtain ⟨it, zv, hi, hzv, hz1, hz2, hz3⟩ := zeroT_sound hz
  unfold cparts at hc
  split at hc <;> try (cases hc; done)
  · rename_i fs hu
    split at hc <;> try (cases hc; done)
    rename_i hall
    obtain ⟨hlen, hget⟩ := allM_get hc
    obtain ⟨pl, hpl, hplg⟩ := mapM_info (P := P) (fs := fs.toList) (fun f hf => by
      simp only [Bool.not_eq_true', Bool.not_eq_false, List.all_eq_true] at hall
      exact Option.isSome_iff_exists.1 (hall f hf))
    obtain ⟨out, h1, h2⟩ := fill_sound (lam := lam) (A := auth R s lam) (w := w) (pl.toArray[·]?) ps.toList l z cs zv.cells (fun i p q e1 e2 => by
      have := hget i p q e1 e2
      split at this <;> try (cases this; done)
      rename_i f hf
      simp only [Option.map_eq_some_iff] at this
      obtain ⟨y, hy, rfl⟩ := this
      refine ⟨by simpa using hplg p.1 f (by simpa using hf), fun v hv => (opd_sound hr hy hv).1⟩) hlen (hz3 w _) hcs
    refine QS.of exec_build (run_build w t _ out ?_) ⟨out, rfl, h2⟩ (scv_g _)
    unfold Program.built
    simp only [hi, hu, hzv, hpl]
    simpa using h1
  · rename_i n e hu
    split at hc <;> try (cases hc; done)
    rename_i hsome
    obtain ⟨hlen, hget⟩ := allM_get hc
    cases hie : P.info? e with
    | none => simp [hie] at hsome
    | some ie =>
      have hsz : P.cellsOf e = ie.size := by simp [Program.cellsOf, hie]
      obtain ⟨out, h1, h2⟩ := fill_sound (lam := lam) (A := auth R s lam) (w := w) (fun i => some (i * ie.size, ie.size)) ps.toList l z cs zv.cells (fun i p q e1 e2 => by
        have := hget i p q e1 e2
        simp only [Option.map_eq_some_iff] at this
        obtain ⟨y, hy, rfl⟩ := this
        exact ⟨by simp [hsz], fun v hv => (opd_sound hr hy hv).1⟩) hlen (hz3 w _) hcs
      refine QS.of exec_build (run_build w t _ out ?_) ⟨out, rfl, h2⟩ (scv_g _)
      unfold Program.built
      simp only [hi, hu, hzv, hie]
      simpa using h1

include hr in
theorem mf_sound {f : Nat} {caps : Array Operand} {l : List O} {v : AV} (hc : allM (opd P 0) caps.toList = some l) (hv : qv (.mf f l) s = some v) :
    QS P R ⟨d, .makeFunc (.func f) #[] caps, ty, pos, af, gd⟩ a w s lam v := by
  simp only [qv] at hv
  split at hv <;> try (cases hv; done)
  rename_i vs hvs
  split at hv <;> cases hv
  rename_i hall
  have hok' : ∀ x ∈ vs, (∃ dd o, x = .lp dd o) ∨ ∃ u, x = .c (.p u) := fun x hx => by
    have h := List.all_eq_true.1 hall x hx
    unfold okCap at h
    split at h
    · exact .inl ⟨_, _, rfl⟩
    · exact .inr ⟨_, rfl⟩
    · cases h
  have key : ∀ (caps : List Operand) (l : List O) (vs : List AV), allM (opd P 0) caps = some l → evs s.env l = some vs → (∀ x ∈ vs, (∃ dd o, x = .lp dd o) ∨ ∃ u, x = .c (.p u)) →
      RKs lam vs (caps.map a.eval) ∧ ∀ x ∈ vs, ScV s x := by
    intro caps
    induction caps with
    | nil => intro l vs h1 h2 _; simp only [allM, Option.some.injEq] at h1; subst h1; simp only [evs, Option.some.injEq] at h2; subst h2; exact ⟨trivial, by simp⟩
    | cons c caps ih =>
      intro l vs h1 h2 h3
      simp only [allM] at h1
      split at h1 <;> cases h1
      rename_i y ys e1 e2
      simp only [evs] at h2
      split at h2 <;> cases h2
      rename_i v vs e3 e4
      obtain ⟨k1, k2⟩ := opd_sound hr e1 e3
      obtain ⟨i1, i2⟩ := ih ys vs e2 e4 (fun x hx => h3 x (by simp [hx]))
      refine ⟨⟨?_, i1⟩, fun x hx => ?_⟩
      · rcases h3 v (by simp) with ⟨dd, o, rfl⟩ | ⟨u, rfl⟩
        · exact k1
        · have k1' : RC w (auth R s lam) (.p u) (a.eval c) := k1
          generalize a.eval c = q at *
          cases k1' with
          | p _ h => exact ⟨rfl, h⟩
      · rcases List.mem_cons.1 hx with rfl | hx
        · exact k2
        · exact i2 x hx
  obtain ⟨k1, k2⟩ := key caps.toList l vs hc hvs hok'
  refine QS.of rfl (u := .func (.func f) #[] (caps.map a.eval)) (by simp [Instr.makeFunc]) ⟨_, rfl, by simpa using k1⟩ (fun dd hd => ?_)
  simp only [refs, List.any_eq_true] at hd
  obtain ⟨x, hx, hx2⟩ := hd
  rcases hok' x hx with ⟨d', o, rfl⟩ | ⟨u, rfl⟩
  · exact k2 _ hx dd (by simpa [refs] using hx2)
  · simp at hx2

/-! ### Bytes to a string -/

theorem bytes_vals : ∀ {cs : List CV} {U : List Value} {w : World} {A : Auth}, RCs w A cs U → cs.all isByte = true → ∃ ns : List Int, U = ns.map (Value.int .u8) ∧ cs.map byteOf = ns.map fun n => UInt8.ofNat n.toNat
  | [], [], _, _, _, _ => ⟨[], rfl, rfl⟩
  | c :: cs, u :: U, w, A, h, hb => by
    simp only [List.all_cons, Bool.and_eq_true] at hb
    obtain ⟨ns, h1, h2⟩ := bytes_vals h.2 hb.2
    have h0 := h.1
    have hb0 := hb.1
    unfold isByte at hb0
    split at hb0 <;> try (cases hb0; done)
    rename_i n
    cases h0
    exact ⟨n :: ns, by simp [h1], by simp [h2, byteOf]⟩
  | [], _ :: _, _, _, h, _ => h.elim
  | _ :: _, [], _, _, h, _ => h.elim

theorem fold_push : ∀ (ns : List Int) (b : ByteArray), ns.foldl (fun r n => r.push (UInt8.ofNat n.toNat)) b = ⟨b.data ++ (ns.map fun n => UInt8.ofNat n.toNat).toArray⟩
  | [], b => by simp
  | n :: ns, b => by
    rw [List.foldl_cons, fold_push ns]
    simp only [ByteArray.mk.injEq, List.map_cons]
    apply Array.ext'
    simp [ByteArray.push]

theorem elems_sound {e : Nat} {x : AV} {cs : List CV} {u : Value} (hx : elems s.loc e x = some cs) (hr : RelL N w0 A0 R s a w lam) (h : RA w (auth R s lam) lam x u) :
    ∃ A n c U, u = .slice A n c ∧ RCs w (auth R s lam) cs U ∧ U.length = n * e ∧ (n = 0 ∨ ∃ b o, A = some ⟨b, o, none⟩ ∧ ∀ i (h : i < U.length), w.cell? ⟨b, o + i, none⟩ = some U[i]) := by
  unfold elems at hx
  split at hx
  · rename_i e' xs tok
    split at hx <;> cases hx
    rename_i he
    subst he
    by_cases hne : xs = []
    · subst hne
      have h' : RC w (auth R s lam) (.s e' [] tok) u := h
      cases h' with
      | s0 => exact ⟨_, 0, _, [], rfl, by simp [RCs], by simp, .inl rfl⟩
      | s _ _ _ _ _ _ _ hne => exact absurd rfl hne
    · obtain ⟨b, o, c, U, e1, kb, ke, k2, kl, k3, _, hk⟩ := RC.rows h hne
      exact ⟨_, _, _, U, e1, k2, kl, .inr ⟨b, o, rfl, fun i hi => (k3 i hi).1⟩⟩
  · rename_i ty
    cases hx
    have h' : RC w (auth R s lam) (.z ty) u := h
    cases h' with
    | z0 => exact ⟨_, 0, _, [], rfl, trivial, by simp, .inl rfl⟩
    | z1 => exact ⟨_, 0, _, [], rfl, trivial, by simp, .inl rfl⟩
  · rename_i dd o n c
    split at hx <;> try (cases hx; done)
    rename_i cs' hcs
    split at hx <;> cases hx
    rename_i hle
    obtain ⟨U, u1, u2, u3⟩ := row_cells (hr.loc _ _ hcs) hle
    exact ⟨_, _, _, U, h, u1, u2, .inr ⟨_, _, rfl, u3⟩⟩
  · cases hx

theorem loadCells_zero (A : Addr) : (loadCells A 0).run P w = .ok #[] w := rfl

include hr in
theorem cvs_sound {t t2 e : TypeId} {x : Operand} {x' : O} {v : AV} (hx : opd P t x = some x') (h1 : P.underlying t = some (.slice e)) (h2 : P.underlying t2 = some .string) (h3 : P.underlying e = some (.int .u8)) (hv : qv (.cvs x') s = some v) :
    QS P R ⟨d, .convert t t2 x, ty, pos, af, gd⟩ a w s lam v := by
  simp only [qv] at hv
  split at hv <;> try (cases hv; done)
  rename_i av hav
  split at hv <;> cases hv
  rename_i l hl
  obtain ⟨k1, _⟩ := opd_sound hr hx hav
  cases hel : elems s.loc 1 av with
  | none => simp [hel] at hl
  | some cs =>
    simp only [hel, Option.bind_some, bytesOf] at hl
    split at hl <;> cases hl
    rename_i hb
    obtain ⟨A, n, c, U, e1, u1, u2, u3⟩ := elems_sound hel hr k1
    obtain ⟨ns, rfl, hns⟩ := bytes_vals u1 hb
    refine QS.of rfl (u := .string (str (cs.map byteOf))) ?_ (RC.p _ rfl) (scv_c _)
    rw [e1]
    have conv : (Go.convert t t2 (.slice A n c)).run P w = (Conv.bytesToString (.slice A n c)).run P w := by
      cases A <;> simp [Go.convert, run_underlying h1, run_underlying h2, run_underlying h3]
    rw [conv]
    have fin : ns.foldl (fun r n => r.push (UInt8.ofNat n.toNat)) ByteArray.empty = str (cs.map byteOf) := by
      rw [fold_push, hns, str]
      simp only [ByteArray.mk.injEq]
      apply Array.ext'
      simp [show ByteArray.empty.data = #[] from rfl]
    rcases u3 with rfl | ⟨b, o, rfl, u3⟩
    · have hn0 : ns = [] := List.eq_nil_of_length_eq_zero (by simpa using u2)
      subst hn0
      rw [← fin]
      cases A with
      | none => simp [Conv.bytesToString]
      | some A => exact run_bytesToString w A 0 c [] (by simp [loadCells_zero])
    · rw [← fin]
      refine run_bytesToString w _ n c ns ?_
      have hld := run_loadCells_list (P := P) w ⟨b, o, none⟩ (ns.map (Value.int .u8)) (fun j v hv => by
        obtain ⟨hj, rfl⟩ := List.getElem?_eq_some_iff.1 hv
        rw [add_none]; exact u3 j hj)
      simp only [Nat.mul_one] at u2
      rw [u2] at hld
      exact hld

end
end Go.Eng
