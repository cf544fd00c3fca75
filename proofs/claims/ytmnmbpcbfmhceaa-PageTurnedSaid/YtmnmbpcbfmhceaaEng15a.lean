/-
  THE ENGINE, 15a: append. Nothing here speaks of one program.
-/
import Derived.Test.YtmnmbpcbfmhceaaEng15
import Derived.Laws.AppendOwn
set_option linter.unusedSimpArgs false
set_option linter.unusedVariables false
namespace Go.Eng

section
variable {P : Program} {N : Nat} {w0 : World} {A0 R : Auth} {s : St} {a : Act} {w : World} {lam : Nat → Nat} (hr : RelL N w0 A0 R s a w lam)
variable {d : Option Tmp} {ty : TypeId} {pos : String} {af : Array Edge} {gd : Option (Nat × Bool)} {K : St → Prop} {K' : Act → World → Prop} {Q : Exit → Act → World → Prop}

theorem run_ap_room (t ty e : TypeId) (i : TypeInfo) (w : World) (ht : P.underlying t = some (.slice e)) (hi : P.info? e = some i)
    (g sLen sCap : Nat) (cur : Array Value) (hg : w.heap[g]? = some (.cells cur e (0, 0))) (v : Value) (m : Nat) (news : List Value) (hl : news.length = m * i.size) (hlen : (Builtin.lenOf v).run P w = .ok m w)
    (hf : (Builtin.firstCells i.size m v).run P w = .ok news.toArray w) (h1 : ∀ u ∈ news, u.oneCell' = true) (hroom : sLen + m ≤ sCap) (hfit : sLen * i.size + news.length ≤ cur.size) :
    (Builtin.append_ #[t, t] ty #[.slice (some ⟨g, 0, none⟩) sLen sCap, v]).run P w =
      .ok (.slice (some ⟨g, 0, none⟩) (sLen + m) sCap) (w.setRow g (cur.toList.take (sLen * i.size) ++ news ++ cur.toList.drop (sLen * i.size + news.length)).toArray) := by
  have hst := run_storeCells_at P g (sLen * i.size) e news 0 cur w hg (by simpa using hfit) h1
  simp only [Nat.add_zero] at hst
  simp [Builtin.append_, run_underlying ht, sizeOf, typeInfo, hi, hlen, hroom, hf, Addr.add_lit, hst]

theorem run_ap_empty (t ty e : TypeId) (i : TypeInfo) (w : World) (ht : P.underlying t = some (.slice e)) (hi : P.info? e = some i) (b : Option Addr) (v : Value) (hlen : (Builtin.lenOf v).run P w = .ok 0 w)
    (hf : (Builtin.firstCells i.size 0 v).run P w = .ok #[] w) :
    (Builtin.append_ #[t, t] ty #[.slice b 0 0, v]).run P w = .ok (.slice b 0 0) w := by
  cases b <;> simp [Builtin.append_, run_underlying ht, sizeOf, typeInfo, hi, hlen, hf, storeCells]

theorem run_ap_grow (t ty e : TypeId) (i : TypeInfo) (z : Value) (w : World) (ht : P.underlying t = some (.slice e)) (hi : P.info? e = some i) (hz : i.zero = some z)
    (b : Option Addr) (sLen sCap : Nat) (olds news : List Value) (v : Value) (n : Nat) (hlen : (Builtin.lenOf v).run P w = .ok n w) (hfo : (Builtin.firstCells i.size sLen (.slice b sLen sCap)).run P w.drew = .ok olds.toArray w.drew)
    (hf : (Builtin.firstCells i.size n v).run P w.drew = .ok news.toArray w.drew) (hg : sCap < sLen + n) (h63 : ((sLen + n : Nat) : Int) ≤ 9223372036854775807) (hfit : Builtin.nextslicecap (sLen + n) sCap * i.bytes ≤ 281474976710656) :
    (Builtin.append_ #[t, t] ty #[.slice b sLen sCap, v]).run P w =
      .ok (.slice (some ⟨w.heap.size, 0, none⟩) (sLen + n) (grownCap w (sLen + n) sCap e))
        (w.drew.alloc (.cells (olds.toArray ++ news.toArray ++ Builtin.zeroCells z.cells (grownCap w (sLen + n) sCap e - (sLen + n))) e)) := by
  have hn : ¬ (sLen + n ≤ sCap) := by omega
  have h63' : ¬ (9223372036854775807 < ((sLen : Int) + (n : Int))) := by omega
  have h48' : ¬ (281474976710656 < Builtin.nextslicecap (sLen + n) sCap * i.bytes) := by omega
  simp [Builtin.append_, run_underlying ht, sizeOf, typeInfo, zeroValue, hi, hz, hlen, hn, h63', h48', Question.forced, hf, hfo, newRow, grownCap]
  congr 2
  apply Array.ext'
  simp [List.append_assoc]

theorem srcE_V {l : Loc} {e : Nat} {x : AV} {r : Nat × List CV} (h : srcE l e x = some r) : srcV l e x = some r := by
  unfold srcV
  split
  · simp [srcE, lenV] at h
  · exact h

theorem newHeap_mono (hr : RelL N w0 A0 R s a w lam) (o : Obj) (ro : Go.Obj) : Mono w (auth R s lam) (w.alloc ro) (auth R ⟨s.env, s.loc, upd s.heap w.heap.size (some o)⟩ lam) := by
  have g := Grow.alloc w ro
  have hau : ∀ b x, b < w.heap.size → (auth R ⟨s.env, s.loc, upd s.heap w.heap.size (some o)⟩ lam b x ↔ auth R s lam b x) := fun b x hb => by
    have : ¬ b = w.heap.size := by omega
    unfold auth authH
    simp only [upd, if_neg this]
  exact ⟨g.size, fun b o v hb h1 h2 => ⟨(g.cell hb).trans h1, fun h3 => h2 ((hau b o hb).1 h3)⟩, fun b hb h => ⟨g.blk b hb, fun o h3 => h o ((hau b o hb).1 h3)⟩, fun b hb => g.shp hb⟩

/-- An object that is forgotten. -/
theorem RelL.drop (hr : RelL N w0 A0 R s a w lam) (b : Nat) : RelL N w0 A0 R ⟨s.env, s.loc, upd s.heap b none⟩ a w lam ∧ ∀ x o, auth R ⟨s.env, s.loc, upd s.heap b none⟩ lam x o → auth R s lam x o := by
  have hH : ∀ x o, authH (upd s.heap b none) x o → authH s.heap x o := fun x o h => by
    unfold authH at h ⊢
    simp only [upd] at h
    by_cases e : x = b
    · rw [if_pos e] at h; exact h.elim
    · rw [if_neg e] at h; exact h
  have hA : ∀ x o, auth R ⟨s.env, s.loc, upd s.heap b none⟩ lam x o → auth R s lam x o := fun x o h => h.imp (hH x o) id
  have m : Mono w (auth R s lam) w (auth R ⟨s.env, s.loc, upd s.heap b none⟩ lam) := ⟨Nat.le_refl _, fun b o v _ h1 h2 => ⟨h1, fun h3 => h2 (hA b o h3)⟩, fun b _ h1 => ⟨rfl, fun o h3 => h1 o (hA b o h3)⟩, fun _ _ => rfl⟩
  have hn : ∀ x, s.heap x = none → upd s.heap b none x = none := fun x h => by
    simp only [upd]; split
    · rfl
    · exact h
  refine ⟨{ size := hr.size, defers := hr.defers, inj := hr.inj, lo := hr.lo, hi := hr.hi, apart := fun d hd => hn _ (hr.apart d hd), scp := hr.scp, env := fun x v hx => ⟨(hr.env x v hx).1, (hr.env x v hx).2.mono m⟩, loc := fun d cs hd => (hr.loc d cs hd).mono m rfl, heap := fun x o hx => ?_, frm := hr.frm, dom := fun x o hx h => hr.dom x o hx (hH x o h), dom' := fun x hx h => hn _ (hr.dom' x hx h), res := fun x o hx => ⟨(hr.res x o hx).1, hn _ (hr.res x o hx).2⟩ }, hA⟩
  simp only [upd] at hx
  split at hx
  · cases hx
  · exact (hr.heap x o hx).mono m rfl

theorem chunks_flat {e : Nat} : ∀ (n : Nat) (cs : List CV), cs.length = n * e → (chunks e n cs).flatten = cs ∧ (chunks e n cs).length = n ∧ ∀ x ∈ chunks e n cs, x.length = e
  | 0, cs, h => by
    have : cs = [] := List.length_eq_zero_iff.1 (by simpa using h)
    subst this
    simp [chunks]
  | n + 1, cs, h => by
    have hle : e ≤ cs.length := by rw [h, Nat.succ_mul]; omega
    obtain ⟨h1, h2, h3⟩ := chunks_flat (e := e) n (cs.drop e) (by rw [List.length_drop, h, Nat.succ_mul]; omega)
    refine ⟨by simp [chunks, h1], by simp [chunks, h2], fun x hx => ?_⟩
    simp only [chunks, List.mem_cons] at hx
    rcases hx with rfl | hx
    · simp; omega
    · exact h3 x hx

/-- A new row that may grow. -/
theorem newTip (hr : RelL N w0 A0 R s a w lam) {xs : List (List CV)} {U : List Value} {rest : Array Value} {e cap : Nat} {T : TypeId} (he : 0 < e) (hne : xs ≠ []) (hxe : ∀ x ∈ xs, x.length = e) (hU : RCs w (auth R s lam) xs.flatten U) (hk : xs.length ≤ cap) (hm : cap ≤ maxLen)
    (hrest : rest.size = (cap - xs.length) * e) :
    RelL N w0 A0 R ⟨s.env, s.loc, upd s.heap w.heap.size (some (.tip xs.length e T))⟩ a (w.alloc (.cells (U.toArray ++ rest) T)) lam ∧
      RC (w.alloc (.cells (U.toArray ++ rest) T)) (auth R ⟨s.env, s.loc, upd s.heap w.heap.size (some (.tip xs.length e T))⟩ lam) (.s e xs (some w.heap.size)) (.slice (some ⟨w.heap.size, 0, none⟩) xs.length cap) := by
  have hUl : U.length = xs.length * e := by rw [← hU.length, flat_len hxe]
  have hsz : (U.toArray ++ rest).size = cap * e := by
    rw [Array.size_append, hrest, List.size_toArray, hUl, ← Nat.add_mul]
    congr 1; omega
  refine ⟨hr.newHeap _ _ fun A m => ⟨he, _, cap, alloc_at _ _, hsz, hm, hk⟩, ?_⟩
  refine RC.mk hne (by simp) hk hxe (hU.mono (newHeap_mono hr _ _)) (fun i hi => ⟨?_, ?_⟩) fun t ht => ?_
  · rw [cell_of_row _ _ _ _ _ _ (alloc_at _ _)]
    rw [Array.getElem?_append_left (by simpa using hi)]
    simp [hi]
  · rintro (h | ⟨dd, h1, h2⟩ | h)
    · unfold authH at h
      simp only [upd, if_true] at h
      omega
    · have := hr.hi dd h1
      omega
    · have := (hr.res _ _ h).1
      have := hr.frm.size
      omega
  · cases ht
    refine ⟨rfl, rfl, T, ?_⟩
    simp only [World.shape?, alloc_at, hsz]

include hr in
theorem ap_wp {t e : TypeId} {z : List CV} {x y : Operand} {x' y' : O} (ht : P.underlying t = some (.slice e)) (h0 : 0 < P.cellsOf e) (hz : zeroT P e = some z) (hx : opd P t x = some x') (hy : opd P t y = some y') (hd : ∀ dd, d = some dd → dd < N)
    (hk : ∀ s' a' w', Rel N w0 A0 R s' a' w' → K s' → K' a' w') (h : act P d (.ap (P.cellsOf e) (P.bytesOf e) e x' y') s K) :
    (⟨d, .call ⟨.builtin .append, #[x, y], #[t, t]⟩, ty, pos, af, gd⟩ : Oper).wp P a w K' Q := by
  obtain ⟨i, zv, hi, hzv, hzl, his, hzr⟩ := zeroT_sound hz
  have hbi : P.bytesOf e = i.bytes := by simp [Program.bytesOf, hi]
  have hzs : zv.cells.size = i.size := by
    have := (hzr w (auth R s lam)).length
    rw [hzl] at this
    simpa using this.symm
  have hi0 : 0 < i.size := by omega
  have hex : execOp a.eval ⟨d, .call ⟨.builtin .append, #[x, y], #[t, t]⟩, ty, pos, af, gd⟩ = (do pure (.value (← Builtin.append_ #[t, t] ty #[a.eval x, a.eval y]))) := by
    simp [execOp, resolve, invoke, Go.builtin]
  have hrd := hr.grow (Grow.drew w)
  simp only [act] at h
  rw [hbi, ← his] at h
  split at h <;> try (exact h.elim)
  · -- nothing there yet
    rename_i ty' m src h1 h2
    obtain ⟨⟨hlen, rfl, hby, hml⟩, h⟩ := h
    cases hv : ev s.env y' with
    | none => simp [hv] at h2
    | some av =>
      simp only [hv, Option.bind_some] at h2
      obtain ⟨s1, s2⟩ := src_sound (P := P) hr hi0 (srcE_V h2) hlen (opd_sound hr hy hv).1
      obtain ⟨s1', s2'⟩ := src_sound (P := P) hrd hi0 (srcE_V h2) hlen (opd_sound hrd hy hv).1
      obtain ⟨k1, k2⟩ := opd_sound hr hx h1
      have hb : ∃ b, a.eval x = .slice b 0 0 := by
        generalize a.eval x = ux at k1
        cases k1 with
        | z0 _ => exact ⟨none, rfl⟩
        | z1 _ g _ _ => exact ⟨_, rfl⟩
      obtain ⟨b, e1⟩ := hb
      split at h
      · rename_i hm0
        subst hm0
        obtain ⟨U, f1, f2, f3⟩ := s2 0 (Nat.le_refl _)
        have hU : U = [] := List.length_eq_zero_iff.1 (by simpa using f3)
        subst hU
        refine wp_val (u := .slice b 0 0) (w' := w) ?_ (hk _ _ _ ⟨lam, ?_⟩ h)
        · refine exec_of hex ?_
          rw [e1]
          exact run_ap_empty t ty ty' i w ht hi b _ s1 f1
        · cases d with
          | none => exact hr
          | some dst => exact hr.put (hd dst rfl) (by rw [← e1]; exact k1) (scv_c _)
      · rename_i hm0
        obtain ⟨U, f1, f2, f3⟩ := s2' m (Nat.le_refl _)
        rw [List.take_of_length_le (by omega)] at f2
        have hge := grownCap_ge w m 0 ty'
        have hcm := grownCap_le_maxLen w m 0 ty' hml
        have hsmall : (m : Int) ≤ 9223372036854775807 := by simp only [maxLen] at hml; omega
        obtain ⟨c1, c2, c3⟩ := chunks_flat (e := i.size) m src hlen
        have hfo : (Builtin.firstCells i.size 0 (.slice b 0 0)).run P w.drew = .ok ([] : List Value).toArray w.drew := by
          cases b <;> simp [Builtin.firstCells, loadCells_zero]
        have hrun := run_ap_grow (P := P) t ty ty' i zv w ht hi hzv b 0 0 [] U (a.eval y) m s1 hfo f1 (by omega) (by simpa using hsmall) (growslice_fits (by omega) (by simpa using hby))
        simp only [Nat.zero_add, Array.append_assoc] at hrun
        have hnt := newTip hrd (xs := chunks i.size m src) (U := U) (rest := Builtin.zeroCells zv.cells (grownCap w m 0 ty' - m)) (e := i.size) (cap := grownCap w m 0 ty') (T := ty') hi0
          (by intro e0; rw [e0] at c2; simp at c2; omega) c3 (by rw [c1]; exact f2) (by rw [c2]; exact hge) hcm (by rw [size_zeroCells, hzs, c2])
        rw [c2] at hnt
        have hfr : s.heap w.heap.size = none := heap_fresh hr
        refine wp_val (u := .slice (some ⟨w.heap.size, 0, none⟩) m (grownCap w m 0 ty')) (w' := w.drew.alloc (.cells (U.toArray ++ Builtin.zeroCells zv.cells (grownCap w m 0 ty' - m)) ty')) ?_ (hk _ _ _ ⟨lam, ?_⟩ (h w.heap.size hfr))
        · refine exec_of hex ?_
          rw [e1, hrun]
          simp
        · cases d with
          | none => exact hnt.1
          | some dst => exact hnt.1.put (hd dst rfl) hnt.2 (scv_c _)
  · -- a row of one's own
    rename_i e' xs b m src h1 h2
    obtain ⟨⟨hlen, rfl, hby, hml, hb⟩, h⟩ := h
    cases hv : ev s.env y' with
    | none => simp [hv] at h2
    | some av =>
      simp only [hv, Option.bind_some] at h2
      obtain ⟨s1, s2⟩ := src_sound (P := P) hr hi0 (srcE_V h2) hlen (opd_sound hr hy hv).1
      obtain ⟨s1', s2'⟩ := src_sound (P := P) hrd hi0 (srcE_V h2) hlen (opd_sound hrd hy hv).1
      obtain ⟨k1, _⟩ := opd_sound hr hx h1
      obtain ⟨_, cur, cap, g1, g2, g3, g4⟩ := hr.heap b _ hb
      have hne : xs ≠ [] := by
        intro e0
        subst e0
        have k1' : RC w (auth R s lam) (.s i.size [] (some b)) (a.eval x) := k1
        generalize a.eval x = ux at k1'
        cases k1' with
        | s _ _ _ _ _ _ _ hne => exact hne rfl
      obtain ⟨b1, o, c, U0, e1, r1, r2, r3, r4, r5, r6, r7⟩ := RC.rows k1 hne
      obtain ⟨rfl, rfl, T, hsh⟩ := r6 b rfl
      have hcc : c = cap := by
        simp only [World.shape?, g1, Option.some.injEq, Prod.mk.injEq] at hsh
        have := hsh.2
        rw [g2] at this
        exact (Nat.eq_of_mul_eq_mul_right hi0 this).symm
      subst hcc
      have r3' := r3
      obtain ⟨c1, c2, c3⟩ := chunks_flat (e := i.size) m src hlen
      have hxs : ∀ x ∈ xs ++ chunks i.size m src, x.length = i.size := fun x hx => by
        rcases List.mem_append.1 hx with hx | hx
        · exact r2 x hx
        · exact c3 x hx
      have hlx : (xs ++ chunks i.size m src).length = xs.length + m := by rw [List.length_append, c2]
      by_cases hroom : xs.length + m ≤ c
      · -- there is room
        obtain ⟨U, f1, f2, f3⟩ := s2 m (Nat.le_refl _)
        rw [List.take_of_length_le (by omega)] at f2
        have hfit : xs.length * i.size + U.length ≤ cur.size := by rw [f3, g2, ← Nat.add_mul]; exact Nat.mul_le_mul_right _ hroom
        have hrun := run_ap_room (P := P) t ty e i w ht hi b xs.length c cur g1 (a.eval y) m U f3 s1 f1 f2.one hroom hfit
        let new := (cur.toList.take (xs.length * i.size) ++ U ++ cur.toList.drop (xs.length * i.size + U.length)).toArray
        have hns : new.size = cur.size := by
          simp only [new, List.size_toArray, List.length_append, List.length_take, List.length_drop, Array.length_toList]; omega
        have hnew : (w.setRow b new).heap[b]? = some (.cells new e (0, 0)) := setRow_heap w b cur _ e _ g1
        have hoth : ∀ x, x ≠ b → (w.setRow b new).heap[x]? = w.heap[x]? := fun x hx => setRow_other w b x _ hx
        have hbapart : ∀ dd, s.loc dd ≠ none → lam dd ≠ b := fun dd hdd e0 => by
          have := hr.apart dd hdd; rw [e0, hb] at this; cases this
        have hbR : ∀ o, ¬ R b o := fun o hR => by have := (hr.res _ _ hR).2; rw [hb] at this; cases this
        let s' : St := ⟨s.env, s.loc, upd s.heap b (some (.tip (xs.length + m) i.size e))⟩
        have hH : ∀ x o, authH s'.heap x o → authH s.heap x o := fun x o h3 => by
          unfold authH at h3 ⊢
          simp only [s', upd] at h3
          by_cases e0 : x = b
          · subst e0
            rw [if_pos rfl] at h3
            rw [hb]
            simp only at h3 ⊢
            have : xs.length * i.size ≤ (xs.length + m) * i.size := Nat.mul_le_mul_right _ (by omega)
            omega
          · rw [if_neg e0] at h3; exact h3
        have hA : ∀ x o, auth R s' lam x o → auth R s lam x o := fun x o h3 => h3.imp (hH x o) id
        have hold : ∀ o, ¬ auth R s lam b o → o < xs.length * i.size := fun o h3 => by
          rcases Nat.lt_or_ge o (xs.length * i.size) with h4 | h4
          · exact h4
          · exact absurd (.inl (by unfold authH; rw [hb]; exact h4)) h3
        have hcell : ∀ o, o < xs.length * i.size → (w.setRow b new).cell? ⟨b, o, none⟩ = w.cell? ⟨b, o, none⟩ := fun o ho => by
          rw [cell_of_row _ _ _ _ _ _ hnew, cell_of_row _ _ _ _ _ _ g1]
          have hoc : o < cur.size := by omega
          simp only [new, List.getElem?_toArray]
          rw [List.append_assoc, List.getElem?_append_left (by simp; omega), List.getElem?_take, if_pos ho]
          simp
        have hshp : ∀ x, (w.setRow b new).shape? x = w.shape? x := fun x => shape_setRow g1 hns x
        have m1 : Mono w (auth R s lam) (w.setRow b new) (auth R s' lam) := by
          refine ⟨by simp, fun x o v hx1 h3 h4 => ⟨?_, fun h5 => h4 (hA x o h5)⟩, fun x hx1 h3 => ⟨?_, fun o h5 => h3 o (hA x o h5)⟩, fun x _ => hshp x⟩
          · by_cases e0 : x = b
            · subst e0; rw [hcell o (hold o h4)]; exact h3
            · rw [cell_setRow_ne e0]; exact h3
          · by_cases e0 : x = b
            · subst e0
              exact absurd (.inl (by unfold authH; rw [hb]; exact Nat.le_refl _)) (h3 (xs.length * i.size))
            · exact hoth x e0
        have hrel : RelL N w0 A0 R s' a (w.setRow b new) lam := by
          refine { size := hr.size, defers := hr.defers, inj := hr.inj, lo := hr.lo, hi := fun dd hdd => by simpa using hr.hi dd hdd, apart := fun dd hdd => ?_, scp := hr.scp, env := fun x v hx => ⟨(hr.env x v hx).1, (hr.env x v hx).2.mono m1⟩, loc := fun dd cs hdd => ?_, heap := fun x ob hx => ?_, frm := ?_, dom := fun x o hx h3 => hr.dom x o hx (hH x o h3), dom' := fun x hx h3 => ?_, res := fun x o hx => ⟨(hr.res x o hx).1, ?_⟩ }
          · simp only [s', upd, if_neg (hbapart dd hdd)]; exact hr.apart dd hdd
          · exact (hr.loc dd cs hdd).mono m1 (hoth _ (hbapart dd (by rw [hdd]; simp)))
          · simp only [s', upd] at hx
            split at hx
            · rename_i e0; cases hx; subst e0
              exact ⟨hi0, new, c, hnew, by rw [hns, g2], g3, hroom⟩
            · rename_i e0
              exact (hr.heap x ob hx).mono m1 (hoth x e0)
          · refine hr.frm.trans (⟨rfl, rfl, rfl, by simp, fun x o hx h3 => ?_, fun x hx h3 => ?_, fun x hx => hshp x⟩ : Frm w (authH s.heap) (w.setRow b new)) hr.dom
            · by_cases e0 : x = b
              · subst e0
                refine hcell o ?_
                rcases Nat.lt_or_ge o (xs.length * i.size) with h4 | h4
                · exact h4
                · exact absurd (by unfold authH; rw [hb]; exact h4) h3
              · exact cell_setRow_ne e0
            · by_cases e0 : x = b
              · subst e0
                exact absurd (by unfold authH; rw [hb]; exact Nat.le_refl _) (h3 (xs.length * i.size))
              · exact hoth x e0
          · have := hr.dom' x hx h3
            simp only [s', upd]
            rw [if_neg (fun e0 => by rw [e0, hb] at this; cases this)]
            exact this
          · have := (hr.res x o hx).2
            simp only [s', upd]
            rw [if_neg (fun e0 => by rw [e0, hb] at this; cases this)]
            exact this
        have hRC : RC (w.setRow b new) (auth R s' lam) (.s i.size (xs ++ chunks i.size m src) (some b)) (.slice (some ⟨b, 0, none⟩) (xs.length + m) c) := by
          have hUU : RCs (w.setRow b new) (auth R s' lam) (xs ++ chunks i.size m src).flatten (U0 ++ U) := by
            rw [List.flatten_append, c1]
            exact (r3.mono m1).append (f2.mono m1)
          have := RC.mk (w := w.setRow b new) (A := auth R s' lam) (e := i.size) (tok := some b) (b := b) (o := 0) (c := c) (by simp [hne]) (by simpa using r1) (by rw [hlx]; exact hroom) hxs hUU (fun j hj => ⟨?_, ?_⟩) (fun t' ht' => ?_)
          · rw [hlx] at this; exact this
          · rw [Nat.zero_add]
            rw [List.length_append, r4, f3] at hj
            by_cases hj1 : j < xs.length * i.size
            · rw [hcell j hj1]
              have := (r5 j (by omega)).1
              rw [Nat.zero_add] at this
              rw [this, List.getElem_append_left (by omega)]
            · rw [cell_of_row _ _ _ _ _ _ hnew]
              simp only [new, List.getElem?_toArray]
              rw [List.append_assoc, List.getElem?_append_right (by simp; omega), List.getElem?_append_left (by simp; omega)]
              have hmin : (cur.toList.take (xs.length * i.size)).length = xs.length * i.size := by simp; omega
              rw [hmin, List.getElem_append_right (by omega), List.getElem?_eq_getElem (by omega)]
              simp only [r4]
          · rw [Nat.zero_add]
            rw [List.length_append, r4, f3] at hj
            rintro (h3 | ⟨dd, h3, h4⟩ | h3)
            · unfold authH at h3
              simp only [s', upd, if_true] at h3
              rw [Nat.add_mul] at h3
              omega
            · exact hbapart dd h3 h4.symm
            · exact hbR _ h3
          · cases ht'
            exact ⟨rfl, rfl, e, by simp only [World.shape?, hnew, hns, g2]⟩
        refine wp_val (u := .slice (some ⟨b, 0, none⟩) (xs.length + m) c) (w' := w.setRow b new) ?_ (hk _ _ _ ⟨lam, ?_⟩ (h b s'.heap (fun x hx _ => by simp only [s', upd, if_neg hx]) (.inl rfl) (fun h3 => absurd rfl h3) (by simp only [s', upd, if_true])))
        · refine exec_of hex ?_
          rw [e1]
          exact hrun
        · cases d with
          | none => exact hrel
          | some dst => exact hrel.put (hd dst rfl) hRC (scv_c _)
      · -- it grows
        obtain ⟨U, f1, f2, f3⟩ := s2' m (Nat.le_refl _)
        rw [List.take_of_length_le (by omega)] at f2
        have hge := grownCap_ge w (xs.length + m) c e
        have hcm := grownCap_le_maxLen w (xs.length + m) c e hml
        have hsmall : ((xs.length + m : Nat) : Int) ≤ 9223372036854775807 := by simp only [maxLen] at hml; omega
        have hfo : (Builtin.firstCells i.size xs.length (.slice (some ⟨b, 0, none⟩) xs.length c)).run P w.drew = .ok U0.toArray w.drew :=
          run_firstCells_some w.drew i.size xs.length ⟨b, 0, none⟩ xs.length c U0 r4 (fun j v hj => by
            obtain ⟨hj1, rfl⟩ := List.getElem?_eq_some_iff.1 hj
            rw [add_none]
            exact (r5 j hj1).1)
        have hrun := run_ap_grow (P := P) t ty e i zv w ht hi hzv (some ⟨b, 0, none⟩) xs.length c U0 U (a.eval y) m s1 hfo f1 (by omega) hsmall (growslice_fits (by omega) hby)
        obtain ⟨hdr, hdA⟩ := hrd.drop b
        have md : Mono w.drew (auth R s lam) w.drew (auth R ⟨s.env, s.loc, upd s.heap b none⟩ lam) := ⟨Nat.le_refl _, fun b o v _ h1 h2 => ⟨h1, fun h3 => h2 (hdA b o h3)⟩, fun b _ h1 => ⟨rfl, fun o h3 => h1 o (hdA b o h3)⟩, fun _ _ => rfl⟩
        have hUU : RCs w.drew (auth R ⟨s.env, s.loc, upd s.heap b none⟩ lam) (xs ++ chunks i.size m src).flatten (U0 ++ U) := by
          rw [List.flatten_append, c1]
          exact ((r3.mono ((Grow.drew w).mono _)).mono md).append (f2.mono md)
        have hnt := newTip hdr (xs := xs ++ chunks i.size m src) (U := U0 ++ U) (rest := Builtin.zeroCells zv.cells (grownCap w (xs.length + m) c e - (xs.length + m))) (e := i.size) (cap := grownCap w (xs.length + m) c e) (T := e) hi0
          (by simp [hne]) hxs hUU (by rw [hlx]; exact hge) hcm (by rw [size_zeroCells, hzs, hlx])
        rw [hlx] at hnt
        have hfr : s.heap w.heap.size = none := heap_fresh hr
        have hb1 : b < w.heap.size := r1
        have hworld : w.drew.alloc (.cells (U0.toArray ++ U.toArray ++ Builtin.zeroCells zv.cells (grownCap w (xs.length + m) c e - (xs.length + m))) e) = w.drew.alloc (.cells ((U0 ++ U).toArray ++ Builtin.zeroCells zv.cells (grownCap w (xs.length + m) c e - (xs.length + m))) e) := by
          congr 2
          simp
        rw [hworld] at hrun
        refine wp_val (u := .slice (some ⟨w.heap.size, 0, none⟩) (xs.length + m) (grownCap w (xs.length + m) c e)) (w' := w.drew.alloc (.cells ((U0 ++ U).toArray ++ Builtin.zeroCells zv.cells (grownCap w (xs.length + m) c e - (xs.length + m))) e)) ?_
          (hk _ _ _ ⟨lam, ?_⟩ (h w.heap.size (upd (upd s.heap b none) w.heap.size (some (.tip (xs.length + m) i.size e))) (fun x hx1 hx2 => by simp only [upd, if_neg hx1, if_neg hx2]) (.inr hfr) (fun h3 => by simp only [upd, if_neg (Ne.symm h3), if_true]) (by simp only [upd, if_true])))
        · refine exec_of hex ?_
          rw [e1]
          exact hrun
        · cases d with
          | none => exact hnt.1
          | some dst => exact hnt.1.put (hd dst rfl) hnt.2 (scv_c _)

end
end Go.Eng
