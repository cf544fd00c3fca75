/-
  THE ENGINE, 5e: structs and arrays that are compared. Nothing here speaks of one program.
-/
import Derived.Test.YtmnmbpcbfmhceaaEng6
import Derived.Laws.StructEq
import Derived.ChangeKeysEq
set_option linter.unusedSimpArgs false
set_option linter.unusedVariables false
namespace Go.Eng

def pv (us : List Value) : List CV := us.map .p

theorem eqCs_append : ∀ {a b c d : List CV}, a.length = c.length → eqCs (a ++ b) (c ++ d) = (eqCs a c && eqCs b d)
  | [], b, [], d, _ => by simp [eqCs]
  | x :: a, b, y :: c, d, h => by simp [eqCs, eqCs_append (a := a) (c := c) (by simpa using h), Bool.and_assoc]
  | [], _, _ :: _, _, h => by simp at h
  | _ :: _, _, [], _, h => by simp at h

theorem expand_len : ∀ (ks : List (Nat × Kd)), (expand ks).length = total ks
  | [] => rfl
  | (n, k) :: r => by
    simp only [expand, total, List.length_append, expand_len r]
    split
    · rename_i h; subst h; rfl
    · simp

theorem expand_append : ∀ (a b : List (Nat × Kd)), expand (a ++ b) = expand a ++ expand b
  | [], b => rfl
  | (n, k) :: r, b => by simp [expand, expand_append r b]

section
variable {P : Program}

/-- A value as it is taken out of a struct or an array. -/
def Fm (P : Program) (t : TypeId) (v : Value) : Prop := if isAggT P t = true then ∃ arr, v = .agg arr else v.oneCell' = true

def EqA (P : Program) (dd : Nat) (t : TypeId) (K : List Kd) : Prop :=
  ∀ (w : World) (a b : Value), Fm P t a → Fm P t b → kinds (pv a.cells.toList) = K → kinds (pv b.cells.toList) = K → (Op.equalIn dd t a b).run P w = .ok (eqCs (pv a.cells.toList) (pv b.cells.toList)) w

theorem pv_len (us : List Value) : (pv us).length = us.length := by simp [pv]
theorem kinds_len (cs : List CV) : (kinds cs).length = cs.length := by simp [kinds]

/-- A part. -/
theorem run_part {e : TypeId} {xs : Array Value} {off : Nat} (hu : (P.underlying e).isSome) (w : World) (hs : ((xs.toList.drop off).take (P.cellsOf e)).length = P.cellsOf e) (h1 : isAggT P e = false → P.cellsOf e = 1 ∧ ∀ v ∈ (xs.toList.drop off).take 1, v.oneCell' = true) :
    ∃ a, (Go.part e xs off).run P w = .ok a w ∧ Fm P e a ∧ a.cells.toList = (xs.toList.drop off).take (P.cellsOf e) := by
  obtain ⟨u', hu'⟩ := Option.isSome_iff_exists.1 hu
  obtain ⟨i, hi, hsz⟩ := und_info hu'
  have hr := run_isAgg hu w
  cases hagg : isAggT P e with
  | true =>
    rw [hagg] at hr
    refine ⟨.agg (xs.extract off (off + P.cellsOf e)), ?_, by simp [Fm, hagg], ?_⟩
    · simp [Go.part, hr, run_sizeOf w hi]
    · show (xs.extract off (off + P.cellsOf e)).toList = _
      rw [Array.toList_extract]
      simp [List.extract]
  | false =>
    rw [hagg] at hr
    obtain ⟨h2, h3⟩ := h1 hagg
    rw [h2] at hs ⊢
    match hl : (xs.toList.drop off).take 1, hs with
    | [v], _ =>
      have hv := h3 v (by rw [hl]; simp)
      refine ⟨v, ?_, by simp [Fm, hagg, hv], ?_⟩
      · have hx : xs[off]? = some v := by
          rw [← Array.getElem?_toList]
          have := congrArg (fun l => l[0]?) hl
          simpa [List.getElem?_take, List.getElem?_drop] using this
        simp [Go.part, hr, hx]
      · rw [cells_one hv]

theorem kind_one {v : Value} (h : kind (.p v) ≠ .o) : v.oneCell' = true := by
  cases v <;> first | rfl | (simp [kind] at h)

/-- Fields. -/
theorem run_eqFields {d : Nat} {dd : Nat} (xs ys : Array Value) (hxs : ∀ v ∈ xs.toList, v.oneCell' = true) (hys : ∀ v ∈ ys.toList, v.oneCell' = true)
    (IH : ∀ t ks, kindsOf P d t = some ks → total ks = P.cellsOf t → EqA P dd t (expand ks)) (hone : ∀ t ks, kindsOf P d t = some ks → (P.underlying t).isSome ∧ (isAggT P t = false → total ks = 1)) :
    ∀ (fs : List Field) (off : Nat) (ks : List (Nat × Kd)), kfs P (kindsOf P d) off fs = some ks → kinds (pv (xs.toList.drop off)) = expand ks → kinds (pv (ys.toList.drop off)) = expand ks →
      ∀ w, (Op.eqFields dd xs ys fs).run P w = .ok (eqCs (pv (xs.toList.drop off)) (pv (ys.toList.drop off))) w
  | [], off, ks, h, hx, hy, w => by
    simp only [kfs, Option.some.injEq] at h
    subst h
    have e1 : xs.toList.drop off = [] := by
      have := congrArg List.length hx
      rw [kinds_len, pv_len] at this
      exact List.length_eq_zero_iff.1 this
    have e2 : ys.toList.drop off = [] := by
      have := congrArg List.length hy
      rw [kinds_len, pv_len] at this
      exact List.length_eq_zero_iff.1 this
    rw [e1, e2]
    simp [Op.eqFields, pv, eqCs]
  | f :: fs, off, ks, h, hx, hy, w => by
    simp only [kfs] at h
    split at h <;> try (cases h; done)
    rename_i hf
    obtain ⟨hoff, hn⟩ := hf
    split at h <;> try (cases h; done)
    rename_i x y hkx hky
    split at h <;> cases h
    rename_i htot
    rw [expand_append] at hx hy
    obtain ⟨hu, hag⟩ := hone f.type x hkx
    have hlx : (expand x).length = P.cellsOf f.type := by rw [expand_len, htot]
    have split' : ∀ l : List Value, kinds (pv (l.drop off)) = expand x ++ expand y → kinds (pv ((l.drop off).take (P.cellsOf f.type))) = expand x ∧ kinds (pv (l.drop (off + P.cellsOf f.type))) = expand y ∧ ((l.drop off).take (P.cellsOf f.type)).length = P.cellsOf f.type ∧
        pv (l.drop off) = pv ((l.drop off).take (P.cellsOf f.type)) ++ pv (l.drop (off + P.cellsOf f.type)) := fun l hl => by
      have e1 : kinds (pv ((l.drop off).take (P.cellsOf f.type))) = (kinds (pv (l.drop off))).take (P.cellsOf f.type) := by simp [kinds, pv, List.map_take]
      have e2 : kinds (pv (l.drop (off + P.cellsOf f.type))) = (kinds (pv (l.drop off))).drop (P.cellsOf f.type) := by simp [kinds, pv, List.map_drop, List.drop_drop]
      have e3 : kinds (pv ((l.drop off).take (P.cellsOf f.type))) = expand x := by rw [e1, hl, ← hlx]; simp
      refine ⟨e3, by rw [e2, hl, ← hlx]; simp, ?_, ?_⟩
      · have := congrArg List.length e3
        rw [kinds_len, pv_len, hlx] at this
        exact this
      · simp only [pv, ← List.map_append]
        rw [← List.drop_drop, List.take_append_drop]
    obtain ⟨x1, x2, x3, x4⟩ := split' xs.toList hx
    obtain ⟨y1, y2, y3, y4⟩ := split' ys.toList hy
    obtain ⟨a, p1, p2, p3⟩ := run_part (P := P) hu w x3 (fun h => ⟨htot ▸ hag h, fun v hv => hxs v (List.mem_of_mem_drop (List.mem_of_mem_take hv))⟩)
    obtain ⟨b, q1, q2, q3⟩ := run_part (P := P) hu w y3 (fun h => ⟨htot ▸ hag h, fun v hv => hys v (List.mem_of_mem_drop (List.mem_of_mem_take hv))⟩)
    have he := IH f.type x hkx htot w a b p2 q2 (by rw [p3]; exact x1) (by rw [q3]; exact y1)
    rw [p3, q3] at he
    have hrest := run_eqFields xs ys hxs hys IH hone fs (off + P.cellsOf f.type) y hky x2 y2 w
    rw [x4, y4, eqCs_append (by rw [pv_len, pv_len, x3, y3])]
    simp only [Op.eqFields, hn, ne_eq, not_false_eq_true, if_true, Sem.run_bind, hoff, p1, q1, he, Result.andThen_ok]
    cases eqCs (pv ((xs.toList.drop off).take (P.cellsOf f.type))) (pv ((ys.toList.drop off).take (P.cellsOf f.type)))
    · simp
    · simpa using hrest

theorem run_eqItems {dd : Nat} {e : TypeId} {k : Kd} (xs ys : Array Value) (hxs : ∀ v ∈ xs.toList, v.oneCell' = true) (hys : ∀ v ∈ ys.toList, v.oneCell' = true) (hu : (P.underlying e).isSome) (he : P.cellsOf e = 1) (IH : EqA P dd e [k]) :
    ∀ (m i : Nat), kinds (pv (xs.toList.drop i)) = List.replicate m k → kinds (pv (ys.toList.drop i)) = List.replicate m k → ∀ w, (Op.eqItems dd e (P.cellsOf e) xs ys (List.range' i m)).run P w = .ok (eqCs (pv (xs.toList.drop i)) (pv (ys.toList.drop i))) w
  | 0, i, hx, hy, w => by
    have e1 : xs.toList.drop i = [] := by
      have := congrArg List.length hx
      rw [kinds_len, pv_len] at this
      exact List.length_eq_zero_iff.1 (by simpa using this)
    have e2 : ys.toList.drop i = [] := by
      have := congrArg List.length hy
      rw [kinds_len, pv_len] at this
      exact List.length_eq_zero_iff.1 (by simpa using this)
    rw [e1, e2]
    simp [Op.eqItems, pv, eqCs]
  | m + 1, i, hx, hy, w => by
    have split' : ∀ l : List Value, kinds (pv (l.drop i)) = List.replicate (m + 1) k → kinds (pv ((l.drop i).take 1)) = [k] ∧ kinds (pv (l.drop (i + 1))) = List.replicate m k ∧ ((l.drop i).take 1).length = 1 ∧ pv (l.drop i) = pv ((l.drop i).take 1) ++ pv (l.drop (i + 1)) := fun l hl => by
      have e1 : kinds (pv ((l.drop i).take 1)) = (kinds (pv (l.drop i))).take 1 := by simp [kinds, pv, List.map_take]
      have e2 : kinds (pv (l.drop (i + 1))) = (kinds (pv (l.drop i))).drop 1 := by simp [kinds, pv, List.map_drop, List.drop_drop]
      have e3 : kinds (pv ((l.drop i).take 1)) = [k] := by rw [e1, hl]; simp [List.replicate_succ]
      refine ⟨e3, by rw [e2, hl]; simp [List.replicate_succ], ?_, ?_⟩
      · have := congrArg List.length e3
        rw [kinds_len, pv_len] at this
        exact this
      · simp only [pv, ← List.map_append]
        rw [← List.drop_drop, List.take_append_drop]
    obtain ⟨x1, x2, x3, x4⟩ := split' xs.toList hx
    obtain ⟨y1, y2, y3, y4⟩ := split' ys.toList hy
    obtain ⟨a, p1, p2, p3⟩ := run_part (P := P) hu w (off := i) (xs := xs) (by rw [he]; exact x3) (fun h => ⟨he, fun v hv => hxs v (List.mem_of_mem_drop (List.mem_of_mem_take hv))⟩)
    obtain ⟨b, q1, q2, q3⟩ := run_part (P := P) hu w (off := i) (xs := ys) (by rw [he]; exact y3) (fun h => ⟨he, fun v hv => hys v (List.mem_of_mem_drop (List.mem_of_mem_take hv))⟩)
    rw [he] at p3 q3
    have hq := IH w a b p2 q2 (by rw [p3]; exact x1) (by rw [q3]; exact y1)
    rw [p3, q3] at hq
    have hrest := run_eqItems xs ys hxs hys hu he IH m (i + 1) x2 y2 w
    rw [x4, y4, eqCs_append (by rw [pv_len, pv_len, x3, y3])]
    rw [he] at hrest ⊢
    simp only [List.range'_succ, Op.eqItems, Nat.mul_one, Sem.run_bind, p1, q1, hq, Result.andThen_ok]
    cases eqCs (pv ((xs.toList.drop i).take 1)) (pv ((ys.toList.drop i).take 1))
    · simp
    · simpa using hrest

theorem kinds_one_cell {us : List Value} {K : List Kd} (h : kinds (pv us) = K) (ho : ∀ k ∈ K, k ≠ .o) : ∀ v ∈ us, v.oneCell' = true := fun v hv => by
  refine kind_one (v := v) (ho _ ?_)
  rw [← h]
  simp only [kinds, pv, List.map_map, List.mem_map]
  exact ⟨v, hv, rfl⟩

theorem mem_expand : ∀ {ks : List (Nat × Kd)} {k : Kd}, k ∈ expand ks → ∃ p ∈ ks, p.2 = k
  | [], k, h => by simp [expand] at h
  | (n, k') :: r, k, h => by
    simp only [expand, List.mem_append] at h
    rcases h with h | h
    · split at h
      · simp at h; exact ⟨(n, k'), by simp, h.symm⟩
      · exact ⟨(n, k'), by simp, (List.eq_of_mem_replicate h).symm⟩
    · obtain ⟨p, h1, h2⟩ := mem_expand h; exact ⟨p, by simp [h1], h2⟩

theorem kindsOf_no : ∀ (d : Nat) {t : TypeId} {ks : List (Nat × Kd)}, kindsOf P d t = some ks → ∀ p ∈ ks, p.2 ≠ .o
  | 0, t, ks, h => by simp [kindsOf] at h
  | d + 1, t, ks, h => by
    simp only [kindsOf] at h
    split at h <;> try (cases h; done)
    · cases h; simp
    · cases h; simp
    · cases h; simp
    · split at h <;> try (cases h; done)
      rename_i hk
      split at h <;> cases h
      have := kindsOf_no d hk
      simpa using this
    · split at h <;> try (cases h; done)
      have : ∀ (fs : List Field) (off : Nat) (ks : List (Nat × Kd)), kfs P (kindsOf P d) off fs = some ks → ∀ p ∈ ks, p.2 ≠ .o := by
        intro fs
        induction fs with
        | nil => intro off ks h; simp only [kfs, Option.some.injEq] at h; subst h; simp
        | cons f fs ih =>
          intro off ks h
          simp only [kfs] at h
          split at h <;> try (cases h; done)
          split at h <;> try (cases h; done)
          rename_i x y hx hy
          split at h <;> cases h
          intro p hp
          rcases List.mem_append.1 hp with hp | hp
          · exact kindsOf_no d hx p hp
          · exact ih _ y hy p hp
      exact this _ _ _ h

theorem kindsOf_one : ∀ (d : Nat) {t : TypeId} {ks : List (Nat × Kd)}, kindsOf P d t = some ks → (P.underlying t).isSome ∧ (isAggT P t = false → total ks = 1)
  | 0, t, ks, h => by simp [kindsOf] at h
  | d + 1, t, ks, h => by
    simp only [kindsOf] at h
    split at h <;> try (cases h; done)
    · rename_i hu; cases h; simp [hu, total]
    · rename_i hu; cases h; simp [hu, total]
    · rename_i hu; cases h; simp [hu, total]
    · rename_i hu; simp [hu, isAggT]
    · rename_i hu; simp [hu, isAggT]

theorem eqA : ∀ (d m : Nat) (t : TypeId) (ks : List (Nat × Kd)), kindsOf P d t = some ks → EqA P (m + d) t (expand ks)
  | 0, m, t, ks, h => by simp [kindsOf] at h
  | d + 1, m, t, ks, h => by
    intro w a b ha hb hka hkb
    have hno := kindsOf_no (d + 1) h
    have hon : ∀ k ∈ expand ks, k ≠ .o := fun k hk => by obtain ⟨p, h1, rfl⟩ := mem_expand hk; exact hno p h1
    have hna := kinds_one_cell hka hon
    have hnb := kinds_one_cell hkb hon
    have hsc : isAggT P t = false → ∃ x y, a = x ∧ b = y ∧ a.cells = #[a] ∧ b.cells = #[b] := fun hf => by
      simp only [Fm, hf, Bool.false_eq_true, if_false] at ha hb
      exact ⟨a, b, rfl, rfl, cells_one ha, cells_one hb⟩
    simp only [kindsOf] at h
    split at h <;> try (cases h; done)
    · rename_i k hu
      cases h
      obtain ⟨_, _, _, _, c1, c2⟩ := hsc (by simp [isAggT, hu])
      rw [c1] at hka ⊢
      rw [c2] at hkb ⊢
      simp only [pv, kinds, List.map_cons, List.map_nil, expand, if_true, List.append_nil, List.cons.injEq, and_true] at hka hkb
      cases a <;> simp [kind] at hka
      cases b <;> simp [kind] at hkb
      subst hka; subst hkb
      rw [← Nat.add_assoc, run_equalIn_int w _ _ _ _ _ _ hu]
      simp only [pv, eqCs, eqC, List.map_cons, List.map_nil, Bool.and_true]
      rw [Bool.beq_eq_decide_eq]
    · rename_i hu
      cases h
      obtain ⟨_, _, _, _, c1, c2⟩ := hsc (by simp [isAggT, hu])
      rw [c1] at hka ⊢
      rw [c2] at hkb ⊢
      simp only [pv, kinds, List.map_cons, List.map_nil, expand, if_true, List.append_nil, List.cons.injEq, and_true] at hka hkb
      cases a <;> simp [kind] at hka
      cases b <;> simp [kind] at hkb
      rw [← Nat.add_assoc, run_equalIn_bool' w _ _ _ _ hu]
      simp [pv, eqCs, eqC]
    · rename_i hu
      cases h
      obtain ⟨_, _, _, _, c1, c2⟩ := hsc (by simp [isAggT, hu])
      rw [c1] at hka ⊢
      rw [c2] at hkb ⊢
      simp only [pv, kinds, List.map_cons, List.map_nil, expand, if_true, List.append_nil, List.cons.injEq, and_true] at hka hkb
      cases a <;> simp [kind] at hka
      cases b <;> simp [kind] at hkb
      rw [← Nat.add_assoc, run_equalIn_string w _ _ _ _ hu, beq_str]
      simp [pv, eqCs, eqC]
    · rename_i n e hu
      split at h <;> try (cases h; done)
      rename_i k hk
      split at h <;> cases h
      rename_i hce
      simp only [Fm, isAggT, hu, if_true] at ha hb
      obtain ⟨xs, rfl⟩ := ha
      obtain ⟨ys, rfl⟩ := hb
      change kinds (pv xs.toList) = _ at hka
      change kinds (pv ys.toList) = _ at hkb
      change ∀ v ∈ xs.toList, _ at hna
      change ∀ v ∈ ys.toList, _ at hnb
      show _ = Result.ok (eqCs (pv xs.toList) (pv ys.toList)) w
      have hue := (kindsOf_one d hk).1
      obtain ⟨u', hu'⟩ := Option.isSome_iff_exists.1 hue
      obtain ⟨i, hi, _⟩ := und_info hu'
      have hex : expand [(n, k)] = List.replicate n k := by
        simp only [expand, List.append_nil]
        split
        · rename_i h1; subst h1; rfl
        · rfl
      rw [hex] at hka hkb
      have hIH := eqA d m e _ hk
      simp only [expand, if_true, List.append_nil] at hIH
      rw [← Nat.add_assoc, run_equalIn_array w _ xs ys hu hi]
      have := run_eqItems (P := P) xs ys hna hnb hue hce hIH n 0 (by simpa using hka) (by simpa using hkb) w
      rw [List.range_eq_range']
      simpa using this
    · rename_i fs hu
      split at h <;> try (cases h; done)
      rename_i hst
      simp only [Fm, isAggT, hu, if_true] at ha hb
      obtain ⟨xs, rfl⟩ := ha
      obtain ⟨ys, rfl⟩ := hb
      change kinds (pv xs.toList) = _ at hka
      change kinds (pv ys.toList) = _ at hkb
      change ∀ v ∈ xs.toList, _ at hna
      change ∀ v ∈ ys.toList, _ at hnb
      show _ = Result.ok (eqCs (pv xs.toList) (pv ys.toList)) w
      have hfo : P.fieldsOf t = fs := by simp [Program.fieldsOf, hu]
      rw [← Nat.add_assoc, run_equalIn_struct w _ t xs ys (by rw [hfo]; exact hu) (by simpa using hst), hfo]
      have := run_eqFields (P := P) (d := d) (dd := m + d) xs ys hna hnb (fun t' ks' h1 _ => eqA d m t' ks' h1) (fun t' ks' h1 => kindsOf_one d h1) fs.toList 0 ks h (by simpa using hka) (by simpa using hkb) w
      simpa using this

theorem RCs.pv {w : World} {A : Auth} : ∀ {xs : List CV} {us : List Value}, RCs w A xs us → (∀ k ∈ kinds xs, k ≠ .o) → xs = pv us
  | [], [], _, _ => rfl
  | x :: xs, y :: ys, h, ho => by
    have h1 := RCs.pv h.2 (fun k hk => ho k (by simp only [kinds, List.map_cons, List.mem_cons]; exact .inr hk))
    have h2 := ho (kind x) (by simp [kinds])
    have h3 := h.1
    cases h3 with
    | p v h => simp only [Eng.pv, List.map_cons]; rw [h1]; rfl
    | _ => simp [kind] at h2
  | [], _ :: _, h, _ => h.elim
  | _ :: _, [], h, _ => h.elim

variable {N : Nat} {w0 : World} {A0 R : Auth} {s : St} {a : Act} {w : World} {lam : Nat → Nat} (hr : RelL N w0 A0 R s a w lam)
variable {d : Option Tmp} {ty : TypeId} {pos : String} {af : Array Edge} {gd : Option (Nat × Bool)}

include hr in
theorem eqg_sound (ne : Bool) (bop : BinOp) (hb : bop = if ne then .neq else .eql) {t u' : TypeId} {x y : Operand} {x' y' : O} {v : AV} {ks : List (Nat × Kd)} (hx : opd P t x = some x') (hy : opd P u' y = some y') (hagg : isAggT P t = true) (hg : P.eqGuardType P.depth t = false) (hk : kindsOf P 10 t = some ks)
    (hv : qv (.eqg ne ks x' y') s = some v) : QS P R ⟨d, .binOp bop t x y u', ty, pos, af, gd⟩ a w s lam v := by
  simp only [qv] at hv
  split at hv <;> try (cases hv; done)
  rename_i xs ys h1 h2
  split at hv <;> cases hv
  rename_i hkk
  obtain ⟨hkx, hky⟩ := hkk
  obtain ⟨⟨X, e1, r1⟩, _⟩ := opd_sound hr hx h1
  obtain ⟨⟨Y, e2, r2⟩, _⟩ := opd_sound hr hy h2
  have hno : ∀ k ∈ expand ks, k ≠ .o := fun k hk' => by obtain ⟨p, h1, rfl⟩ := mem_expand hk'; exact kindsOf_no 10 hk p h1
  have p1 := RCs.pv r1 (by rw [hkx]; exact hno)
  have p2 := RCs.pv r2 (by rw [hky]; exact hno)
  subst p1 p2
  have he := eqA (P := P) 10 9990 t ks hk w (.agg X) (.agg Y) (by simp [Fm, hagg]) (by simp [Fm, hagg]) hkx hky
  refine QS.of rfl (u := .bool (if ne then !(eqCs (pv X.toList) (pv Y.toList)) else eqCs (pv X.toList) (pv Y.toList))) ?_ (RC.p _ rfl) (scv_c _)
  rw [e1, e2]
  have he' : (Op.equalIn 10000 t (.agg X) (.agg Y)).run P w = .ok (eqCs (pv X.toList) (pv Y.toList)) w := he
  cases ne <;> subst hb
  · simp only [Sem.run_bind, run_eqGuard_agg w _ t x y X Y hg, Result.andThen_ok, Bool.false_eq_true, if_false, run_eql_struct, he']
  · simp only [Sem.run_bind, run_eqGuard_agg w _ t x y X Y hg, Result.andThen_ok, if_true, run_neq_struct, he']

end
end Go.Eng
