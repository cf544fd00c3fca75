/-
  THE ENGINE, 24: from what is read as data to the small machine's cells. Nothing here speaks of one program.
-/
import Derived.Test.YtmnmbpcbfmhceaaEng25
import Derived.Deep.Slices
import Derived.OpenShut
import Derived.SizedLaws
set_option linter.unusedSimpArgs false
set_option linter.unusedVariables false
namespace Go.Eng
open Go.ChangeShapes Go.WideShapes Go.Deep

/-- What a cell may be: a plain value, or a slice whose elements' cells are so. -/
inductive Sh where
  | i (k : IntKind) | b | s | l (by_ : Nat) (row : List Sh)

mutual
def isSh : Sh → CV → Prop
  | .i k, x => ∃ n, (Lit.int k n).wf = true ∧ x = .p (.int k n)
  | .b, x => ∃ b, x = .p (.bool b)
  | .s, x => ∃ t : ByteArray, t.size ≤ 140737488355328 ∧ x = .p (.string t)
  | .l by_ row, x => ∃ rows, x = .s row.length rows none ∧ rows.length ≤ maxLen ∧ rows.length * by_ ≤ 140737488355328 ∧ ∀ r ∈ rows, isShs row r
def isShs : List Sh → List CV → Prop
  | [], xs => xs = []
  | h :: ss, xs => ∃ x l, xs = x :: l ∧ isSh h x ∧ isShs ss l
end

theorem isShs_len : ∀ {ss : List Sh} {xs : List CV}, isShs ss xs → xs.length = ss.length
  | [], xs, h => by simp only [isShs] at h; subst h; rfl
  | _ :: ss, xs, h => by
    simp only [isShs] at h
    obtain ⟨x, l, rfl, _, h⟩ := h
    simp [isShs_len h]

theorem isShs_append : ∀ {a b : List Sh} {xs ys : List CV}, isShs a xs → isShs b ys → isShs (a ++ b) (xs ++ ys)
  | [], b, xs, ys, h, k => by simp only [isShs] at h; subst h; exact k
  | _ :: a, b, xs, ys, h, k => by
    simp only [isShs] at h
    obtain ⟨x, l, rfl, h1, h2⟩ := h
    exact ⟨x, l ++ ys, rfl, h1, isShs_append h2 k⟩

/-- Behind each other: parts at their places. -/
def shapes (P : Program) : Nat → TypeId → Option (List Sh)
  | 0, _ => none
  | d + 1, t => match P.underlying t with
    | some .bool => some [.b]
    | some (.int k) => some [.i k]
    | some .string => some [.s]
    | some (.slice e) => match shapes P d e with
      | some r => if r.length = P.cellsOf e ∧ 0 < P.cellsOf e then some [.l (P.bytesOf e) r] else none
      | none => none
    | some (.struct fs) => match allM (fun (f : Field) => match shapes P d f.type with
        | some r => if r.length = P.cellsOf f.type then some (f.offset, r) else none
        | none => none) fs.toList with
      | some l => if l.map (·.1) = (l.map (·.2.length)).foldr (fun n acc => 0 :: acc.map (n + ·)) [] ∧ (l.map (·.2)).flatten.length = P.cellsOf t then some (l.map (·.2)).flatten else none
      | none => none
    | some (.array n e) => match shapes P d e with
      | some r => if r.length = P.cellsOf e ∧ n * P.cellsOf e = P.cellsOf t then some (List.replicate n r).flatten else none
      | none => none
    | _ => none

theorem allM_some {α β : Type} {f : α → Option β} : ∀ {l : List α} {r : List β}, allM f l = some r → r.length = l.length ∧ ∀ (i : Nat) (x : α), l[i]? = some x → ∃ y, f x = some y ∧ r[i]? = some y
  | [], r, h => by simp only [allM, Option.some.injEq] at h; subst h; exact ⟨rfl, by simp⟩
  | a :: l, r, h => by
    simp only [allM] at h
    split at h <;> cases h
    rename_i y ys e1 e2
    obtain ⟨h1, h2⟩ := allM_some e2
    refine ⟨by simp [h1], fun i x hx => ?_⟩
    cases i with
    | zero => simp at hx; subst hx; exact ⟨y, e1, by simp⟩
    | succ i => obtain ⟨z, k1, k2⟩ := h2 i x (by simpa using hx); exact ⟨z, k1, by simpa using k2⟩

/-- A row of parts, each at its place. -/
theorem parts_rc {w : World} {A : Auth} : ∀ (rs : List (List Sh)) (cs : List Value), cs.length = rs.flatten.length →
    (∀ (i : Nat) (r : List Sh), rs[i]? = some r → ∃ xs, RCs w A xs ((cs.drop ((rs.take i).flatten.length)).take r.length) ∧ isShs r xs) →
    ∃ xs, RCs w A xs cs ∧ isShs rs.flatten xs
  | [], cs, hl, _ => by
    have : cs = [] := by cases cs with | nil => rfl | cons => simp at hl
    subst this
    exact ⟨[], trivial, rfl⟩
  | r :: rs, cs, hl, h => by
    simp only [List.flatten_cons, List.length_append] at hl
    obtain ⟨xs, h1, h2⟩ := h 0 r (by simp)
    simp only [List.take_zero, List.flatten_nil, List.length_nil, List.drop_zero] at h1
    obtain ⟨ys, h3, h4⟩ := parts_rc rs (cs.drop r.length) (by rw [List.length_drop, hl]; omega) fun i r' hr' => by
      obtain ⟨zs, k1, k2⟩ := h (i + 1) r' (by simpa using hr')
      refine ⟨zs, ?_, k2⟩
      simp only [List.take_succ_cons, List.flatten_cons, List.length_append] at k1
      rw [List.drop_drop]
      exact k1
    refine ⟨xs ++ ys, ?_, isShs_append h2 h4⟩
    have := h1.append h3
    rwa [List.take_append_drop] at this

theorem foldr_offs : ∀ (l : List Nat) (i : Nat), i < l.length → (l.foldr (fun n acc => 0 :: acc.map (n + ·)) [])[i]? = some (l.take i).sum
  | [], i, h => by simp at h
  | n :: l, 0, _ => by simp
  | n :: l, i + 1, h => by
    simp only [List.foldr_cons, List.getElem?_cons_succ, List.getElem?_map, List.take_succ_cons, List.sum_cons]
    rw [foldr_offs l i (by simpa using h)]
    rfl

theorem shs_len (l : List (List Sh)) : l.flatten.length = (l.map List.length).sum := by
  induction l with
  | nil => rfl
  | cons a l ih => simp [ih]

theorem rows_of {α : Type} {p : Nat → α → Prop} : ∀ n : Nat, (∀ i, i < n → ∃ x, p i x) → ∃ l : List α, l.length = n ∧ ∀ i (h : i < l.length), p i l[i]
  | 0, _ => ⟨[], rfl, by simp⟩
  | n + 1, h => by
    obtain ⟨l, h1, h2⟩ := rows_of n fun i hi => h i (by omega)
    obtain ⟨x, hx⟩ := h n (by omega)
    refine ⟨l ++ [x], by simp [h1], fun i hi => ?_⟩
    by_cases e : i < l.length
    · rw [List.getElem_append_left e]; exact h2 i e
    · simp at hi
      have : i = n := by omega
      subst this
      rw [List.getElem_append_right (by omega)]
      simp [h1, hx]

theorem rows_get {α : Type} (e : Nat) : ∀ (rows : List (List α)) (i j : Nat) (h : i < rows.length), (∀ r ∈ rows, r.length = e) → j < e → rows.flatten[i * e + j]? = rows[i][j]?
  | r :: rows, 0, j, _, hr, hj => by
    have : r.length = e := hr r (by simp)
    simp only [List.flatten_cons, Nat.zero_mul, Nat.zero_add, List.getElem_cons_zero]
    rw [List.getElem?_append_left (by omega)]
  | r :: rows, i + 1, j, h, hr, hj => by
    have hl : r.length = e := hr r (by simp)
    simp only [List.flatten_cons, List.getElem_cons_succ]
    rw [List.getElem?_append_right (by rw [hl, Nat.succ_mul]; omega), hl, show (i + 1) * e + j - e = i * e + j by rw [Nat.succ_mul]; omega]
    exact rows_get e rows i j (by simpa using h) (fun r hr' => hr r (by simp [hr'])) hj
  | [], i, j, h, _, _ => by simp at h

section
variable {H : Type} {enc : TypeId × Value → H} {P : Program} {w : World} {base : Nat} {spare : Nat → Bool} {held : Bool}

theorem cell_lt {w : World} {b o : Nat} {v : Value} (h : w.cell? ⟨b, o, none⟩ = some v) : b < w.heap.size := by
  unfold World.cell? at h
  cases hb : w.heap[b]? with
  | none => rw [hb] at h; simp at h
  | some o => exact lt_of_heap hb

theorem add_add (a : Addr) (x y : Nat) : (a.add x).add y = a.add (x + y) := by
  unfold Addr.add
  by_cases hx : x = 0
  · subst hx; simp
  · by_cases hy : y = 0
    · subst hy; simp [hx]
    · simp [hx, hy, show x + y ≠ 0 by omega, Nat.add_assoc]
theorem mem_wAll {e : TypeId} {q : Nat} : ∀ {l : List (DataW H)} {d : DataW H}, q ∈ d.weights P e → d ∈ l → q ∈ DataW.weightsAll P e l
  | a :: l, d, hq, hd => by
    rw [DataW.weightsAll, List.mem_append]
    rcases List.mem_cons.1 hd with rfl | hd
    · exact .inl hq
    · exact .inr (mem_wAll hq hd)
  | [], _, _, hd => by cases hd
theorem mem_wEach {q : Nat} : ∀ {ts : List TypeId} {l : List (DataW H)} {t : TypeId} {d : DataW H}, q ∈ d.weights P t → ∀ i : Nat, ts[i]? = some t → l[i]? = some d → q ∈ DataW.weightsEach P ts l
  | t' :: ts, a :: l, t, d, hq, 0, h1, h2 => by
    simp at h1 h2; subst h1; subst h2
    rw [DataW.weightsEach, List.mem_append]; exact .inl hq
  | t' :: ts, a :: l, t, d, hq, i + 1, h1, h2 => by
    rw [DataW.weightsEach, List.mem_append]; exact .inr (mem_wEach hq i (by simpa using h1) (by simpa using h2))
  | [], _, _, _, _, i, h1, _ => by simp at h1
  | _ :: _, [], _, _, _, i, _, h2 => by simp at h2

/-- What is read as data is met by cells of the small machine. -/
theorem trod_rc : ∀ (d : Nat) (t : TypeId) (ss : List Sh) (fuel : Nat) (cs : List Value) (x : DataW H × List MemPlace), shapes P d t = some ss → DataW.trod enc P w base spare held fuel t cs = some x → (∀ n ∈ x.1.weights P t, n ≤ reachBytes) →
    ∃ xs, RCs w (fun _ _ => False) xs cs ∧ isShs ss xs
  | 0, _, _, _, _, _, h, _, _ => by simp [shapes] at h
  | d + 1, t, ss, fuel, cs, x, h, ht, hwt => by
    simp only [shapes] at h
    split at h
    · rename_i hu; cases h
      obtain ⟨b, rfl, rfl⟩ := DataW.trod_bool hu ht
      exact ⟨[.p (.bool b)], ⟨.p _ rfl, trivial⟩, _, _, rfl, ⟨b, rfl⟩, rfl⟩
    · rename_i k hu; cases h
      obtain ⟨n, rfl, rfl, hw⟩ := DataW.trod_int hu ht
      exact ⟨[.p (.int k n)], ⟨.p _ rfl, trivial⟩, _, _, rfl, ⟨n, hw, rfl⟩, rfl⟩
    · rename_i hu; cases h
      obtain ⟨s, rfl, rfl, hs⟩ := DataW.trod_string hu ht
      exact ⟨[.p (.string s)], ⟨.p _ rfl, trivial⟩, _, _, rfl, ⟨s, by
        have := hwt s.data.toList.length (by simp [DataW.weights])
        have e : s.data.toList.length = s.size := Array.length_toList
        unfold reachBytes at this
        omega, rfl⟩, rfl⟩
    · rename_i e hu
      split at h <;> (try cases h; done)
      rename_i r hr
      split at h <;> (try cases h; done)
      rename_i hc
      cases h
      rcases open_slice hu ht with ⟨rfl, rfl⟩ | ⟨a, len, cap, m, n, D, Pl, rfl, hb, hl, hm, hmm, rfl, hi⟩
      · exact ⟨[.s r.length [] none], ⟨.s0 _ _ _, trivial⟩, _, _, rfl, ⟨[], rfl, by simp, by simp, by simp⟩, rfl⟩
      · have hml : len ≤ m := by rw [hmm]; split <;> omega
        have hbytes : len * P.bytesOf e ≤ 140737488355328 := by
          have h1 := hwt (len + (m - len) |> (· * P.bytesOf e)) (by simp [DataW.weights, hu])
          unfold reachBytes at h1
          have h2 : len * P.bytesOf e ≤ (len + (m - len)) * P.bytesOf e := Nat.mul_le_mul_right _ (by omega)
          have h3 : (len + (m - len)) * P.bytesOf e ≤ 140737488351232 := h1
          omega
        obtain ⟨rows, hrl, hrow⟩ := rows_of (p := fun i xs => ∃ cs', w.cells? base (a.add (i * P.cellsOf e)) (P.cellsOf e) = some cs' ∧ RCs w (fun _ _ => False) xs cs' ∧ isShs r xs) len fun i hi' => by
          obtain ⟨cs', h1, h2⟩ := hi i (by omega)
          obtain ⟨xs, k1, k2⟩ := trod_rc d e r n cs' (D i, Pl i) hr h2 (fun q hq => hwt q (by
            simp only [DataW.weights, hu, List.mem_cons, List.mem_append]
            exact .inr (.inl (mem_wAll hq (List.mem_map.2 ⟨i, List.mem_range.2 (by omega), rfl⟩)))))
          exact ⟨xs, cs', h1, k1, k2⟩
        have hre : ∀ x ∈ rows, x.length = r.length := fun x hx => by
          obtain ⟨i, hi', rfl⟩ := List.getElem_of_mem hx
          obtain ⟨cs', _, _, k⟩ := hrow i hi'
          exact isShs_len k
        refine ⟨[.s r.length rows none], ⟨?_, trivial⟩, _, _, rfl, ⟨rows, rfl, by omega, by rw [hrl]; exact hbytes, fun x hx => by
          obtain ⟨i, hi', rfl⟩ := List.getElem_of_mem hx
          obtain ⟨cs', _, _, k⟩ := hrow i hi'
          exact k⟩, rfl⟩
        by_cases h0 : rows = []
        · subst h0
          simp at hrl
          subst hrl
          exact .s0 _ _ _
        · have hpos : 0 < len := by rw [← hrl]; exact List.length_pos_iff.2 h0
          have hflat : rows.flatten.length = len * r.length := by
            rw [← hrl]
            clear h0 hrl hrow
            induction rows with
            | nil => simp
            | cons x rows ih =>
              simp only [List.flatten_cons, List.length_append, List.length_cons, Nat.succ_mul]
              rw [ih fun y hy => hre y (by simp [hy]), hre x (by simp)]
              omega
          have hcell : ∀ k, k < len * r.length → ∃ u, w.cell? (a.add k) = some u ∧ ∃ x, rows.flatten[k]? = some x ∧ RC w (fun _ _ => False) x u := fun k hk => by
            have hr0 : 0 < r.length := by omega
            have hdiv : k / r.length < len := (Nat.div_lt_iff_lt_mul hr0).2 hk
            have hmod : k % r.length < r.length := Nat.mod_lt _ hr0
            obtain ⟨cs', h1, h2, h3⟩ := hrow (k / r.length) (by omega)
            obtain ⟨_, hcl, hat⟩ := World.cells?_some h1
            have hk' := hat (k % r.length) (by omega)
            have e1 : (a.add (k / r.length * P.cellsOf e)).add (k % r.length) = a.add k := by
              rw [add_add, ← hc.1]
              congr 1
              rw [Nat.mul_comm]
              exact Nat.div_add_mod k r.length
            rw [e1] at hk'
            have hlx := isShs_len h3
            have hg := h2.get (k % r.length) (by omega) (by omega)
            rw [List.getElem?_eq_getElem (by omega)] at hk'
            refine ⟨_, hk', _, ?_, hg⟩
            have hf := rows_get r.length rows (k / r.length) (k % r.length) (by omega) hre hmod
            rw [show k / r.length * r.length + k % r.length = k by rw [Nat.mul_comm]; exact Nat.div_add_mod k r.length] at hf
            rw [hf, List.getElem?_eq_getElem (by omega)]
          obtain ⟨b, o, sp⟩ := a
          have hspot : sp = none := by
            obtain ⟨u, hu', _⟩ := hcell 0 (Nat.mul_pos hpos (by omega))
            cases sp with
            | none => rfl
            | some q =>
              exfalso
              simp only [World.cell?, Addr.add, if_true] at hu'
              split at hu' <;> simp at hu'
          subst hspot
          have hcell' : ∀ k, k < len * r.length → ∃ u, w.cell? ⟨b, o + k, none⟩ = some u ∧ ∃ x, rows.flatten[k]? = some x ∧ RC w (fun _ _ => False) x u := fun k hk => by
            have := hcell k hk; rwa [add_none] at this
          obtain ⟨U, hU⟩ : ∃ U : Nat → Value, ∀ k, k < len * r.length → w.cell? ⟨b, o + k, none⟩ = some (U k) ∧ ∃ x, rows.flatten[k]? = some x ∧ RC w (fun _ _ => False) x (U k) := by
            refine ⟨fun k => (w.cell? ⟨b, o + k, none⟩).getD default, fun k hk => ?_⟩
            obtain ⟨u, h1, h2⟩ := hcell' k hk
            show _ = some ((w.cell? ⟨b, o + k, none⟩).getD default) ∧ ∃ x, _ ∧ RC w _ x ((w.cell? ⟨b, o + k, none⟩).getD default)
            rw [h1]
            exact ⟨rfl, h2⟩
          have hb' : b < w.heap.size := cell_lt (hU 0 (Nat.mul_pos hpos (by omega))).1
          have hfl : len = rows.length := hrl.symm
          subst hfl
          refine .s r.length rows none b o cap U h0 hb' (by omega) hre (fun i hi' => ⟨(hU i hi').1, fun h => h⟩) (fun i hi' => ?_) (fun t ht => by cases ht)
          obtain ⟨x, hx, hrx⟩ := (hU i (by omega)).2
          rw [List.getElem?_eq_getElem hi'] at hx
          cases hx
          exact hrx
    · rename_i fs hu
      split at h <;> (try cases h; done)
      rename_i l hl
      split at h <;> (try cases h; done)
      rename_i hoff
      cases h
      obtain ⟨xs, n, _, rfl, hlen, hxl, hf⟩ := DataW.trod_struct hu ht
      obtain ⟨hll, hlg⟩ := allM_some hl
      refine parts_rc (l.map (·.2)) cs (by rw [hlen]; exact hoff.2.symm) fun i r hr => ?_
      rw [List.getElem?_map] at hr
      obtain ⟨⟨off, r'⟩, hli, rfl⟩ := Option.map_eq_some_iff.1 hr
      have hil : i < l.length := (List.getElem?_eq_some_iff.1 hli).1
      have hfi : i < fs.toList.length := by omega
      obtain ⟨y, hy, hly⟩ := hlg i fs.toList[i] (List.getElem?_eq_getElem hfi)
      rw [hli] at hly
      cases hly
      split at hy <;> (try cases hy; done)
      rename_i r2 hr2
      split at hy <;> (try cases hy; done)
      rename_i hr2l
      cases hy
      have hfs : fs[i]? = some fs.toList[i] := by
        rw [← Array.getElem?_toList, List.getElem?_eq_getElem hfi]
      have ht' := hf i fs.toList[i] hfs
      have hxi : i < xs.length := by rw [hxl]; simpa using hfi
      rw [List.getElem?_eq_getElem hxi] at ht'
      have ho : fs.toList[i].offset = ((l.map (·.2)).take i).flatten.length := by
        have h1 := congrArg (fun z => z[i]?) hoff.1
        simp only [List.getElem?_map, hli, Option.map_some] at h1
        rw [foldr_offs _ i (by simpa using hil)] at h1
        rw [shs_len, ← List.map_take, List.map_map]
        have h2 := Option.some.inj h1
        rw [h2, List.map_take]
        rfl
      rw [← ho]
      show ∃ xs, RCs w _ xs ((cs.drop fs.toList[i].offset).take r'.length) ∧ isShs r' xs
      rw [hr2l]
      refine trod_rc d _ r' n _ _ hr2 ht' (fun q hq => hwt q ?_)
      simp only [DataW.weights, hu]
      exact mem_wEach hq i (by rw [List.getElem?_map, List.getElem?_eq_getElem hfi]; rfl) (by rw [List.getElem?_map, List.getElem?_eq_getElem hxi]; rfl)
    · rename_i n e hu
      split at h <;> (try cases h; done)
      rename_i r hr
      split at h <;> (try cases h; done)
      rename_i hc
      cases h
      obtain ⟨xs, m, _, rfl, hlen, hxl, hf⟩ := DataW.trod_array hu ht
      have hflat : ∀ k : Nat, (List.replicate k r).flatten.length = k * r.length := fun k => by
        rw [shs_len]; simp
      refine parts_rc (List.replicate n r) cs (by rw [hflat, hc.1, hlen]; exact hc.2.symm) fun i r' hr' => ?_
      rw [List.getElem?_replicate] at hr'
      split at hr' <;> cases hr'
      rename_i hi
      have ht' := hf i hi
      rw [List.getElem?_eq_getElem (by omega)] at ht'
      rw [List.take_replicate, hflat, Nat.min_eq_left (by omega), hc.1]
      refine trod_rc d _ r m _ _ hr ht' (fun q hq => hwt q ?_)
      simp only [DataW.weights, hu]
      exact mem_wAll hq (List.mem_map.2 ⟨_, List.getElem_mem _, rfl⟩)
    · cases h
end

end Go.Eng
