/-
  THE ENGINE, 19: regions, in the written order and in a drawn one. Nothing here speaks of one program.
-/
import Derived.Test.YtmnmbpcbfmhceaaEng18
import Derived.Orders
set_option linter.unusedSimpArgs false
set_option linter.unusedVariables false
namespace Go.Eng

section
variable {P : Program} {N : Nat} {w0 : World} {A0 R : Auth} {s : St} {a : Act} {w : World} {lam : Nat → Nat} (hr : RelL N w0 A0 R s a w lam)
variable {K : St → Prop} {K' : Act → World → Prop} {Q : Exit → Act → World → Prop} {ci : CI} {ops : Array Oper}

theorem cao_spec {o : Oper} {x : AO} (h : cao P ci ops o = some x) : x.d = o.dst ∧ cop P ci ops o = some x.op ∧ cguard ops o.guard = some x.g ∧ o.dst.isSome = needsDst x.op ∧ (∀ d, o.dst = some d → d < ci.nt) := by
  unfold cao at h
  split at h <;> (try cases h; done)
  rename_i op g h1 h2
  split at h <;> cases h
  rename_i hc
  refine ⟨rfl, h1, h2, hc.1, fun d hd => ?_⟩
  have := hc.2
  rw [hd] at this
  simpa using this

include hr in
theorem yielded_sound_b {j t : Nat} {c : Bool} (hj : (ops[j]?).bind (·.dst) = some t) (ht : s.env t = some (.c (.p (.bool c)))) : yielded ops a.tmps j = some c := by
  obtain ⟨h1, h2⟩ := hr.env t _ ht
  have h3 := RA.p h2
  have hlt : t < a.tmps.size := by rw [hr.size]; exact h1
  unfold yielded
  rw [hj]
  simp only [Option.bind_some]
  have : a.tmps[t]? = some (.bool c) := by
    rw [Array.getElem?_eq_getElem hlt]
    rw [← Array.getElem_eq_getD (h := hlt)] at h3
    rw [h3]
  rw [this]

include hr in
theorem yielded_sound_u {j t : Nat} (hj : (ops[j]?).bind (·.dst) = some t) (ht : s.env t = some (.t [])) : yielded ops a.tmps j = none := by
  obtain ⟨h1, arr, h2, h3⟩ := hr.env t _ ht
  have hlt : t < a.tmps.size := by rw [hr.size]; exact h1
  unfold yielded
  rw [hj]
  simp only [Option.bind_some]
  have : a.tmps[t]? = some (.tuple arr) := by
    rw [Array.getElem?_eq_getElem hlt]
    rw [← Array.getElem_eq_getD (h := hlt)] at h2
    rw [h2]
  rw [this]
include hr in
theorem yielded_sound {j t : Nat} {c : Option Bool} (hj : (ops[j]?).bind (·.dst) = some t) (ht : gv (s.env t) = some c) : yielded ops a.tmps j = c := by
  unfold gv at ht
  split at ht
  · rename_i h; cases ht; exact yielded_sound_b hr hj h
  · rename_i h; cases ht; exact yielded_sound_u hr hj h
  · cases ht

/-- One operation of a region. -/
theorem step_sound {o : Oper} {x : AO} (hN : ci.nt = N) (hr : Rel N w0 A0 R s a w) (hc : cao P ci ops o = some x) (hk : ∀ s' a' w', Rel N w0 A0 R s' a' w' → K s' → K' a' w') (h : step P x s K) :
    if Region.wanted o (yielded ops a.tmps) then o.wp P a w K' Q else K' (a.put o.dst undef) w := by
  subst hN
  obtain ⟨lam, hr⟩ := hr
  obtain ⟨h1, h2, h3, h4, h5⟩ := cao_spec hc
  obtain ⟨d, g, op⟩ := x
  simp only at h1 h2 h3 h4
  subst h1
  cases hg : o.guard with
  | none =>
    rw [hg] at h3
    simp only [cguard, Option.some.injEq] at h3
    subst h3
    have hw : Region.wanted o (yielded ops a.tmps) = true := by simp [Region.wanted, hg]
    rw [if_pos hw]
    exact act_sound hr h2 h4 h5 hk h
  | some jb =>
    obtain ⟨j, b⟩ := jb
    rw [hg] at h3
    simp only [cguard] at h3
    split at h3 <;> cases h3
    rename_i t hj
    simp only [step] at h
    split at h
    · rename_i c ht
      have hy := yielded_sound hr hj ht
      have hw : Region.wanted o (yielded ops a.tmps) = (c == some b) := by simp [Region.wanted, hg, hy]
      split at h
      · rename_i e
        subst e
        rw [hw, if_pos (by simp)]
        exact act_sound hr h2 h4 h5 hk h
      · rename_i e
        rw [hw, if_neg (by simpa using e)]
        refine hk _ _ _ ⟨lam, ?_⟩ h
        cases hd : o.dst with
        | none => exact hr
        | some dd => exact hr.put (h5 dd hd) ⟨#[], rfl, trivial⟩ (fun d hx => by simp [refs] at hx)
    · exact h.elim

/-- The operations of a region, one behind the other. -/
def steps (P : Program) : List AO → (St → Prop) → St → Prop
  | [], K, s => K s
  | x :: l, K, s => step P x s (steps P l K)

theorem allM_at {α β : Type} {f : α → Option β} : ∀ {l : List α} {m : List β}, allM f l = some m → ∀ i : Nat, (∀ x, l[i]? = some x → ∃ y, m[i]? = some y ∧ f x = some y) ∧ (l[i]? = none → m[i]? = none)
  | [], m, h, i => by simp only [allM, Option.some.injEq] at h; subst h; simp
  | x :: l, m, h, i => by
    simp only [allM] at h
    split at h <;> cases h
    rename_i y ys h1 h2
    cases i with
    | zero => simp [h1]
    | succ i => simpa using allM_at h2 i

theorem allM_len {α β : Type} {f : α → Option β} : ∀ {l : List α} {m : List β}, allM f l = some m → l.length = m.length
  | [], m, h => by simp only [allM, Option.some.injEq] at h; subst h; rfl
  | x :: l, m, h => by
    simp only [allM] at h
    split at h <;> cases h
    rename_i y ys h1 h2
    simp [allM_len h2]

/-- A region in its written order. -/
theorem wpOps_sound (hN : ci.nt = N) {l : List AO} (hl : allM (cao P ci ops) ops.toList = some l) (hk : ∀ s' a' w', Rel N w0 A0 R s' a' w' → K s' → Q .normal a' w') :
    ∀ (k n : Nat) (s : St) (a : Act) (w : World), k + n = ops.size → Rel N w0 A0 R s a w → steps P (l.drop k) K s → wpOps P ops Q (List.range' k n) a w
  | k, 0, s, a, w, e, hr, h => by
    have hlen := allM_len hl
    have : l.drop k = [] := by apply List.drop_eq_nil_of_le; rw [← hlen]; simp at e ⊢; omega
    rw [this] at h
    simp only [List.range'_zero, wpOps]
    exact hk _ _ _ hr h
  | k, n + 1, s, a, w, e, hr, h => by
    have hlen := allM_len hl
    have hlt : k < ops.size := by omega
    have hlt' : k < l.length := by rw [← hlen]; simpa using hlt
    obtain ⟨y, hy, hc⟩ := (allM_at hl k).1 ops[k] (by simp [hlt])
    have hd : l.drop k = y :: l.drop (k + 1) := by
      rw [List.drop_eq_getElem_cons hlt']
      congr 1
      rw [List.getElem?_eq_getElem hlt'] at hy
      exact Option.some.inj hy
    rw [hd] at h
    have := step_sound (K' := wpOps P ops Q (List.range' (k + 1) n)) (Q := Q) hN hr hc (fun s' a' w' hr' h' => wpOps_sound hN hl hk (k + 1) n s' a' w' (by omega) hr' h') h
    simp only [List.range'_succ, wpOps, Array.getElem?_eq_getElem hlt]
    split
    · rename_i hw; rw [if_pos hw] at this; exact .inl this
    · rename_i hw; rw [if_neg hw] at this; exact this

/-! ### A drawn order -/

/-- Whatever order is drawn, of the small machine. -/
def aAny (P : Program) (l : List AO) (ops : Array Oper) (K : St → Prop) : Nat → Array Bool → St → Prop
  | 0, listed, s => Region.ready .any ops listed = [] ∧ K s
  | fuel + 1, listed, s => (Region.ready .any ops listed = [] → K s) ∧ ∀ i ∈ Region.ready .any ops listed, ∀ x, l[i]? = some x → step P x s (aAny P l ops K fuel (listed.setIfInBounds i true))

theorem aAny_sound (hN : ci.nt = N) {l : List AO} (hl : allM (cao P ci ops) ops.toList = some l) (hk : ∀ s' a' w', Rel N w0 A0 R s' a' w' → K s' → Q .normal a' w') :
    ∀ (fuel : Nat) (listed : Array Bool) (s : St) (a : Act) (w : World), Rel N w0 A0 R s a w → aAny P l ops K fuel listed s → wpAny P .any ops Q fuel listed a w
  | 0, listed, s, a, w, hr, h => ⟨h.1, hk _ _ _ hr h.2⟩
  | fuel + 1, listed, s, a, w, hr, h => by
    refine ⟨fun h0 => hk _ _ _ hr (h.1 h0), fun i hi => ?_⟩
    unfold wpOp
    cases ho : ops[i]? with
    | none =>
      have := (mem_ready.1 hi).2
      rw [ho] at this
      obtain ⟨o, h1, _⟩ := this
      cases h1
    | some o =>
      obtain ⟨x, hx, hc⟩ := (allM_at hl i).1 o (by simpa using ho)
      have := step_sound (K' := wpAny P .any ops Q fuel (listed.setIfInBounds i true)) (Q := Q) hN hr hc (fun s' a' w' hr' h' => aAny_sound hN hl hk fuel _ s' a' w' hr' h') (h.2 i hi x hx)
      simp only
      split
      · rename_i hw; rw [if_pos hw] at this; exact .inl this
      · rename_i hw; rw [if_neg hw] at this; exact this

/-- What is done, as a list and as flags. -/
def Done (ops : Array Oper) (done : List Nat) (listed : Array Bool) : Prop := listed.size = ops.size ∧ ∀ i, i < ops.size → (listed.getD i true = true ↔ i ∈ done)

theorem Done.false {done : List Nat} {listed : Array Bool} (h : Done ops done listed) {i : Nat} : listed.getD i false = true ↔ i < ops.size ∧ i ∈ done := by
  constructor
  · intro h1
    have hlt : i < ops.size := by
      rcases Nat.lt_or_ge i listed.size with h' | h'
      · rw [← h.1]; exact h'
      · simp [Array.getElem?_eq_none h'] at h1
    refine ⟨hlt, (h.2 i hlt).1 ?_⟩
    have : i < listed.size := by rw [h.1]; exact hlt
    simpa [this] using h1
  · rintro ⟨hlt, h1⟩
    have h2 := (h.2 i hlt).2 h1
    have : i < listed.size := by rw [h.1]; exact hlt
    simpa [this] using h2

theorem Done.set {done : List Nat} {listed : Array Bool} (h : Done ops done listed) {i : Nat} (hi : i < ops.size) : Done ops (i :: done) (listed.setIfInBounds i true) := by
  refine ⟨by simpa using h.1, fun j hj => ?_⟩
  have hil : i < listed.size := by rw [h.1]; exact hi
  by_cases e : i = j
  · subst e; simp [hil]
  · rw [getD_set_ne true e, h.2 j hj]; simp [Ne.symm e]

theorem pre_get (ops : Array Oper) (i : Nat) : (ops.toList.map preOf)[i]? = (ops[i]?).map preOf := by simp

theorem binds_pre (o : Oper) (P' : Nat → Prop) : (∀ e ∈ o.after, Region.binds .any e = true → P' e.on) ↔ ∀ j ∈ preOf o, P' j := by
  simp only [preOf, List.mem_map, List.mem_filter, Array.mem_toList_iff]
  constructor
  · rintro h j ⟨e, ⟨h1, h2⟩, rfl⟩
    refine h e h1 ?_
    unfold Region.binds
    split at h2 <;> first | (cases h2; done) | skip
    split <;> simp_all
  · intro h e he hb
    refine h e.on ⟨e, ⟨he, ?_⟩, rfl⟩
    unfold Region.binds at hb
    split <;> simp_all

theorem rdy_iff {done : List Nat} {listed : Array Bool} (h : Done ops done listed) (hdone : ∀ j ∈ done, j < ops.size) {i : Nat} : i ∈ Region.ready .any ops listed ↔ rdy (ops.toList.map preOf) done i = true := by
  rw [mem_ready]
  simp only [rdy, pre_get, Bool.and_eq_true, Bool.not_eq_true']
  cases ho : ops[i]? with
  | none => simp
  | some o =>
    have hlt : i < ops.size := (Array.getElem?_eq_some_iff.1 ho).1
    have h1 : listed.getD i true = false ↔ done.contains i = false := by
      have := h.2 i hlt
      cases hx : listed.getD i true <;> cases hy : done.contains i <;> simp_all
    rw [h1]
    simp only [Option.some.injEq, exists_eq_left', Option.map_some]
    rw [binds_pre o (fun j => listed.getD j false = true)]
    simp only [List.all_eq_true, List.contains_eq_mem, decide_eq_true_eq]
    constructor
    · rintro ⟨h2, h3⟩
      exact ⟨h2, fun j hj => (h.false.1 (h3 j hj)).2⟩
    · rintro ⟨h2, h3⟩
      exact ⟨h2, fun j hj => h.false.2 ⟨hdone j (h3 j hj), h3 j hj⟩⟩

theorem pigeon : ∀ (n : Nat) (l : List Nat), l.Nodup → (∀ x ∈ l, x < n) → l.length ≤ n
  | 0, l, _, h => by
    cases l with
    | nil => simp
    | cons x l => exact absurd (h x (by simp)) (by omega)
  | n + 1, l, hn, h => by
    by_cases hm : n ∈ l
    · have h1 := pigeon n (l.erase n) (hn.erase n) (fun x hx => by
        have := hn.mem_erase_iff.1 hx
        have := h x this.2
        omega)
      rw [List.length_erase_of_mem hm] at h1
      omega
    · have := pigeon n l hn (fun x hx => by
        have h1 := h x hx
        have : x ≠ n := fun e => hm (e ▸ hx)
        omega)
      omega

theorem aAny_first {l : List AO} {i : Nat} {x : AO} (hx : l[i]? = some x) (T : List Nat) (hT : ∀ j ∈ T, j = i ∨ ∀ o, ops[j]? = some o → ∃ e ∈ o.after, Region.binds .any e = true ∧ e.on ∈ T) :
    ∀ (fuel : Nat) (done : List Nat) (listed : Array Bool) (s : St), Done ops done listed → done.Nodup → (∀ j ∈ done, j < ops.size) → done.length + (fuel + 1) = ops.size → (∀ j ∈ T, listed.getD j false = false) →
      (∀ j y, l[j]? = some y → j ∉ T → listed.getD j true = false → swapOK x y = true) → i ∈ T →
      i ∈ Region.ready .any ops listed → step P x s (aAny P l ops K fuel (listed.setIfInBounds i true)) → aAny P l ops K (fuel + 1) listed s
  | 0, done, listed, s, hd, hnd, hlt, hn, hun, hfree, hiT, hi, h => by
    refine ⟨fun h0 => (by rw [h0] at hi; cases hi), fun j hj y hy => ?_⟩
    by_cases hji : j = i
    · subst hji; rw [hx] at hy; cases hy; exact h
    · exfalso
      have hnot : ∀ k, k ∈ Region.ready .any ops listed → k < ops.size ∧ k ∉ done := fun k hk => by
        obtain ⟨h1, o, h2, _⟩ := mem_ready.1 hk
        have hks := (Array.getElem?_eq_some_iff.1 h2).1
        refine ⟨hks, fun hm => ?_⟩
        have := (hd.2 k hks).2 hm
        rw [h1] at this
        cases this
      have hi' := hnot i hi
      have hj' := hnot j hj
      have := pigeon ops.size (j :: i :: done) (by simp [hji, hi'.2, hj'.2, hnd]) (by
        intro z hz
        simp only [List.mem_cons] at hz
        rcases hz with rfl | rfl | hz
        · exact hj'.1
        · exact hi'.1
        · exact hlt z hz)
      simp only [List.length_cons] at this
      omega
  | fuel + 1, done, listed, s, hd, hnd, hlt, hn, hun, hfree, hiT, hi, h => by
    refine ⟨fun h0 => (by rw [h0] at hi; cases hi), fun j hj y hy => ?_⟩
    by_cases hji : j = i
    · subst hji; rw [hx] at hy; cases hy; exact h
    · have hj1 := ready_mono hj hji
      have hjT : j ∉ T := fun hm => by
        obtain ⟨h0, o, ho, hall⟩ := mem_ready.1 hj
        rcases hT j hm with e | e
        · exact hji e
        · obtain ⟨ed, he, hb, hon⟩ := e o ho
          have h2 := hall ed he hb
          have h3 := hun ed.on hon
          rw [h2] at h3
          cases h3
      obtain ⟨hjun, o, hjo, _⟩ := mem_ready.1 hj
      have hjs := (Array.getElem?_eq_some_iff.1 hjo).1
      have hjd : j ∉ done := fun hm => by
        have := (hd.2 j hjs).2 hm
        rw [hjun] at this
        cases this
      have h2 : step P x s (fun s1 => step P y s1 (aAny P l ops K fuel ((listed.setIfInBounds i true).setIfInBounds j true))) := step_mono (fun s1 h3 => h3.2 j hj1 y hy) h
      refine step_mono (fun s2 h3 => ?_) (swap (hfree j y hy hjT hjun) h2)
      refine aAny_first hx T hT fuel (j :: done) (listed.setIfInBounds j true) s2 (hd.set hjs) (by simp [hjd, hnd]) (fun z hz => ?_) (by simp only [List.length_cons]; omega) (fun k hk => ?_) (fun k z hz hkT hun' => ?_) hiT (ready_mono hi (Ne.symm hji)) ?_
      · rcases List.mem_cons.1 hz with rfl | hz
        · exact hjs
        · exact hlt z hz
      · have : j ≠ k := fun e => hjT (e ▸ hk)
        rw [getD_set_ne false this]; exact hun k hk
      · refine hfree k z hz hkT ?_
        by_cases e : j = k
        · subst e; exact hjun
        · rw [getD_set_ne true e] at hun'; exact hun'
      · rw [Array.setIfInBounds_comm _ _ hji]
        exact h3

theorem aAny_done {l : List AO} {listed : Array Bool} (hr : Region.ready .any ops listed = []) {s : St} (h : K s) : ∀ fuel, aAny P l ops K fuel listed s
  | 0 => ⟨hr, h⟩
  | _ + 1 => ⟨fun _ => h, by rw [hr]; simp⟩

/-- What may come first. -/
theorem aAny_take {l : List AO} (hlen : l.length = ops.size) {i : Nat} {x : AO} {done : List Nat} {listed : Array Bool} {s : St} {f : Nat} (hd : Done ops done listed) (hnd : done.Nodup) (hlt : ∀ j ∈ done, j < ops.size) (hn : done.length + (f + 1) = ops.size)
    (hx : l[i]? = some x) (hf : okFirst l (ops.toList.map preOf) done i = true) (hrest : step P x s (aAny P l ops K f (listed.setIfInBounds i true))) : aAny P l ops K (f + 1) listed s := by
  simp only [okFirst, hx, Bool.and_eq_true] at hf
  obtain ⟨hrd, hf⟩ := hf
  have hi := (rdy_iff hd hlt).2 hrd
  split at hf
  · simp only [Bool.and_eq_true] at hf
    obtain ⟨hT, hsw⟩ := hf
    simp only [okT, List.all_eq_true, Bool.and_eq_true, Bool.not_eq_true', Bool.or_eq_true, beq_iff_eq] at hT
    by_cases hiT : i ∈ behind (ops.toList.map preOf) i
    · refine aAny_first hx (behind (ops.toList.map preOf) i) (fun j hj => ?_) f done listed s hd hnd hlt hn (fun j hj => ?_) (fun j y hy hjT hjun => ?_) hiT hi hrest
      · rcases (hT j hj).2 with e | e
        · exact .inl e
        · refine .inr fun o' ho' => ?_
          rw [pre_get, ho'] at e
          simp only [Option.map_some, List.any_eq_true, List.contains_eq_mem, decide_eq_true_eq] at e
          obtain ⟨k, hk, hkT⟩ := e
          by_cases hx : ∃ e ∈ o'.after, Region.binds .any e = true ∧ e.on ∈ behind (ops.toList.map preOf) i
          · exact hx
          · have := (binds_pre o' (fun j => j ∉ behind (ops.toList.map preOf) i)).1 (fun e he hb hm => hx ⟨e, he, hb, hm⟩) k hk
            exact absurd hkT this
      · have := (hT j hj).1
        cases hv : listed.getD j false
        · rfl
        · have := (hd.false.1 hv).2
          simp_all
      · have hjs : j < ops.size := by rw [← hlen]; exact (List.getElem?_eq_some_iff.1 hy).1
        have := List.all_eq_true.1 hsw j (by rw [List.mem_range, hlen]; exact hjs)
        rw [hy] at this
        simp only [Bool.or_eq_true, List.contains_eq_mem, decide_eq_true_eq] at this
        rcases this with (h1 | h1) | h1
        · have := (hd.2 j hjs).2 h1
          rw [hjun] at this
          cases this
        · exact absurd h1 hjT
        · exact h1
    · exfalso
      apply hiT
      unfold behind
      have : ∀ (L : List Nat) (T : List Nat), i ∈ T → i ∈ L.foldl (fun T j => if (match (ops.toList.map preOf)[j]? with | some p => p.any T.contains | none => false) = true then j :: T else T) T := by
        intro L
        induction L with
        | nil => exact fun T h => h
        | cons z L ih =>
          intro T h
          simp only [List.foldl_cons]
          apply ih
          repeat' split
          all_goals first
            | exact List.mem_cons_of_mem _ h
            | exact h
            | (rename_i hx _; simp at hx)
      exact this _ _ (by simp)
  · refine ⟨fun h0 => (by rw [h0] at hi; cases hi), fun j hj y hy => ?_⟩
    have hjs : j < ops.size := by rw [← hlen]; exact (List.getElem?_eq_some_iff.1 hy).1
    have := List.all_eq_true.1 hf j (by rw [List.mem_range, hlen]; exact hjs)
    rw [(rdy_iff hd hlt).1 hj] at this
    simp only [Bool.not_true, Bool.or_false, beq_iff_eq] at this
    subst this
    rw [hx] at hy
    cases hy
    exact hrest

/-- A good order as far as it goes. -/
theorem aAny_prefix {l : List AO} (hlen : l.length = ops.size) {K1 : St → Prop} : ∀ (c : List Nat) (m : List AO) (done : List Nat) (listed : Array Bool) (s : St) (fuel : Nat), Done ops done listed → done.Nodup → (∀ j ∈ done, j < ops.size) → done.length + fuel = ops.size →
    allM (fun i => l[i]?) c = some m → okPrefix l (ops.toList.map preOf) done c = true →
    (∀ (listed' : Array Bool) (fuel' : Nat) (s' : St), Done ops (c.reverse ++ done) listed' → (c.reverse ++ done).Nodup → (∀ j ∈ c.reverse ++ done, j < ops.size) → (c.reverse ++ done).length + fuel' = ops.size → K1 s' → aAny P l ops K fuel' listed' s') →
    steps P m K1 s → aAny P l ops K fuel listed s
  | [], m, done, listed, s, fuel, hd, hnd, hlt, hn, hm, hok, hend, h => by
    simp only [allM, Option.some.injEq] at hm
    subst hm
    exact hend listed fuel s hd hnd hlt hn h
  | i :: c, m, done, listed, s, fuel, hd, hnd, hlt, hn, hm, hok, hend, h => by
    simp only [allM] at hm
    split at hm <;> cases hm
    rename_i x m' hx hm'
    simp only [okPrefix, Bool.and_eq_true] at hok
    obtain ⟨hf, hok⟩ := hok
    have hff := hf
    simp only [okFirst, hx, Bool.and_eq_true] at hf
    obtain ⟨hrd, hf⟩ := hf
    have hi := (rdy_iff hd hlt).2 hrd
    obtain ⟨hun, o, ho, _⟩ := mem_ready.1 hi
    have his := (Array.getElem?_eq_some_iff.1 ho).1
    have hid : i ∉ done := fun hmm => by
      have := (hd.2 i his).2 hmm
      rw [hun] at this
      cases this
    have hlt' : ∀ z ∈ i :: done, z < ops.size := fun z hz => by
      rcases List.mem_cons.1 hz with rfl | hz
      · exact his
      · exact hlt z hz
    have hfuel : ∃ f, fuel = f + 1 := by
      cases fuel with
      | succ f => exact ⟨f, rfl⟩
      | zero =>
        exfalso
        have := pigeon ops.size (i :: done) (by simp [hid, hnd]) hlt'
        simp only [List.length_cons] at this
        omega
    obtain ⟨f, rfl⟩ := hfuel
    have hrest : step P x s (aAny P l ops K f (listed.setIfInBounds i true)) :=
      step_mono (fun s' h' => aAny_prefix hlen c m' (i :: done) (listed.setIfInBounds i true) s' f (hd.set his) (by simp [hid, hnd]) hlt' (by simp only [List.length_cons]; omega) hm' hok
        (fun listed' fuel' s2 h1 h2 h3 h4 h5 => hend listed' fuel' s2 (by simpa using h1) (by simpa using h2) (by simpa using h3) (by simpa using h4) h5) h') h
    exact aAny_take hlen hd hnd hlt hn hx hff hrest

theorem allOrders_ne {l : List AO} {pres : List (List Nat)} : ∀ (fuel : Nat) (done : List Nat), allOrders l pres fuel done ≠ []
  | 0, _ => by simp [allOrders]
  | fuel + 1, done => by
    simp only [allOrders]
    split
    · rename_i i _
      have := allOrders_ne (l := l) (pres := pres) fuel (i :: done)
      simpa using this
    · split
      · simp
      · rename_i hr
        cases hl : (List.range l.length).filter (rdy pres done) with
        | nil => rw [hl] at hr; exact absurd rfl hr
        | cons i is =>
          obtain ⟨o, ho⟩ := List.exists_mem_of_ne_nil _ (allOrders_ne (l := l) (pres := pres) fuel (i :: done))
          intro e
          have : i :: o ∈ (i :: is).flatMap fun i => (allOrders l pres fuel (i :: done)).map (i :: ·) := List.mem_flatMap.2 ⟨i, by simp, List.mem_map.2 ⟨o, ho, rfl⟩⟩
          rw [e] at this
          cases this

/-- All orders, one by one. -/
theorem aAny_all {l : List AO} (hlen : l.length = ops.size) : ∀ (fuel : Nat) (done : List Nat) (listed : Array Bool) (s : St), Done ops done listed → done.Nodup → (∀ j ∈ done, j < ops.size) → done.length + fuel = ops.size →
    (∀ i x, l[i]? = some x → i ∉ done → firm x.op = true) →
    (∀ o ∈ allOrders l (ops.toList.map preOf) fuel done, ∃ m, allM (fun i => l[i]?) o = some m ∧ steps P m K s) → aAny P l ops K fuel listed s
  | 0, done, listed, s, hd, hnd, hlt, hn, hfirm, h => by
    obtain ⟨m, h1, h2⟩ := h [] (by simp [allOrders])
    simp only [allM, Option.some.injEq] at h1
    subst h1
    refine ⟨?_, h2⟩
    apply List.eq_nil_iff_forall_not_mem.2
    intro i hi
    obtain ⟨hun, o, ho, _⟩ := mem_ready.1 hi
    have his := (Array.getElem?_eq_some_iff.1 ho).1
    have hid : i ∉ done := fun hmm => by
      have := (hd.2 i his).2 hmm
      rw [hun] at this
      cases this
    have := pigeon ops.size (i :: done) (by simp [hid, hnd]) (fun z hz => by
      rcases List.mem_cons.1 hz with rfl | hz
      · exact his
      · exact hlt z hz)
    simp only [List.length_cons] at this
    omega
  | fuel + 1, done, listed, s, hd, hnd, hlt, hn, hfirm, h => by
    have hmem : ∀ i, i ∈ Region.ready .any ops listed → i ∈ (List.range l.length).filter (rdy (ops.toList.map preOf) done) := fun i hi => by
      obtain ⟨_, o, ho, _⟩ := mem_ready.1 hi
      rw [List.mem_filter, List.mem_range, hlen]
      exact ⟨(Array.getElem?_eq_some_iff.1 ho).1, (rdy_iff hd hlt).1 hi⟩
    have common : ∀ i x, l[i]? = some x → rdy (ops.toList.map preOf) done i = true → (∀ o' ∈ allOrders l (ops.toList.map preOf) fuel (i :: done), ∃ m, allM (fun i => l[i]?) (i :: o') = some m ∧ steps P m K s) → step P x s (aAny P l ops K fuel (listed.setIfInBounds i true)) := fun i x hx hrd h => by
      have hi := (rdy_iff hd hlt).2 hrd
      obtain ⟨hun, o, ho, _⟩ := mem_ready.1 hi
      have his := (Array.getElem?_eq_some_iff.1 ho).1
      have hid : i ∉ done := fun hmm => by
        have := (hd.2 i his).2 hmm
        rw [hun] at this
        cases this
      have hall : ∀ o' ∈ allOrders l (ops.toList.map preOf) fuel (i :: done), step P x s (fun s' => ∃ m, allM (fun i => l[i]?) o' = some m ∧ steps P m K s') := fun o' ho' => by
        obtain ⟨m, h1, h2⟩ := h o' ho'
        simp only [allM, hx] at h1
        split at h1 <;> cases h1
        rename_i y m' hy hm'
        cases hy
        exact step_mono (fun s' h' => ⟨m', hm', h'⟩) h2
      refine step_mono (fun s' h' => ?_) (step_all (hfirm i x hx hid) (allOrders_ne fuel (i :: done)) hall)
      refine aAny_all hlen fuel (i :: done) (listed.setIfInBounds i true) s' (hd.set his) (by simp [hid, hnd]) (fun z hz => ?_) (by simp only [List.length_cons]; omega) (fun j y hy hjd => hfirm j y hy (fun e => hjd (List.mem_cons_of_mem _ e))) h'
      rcases List.mem_cons.1 hz with rfl | hz
      · exact his
      · exact hlt z hz
    simp only [allOrders] at h
    split at h
    · rename_i i hfind
      have hok := List.find?_some hfind
      have hrd : rdy (ops.toList.map preOf) done i = true := by
        simp only [okFirst, Bool.and_eq_true] at hok
        exact hok.1
      have hil : i < l.length := List.mem_range.1 (List.mem_of_find?_eq_some hfind)
      refine aAny_take hlen hd hnd hlt hn (List.getElem?_eq_getElem hil) hok (common i _ (List.getElem?_eq_getElem hil) hrd fun o' ho' => h (i :: o') (List.mem_map.2 ⟨o', ho', rfl⟩))
    · split at h
      · rename_i hr
        obtain ⟨m, h1, h2⟩ := h [] (by simp)
        simp only [allM, Option.some.injEq] at h1
        subst h1
        refine aAny_done ?_ h2 _
        apply List.eq_nil_iff_forall_not_mem.2
        intro i hi
        have := hmem i hi
        rw [List.isEmpty_iff.1 hr] at this
        cases this
      · rename_i hr
        refine ⟨fun h0 => ?_, fun i hi x hx => ?_⟩
        · exfalso
          apply hr
          rw [List.isEmpty_iff]
          apply List.eq_nil_iff_forall_not_mem.2
          intro i hi
          have := (rdy_iff hd hlt).2 (List.mem_filter.1 hi).2
          rw [h0] at this
          cases this
        · exact common i x hx ((rdy_iff hd hlt).1 hi) fun o' ho' => h (i :: o') (List.mem_flatMap.2 ⟨i, hmem i hi, List.mem_map.2 ⟨o', ho', rfl⟩⟩)

theorem allM_mem {α β : Type} {f : α → Option β} : ∀ {l : List α} {m : List β}, allM f l = some m → ∀ x ∈ l, ∃ y ∈ m, f x = some y
  | [], m, h, x, hx => by cases hx
  | z :: l, m, h, x, hx => by
    simp only [allM] at h
    split at h <;> cases h
    rename_i y ys h1 h2
    rcases List.mem_cons.1 hx with rfl | hx
    · exact ⟨y, by simp, h1⟩
    · obtain ⟨u', h3, h4⟩ := allM_mem h2 x hx
      exact ⟨u', by simp [h3], h4⟩

/-- A drawn order. -/
theorem draw_sound {l m : List AO} {ms : List (List AO)} {id : Nat} (hm : P.follows .mixedOrders = true) (hN : ci.nt = N) (hl : allM (cao P ci ops) ops.toList = some l) (ho : order l (ops.toList.map preOf) = some (m, ms)) (hr : Rel N w0 A0 R s a w) (hk : ∀ s' a' w', Rel N w0 A0 R s' a' w' → K s' → Q .normal a' w')
    (h : steps P m (fun s' => ∀ e ∈ ms, steps P e K s') s) : (Code.region id ops true).wp P Q a w := by
  simp only [order] at ho
  split at ho <;> (try cases ho; done)
  rename_i hok
  simp only [Bool.and_eq_true] at hok
  obtain ⟨⟨⟨hok, hpl⟩, _⟩, hfirm⟩ := hok
  split at ho <;> cases ho
  rename_i hm' hms
  have hlen : l.length = ops.size := by rw [← allM_len hl]; simp
  refine wp_region_any hm ?_
  have hr' : Rel N w0 A0 R s a { w with drawn := w.drawn + 1 } := let ⟨lam, hr⟩ := hr; ⟨lam, hr.grow (Grow.drew w)⟩
  refine aAny_sound hN hl hk ops.size _ s a _ hr' ?_
  have hcl := allM_len hm'
  refine aAny_prefix hlen (canon l (ops.toList.map preOf) l.length []) m [] (Array.replicate ops.size false) s ops.size ⟨by simp, fun i hi => by simp [hi]⟩ (by simp) (by simp) (by simp) hm' hok (fun listed' fuel' s' h1 h2 h3 h4 h5 => ?_) h
  rw [List.append_nil] at h1 h2 h3 h4
  have hfu : l.length - (canon l (ops.toList.map preOf) l.length []).length = fuel' := by
    rw [List.length_reverse] at h4; omega
  refine aAny_all hlen fuel' _ listed' s' h1 h2 h3 h4 (fun i x hx hi => ?_) (fun o ho' => ?_)
  · have := List.all_eq_true.1 hfirm i (by rw [List.mem_range]; exact (List.getElem?_eq_some_iff.1 hx).1)
    rw [hx] at this
    simp only [Bool.or_eq_true, List.contains_eq_mem, decide_eq_true_eq] at this
    rcases this with h6 | h6
    · exact absurd (List.mem_reverse.2 h6) hi
    · exact h6
  · rw [hfu] at hms
    obtain ⟨e, he, hme⟩ := allM_mem hms o ho'
    exact ⟨e, hme, h5 e he⟩

/-- A region. -/
theorem reg_sound {id : Nat} {draw : Bool} {m : List AO} (hm : P.follows .mixedOrders = true) (hN : ci.nt = N) (hc : cc P ci (.region id ops draw) = some (.reg m)) (hr : Rel N w0 A0 R s a w) (hk : ∀ s' a' w', Rel N w0 A0 R s' a' w' → K s' → Q .normal a' w')
    (h : steps P m K s) : (Code.region id ops draw).wp P Q a w := by
  simp only [cc] at hc
  split at hc <;> (try cases hc; done)
  rename_i l hl
  cases draw with
  | false =>
    simp only [Bool.false_eq_true, if_false, Option.some.injEq, AC.reg.injEq] at hc
    subst hc
    refine wp_region ?_
    rw [List.range_eq_range']
    exact wpOps_sound (K := K) (Q := Q) hN hl hk 0 ops.size s a w (by simp) hr (by simpa using h)
  | true =>
    simp only [if_true] at hc
    split at hc <;> cases hc
    rename_i ho
    exact draw_sound hm hN hl ho hr hk (by
      have : (fun s' => ∀ e ∈ [([] : List AO)], steps P e K s') = K := by
        funext s'; simp [steps]
      rw [this]; exact h)

theorem alt_sound {id : Nat} {draw : Bool} {m : List AO} {ms : List (List AO)} (hm : P.follows .mixedOrders = true) (hN : ci.nt = N) (hc : cc P ci (.region id ops draw) = some (.alt m ms)) (hr : Rel N w0 A0 R s a w) (hk : ∀ s' a' w', Rel N w0 A0 R s' a' w' → K s' → Q .normal a' w')
    (h : steps P m (fun s' => ∀ e ∈ ms, steps P e K s') s) : (Code.region id ops draw).wp P Q a w := by
  simp only [cc] at hc
  split at hc <;> (try cases hc; done)
  rename_i l hl
  cases draw with
  | false => simp at hc
  | true =>
    simp only [if_true] at hc
    split at hc <;> cases hc
    rename_i ho
    exact draw_sound hm hN hl ho hr hk h

end
end Go.Eng
