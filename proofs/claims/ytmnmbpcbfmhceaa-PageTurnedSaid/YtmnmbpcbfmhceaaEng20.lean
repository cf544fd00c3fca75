/-
  THE ENGINE, 20: code; functions. Nothing here speaks of one program.
-/
import Derived.Test.YtmnmbpcbfmhceaaEng19
set_option linter.unusedSimpArgs false
set_option linter.unusedVariables false
namespace Go.Eng

/-- How a piece of code ends. -/
inductive AX where | n | x (id : Nat) | r

def toE : AX → Exit
  | .n => .normal
  | .x id => .exit id
  | .r => .ret

/-- Code, run in a state, ends so. -/
def AR (P : Program) (N : Nat) (c : AC) (Q : AX → St → Prop) (s : St) : Prop :=
  ∀ (ci : CI) (code : Code), ci.nt = N → cc P ci code = some c → P.follows .mixedOrders = true → ∀ (w0 : World) (A0 R : Auth) (a : Act) (w : World) (QQ : Exit → Act → World → Prop), Rel N w0 A0 R s a w →
    (∀ e s' a' w', Rel N w0 A0 R s' a' w' → Q e s' → QQ (toE e) a' w') → code.wp P QQ a w

def thn (K : St → Prop) (Q : AX → St → Prop) : AX → St → Prop
  | .n, s => K s
  | e, s => Q e s
def blk (id : Nat) (Q : AX → St → Prop) : AX → St → Prop
  | .x id', s => if id' = id then Q .n s else Q (.x id') s
  | e, s => Q e s

/-- What may be forgotten. -/
def Wk (N : Nat) (s s' : St) : Prop := ∀ (w0 : World) (A0 R : Auth) (a : Act) (w : World), Rel N w0 A0 R s a w → Rel N w0 A0 R s' a w

theorem Wk.refl (N : Nat) (s : St) : Wk N s s := fun _ _ _ _ _ h => h

section
variable {P : Program} {N : Nat} {Q Q' : AX → St → Prop} {s s' : St}

theorem AR.wk {c : AC} (hw : Wk N s s') (h : AR P N c Q s') : AR P N c Q s :=
  fun ci code h1 h2 h3 w0 A0 R a w QQ hr hk => h ci code h1 h2 h3 w0 A0 R a w QQ (hw _ _ _ _ _ hr) hk

theorem AR.mono {c : AC} (hq : ∀ e s, Q e s → Q' e s) (h : AR P N c Q s) : AR P N c Q' s :=
  fun ci code h1 h2 h3 w0 A0 R a w QQ hr hk => h ci code h1 h2 h3 w0 A0 R a w QQ hr fun e s' a' w' hr' h' => hk e s' a' w' hr' (hq e s' h')

theorem AR.skip (h : Q .n s) : AR P N .skip Q s := fun ci code h1 h2 h3 w0 A0 R a w QQ hr hk => by
  cases code <;> simp only [cc] at h2 <;> (try (cases h2; done)) <;> (try (repeat' (split at h2)) <;> (try simp at h2) <;> done)
  exact wp_skip (hk .n s a w hr h)

theorem AR.exit {id : Nat} (h : Q (.x id) s) : AR P N (.exit id) Q s := fun ci code h1 h2 h3 w0 A0 R a w QQ hr hk => by
  cases code <;> simp only [cc] at h2 <;> (try (cases h2; done)) <;> (try (repeat' (split at h2)) <;> (try simp at h2) <;> done)
  cases h2
  exact wp_exit (hk (.x id) s a w hr h)

theorem AR.ret (h : Q .r s) : AR P N .ret Q s := fun ci code h1 h2 h3 w0 A0 R a w QQ hr hk => by
  cases code <;> simp only [cc] at h2 <;> (try (cases h2; done)) <;> (try (repeat' (split at h2)) <;> (try simp at h2) <;> done)
  exact wp_ret (hk .r s a w hr h)

theorem AR.reg {m : List AO} (h : steps P m (Q .n) s) : AR P N (.reg m) Q s := fun ci code h1 h2 h3 w0 A0 R a w QQ hr hk => by
  cases code <;> (try (simp only [cc] at h2; done)) <;> (try (simp only [cc] at h2; cases h2; done)) <;> (try (simp only [cc] at h2; (repeat' (split at h2)) <;> (try simp at h2) <;> done))
  exact reg_sound (K := Q .n) h3 h1 h2 hr (fun s' a' w' hr' h' => hk .n s' a' w' hr' h') h

theorem AR.alt {m : List AO} {ms : List (List AO)} (h : steps P m (fun s' => ∀ e ∈ ms, steps P e (Q .n) s') s) : AR P N (.alt m ms) Q s := fun ci code h1 h2 h3 w0 A0 R a w QQ hr hk => by
  cases code <;> (try (simp only [cc] at h2; done)) <;> (try (simp only [cc] at h2; cases h2; done)) <;> (try (simp only [cc] at h2; (repeat' (split at h2)) <;> (try simp at h2) <;> done))
  exact alt_sound (K := Q .n) h3 h1 h2 hr (fun s' a' w' hr' h' => hk .n s' a' w' hr' h') h

theorem AR.seq {x y : AC} (h : AR P N x (thn (AR P N y Q) Q) s) : AR P N (.seq x y) Q s := fun ci code h1 h2 h3 w0 A0 R a w QQ hr hk => by
  cases code <;> simp only [cc] at h2 <;> (try (cases h2; done)) <;> (try (repeat' (split at h2)) <;> (try simp at h2) <;> done)
  rename_i cx cy
  split at h2 <;> cases h2
  rename_i e1 e2
  refine wp_seq (h ci cx h1 e1 h3 w0 A0 R a w _ hr fun e s' a' w' hr' h' => ?_)
  cases e with
  | n => exact h' ci cy h1 e2 h3 w0 A0 R a' w' QQ hr' hk
  | x id => exact hk (.x id) s' a' w' hr' h'
  | r => exact hk .r s' a' w' hr' h'

theorem AR.cond {c : O} {x y : AC} {b : Bool} (hc : ev s.env c = some (B b)) (ht : b = true → AR P N x Q s) (hf : b = false → AR P N y Q s) : AR P N (.cond c x y) Q s := fun ci code h1 h2 h3 w0 A0 R a w QQ hr hk => by
  cases code <;> simp only [cc] at h2 <;> (try (cases h2; done)) <;> (try (repeat' (split at h2)) <;> (try simp at h2) <;> done)
  rename_i cc' cx cy
  split at h2 <;> cases h2
  rename_i e0 e1 e2
  obtain ⟨lam, hrl⟩ := hr
  have hv := RA.bool (opd_sound hrl e0 hc).1
  refine wp_cond hv ?_
  cases b with
  | true => exact ht rfl ci cx h1 e1 h3 w0 A0 R a w QQ ⟨lam, hrl⟩ hk
  | false => exact hf rfl ci cy h1 e2 h3 w0 A0 R a w QQ ⟨lam, hrl⟩ hk

theorem AR.block {id : Nat} {x : AC} (h : AR P N x (blk id Q) s) : AR P N (.block id x) Q s := fun ci code h1 h2 h3 w0 A0 R a w QQ hr hk => by
  cases code <;> simp only [cc] at h2 <;> (try (cases h2; done)) <;> (try (repeat' (split at h2)) <;> (try simp at h2) <;> done)
  simp only [Option.map_eq_some_iff, AC.block.injEq] at h2
  obtain ⟨c, e1, rfl, rfl⟩ := h2
  refine wp_block (h ci _ h1 e1 h3 w0 A0 R a w _ hr fun e s' a' w' hr' h' => ?_)
  cases e with
  | n => exact hk .n s' a' w' hr' h'
  | x id' =>
    simp only [toE, Exit.inBlock]
    simp only [blk] at h'
    split
    · rename_i e; rw [if_pos e] at h'; exact hk .n s' a' w' hr' h'
    · rename_i e; rw [if_neg e] at h'; exact hk (.x id') s' a' w' hr' h'
  | r => exact hk .r s' a' w' hr' h'

theorem least {p : Nat → Prop} : ∀ n, p n → ∃ m, p m ∧ ∀ k, p k → m ≤ k := by
  intro n
  induction n using Nat.strongRecOn with
  | _ n ih =>
    intro h
    by_cases hx : ∃ k, k < n ∧ p k
    · obtain ⟨k, hk, hp⟩ := hx; exact ih k hk hp
    · exact ⟨n, h, fun k hk => by
        rcases Nat.lt_or_ge k n with h1 | h1
        · exact absurd ⟨k, h1, hk⟩ hx
        · exact h1⟩

open Classical in
noncomputable def leastOf (p : Nat → Prop) : Nat := if h : ∃ m, p m ∧ ∀ k, p k → m ≤ k then Classical.choose h else 0

theorem leastOf_spec {p : Nat → Prop} {n : Nat} (h : p n) : p (leastOf p) ∧ ∀ k, p k → leastOf p ≤ k := by
  have hx := least n h
  unfold leastOf
  rw [dif_pos hx]
  exact Classical.choose_spec hx

/-- A loop, by an invariant with a count that falls; at the end of a round something may be forgotten. -/
theorem AR.loop {x : AC} (I : Nat → St → Prop) {n : Nat} (h0 : I n s) (hrun : ∀ n s, I n s → AR P N x (thn (fun s1 => ∃ s2 m, Wk N s1 s2 ∧ m < n ∧ I m s2) Q) s) : AR P N (.loop x) Q s := fun ci code h1 h2 h3 w0 A0 R a w QQ hr hk => by
  cases code <;> simp only [cc] at h2 <;> (try (cases h2; done)) <;> (try (repeat' (split at h2)) <;> (try simp at h2) <;> done)
  simp only [Option.map_eq_some_iff, AC.loop.injEq] at h2
  obtain ⟨c, e1, rfl⟩ := h2
  refine wp_loop (fun a w => ∃ n s, Rel N w0 A0 R s a w ∧ I n s) (fun a w => leastOf fun n => ∃ s, Rel N w0 A0 R s a w ∧ I n s) ⟨n, s, hr, h0⟩ fun a w ⟨n, s, hr, hI⟩ => ?_
  obtain ⟨⟨s1, hr1, hI1⟩, hmin⟩ := leastOf_spec (p := fun n => ∃ s, Rel N w0 A0 R s a w ∧ I n s) ⟨s, hr, hI⟩
  refine hrun _ s1 hI1 ci _ h1 e1 h3 w0 A0 R a w _ hr1 fun e s' a' w' hr' h' => ?_
  cases e with
  | n =>
    obtain ⟨s2, m, hw, hm, hI2⟩ := h'
    have hr2 := hw _ _ _ _ _ hr'
    refine ⟨⟨m, s2, hr2, hI2⟩, Nat.lt_of_le_of_lt ?_ hm⟩
    exact (leastOf_spec (p := fun n => ∃ s, Rel N w0 A0 R s a' w' ∧ I n s) ⟨s2, hr2, hI2⟩).2 m ⟨s2, hr2, hI2⟩
  | x id => exact hk (.x id) s' a' w' hr' h'
  | r => exact hk .r s' a' w' hr' h'

/-! ### Functions -/

def rv1 (s : St) : Rv → Option AV
  | .t n => s.env n
  | .c n sz => match s.env n with
    | some (.lp d o) => qv (.ld sz (.k (.lp d o))) s
    | _ => none

def rvs (s : St) : List Rv → Option (List AV)
  | [] => some []
  | r :: l => match rv1 s r, rvs s l with
    | some v, some vs => some (v :: vs)
    | _, _ => none

def resV (s : St) (l : List Rv) : Option AV :=
  match rvs s l with
  | some [v] => some v
  | some vs => some (.t vs)
  | none => none

def num : Nat → List AV → List (Nat × AV)
  | _, [] => []
  | k, v :: l => (k, v) :: num (k + 1) l

theorem mk_num : ∀ (l : List AV) (k x : Nat), mk (num k l) x = if k ≤ x then l[x - k]? else none
  | [], k, x => by simp [num, mk]
  | v :: l, k, x => by
    simp only [num, mk]
    by_cases h : x = k
    · subst h; simp
    · rw [if_neg h, mk_num l (k + 1) x]
      by_cases h1 : k ≤ x
      · have h2 : k + 1 ≤ x := by omega
        have h3 : x - k = x - (k + 1) + 1 := by omega
        rw [if_pos h1, if_pos h2, h3]; simp
      · rw [if_neg h1, if_neg (by omega)]

theorem RAcs.len {w : World} {A : Auth} : ∀ {xs : List AV} {us : List Value}, RAcs w A xs us → xs.length = us.length
  | [], [], _ => rfl
  | _ :: _, _ :: _, h => by simp [RAcs.len h.2]
  | [], _ :: _, h => h.elim
  | _ :: _, [], h => h.elim

theorem RAcs.at {w : World} {A : Auth} : ∀ {xs : List AV} {us : List Value}, RAcs w A xs us → ∀ (i : Nat) (v : AV), xs[i]? = some v → ∃ u, us[i]? = some u ∧ RA1 w A (fun _ => 0) v u
  | x :: xs, y :: ys, h, 0, v, hv => by simp at hv; subst hv; exact ⟨y, by simp, h.1⟩
  | x :: xs, y :: ys, h, i + 1, v, hv => by simpa using RAcs.at h.2 i v (by simpa using hv)
  | [], _, _, i, v, hv => by simp at hv
  | _ :: _, [], h, _, _, _ => h.elim

theorem refs_arg {v : AV} (h : okArg v = true) (d : Nat) : refs d v = false := by
  cases v with
  | c x => rfl
  | g x => rfl
  | f f caps =>
    cases caps with
    | nil => rfl
    | cons c l => simp [okArg, plain1] at h
  | _ => simp [okArg, plain1] at h

theorem RA_of_1 {w : World} {A : Auth} {lam : Nat → Nat} {v : AV} {u : Value} (h : RA1 w A lam v u) : RA w A lam v u := by
  cases v <;> first | exact h | exact h.elim

theorem RA1_of {w : World} {A : Auth} {lam : Nat → Nat} {v : AV} {u : Value} (hp : plain1 v = true) (h : RA w A lam v u) : RA1 w A lam v u := by
  cases v <;> first | exact h | (simp [plain1] at hp)

/-- One result. -/
def resOf (tmps : Array Value) : ResultVar → Sem Value
  | .tmp t => pure (tmps.getD t undef)
  | .cell a t => do loadVar t (← asAddr (tmps.getD a undef))

def okRes (P : Program) : ResultVar → Bool
  | .cell _ t => (P.underlying t).isSome
  | _ => true

theorem rv_sound {w0 w : World} {A0 R : Auth} {a : Act} {lam : Nat → Nat} (hr : RelL N w0 A0 R s a w lam) {r : ResultVar} {v : AV} (hu : okRes P r = true) (h : rv1 s (cres P r) = some v) :
    ∃ u, (resOf a.tmps r).run P w = .ok u w ∧ RA w (auth R s lam) lam v u := by
  cases r with
  | tmp t => exact ⟨_, rfl, (hr.env t v h).2⟩
  | cell x t =>
    simp only [cres, rv1] at h
    split at h <;> try (cases h; done)
    rename_i d o hx
    have hp : a.tmps.getD x undef = .pointer (some ⟨lam d, o, none⟩) := (hr.env x _ hx).2
    simp only [qv, ev] at h
    split at h <;> try (cases h; done)
    rename_i cs hcs
    split at h <;> try (cases h; done)
    rename_i hle
    obtain ⟨U, u1, u2, u3⟩ := row_cells (hr.loc _ _ hcs) hle
    obtain ⟨u, r1, r2, _, r3⟩ := load_sound (lam := lam) hu u1 u2 u3 h
    refine ⟨u, ?_, r2⟩
    simp only [resOf, hp]
    simpa [asAddr] using r1

theorem rvs_sound {w0 w : World} {A0 R : Auth} {a : Act} {lam : Nat → Nat} (hr : RelL N w0 A0 R s a w lam) : ∀ {l : List ResultVar} {vs : List AV}, l.all (okRes P) = true → rvs s (l.map (cres P)) = some vs →
    ∃ us : List Value, (l.mapM (resOf a.tmps)).run P w = .ok us w ∧ us.length = vs.length ∧ ∀ (i : Nat) (v : AV), vs[i]? = some v → ∃ u, us[i]? = some u ∧ RA w (auth R s lam) lam v u
  | [], vs, _, h => by
    simp only [List.map_nil, rvs, Option.some.injEq] at h
    subst h
    exact ⟨[], rfl, rfl, by simp⟩
  | r :: l, vs, hu, h => by
    simp only [List.map_cons, rvs] at h
    split at h <;> cases h
    rename_i v vs e1 e2
    simp only [List.all_cons, Bool.and_eq_true] at hu
    obtain ⟨p, h1, h2⟩ := rv_sound (P := P) hr hu.1 e1
    obtain ⟨us, k1, k2, k3⟩ := rvs_sound hr hu.2 e2
    refine ⟨p :: us, ?_, by simp [k2], fun i v' hv' => ?_⟩
    · simp [List.mapM_cons, Sem.run_bind, h1, k1]
    · cases i with
      | zero => simp at hv'; subst hv'; exact ⟨p, by simp, h2⟩
      | succ i => simpa using k3 i v' (by simpa using hv')

theorem res_sound {fn : Func} {w0 w : World} {A0 R : Auth} {a : Act} {lam : Nat → Nat} (hr : RelL N w0 A0 R s a w lam) {v : AV} (hu : fn.results.toList.all (okRes P) = true) (h : resV s (fn.results.toList.map (cres P)) = some v) (hp : plainV v = true) :
    ∃ u, (results fn a.tmps).run P w = .ok u w ∧ RA w (auth R s lam) lam v u := by
  simp only [resV] at h
  have key : ∀ vs, rvs s (fn.results.toList.map (cres P)) = some vs → ∃ us : List Value, (fn.results.mapM (resOf a.tmps)).run P w = .ok us.toArray w ∧ us.length = vs.length ∧ ∀ (i : Nat) (v : AV), vs[i]? = some v → ∃ u, us[i]? = some u ∧ RA w (auth R s lam) lam v u := fun vs hv => by
    obtain ⟨us, h1, h2, h3⟩ := rvs_sound hr hu hv
    refine ⟨us, ?_, h2, h3⟩
    rw [Array.mapM_eq_mapM_toList]
    simp [Sem.run_bind, h1]
  have hres : ∀ us : List Value, (fn.results.mapM (resOf a.tmps)).run P w = .ok us.toArray w → (results fn a.tmps).run P w = .ok (if h : us.toArray.size = 1 then us.toArray[0] else .tuple us.toArray) w := fun us hu' => by
    have : results fn a.tmps = (do let vs ← fn.results.mapM (resOf a.tmps); pure (if h : vs.size = 1 then vs[0] else .tuple vs)) := rfl
    rw [this]
    simp [Sem.run_bind, hu']
  split at h
  · rename_i v1 hv
    cases h
    obtain ⟨us, h1, h2, h3⟩ := key _ hv
    obtain ⟨p, h4, h5⟩ := h3 0 v (by simp)
    refine ⟨p, ?_, h5⟩
    rw [hres us h1]
    match us, h2, h4 with
    | [x], _, h4 => simp at h4; subst h4; rfl
  · rename_i vs hne hv
    cases h
    obtain ⟨us, h1, h2, h3⟩ := key _ hv
    refine ⟨.tuple us.toArray, ?_, us.toArray, rfl, ?_⟩
    · rw [hres us h1]
      have hn : ¬ us.toArray.size = 1 := by
        simp only [List.size_toArray, h2]
        intro e
        match vs, e with
        | [x], _ => exact hne x rfl
      rw [dif_neg hn]
    · simp only [plainV, List.all_eq_true] at hp
      have : ∀ (vs : List AV) (us : List Value), us.length = vs.length → (∀ x ∈ vs, plain1 x = true) → (∀ (i : Nat) (v : AV), vs[i]? = some v → ∃ u, us[i]? = some u ∧ RA w (auth R s lam) lam v u) → RA1s w (auth R s lam) lam vs us := by
        intro vs
        induction vs with
        | nil => intro us h1 _ _; cases us with
          | nil => trivial
          | cons x l => simp at h1
        | cons y vs ih =>
          intro us h1 h2 h3
          cases us with
          | nil => simp at h1
          | cons x us =>
            obtain ⟨p, h4, h5⟩ := h3 0 y (by simp)
            simp at h4
            subst h4
            exact ⟨RA1_of (h2 y (by simp)) h5, ih us (by simpa using h1) (fun z hz => h2 z (by simp [hz])) fun i v hv => by simpa using h3 (i + 1) v (by simpa using hv)⟩
      exact this vs us h2 hp h3
  · cases h

/-- What is asked of a function's body. -/
def fin (res : List Rv) (Post : AV → Heap → Prop) : AX → St → Prop
  | .x _, _ => False
  | .n, s => ∃ v, resV s res = some v ∧ plainV v = true ∧ Post v s.heap
  | .r, s => ∃ v, resV s res = some v ∧ plainV v = true ∧ Post v s.heap

theorem fin_r {res : List Rv} {Post : AV → Heap → Prop} {s : St} (v : AV) (h1 : resV s res = some v) (h2 : plainV v = true) (h3 : Post v s.heap) : fin res Post .r s := ⟨v, h1, h2, h3⟩
theorem fin_n {res : List Rv} {Post : AV → Heap → Prop} {s : St} (v : AV) (h1 : resV s res = some v) (h2 : plainV v = true) (h3 : Post v s.heap) : fin res Post .n s := ⟨v, h1, h2, h3⟩

/-- A function keeps its contract, if its body does. -/
theorem fn_sound {pure : List Nat} {f : FuncId} {fn : Func} {F : AFn} {args : List AV} {H : Heap} {Post : AV → Heap → Prop} (hm : P.follows .mixedOrders = true) (hf : P.funcs[f]? = some fn) (hF : cfn P pure fn = some F)
    (hargs : args.length = F.np ∧ F.np ≤ F.nt ∧ args.all okArg = true)
    (h : AR P F.nt F.body (fin F.res Post) ⟨mk (num 0 args), fun _ => none, H⟩) : ACalls P f args H Post := by
  intro R w vals hR hH hv
  unfold cfn at hF
  split at hF <;> (try cases hF; done)
  rename_i b hb
  split at hF <;> (try cases hF; done)
  rename_i hres
  simp only [Option.map_eq_some_iff] at hF
  obtain ⟨c, hc, rfl⟩ := hF
  simp only at hargs h
  have hres' : fn.results.toList.all (okRes P) = true := by
    have e : (fun x : ResultVar => match x with | .cell _ t => (P.underlying t).isSome | _ => true) = okRes P := by
      funext x; cases x <;> rfl
    simp only [Bool.not_eq_true', Bool.not_eq_false] at hres
    rw [← e]
    exact hres
  have hlen := hv.len
  have hmk : ∀ x, mk (num 0 args) x = args[x]? := fun x => by rw [mk_num]; simp
  have hsz : vals.toArray.size = args.length := by simp [hlen]
  have hau : ∀ b o, authR R H b o ↔ auth R ⟨mk (num 0 args), fun _ => none, H⟩ (fun _ => 0) b o := fun b o => by
    constructor
    · rintro (h | h)
      · exact .inl h
      · exact .inr (.inr h)
    · rintro (h | ⟨d, h1, _⟩ | h)
      · exact .inl h
      · exact absurd rfl h1
      · exact .inr h
  have m0 : Mono w (authR R H) w (auth R ⟨mk (num 0 args), fun _ => none, H⟩ (fun _ => 0)) := Mono.ext hau
  have harg : ∀ x v, args[x]? = some v → okArg v = true := fun x v hx => List.all_eq_true.1 hargs.2.2 v (List.mem_of_getElem? hx)
  have hrel : RelL fn.ntmps w (authH H) R ⟨mk (num 0 args), fun _ => none, H⟩ { tmps := vals.toArray ++ Array.replicate (fn.ntmps - vals.toArray.size) undef, defers := [] } w (fun _ => 0) := by
    refine { size := ?_, defers := rfl, inj := fun d _ h => absurd rfl h, lo := fun d h => absurd rfl h, hi := fun d h => absurd rfl h, apart := fun d h => absurd rfl h, scp := ?_, env := ?_, loc := fun d cs h => (by cases h),
             heap := fun b o hb => (hH b o hb).mono m0 rfl, frm := Frm.refl _ _, dom := fun b o _ h => h, dom' := ?_, res := hR }
    · simp only [Array.size_append, Array.size_replicate]; omega
    · intro x v hx d hd
      have hx : mk (num 0 args) x = some v := hx
      rw [hmk] at hx
      rw [refs_arg (harg x v hx)] at hd
      cases hd
    · intro x v hx
      have hx : mk (num 0 args) x = some v := hx
      rw [hmk] at hx
      have hlt : x < args.length := (List.getElem?_eq_some_iff.1 hx).1
      refine ⟨by omega, ?_⟩
      obtain ⟨p, h1, h2⟩ := hv.at x v hx
      have : (vals.toArray ++ Array.replicate (fn.ntmps - vals.toArray.size) undef).getD x undef = p := by
        have hlt' : x < vals.length := by omega
        have e1 : (vals.toArray ++ Array.replicate (fn.ntmps - vals.toArray.size) undef)[x]? = some p := by
          rw [Array.getElem?_append_left (by simpa using hlt')]
          simpa using h1
        have e2 : ∀ (arr : Array Value), arr[x]? = some p → arr.getD x undef = p := fun arr he => by
          obtain ⟨h1, h2⟩ := Array.getElem?_eq_some_iff.1 he
          simp [Array.getD, h1, h2]
        exact e2 _ e1
      rw [this]
      exact (RA_of_1 h2).mono m0
    · intro b _ h1
      cases hb' : H b with
      | none => exact hb'
      | some o =>
        exfalso
        cases o with
        | row cs => exact h1 0 (by simp [authH, hb'])
        | map ks m => exact h1 0 (by simp [authH, hb'])
        | tip n e ty => exact h1 (n * e) (by simp [authH, hb'])
  refine calls_of_wp hf hb ?_
  refine h _ b rfl hc hm w (authH H) R _ w _ ⟨_, hrel⟩ fun e s' a' w' hr' hq => ?_
  have fin : (∃ v, resV s' (fn.results.toList.map (cres P)) = some v ∧ plainV v = true ∧ Post v s'.heap) → a'.defers = [] ∧ ∃ v, (results fn a'.tmps).run P w' = .ok v w' ∧
      (∃ v' H' u, Post v' H' ∧ plainV v' = true ∧ Ending.returned v = .returned u ∧ RA w' (authR R H') (fun _ => 0) v' u ∧ Back R H w w' H') := by
    rintro ⟨v, h1, h2, h3⟩
    obtain ⟨lam, hrl⟩ := hr'
    obtain ⟨p, k1, k2⟩ := res_sound (P := P) hrl hres' h1 h2
    have m1 : Mono w' (auth R s' lam) w' (authR R s'.heap) :=
      ⟨Nat.le_refl _, fun b o v _ h1 h2 => ⟨h1, fun h3 => h2 (h3.imp id .inr)⟩, fun b _ h1 => ⟨rfl, fun o h3 => h1 o (h3.imp id .inr)⟩, fun _ _ => rfl⟩
    refine ⟨hrl.defers, p, k1, v, s'.heap, p, h3, h2, rfl, RA_plain h2 (k2.mono m1), ?_⟩
    refine ⟨fun b o hb => (hrl.heap b o hb).mono m1 rfl, hrl.frm, hrl.dom, fun b hb h0 => hrl.dom' b hb fun o ho => ?_⟩
    unfold authH at ho
    rw [h0] at ho
    exact ho
  cases e with
  | n => exact fin hq
  | x id => exact hq.elim
  | r => exact fin hq

end
end Go.Eng
