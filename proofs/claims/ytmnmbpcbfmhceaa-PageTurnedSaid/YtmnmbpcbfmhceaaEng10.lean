/-
  THE ENGINE, 10: what an operation of the small machine does; local variables that are made and written. Nothing here speaks of one program.
-/
import Derived.Test.YtmnmbpcbfmhceaaEng9
set_option linter.unusedSimpArgs false
set_option linter.unusedVariables false
namespace Go.Eng

def plain1 : AV → Bool
  | .c _ => true
  | .g _ => true
  | _ => false
/-- A value that may go into a call, or come out of one. -/
def plainV : AV → Bool
  | .t vs => vs.all plain1
  | x => plain1 x
def okArg : AV → Bool
  | .f _ [] => true
  | x => plain1 x

def authR (R : Auth) (H : Heap) : Auth := fun b o => authH H b o ∨ R b o

def RAcs (w : World) (A : Auth) : List AV → List Value → Prop
  | [], [] => True
  | x :: xs, y :: ys => RA1 w A (fun _ => 0) x y ∧ RAcs w A xs ys
  | _, _ => False

/-- What is behind a call. -/
structure Back (R : Auth) (H : Heap) (w w' : World) (H' : Heap) : Prop where
  heap : ∀ b o, H' b = some o → RO w' (authR R H') b o
  frm : Frm w (authH H) w'
  dom : ∀ b o, b < w.heap.size → authH H' b o → authH H b o
  dom' : ∀ b, b < w.heap.size → H b = none → H' b = none

/-- A call of a function at known arguments and a known shared memory comes to an end, and 'Post' tells how. -/
def ACalls (P : Program) (f : FuncId) (args : List AV) (H : Heap) (Post : AV → Heap → Prop) : Prop :=
  ∀ (R : Auth) (w : World) (vals : List Value), (∀ b o, R b o → b < w.heap.size ∧ H b = none) → (∀ b o, H b = some o → RO w (authR R H) b o) → RAcs w (authR R H) args vals →
    Calls P f vals.toArray w fun e w' => ∃ v H' u, Post v H' ∧ plainV v = true ∧ e = .returned u ∧ RA w' (authR R H') (fun _ => 0) v u ∧ Back R H w w' H'

theorem ACalls.mono {P : Program} {f : FuncId} {args : List AV} {H : Heap} {Post Post' : AV → Heap → Prop} (h : ACalls P f args H Post) (hp : ∀ v H', Post v H' → Post' v H') : ACalls P f args H Post' :=
  fun R w vals h1 h2 h3 => (h R w vals h1 h2 h3).mono fun e w' ⟨v, H', u, k1, k2⟩ => ⟨v, H', u, hp v H' k1, k2⟩

def repz (n : Nat) (z : List CV) : List CV := (List.replicate n z).flatten

/-- Where a copy or an append takes from: how many elements, their cells. -/
def srcV (l : Loc) (e : Nat) : AV → Option (Nat × List CV)
  | .c (.p (.string s)) => if e = 1 then some (s.size, s.data.toList.map b8) else none
  | x => match lenV x, elems l e x with
    | some n, some cs => some (n.toNat, cs)
    | _, _ => none

/-- The same without strings. -/
def srcE (l : Loc) (e : Nat) (x : AV) : Option (Nat × List CV) :=
  match lenV x, elems l e x with
  | some n, some cs => some (n.toNat, cs)
  | _, _ => none

/-- A function that a call may enter. -/
def okFn (P : Program) (f : FuncId) : Bool := match P.funcs[f]? with
  | some fn => !(fn.name == "runtime.NumGoroutine") && fn.body.isSome
  | none => false

def chunks (e : Nat) : Nat → List CV → List (List CV)
  | 0, _ => []
  | n + 1, cs => cs.take e :: chunks e n (cs.drop e)

/-- What an operation does, and what holds behind it. -/
def act (P : Program) (d : Option Nat) (op : AOp) (s : St) (K : St → Prop) : Prop :=
  match op with
  | .al z => match d with
    | some d => s.loc d = none ∧ K ⟨put s.env (some d) (.lp d 0), upd s.loc d (some z), s.heap⟩
    | none => False
  | .bx n x => match d, (ev s.env x).bind AV.cells with
    | some d, some cs => (cs.length = n ∧ s.loc d = none) ∧ K ⟨put s.env (some d) (.lp d 0), upd s.loc d (some cs), s.heap⟩
    | _, _ => False
  | .ms e by_ z len cap => match d, (ev s.env len).bind natOf, (ev s.env cap).bind natOf with
    | some d, some l, some c => (l = c ∧ 0 ≤ l ∧ l ≤ 9223372036854775807 ∧ by_ * l ≤ 281474976710656 ∧ s.loc d = none) ∧ K ⟨put s.env (some d) (.lw d 0 l.toNat c.toNat), upd s.loc d (some (repz c.toNat z)), s.heap⟩
    | _, _, _ => False
  | .st n x v => match ev s.env x, (ev s.env v).bind AV.cells with
    | some (.lp d o), some cs => match s.loc d with
      | some old => (cs.length = n ∧ o + n ≤ old.length) ∧ K ⟨s.env, upd s.loc d (some (lay old o cs)), s.heap⟩
      | none => False
    | _, _ => False
  | .sth n x v => match ev s.env x, (ev s.env v).bind AV.cells with
    | some (.c (.p (.pointer (some ⟨b, o, none⟩)))), some cs => match s.heap b with
      | some (.row old) => (cs.length = n ∧ o + n ≤ old.length) ∧ K ⟨s.env, s.loc, upd s.heap b (some (.row (lay old o cs)))⟩
      | _ => False
    | _, _ => False
  | .cpy e x y => match ev s.env x, (ev s.env y).bind (srcV s.loc e) with
    | some (.lw d' o n _), some (m, src) => match s.loc d' with
      | some old => (src.length = m * e ∧ o + n * e ≤ old.length) ∧ K ⟨put s.env d (I .i64 (min m n : Nat)), upd s.loc d' (some (lay old o (src.take (min m n * e)))), s.heap⟩
      | none => False
    | _, _ => False
  | .ap e by_ ty x y => match ev s.env x, (ev s.env y).bind (srcE s.loc e) with
    | some (.c (.z ty')), some (m, src) => (src.length = m * e ∧ ty' = ty ∧ m * by_ ≤ 140737488355328 ∧ m ≤ maxLen) ∧
      if m = 0 then K { s with env := put s.env d (.c (.z ty')) }
      else ∀ b, s.heap b = none → K ⟨put s.env d (.c (.s e (chunks e m src) (some b))), s.loc, upd s.heap b (some (.tip m e ty))⟩
    | some (.c (.s e' xs (some b))), some (m, src) => (src.length = m * e ∧ e' = e ∧ (xs.length + m) * by_ ≤ 140737488355328 ∧ xs.length + m ≤ maxLen ∧ s.heap b = some (.tip xs.length e ty)) ∧
      ∀ b' H', (∀ x, x ≠ b → x ≠ b' → H' x = s.heap x) → (b' = b ∨ s.heap b' = none) → (b' ≠ b → H' b = none) → H' b' = some (.tip (xs.length + m) e ty) →
        K ⟨put s.env d (.c (.s e (xs ++ chunks e m src) (some b'))), s.loc, H'⟩
    | _, _ => False
  | .mm => ∀ b, s.heap b = none → ∀ ks, K ⟨put s.env d (.c (.p (.map (some b)))), s.loc, upd s.heap b (some (.map ks fun _ => none))⟩
  | .bh n x => match (ev s.env x).bind AV.cells with
    | some cs => cs.length = n ∧ ∀ b, s.heap b = none → K ⟨put s.env d (.c (.p (.pointer (some ⟨b, 0, none⟩)))), s.loc, upd s.heap b (some (.row cs))⟩
    | none => False
  | .mu m k v => match ev s.env m, (ev s.env k).bind AV.cells, (ev s.env v).bind AV.cells with
    | some (.c (.p (.map (some r)))), some k, some cs => match s.heap r with
      | some (.map ks f) => (kinds k = ks ∧ (cs.all fun x => match x with | .p _ => true | _ => false) = true) ∧ K ⟨s.env, s.loc, upd s.heap r (some (.map ks fun x => if eqCs k x then some cs else f x))⟩
      | _ => False
    | _, _, _ => False
  | .call f args => match evs s.env args with
    | some vs => (vs.all okArg = true ∧ okFn P f = true) ∧ ∃ Post, ACalls P f vs s.heap Post ∧ ∀ v H', Post v H' → plainV v = true → K ⟨put s.env d v, s.loc, H'⟩
    | none => False
  | .callp f args => match evs s.env args with
    | some vs => (vs.all okArg = true ∧ okFn P f = true) ∧ ∃ v, (ACalls P f vs s.heap (fun v' H' => v' = v ∧ H' = s.heap) ∧ plainV v = true) ∧ K { s with env := put s.env d v }
    | none => False
  | .callv x args => match ev s.env x, evs s.env args with
    | some (.f f []), some vs => (vs.all okArg = true ∧ okFn P f = true) ∧ ∃ Post, ACalls P f vs s.heap Post ∧ ∀ v H', Post v H' → plainV v = true → K ⟨put s.env d v, s.loc, H'⟩
    | some (.f f [.lp x 0]), some vs => (vs.all okArg = true ∧ okFn P f = true) ∧ ∃ old, s.loc x = some old ∧
      ∀ b, s.heap b = none → ∃ Post, ACalls P f (vs ++ [.c (.p (.pointer (some ⟨b, 0, none⟩)))]) (upd s.heap b (some (.row old))) Post ∧
        ∀ v H', Post v H' → plainV v = true → ∃ new, H' b = some (.row new) ∧ K ⟨put s.env d v, upd s.loc x (some new), upd H' b none⟩
    | _, _ => False
  | q => match qv q s with
    | some v => K { s with env := put s.env d v }
    | none => False

/-- What a guard's slot tells: a bool; or that its operation was passed by. -/
def gv : Option AV → Option (Option Bool)
  | some (.c (.p (.bool c))) => some (some c)
  | some (.t []) => some none
  | _ => none

def step (P : Program) (o : AO) (s : St) (K : St → Prop) : Prop :=
  match o.g with
  | none => act P o.d o.op s K
  | some (t, b) => match gv (s.env t) with
    | some c => if c = some b then act P o.d o.op s K else K { s with env := put s.env o.d (.t []) }
    | none => False

/-! ### New local variables -/

section
variable {P : Program} {N : Nat} {w0 : World} {A0 R : Auth} {s : St} {a : Act} {w : World} {lam : Nat → Nat}

theorem auth_lt (hr : RelL N w0 A0 R s a w lam) {b o : Nat} (h : auth R s lam b o) : b < w.heap.size := by
  rcases h with h | ⟨d, h1, rfl⟩ | h
  · unfold authH at h
    split at h
    · rename_i h'; exact (hr.heap _ _ h').lt
    · rename_i h'; exact (hr.heap _ _ h').lt
    · rename_i h'; exact (hr.heap _ _ h').lt
    · exact h.elim
  · exact hr.hi d h1
  · exact Nat.lt_of_lt_of_le (hr.res _ _ h).1 hr.frm.size

/-- A new block of one's own. -/
theorem RelL.newLoc (hr : RelL N w0 A0 R s a w lam) {d : Nat} (hd : s.loc d = none) {cs : List CV} {arr : Array Value} (T : TypeId) (hc : RCs w (auth R s lam) cs arr.toList) :
    RelL N w0 A0 R { s with loc := upd s.loc d (some cs) } a (w.alloc (.cells arr T)) (fun x => if x = d then w.heap.size else lam x) := by
  have hnl : ∀ x, s.loc x ≠ none → x ≠ d := fun x hx e => hx (e ▸ hd)
  have hcase : ∀ x, upd s.loc d (some cs) x ≠ none → x = d ∨ (x ≠ d ∧ s.loc x ≠ none) := fun x hx => by
    simp only [upd] at hx; by_cases e : x = d
    · exact .inl e
    · rw [if_neg e] at hx; exact .inr ⟨e, hx⟩
  have g := Grow.alloc w (.cells arr T)
  have hau : ∀ b o, b < w.heap.size → (auth R { s with loc := upd s.loc d (some cs) } (fun x => if x = d then w.heap.size else lam x) b o ↔ auth R s lam b o) := fun b o hb => by
    constructor
    · rintro (h | ⟨x, hx, hbx⟩ | h)
      · exact .inl h
      · rcases hcase x hx with rfl | ⟨e, hx'⟩
        · simp at hbx; omega
        · simp only [if_neg e] at hbx; exact .inr (.inl ⟨x, hx', hbx⟩)
      · exact .inr (.inr h)
    · rintro (h | ⟨x, hx, hbx⟩ | h)
      · exact .inl h
      · refine .inr (.inl ⟨x, ?_, ?_⟩)
        · simp only [upd, if_neg (hnl x hx)]; exact hx
        · simp only [if_neg (hnl x hx)]; exact hbx
      · exact .inr (.inr h)
  have m : Mono w (auth R s lam) (w.alloc (.cells arr T)) (auth R { s with loc := upd s.loc d (some cs) } (fun x => if x = d then w.heap.size else lam x)) :=
    ⟨g.size, fun b o v hb h1 h2 => ⟨(g.cell hb).trans h1, fun h3 => h2 ((hau b o hb).1 h3)⟩, fun b hb h => ⟨g.blk b hb, fun o h3 => h o ((hau b o hb).1 h3)⟩, fun b hb => g.shp hb⟩
  have hnew : (w.alloc (.cells arr T)).heap[w.heap.size]? = some (.cells arr T (0, 0)) := by
    show (w.heap.push _)[w.heap.size]? = _
    simp
  refine { size := hr.size, defers := hr.defers, inj := ?_, lo := ?_, hi := ?_, apart := ?_, scp := ?_, env := ?_, loc := ?_, heap := ?_, frm := ?_, dom := hr.dom, dom' := hr.dom', res := hr.res }
  · intro x y hx hy e
    rcases hcase x hx with rfl | ⟨ex, hx'⟩ <;> rcases hcase y hy with rfl | ⟨ey, hy'⟩
    · rfl
    · simp only [if_true, if_neg ey] at e; have := hr.hi y hy'; omega
    · simp only [if_true, if_neg ex] at e; have := hr.hi x hx'; omega
    · simp only [if_neg ex, if_neg ey] at e; exact hr.inj x y hx' hy' e
  · intro x hx
    rcases hcase x hx with rfl | ⟨e, hx'⟩
    · simp only [if_true]; exact hr.frm.size
    · simp only [if_neg e]; exact hr.lo x hx'
  · intro x hx
    rcases hcase x hx with rfl | ⟨e, hx'⟩
    · simp
    · simp only [if_neg e]; exact Nat.lt_of_lt_of_le (hr.hi x hx') g.size
  · intro x hx
    rcases hcase x hx with rfl | ⟨e, hx'⟩
    · simp only [if_true]
      cases hb : s.heap w.heap.size with
      | none => rfl
      | some o => exact absurd (hr.heap _ _ hb).lt (Nat.lt_irrefl _)
    · simp only [if_neg e]; exact hr.apart x hx'
  · intro x v hv dd hdd
    have := hr.scp x v hv dd hdd
    simp only [upd]
    split
    · simp
    · exact this
  · intro x v hv
    obtain ⟨h1, h2⟩ := hr.env x v hv
    refine ⟨h1, RA.lam (fun dd hdd => ?_) (h2.mono m)⟩
    rw [if_neg (hnl dd (hr.scp x v hv dd hdd))]
  · intro x cs' hx
    simp only [upd] at hx
    by_cases e : x = d
    · subst e
      simp only [if_true, Option.some.injEq] at hx
      subst hx
      simp only [if_true]
      exact ⟨arr, T, hnew, hc.mono m⟩
    · rw [if_neg e] at hx
      simp only [if_neg e]
      exact (hr.loc x cs' hx).mono m (g.blk _ (hr.loc x cs' hx).lt)
  · intro b o hb
    exact (hr.heap b o hb).mono m (g.blk _ (hr.heap b o hb).lt)
  · exact hr.frm.trans (g.frm A0) (fun _ _ _ h => h)

end
end Go.Eng
