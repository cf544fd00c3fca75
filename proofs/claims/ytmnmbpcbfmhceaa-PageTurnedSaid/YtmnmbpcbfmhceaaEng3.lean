/-
  THE ENGINE, 3: how the small machine's values and memory stand to the model's. Nothing here speaks of one program.
-/
import Derived.Test.YtmnmbpcbfmhceaaEng2
namespace Go.Eng

abbrev Auth := Nat → Nat → Prop

/-- A cell holds what is told; 'A' tells which places may be written. -/
inductive RC (w : World) (A : Auth) : CV → Value → Prop
  | p (v : Value) (h : v.oneCell' = true) : RC w A (.p v) v
  | z0 (ty : Nat) : RC w A (.z ty) (.slice none 0 0)
  | z1 (ty g : Nat) (h : w.heap[g]? = some (.cells #[] ty (0, 0))) (hA : ∀ o, ¬ A g o) : RC w A (.z ty) (.slice (some ⟨g, 0, none⟩) 0 0)
  | s0 (e : Nat) (a : Option Addr) (c : Nat) : RC w A (.s e [] none) (.slice a 0 c)
  | s (e : Nat) (xs : List (List CV)) (tok : Option Nat) (b o c : Nat) (U : Nat → Value) (hne : xs ≠ []) (hb : b < w.heap.size) (hk : xs.length ≤ c) (he : ∀ x ∈ xs, x.length = e)
      (hc : ∀ i, i < xs.length * e → w.cell? ⟨b, o + i, none⟩ = some (U i) ∧ ¬ A b (o + i))
      (hr : ∀ i (h : i < xs.flatten.length), RC w A (xs.flatten[i]) (U i))
      (ht : ∀ t, tok = some t → t = b ∧ o = 0 ∧ ∃ T, w.shape? b = some (T, c * e)) :
      RC w A (.s e xs tok) (.slice (some ⟨b, o, none⟩) xs.length c)

def RCs (w : World) (A : Auth) : List CV → List Value → Prop
  | [], [] => True
  | x :: xs, y :: ys => RC w A x y ∧ RCs w A xs ys
  | _, _ => False

theorem RC.one {w : World} {A : Auth} {x : CV} {v : Value} (h : RC w A x v) : v.oneCell' = true := by
  cases h <;> first | assumption | rfl

theorem RCs.length {w : World} {A : Auth} : ∀ {xs : List CV} {ys : List Value}, RCs w A xs ys → xs.length = ys.length
  | [], [], _ => rfl
  | _ :: _, _ :: _, h => by simp [RCs.length h.2]
  | [], _ :: _, h => h.elim
  | _ :: _, [], h => h.elim

theorem RCs.get {w : World} {A : Auth} : ∀ {xs : List CV} {ys : List Value}, RCs w A xs ys → ∀ i (h1 : i < xs.length) (h2 : i < ys.length), RC w A xs[i] ys[i]
  | _ :: _, _ :: _, h, 0, _, _ => h.1
  | _ :: _, _ :: _, h, i + 1, h1, h2 => RCs.get h.2 i (by simpa using h1) (by simpa using h2)
  | [], _, _, _, h1, _ => by simp at h1
  | _ :: _, [], h, _, _, _ => h.elim

theorem RCs.of {w : World} {A : Auth} : ∀ {xs : List CV} {ys : List Value}, xs.length = ys.length → (∀ i (h1 : i < xs.length) (h2 : i < ys.length), RC w A xs[i] ys[i]) → RCs w A xs ys
  | [], [], _, _ => trivial
  | x :: xs, y :: ys, hl, h => ⟨h 0 (by simp) (by simp), RCs.of (by simpa using hl) fun i h1 h2 => h (i + 1) (by simpa using h1) (by simpa using h2)⟩
  | [], _ :: _, hl, _ => by simp at hl
  | _ :: _, [], hl, _ => by simp at hl

theorem RCs.append {w : World} {A : Auth} : ∀ {xs : List CV} {ys : List Value} {us : List CV} {vs : List Value}, RCs w A xs ys → RCs w A us vs → RCs w A (xs ++ us) (ys ++ vs)
  | [], [], _, _, _, h => h
  | _ :: _, _ :: _, _, _, h, k => ⟨h.1, RCs.append h.2 k⟩
  | [], _ :: _, _, _, h, _ => h.elim
  | _ :: _, [], _, _, h, _ => h.elim

theorem RCs.take {w : World} {A : Auth} : ∀ (n : Nat) {xs : List CV} {ys : List Value}, RCs w A xs ys → RCs w A (xs.take n) (ys.take n)
  | 0, _, _, _ => by simp [RCs]
  | n + 1, [], [], _ => by simp [RCs]
  | n + 1, _ :: _, _ :: _, h => ⟨h.1, RCs.take n h.2⟩
  | _ + 1, [], _ :: _, h => h.elim
  | _ + 1, _ :: _, [], h => h.elim

theorem RCs.drop {w : World} {A : Auth} : ∀ (n : Nat) {xs : List CV} {ys : List Value}, RCs w A xs ys → RCs w A (xs.drop n) (ys.drop n)
  | 0, _, _, h => by simpa using h
  | n + 1, [], [], _ => by simp [RCs]
  | n + 1, _ :: _, _ :: _, h => RCs.drop n h.2
  | _ + 1, [], _ :: _, h => h.elim
  | _ + 1, _ :: _, [], h => h.elim

theorem RCs.one {w : World} {A : Auth} : ∀ {xs : List CV} {ys : List Value}, RCs w A xs ys → ∀ v ∈ ys, v.oneCell' = true
  | [], [], _ => by simp
  | _ :: _, _ :: _, h => by
    intro v hv
    rcases List.mem_cons.1 hv with rfl | hv
    · exact h.1.one
    · exact RCs.one h.2 v hv
  | [], _ :: _, h => h.elim
  | _ :: _, [], h => h.elim

theorem RCs.replicate {w : World} {A : Auth} {x : CV} {v : Value} (h : RC w A x v) : ∀ n, RCs w A (List.replicate n x) (List.replicate n v)
  | 0 => trivial
  | n + 1 => ⟨h, RCs.replicate h n⟩

/-- What was there and may not be written stays. -/
structure Mono (w : World) (A : Auth) (w' : World) (A' : Auth) : Prop where
  size : w.heap.size ≤ w'.heap.size
  cell : ∀ b o v, b < w.heap.size → w.cell? ⟨b, o, none⟩ = some v → ¬ A b o → w'.cell? ⟨b, o, none⟩ = some v ∧ ¬ A' b o
  blk : ∀ b, b < w.heap.size → (∀ o, ¬ A b o) → w'.heap[b]? = w.heap[b]? ∧ ∀ o, ¬ A' b o
  shp : ∀ b, b < w.heap.size → w'.shape? b = w.shape? b

theorem Mono.refl (w : World) (A : Auth) : Mono w A w A := ⟨Nat.le_refl _, fun _ _ _ _ h k => ⟨h, k⟩, fun _ _ h => ⟨rfl, h⟩, fun _ _ => rfl⟩

theorem Mono.trans {w w1 w2 : World} {A A1 A2 : Auth} (h : Mono w A w1 A1) (k : Mono w1 A1 w2 A2) : Mono w A w2 A2 :=
  ⟨Nat.le_trans h.size k.size, fun b o v hb hc ha => let ⟨h1, h2⟩ := h.cell b o v hb hc ha; k.cell b o v (Nat.lt_of_lt_of_le hb h.size) h1 h2,
   fun b hb ha => let ⟨h1, h2⟩ := h.blk b hb ha; let ⟨k1, k2⟩ := k.blk b (Nat.lt_of_lt_of_le hb h.size) h2; ⟨k1.trans h1, k2⟩,
   fun b hb => (k.shp b (Nat.lt_of_lt_of_le hb h.size)).trans (h.shp b hb)⟩

theorem lt_of_heap {w : World} {b : Nat} {o : Go.Obj} (h : w.heap[b]? = some o) : b < w.heap.size := (Array.getElem?_eq_some_iff.1 h).1

theorem RC.mono {w w' : World} {A A' : Auth} (m : Mono w A w' A') {x : CV} {v : Value} (h : RC w A x v) : RC w' A' x v := by
  induction h with
  | p v h => exact .p v h
  | z0 ty => exact .z0 ty
  | z1 ty g h hA => let ⟨h1, h2⟩ := m.blk g (lt_of_heap h) hA; exact .z1 ty g (h1.trans h) h2
  | s0 e a c => exact .s0 e a c
  | s e xs tok b o c U hne hb hk he hc hr ht ih =>
    refine .s e xs tok b o c U hne (Nat.lt_of_lt_of_le hb m.size) hk he (fun i hi => ?_) ih ?_
    · obtain ⟨h1, h2⟩ := hc i hi; exact m.cell b (o + i) (U i) hb h1 h2
    · intro t hk; obtain ⟨h1, h2, T, h3⟩ := ht t hk; exact ⟨h1, h2, T, (m.shp b hb).trans h3⟩

theorem RCs.mono {w w' : World} {A A' : Auth} (m : Mono w A w' A') : ∀ {xs : List CV} {ys : List Value}, RCs w A xs ys → RCs w' A' xs ys
  | [], [], _ => trivial
  | _ :: _, _ :: _, h => ⟨h.1.mono m, RCs.mono m h.2⟩
  | [], _ :: _, h => h.elim
  | _ :: _, [], h => h.elim

/-- What was captured. -/
def RK (lam : Nat → Nat) : AV → Value → Prop
  | .lp d o, v => v = .pointer (some ⟨lam d, o, none⟩)
  | .c (.p u), v => v = u ∧ u.oneCell' = true
  | _, _ => False
def RKs (lam : Nat → Nat) : List AV → List Value → Prop
  | [], [] => True
  | x :: xs, y :: ys => RK lam x y ∧ RKs lam xs ys
  | _, _ => False

/-- A slot holds what is told. -/
def RA1 (w : World) (A : Auth) (lam : Nat → Nat) : AV → Value → Prop
  | .c x, v => RC w A x v
  | .g cs, v => ∃ arr, v = .agg arr ∧ RCs w A cs arr.toList
  | .lp d o, v => v = .pointer (some ⟨lam d, o, none⟩)
  | .lw d o n c, v => v = .slice (some ⟨lam d, o, none⟩) n c
  | .ep cs, v => ∃ b o U, v = .pointer (some ⟨b, o, none⟩) ∧ b < w.heap.size ∧ RCs w A cs U ∧ ∀ i (h : i < U.length), w.cell? ⟨b, o + i, none⟩ = some U[i] ∧ ¬ A b (o + i)
  | .f f caps, v => ∃ arr, v = .func (.func f) #[] arr ∧ RKs lam caps arr.toList
  | .t _, _ => False
  | .u, _ => True

def RA1s (w : World) (A : Auth) (lam : Nat → Nat) : List AV → List Value → Prop
  | [], [] => True
  | x :: xs, y :: ys => RA1 w A lam x y ∧ RA1s w A lam xs ys
  | _, _ => False

def RA (w : World) (A : Auth) (lam : Nat → Nat) : AV → Value → Prop
  | .t vs, v => ∃ arr, v = .tuple arr ∧ RA1s w A lam vs arr.toList
  | x, v => RA1 w A lam x v

theorem RA1.mono {w w' : World} {A A' : Auth} {lam : Nat → Nat} (m : Mono w A w' A') {x : AV} {v : Value} (h : RA1 w A lam x v) : RA1 w' A' lam x v := by
  cases x with
  | c x => exact RC.mono m h
  | g cs => obtain ⟨arr, h1, h2⟩ := h; exact ⟨arr, h1, h2.mono m⟩
  | lp d o => exact h
  | lw d o n c => exact h
  | ep cs => obtain ⟨b, o, U, h1, hb, h2, h3⟩ := h; exact ⟨b, o, U, h1, Nat.lt_of_lt_of_le hb m.size, h2.mono m, fun i hi => let ⟨k1, k2⟩ := h3 i hi; m.cell _ _ _ hb k1 k2⟩
  | f f caps => exact h
  | t vs => exact h.elim
  | u => trivial

theorem RA1s.mono {w w' : World} {A A' : Auth} {lam : Nat → Nat} (m : Mono w A w' A') : ∀ {xs : List AV} {ys : List Value}, RA1s w A lam xs ys → RA1s w' A' lam xs ys
  | [], [], _ => trivial
  | _ :: _, _ :: _, h => ⟨RA1.mono m h.1, RA1s.mono m h.2⟩
  | [], _ :: _, h => h.elim
  | _ :: _, [], h => h.elim

theorem RA.mono {w w' : World} {A A' : Auth} {lam : Nat → Nat} (m : Mono w A w' A') {v : Value} : ∀ {x : AV}, RA w A lam x v → RA w' A' lam x v
  | .t _, h => let ⟨arr, h1, h2⟩ := h; ⟨arr, h1, h2.mono m⟩
  | .c x, h => RA1.mono (A := A) (lam := lam) (v := v) (x := .c x) m h
  | .g x, h => RA1.mono (A := A) (lam := lam) (v := v) (x := .g x) m h
  | .lp x y, h => RA1.mono (A := A) (lam := lam) (v := v) (x := .lp x y) m h
  | .lw x y z t, h => RA1.mono (A := A) (lam := lam) (v := v) (x := .lw x y z t) m h
  | .ep x, h => RA1.mono (A := A) (lam := lam) (v := v) (x := .ep x) m h
  | .f x y, h => RA1.mono (A := A) (lam := lam) (v := v) (x := .f x y) m h
  | .u, _ => trivial

/-- A change of where local variables lie, that a value does not lead to. -/
theorem RKs.lam {lam lam' : Nat → Nat} : ∀ {xs : List AV} {ys : List Value}, (∀ d, (xs.any fun | .lp x _ => x == d | .c _ => false | _ => true) = true → lam' d = lam d) → RKs lam xs ys → RKs lam' xs ys
  | [], [], _, _ => trivial
  | x :: xs, y :: ys, hd, h => by
    refine ⟨?_, RKs.lam (fun d hx => hd d (by simp only [List.any_cons, Bool.or_eq_true]; exact .inr hx)) h.2⟩
    have h1 := h.1
    cases x with
    | lp d o => simp only [RK] at h1 ⊢; rw [hd d (by simp)]; exact h1
    | c x => cases x <;> exact h1
    | _ => exact h1.elim
  | [], _ :: _, _, h => h.elim
  | _ :: _, [], _, h => h.elim

theorem RA1.lam {w : World} {A : Auth} {lam lam' : Nat → Nat} {x : AV} {v : Value} (hd : ∀ d, refs d x = true → lam' d = lam d) (h : RA1 w A lam x v) : RA1 w A lam' x v := by
  cases x with
  | lp d o => simp only [RA1] at h ⊢; rw [hd d (by simp [refs])]; exact h
  | lw d o n c => simp only [RA1] at h ⊢; rw [hd d (by simp [refs])]; exact h
  | f f caps => obtain ⟨arr, h1, h2⟩ := h; exact ⟨arr, h1, h2.lam hd⟩
  | _ => exact h

theorem RA1s.lam {w : World} {A : Auth} {lam lam' : Nat → Nat} : ∀ {xs : List AV} {ys : List Value}, (∀ d, (xs.any fun | .c _ => false | .g _ => false | _ => true) = true → lam' d = lam d) → RA1s w A lam xs ys → RA1s w A lam' xs ys
  | [], [], _, _ => trivial
  | x :: xs, y :: ys, hd, h => by
    refine ⟨?_, RA1s.lam (fun d hx => hd d (by simp only [List.any_cons, Bool.or_eq_true]; exact .inr hx)) h.2⟩
    cases x with
    | c x => exact h.1
    | g x => exact h.1
    | _ => exact RA1.lam (fun d _ => hd d (by simp)) h.1
  | [], _ :: _, _, h => h.elim
  | _ :: _, [], _, h => h.elim

theorem RA.lam {w : World} {A : Auth} {lam lam' : Nat → Nat} {v : Value} : ∀ {x : AV}, (∀ d, refs d x = true → lam' d = lam d) → RA w A lam x v → RA w A lam' x v
  | .t _, hd, h => let ⟨arr, h1, h2⟩ := h; ⟨arr, h1, h2.lam (fun d hx => hd d hx)⟩
  | .c x, hd, h => RA1.lam (w := w) (A := A) (lam := lam) (v := v) (x := .c x) hd h
  | .g x, hd, h => RA1.lam (w := w) (A := A) (lam := lam) (v := v) (x := .g x) hd h
  | .lp x y, hd, h => RA1.lam (w := w) (A := A) (lam := lam) (v := v) (x := .lp x y) hd h
  | .lw x y z t, hd, h => RA1.lam (w := w) (A := A) (lam := lam) (v := v) (x := .lw x y z t) hd h
  | .ep x, hd, h => RA1.lam (w := w) (A := A) (lam := lam) (v := v) (x := .ep x) hd h
  | .f x y, hd, h => RA1.lam (w := w) (A := A) (lam := lam) (v := v) (x := .f x y) hd h
  | .u, _, _ => trivial

/-! ## Memory -/

def valC (v : Value) : List CV := v.cells.toList.map .p

/-- A map's entries: keys' and values' plain cells. -/
structure RM (es : Array MapEntry) (ks : List Kd) (m : List CV → Option (List CV)) : Prop where
  plain : ∀ e ∈ es, kinds (valC e.key) = ks ∧ ∀ x ∈ e.val.cells, x.oneCell' = true
  keys : ∀ e ∈ es, ∀ x ∈ e.key.cells, x.oneCell' = true
  look : ∀ k, m k = (es.toList.find? fun e => eqCs (valC e.key) k).map fun e => valC e.val

def RRow (w : World) (A : Auth) (b : Nat) (cs : List CV) : Prop := ∃ arr T, w.heap[b]? = some (.cells arr T (0, 0)) ∧ RCs w A cs arr.toList

def RO (w : World) (A : Auth) (b : Nat) : Obj → Prop
  | .row cs => RRow w A b cs
  | .map ks m => ∃ es cl, w.heap[b]? = some (.map es cl) ∧ RM es ks m
  | .tip n e ty => 0 < e ∧ ∃ cur cap, w.heap[b]? = some (.cells cur ty (0, 0)) ∧ cur.size = cap * e ∧ cap ≤ maxLen ∧ n ≤ cap

/-- Which places the shared memory lets be written. -/
def authH (H : Heap) : Auth := fun b o => match H b with
  | some (.row _) => True
  | some (.map _ _) => True
  | some (.tip n e _) => n * e ≤ o
  | none => False

def auth (R : Auth) (s : St) (lam : Nat → Nat) : Auth := fun b o => authH s.heap b o ∨ (∃ d, s.loc d ≠ none ∧ b = lam d) ∨ R b o

/-- What a call leaves alone. -/
structure Frm (w0 : World) (A : Auth) (w : World) : Prop where
  os : w.os = w0.os
  tape : w.tape = w0.tape
  output : w.output = w0.output
  size : w0.heap.size ≤ w.heap.size
  cell : ∀ b o, b < w0.heap.size → ¬ A b o → w.cell? ⟨b, o, none⟩ = w0.cell? ⟨b, o, none⟩
  blk : ∀ b, b < w0.heap.size → (∀ o, ¬ A b o) → w.heap[b]? = w0.heap[b]?
  shp : ∀ b, b < w0.heap.size → w.shape? b = w0.shape? b

theorem Frm.refl (w : World) (A : Auth) : Frm w A w := ⟨rfl, rfl, rfl, Nat.le_refl _, fun _ _ _ _ => rfl, fun _ _ _ => rfl, fun _ _ => rfl⟩
theorem Frm.trans {w w1 w2 : World} {A A1 : Auth} (h : Frm w A w1) (k : Frm w1 A1 w2) (hA : ∀ b o, b < w.heap.size → A1 b o → A b o) : Frm w A w2 :=
  ⟨k.os.trans h.os, k.tape.trans h.tape, k.output.trans h.output, Nat.le_trans h.size k.size,
   fun b o hb ha => (k.cell b o (Nat.lt_of_lt_of_le hb h.size) fun x => ha (hA b o hb x)).trans (h.cell b o hb ha),
   fun b hb ha => (k.blk b (Nat.lt_of_lt_of_le hb h.size) fun o x => ha o (hA b o hb x)).trans (h.blk b hb ha),
   fun b hb => (k.shp b (Nat.lt_of_lt_of_le hb h.size)).trans (h.shp b hb)⟩

def Scoped (s : St) : Prop := ∀ x v, s.env x = some v → ∀ d, refs d v = true → s.loc d ≠ none

/-- A state of the small machine and one of the model's: 'w0' is the world in which the call began, 'A0' what it may write of it. -/
structure RelL (N : Nat) (w0 : World) (A0 R : Auth) (s : St) (a : Act) (w : World) (lam : Nat → Nat) : Prop where
  size : a.tmps.size = N
  defers : a.defers = []
  inj : ∀ d d', s.loc d ≠ none → s.loc d' ≠ none → lam d = lam d' → d = d'
  lo : ∀ d, s.loc d ≠ none → w0.heap.size ≤ lam d
  hi : ∀ d, s.loc d ≠ none → lam d < w.heap.size
  apart : ∀ d, s.loc d ≠ none → s.heap (lam d) = none
  scp : Scoped s
  env : ∀ x v, s.env x = some v → x < N ∧ RA w (auth R s lam) lam v (a.tmps.getD x undef)
  loc : ∀ d cs, s.loc d = some cs → RRow w (auth R s lam) (lam d) cs
  heap : ∀ b o, s.heap b = some o → RO w (auth R s lam) b o
  frm : Frm w0 A0 w
  dom : ∀ b o, b < w0.heap.size → authH s.heap b o → A0 b o
  dom' : ∀ b, b < w0.heap.size → (∀ o, ¬ A0 b o) → s.heap b = none
  res : ∀ b o, R b o → b < w0.heap.size ∧ s.heap b = none

def Rel (N : Nat) (w0 : World) (A0 R : Auth) (s : St) (a : Act) (w : World) : Prop := ∃ lam, RelL N w0 A0 R s a w lam

end Go.Eng
