/-
  Undo pages as lists of bytes: plain laws. Nothing here speaks of the program.
-/
import Derived.Test.YtmnmbpcbfmhceaaM2
set_option linter.unusedSimpArgs false
set_option linter.unusedVariables false
namespace Go.Eng

theorem str_extract (l : List UInt8) (a b : Nat) : (str l).extract a b = str (sub l a (b - a)) := by
  apply ByteArray.ext
  simp [str, sub, ByteArray.data_extract]
attribute [go_sem] str_extract

structure Old where
  live : Bool
  pn : BitVec 16
  ts : BitVec 32
  np : BitVec 16
  ns : UInt8
  dl : List UInt8
  deriving DecidableEq

def Old.cells (o : Old) : List CV := [.p (.bool o.live), c16 o.pn, c32 o.ts, c16 o.np, b8 o.ns, .p (.string (str o.dl))]
def Old.zero : Old := ⟨false, 0, 0, 0, 0, []⟩

structure PU where
  lsn : BitVec 64
  olds : List Old
  deriving DecidableEq
def PU.cells (u : PU) : List CV := [c64 u.lsn, .s 6 (u.olds.map Old.cells) none]
def PU.zero : PU := ⟨0, []⟩

theorem Old.cells_mk (a : Bool) (b : BitVec 16) (c : BitVec 32) (d : BitVec 16) (e : UInt8) (f : List UInt8) : Old.cells ⟨a, b, c, d, e, f⟩ = [.p (.bool a), c16 b, c32 c, c16 d, b8 e, .p (.string (str f))] := rfl
theorem Old.eqCs (a a' : Bool) (b b' : BitVec 16) (c c' : BitVec 32) (d d' : BitVec 16) (e e' : UInt8) (f f' : List UInt8) :
    eqCs [.p (.bool a), c16 b, c32 c, c16 d, b8 e, .p (.string (str f))] [.p (.bool a'), c16 b', c32 c', c16 d', b8 e', .p (.string (str f'))] = decide ((⟨a, b, c, d, e, f⟩ : Old) = ⟨a', b', c', d', e', f'⟩) := by
  simp only [eqCs_cons, eqCs_nil, eqC_b, eqC_16, eqC_32, eqC_8, eqC_s, str_inj, Old.mk.injEq, Bool.decide_and, Bool.and_true, Bool.beq_eq_decide_eq]
attribute [go_sem] Old.cells_mk
attribute [go_sem high] Old.eqCs

def osize (o : Old) : Nat := if o.live then 11 + o.dl.length else 1
theorem osize_t (b : BitVec 16) (c : BitVec 32) (d : BitVec 16) (e : UInt8) (f : List UInt8) : osize ⟨true, b, c, d, e, f⟩ = 11 + f.length := rfl
theorem osize_f (b : BitVec 16) (c : BitVec 32) (d : BitVec 16) (e : UInt8) (f : List UInt8) : osize ⟨false, b, c, d, e, f⟩ = 1 := rfl
def usize (l : List Old) : Nat := 16 + (l.map osize).sum
def recO (o : Old) : List UInt8 := if o.live then 1 :: (le 2 (o.pn.setWidth 64) ++ (le 4 (o.ts.setWidth 64) ++ (le 2 (o.np.setWidth 64) ++ (o.ns :: UInt8.ofNat o.dl.length :: o.dl)))) else [0]
def recs (l : List Old) : List UInt8 := (l.map recO).flatten
def textU (l : List Old) : List UInt8 := UInt8.ofNat l.length :: recs l

theorem recO_len (o : Old) : (recO o).length = osize o := by
  unfold recO osize
  split
  · simp only [List.length_cons, List.length_append, le_len]; omega
  · rfl
theorem recs_len (l : List Old) : (recs l).length = (l.map osize).sum := by
  induction l with
  | nil => rfl
  | cons o l ih => simp only [recs, List.map_cons, List.flatten_cons, List.length_append, List.sum_cons, recO_len] at ih ⊢; rw [ih]
theorem usize_take (l : List Old) (i : Nat) (o : Old) (h : l[i]? = some o) : usize (l.take (i + 1)) = usize (l.take i) + osize o := by
  simp only [usize]
  rw [List.take_add_one, h, List.map_append, List.sum_append]
  simp only [Option.toList_some, List.map_cons, List.map_nil, List.sum_cons, List.sum_nil]; omega
theorem usize_le (l : List Old) (h : ∀ o ∈ l, o.dl.length ≤ 140737488355328) : usize l ≤ 16 + l.length * 140737488355339 := by
  simp only [usize]
  induction l with
  | nil => simp
  | cons o l ih =>
    have h1 := ih fun x hx => h x (by simp [hx])
    have h2 := h o (by simp)
    have h3 : osize o ≤ 11 + o.dl.length := by unfold osize; split <;> omega
    simp only [List.map_cons, List.sum_cons, List.length_cons, Nat.succ_mul]
    omega
theorem recs_take (l : List Old) (i : Nat) (o : Old) (h : l[i]? = some o) : recs (l.take (i + 1)) = recs (l.take i) ++ recO o := by
  rw [List.take_add_one, h]; simp [recs]
theorem recs_snoc (l : List Old) (o : Old) : recs (l ++ [o]) = recs l ++ recO o := by simp [recs]
theorem textU_len (l : List Old) : (textU l).length + 15 = usize l := by simp only [textU, List.length_cons, recs_len, usize]; omega

/-- What a record may be. -/
def wfO (o : Old) : Prop := (o.live = false → o = Old.zero) ∧ o.dl.length ≤ 66
instance (o : Old) : Decidable (wfO o) := inferInstanceAs (Decidable (_ ∧ _))
def mayU (l : List Old) : Prop := l.length ≤ 15 ∧ (∀ o, l.getLast? = some o → o.live = true) ∧ (∀ o ∈ l, wfO o) ∧ usize l ≤ 224
open Classical in
noncomputable instance (l : List Old) : Decidable (mayU l) := Classical.propDecidable _

def restU (l : List Old) : List UInt8 := textU l ++ List.replicate (209 - (textU l).length) 0
def putU (no : BitVec 16) (u : PU) : List UInt8 := pg 2 no u.lsn (restU u.olds)

theorem putU_len (no : BitVec 16) (u : PU) (h : mayU u.olds) : (putU no u).length = 224 := by
  have := textU_len u.olds
  have := h.2.2.2
  simp only [putU, pg_len, restU, List.length_append, List.length_replicate]; omega

/-- One record, read at a place. -/
def decO (p : List UInt8) (a : Nat) : Old := ⟨true, (dle (sub p (a + 1) 2)).setWidth 16, (dle (sub p (a + 3) 4)).setWidth 32, (dle (sub p (a + 7) 2)).setWidth 16, p.getD (a + 9) 0, sub p (a + 11) (p.getD (a + 10) 0).toNat⟩
def oneAt (p : List UInt8) (a : Nat) : Option (Old × Nat) :=
  if p.length ≤ a then none
  else if p.getD a 0 = 0 then some (Old.zero, a + 1)
  else if p.getD a 0 = 1 then
    if p.length < a + 11 then none
    else if p.length < a + 11 + (p.getD (a + 10) 0).toNat then none
    else some (decO p a, a + 11 + (p.getD (a + 10) 0).toNat)
  else none
def parse (p : List UInt8) : Nat → Nat → Option (List Old × Nat)
  | 0, a => some ([], a)
  | n + 1, a => match oneAt p a with
    | none => none
    | some (o, a') => match parse p n a' with
      | none => none
      | some (l, e) => some (o :: l, e)

theorem parse_snoc (p : List UInt8) : ∀ (n a : Nat) (l : List Old) (e : Nat), parse p n a = some (l, e) → parse p (n + 1) a = match oneAt p e with | none => none | some (o, e') => some (l ++ [o], e')
  | 0, a, l, e, h => by
    simp only [parse, Option.some.injEq, Prod.mk.injEq] at h
    obtain ⟨rfl, rfl⟩ := h
    simp only [parse]
    cases oneAt p a with
    | none => rfl
    | some x => rfl
  | n + 1, a, l, e, h => by
    rw [parse] at h
    rw [parse]
    cases h1 : oneAt p a with
    | none => rw [h1] at h; cases h
    | some x =>
      obtain ⟨o, a'⟩ := x
      rw [h1] at h
      simp only at h ⊢
      cases h2 : parse p n a' with
      | none => rw [h2] at h; cases h
      | some y =>
        obtain ⟨l', e'⟩ := y
        rw [h2] at h
        simp only [Option.some.injEq, Prod.mk.injEq] at h
        obtain ⟨rfl, rfl⟩ := h
        rw [parse_snoc p n a' l' e' h2]
        cases oneAt p e' with
        | none => rfl
        | some z => rfl
theorem parse_none (p : List UInt8) (n a : Nat) (h : parse p n a = none) : ∀ m, n ≤ m → parse p m a = none := by
  intro m hm
  obtain ⟨k, rfl⟩ := Nat.exists_eq_add_of_le hm
  clear hm
  induction k with
  | zero => exact h
  | succ k ih =>
    have key : ∀ (n a : Nat), parse p n a = none → parse p (n + 1) a = none := by
      intro n
      induction n with
      | zero => intro a h; cases h
      | succ n ih2 =>
        intro a h
        rw [parse] at h ⊢
        cases h1 : oneAt p a with
        | none => rfl
        | some x =>
          obtain ⟨o, a'⟩ := x
          rw [h1] at h
          simp only at h ⊢
          cases h2 : parse p n a' with
          | none => rw [ih2 a' h2]
          | some y => rw [h2] at h; cases h
    exact key _ _ ih
theorem parse_len (p : List UInt8) : ∀ (n a : Nat) (l : List Old) (e : Nat), parse p n a = some (l, e) → l.length = n ∧ a ≤ e ∧ (n ≠ 0 → e ≤ p.length)
  | 0, a, l, e, h => by
    simp only [parse, Option.some.injEq, Prod.mk.injEq] at h
    obtain ⟨rfl, rfl⟩ := h
    exact ⟨rfl, Nat.le_refl _, fun h => absurd rfl h⟩
  | n + 1, a, l, e, h => by
    rw [parse] at h
    cases h1 : oneAt p a with
    | none => rw [h1] at h; cases h
    | some x =>
      obtain ⟨o, a'⟩ := x
      rw [h1] at h
      simp only at h
      cases h2 : parse p n a' with
      | none => rw [h2] at h; cases h
      | some y =>
        obtain ⟨l', e'⟩ := y
        rw [h2] at h
        simp only [Option.some.injEq, Prod.mk.injEq] at h
        obtain ⟨rfl, rfl⟩ := h
        obtain ⟨k1, k2, k3⟩ := parse_len p n a' l' e' h2
        have ha : a < a' ∧ a' ≤ p.length := by
          unfold oneAt at h1
          (repeat' split at h1) <;> (try cases h1) <;> omega
        refine ⟨by simp [k1], by omega, fun _ => ?_⟩
        by_cases hn : n = 0
        · subst hn
          simp only [parse, Option.some.injEq, Prod.mk.injEq] at h2
          omega
        · exact k3 hn

theorem sub_app {α : Type} (a b : List α) (o n : Nat) : sub (a ++ b) (a.length + o) n = sub b o n := by
  rw [sub_r _ _ _ _ (by omega)]; congr 1; omega
theorem getD_app (a b : List UInt8) (o : Nat) : (a ++ b).getD (a.length + o) 0 = b.getD o 0 := by
  rw [List.getD_eq_getElem?_getD, List.getElem?_append_right (by omega), show a.length + o - a.length = o by omega, List.getD_eq_getElem?_getD]

/-- A record that was written is read again. -/
theorem oneAt_rec (x r : List UInt8) (o : Old) (h : wfO o) : oneAt (x ++ (recO o ++ r)) x.length = some (o, x.length + osize o) := by
  have g0 := getD_app x (recO o ++ r) 0
  rw [Nat.add_zero] at g0
  have hl : (x ++ (recO o ++ r)).length = x.length + (osize o + r.length) := by simp only [List.length_append, recO_len]
  unfold oneAt
  rw [g0, hl]
  cases hv : o.live with
  | false =>
    have hz := h.1 hv
    have : recO o = [0] := by simp [recO, hv]
    have hs : osize o = 1 := by simp [osize, hv]
    rw [this, hs]
    rw [if_neg (by omega), if_pos (by simp), hz]
  | true =>
    have hr : recO o = 1 :: (le 2 (o.pn.setWidth 64) ++ (le 4 (o.ts.setWidth 64) ++ (le 2 (o.np.setWidth 64) ++ (o.ns :: UInt8.ofNat o.dl.length :: o.dl)))) := by simp [recO, hv]
    have hs : osize o = 11 + o.dl.length := by simp [osize, hv]
    have hd := h.2
    have e1 : (recO o ++ r).getD 0 0 = 1 := by rw [hr]; rfl
    have e10 : (recO o ++ r).getD 10 0 = UInt8.ofNat o.dl.length := by rw [hr, le2, le4, le2]; rfl
    have e9 : (recO o ++ r).getD 9 0 = o.ns := by rw [hr, le2, le4, le2]; rfl
    have hn : (UInt8.ofNat o.dl.length).toNat = o.dl.length := by rw [UInt8.toNat_ofNat']; omega
    have s1 : sub (recO o ++ r) 1 2 = le 2 (o.pn.setWidth 64) := by rw [hr, le2, le4, le2]; rfl
    have s3 : sub (recO o ++ r) 3 4 = le 4 (o.ts.setWidth 64) := by rw [hr, le2, le4, le2]; rfl
    have s7 : sub (recO o ++ r) 7 2 = le 2 (o.np.setWidth 64) := by rw [hr, le2, le4, le2]; rfl
    have s11 : sub (recO o ++ r) 11 o.dl.length = o.dl := by
      rw [hr, le2, le4, le2]
      simp only [List.cons_append, List.nil_append, sub_s]
      exact sub_l _ _ _ rfl
    rw [if_neg (by omega), e1, if_neg (by decide), if_pos rfl, if_neg (by omega), getD_app, e10, hn, if_neg (by omega)]
    simp only [decO, sub_app, getD_app, e10, e9, hn, s1, s3, s7, s11]
    rw [dle_le 2 _ (by decide) (sw64_16 _), dle_le 4 _ (by decide) (sw64_32 _), dle_le 2 _ (by decide) (sw64_16 _), back16, back16, back32]
    rw [hs]
    simp only [Option.some.injEq, Prod.mk.injEq]
    refine ⟨?_, by omega⟩
    obtain ⟨live, a, b, c, d, l⟩ := o
    simp only at hv
    subst hv
    rfl

theorem parse_recs : ∀ (l : List Old) (x r : List UInt8), (∀ o ∈ l, wfO o) → parse (x ++ (recs l ++ r)) l.length x.length = some (l, x.length + (l.map osize).sum)
  | [], x, r, _ => by simp [parse]
  | o :: l, x, r, h => by
    have e : x ++ (recs (o :: l) ++ r) = x ++ (recO o ++ (recs l ++ r)) := by simp [recs]
    rw [e, List.length_cons, parse, oneAt_rec x _ o (h o (by simp))]
    simp only
    have e2 : x ++ (recO o ++ (recs l ++ r)) = (x ++ recO o) ++ (recs l ++ r) := by simp
    have e3 : x.length + osize o = (x ++ recO o).length := by simp [recO_len]
    rw [e2, e3, parse_recs l (x ++ recO o) r fun o ho => h o (by simp [ho])]
    simp only [List.length_append, recO_len, List.map_cons, List.sum_cons, Nat.add_assoc]

/-- What is read is what was written. -/
theorem oneAt_eq (p : List UInt8) (a : Nat) (o : Old) (e : Nat) (h : oneAt p a = some (o, e)) : e = a + osize o ∧ p.drop a = recO o ++ p.drop e ∧ (o.live = false → o = Old.zero) ∧ o.dl.length ≤ 255 ∧ e ≤ p.length := by
  unfold oneAt at h
  split at h
  · cases h
  rename_i h0
  split at h
  · rename_i h1
    simp only [Option.some.injEq, Prod.mk.injEq] at h
    obtain ⟨rfl, rfl⟩ := h
    refine ⟨rfl, ?_, fun _ => rfl, by simp [Old.zero], by omega⟩
    rw [List.drop_eq_getElem_cons (by omega)]
    rw [getD_get _ _ _ (by omega)] at h1
    rw [h1]; rfl
  split at h
  · rename_i h1
    split at h
    · cases h
    split at h
    · cases h
    rename_i h2 h3
    simp only [Option.some.injEq, Prod.mk.injEq] at h
    obtain ⟨rfl, rfl⟩ := h
    have hb := (p.getD (a + 10) 0).toNat_lt
    have hsl : (sub p (a + 11) (p.getD (a + 10) 0).toNat).length = (p.getD (a + 10) 0).toNat := sub_len _ _ _ (by omega)
    refine ⟨?_, ?_, fun h => by simp [decO] at h, by simp only [decO, hsl]; omega, by omega⟩
    · simp only [decO, osize, if_true, hsl]; omega
    · have l2 : (sub p (a + 1) 2).length = 2 := sub_len _ _ _ (by omega)
      have l4 : (sub p (a + 3) 4).length = 4 := sub_len _ _ _ (by omega)
      have l7 : (sub p (a + 7) 2).length = 2 := sub_len _ _ _ (by omega)
      have b2 := dle_lt (sub p (a + 1) 2) (by omega)
      have b4 := dle_lt (sub p (a + 3) 4) (by omega)
      have b7 := dle_lt (sub p (a + 7) 2) (by omega)
      rw [l2] at b2; rw [l4] at b4; rw [l7] at b7
      simp only [decO, recO, if_true]
      rw [up16 _ b2, up32 _ b4, up16 _ b7, le_dle' 2 _ l2 (by decide), le_dle' 4 _ l4 (by decide), le_dle' 2 _ l7 (by decide), hsl]
      have hof : UInt8.ofNat (p.getD (a + 10) 0).toNat = p.getD (a + 10) 0 := by simp
      rw [hof]
      have key : p.drop a = sub p a 1 ++ (sub p (a + 1) 2 ++ (sub p (a + 3) 4 ++ (sub p (a + 7) 2 ++ (sub p (a + 9) 1 ++ (sub p (a + 10) 1 ++ (sub p (a + 11) (p.getD (a + 10) 0).toNat ++ p.drop (a + 11 + (p.getD (a + 10) 0).toNat))))))) := by
        simp only [sub]
        have step : ∀ k n, p.drop k = (p.drop k).take n ++ p.drop (k + n) := fun k n => by rw [← List.drop_drop, List.take_append_drop]
        conv => lhs; rw [step a 1, step (a + 1) 2, step (a + 1 + 2) 4, step (a + 1 + 2 + 4) 2, step (a + 1 + 2 + 4 + 2) 1, step (a + 1 + 2 + 4 + 2 + 1) 1, step (a + 1 + 2 + 4 + 2 + 1 + 1) (p.getD (a + 10) 0).toNat]
      rw [key, sub_one _ _ (by omega), sub_one _ _ (by omega), sub_one _ _ (by omega), h1]
      simp only [List.cons_append, List.nil_append, List.append_assoc]
  · cases h

theorem parse_eq (p : List UInt8) : ∀ (n a : Nat) (l : List Old) (e : Nat), parse p n a = some (l, e) → e = a + (l.map osize).sum ∧ p.drop a = recs l ++ p.drop e ∧ ∀ o ∈ l, (o.live = false → o = Old.zero)
  | 0, a, l, e, h => by
    simp only [parse, Option.some.injEq, Prod.mk.injEq] at h
    obtain ⟨rfl, rfl⟩ := h
    exact ⟨by simp, by simp [recs], by simp⟩
  | n + 1, a, l, e, h => by
    rw [parse] at h
    cases h1 : oneAt p a with
    | none => rw [h1] at h; cases h
    | some x =>
      obtain ⟨o, a'⟩ := x
      rw [h1] at h
      simp only at h
      cases h2 : parse p n a' with
      | none => rw [h2] at h; cases h
      | some y =>
        obtain ⟨l', e'⟩ := y
        rw [h2] at h
        simp only [Option.some.injEq, Prod.mk.injEq] at h
        obtain ⟨rfl, rfl⟩ := h
        obtain ⟨k1, k2, k3⟩ := parse_eq p n a' l' e' h2
        obtain ⟨j1, j2, j3, _, _⟩ := oneAt_eq p a o a' h1
        refine ⟨by simp only [List.map_cons, List.sum_cons]; omega, ?_, fun x hx => ?_⟩
        · rw [j2, k2]; simp [recs]
        · rcases List.mem_cons.1 hx with rfl | hx
          · exact j3
          · exact k3 x hx

/-! ### What is read of a payload -/

open Classical in
noncomputable def gu (no : BitVec 16) (p : List UInt8) : Option PU :=
  if opensP 2 no p then match parse p (p.getD 15 0).toNat 16 with
    | some (l, e) => if p.drop e = List.replicate (224 - e) 0 ∧ mayU l then some ⟨lsnOf p, l⟩ else none
    | none => none
  else none

theorem gu_iff (no : BitVec 16) (p : List UInt8) (hp : p.length = 224) (u : PU) : gu no p = some u ↔ mayU u.olds ∧ p = putU no u := by
  constructor
  · intro h
    unfold gu at h
    split at h
    · rename_i h1
      split at h
      · rename_i l e h2
        split at h
        · rename_i h3
          cases h
          refine ⟨h3.2, ?_⟩
          rw [opens_pg _ _ _ (by omega)] at h1
          obtain ⟨k1, k2, k3⟩ := parse_eq p _ _ l e h2
          obtain ⟨k4, _, _⟩ := parse_len p _ _ l e h2
          have hd : p.drop 15 = restU l := by
            rw [List.drop_eq_getElem_cons (by omega), k2, h3.1, ← getD_get _ _ 0 (by omega)]
            simp only [restU, textU, List.cons_append, List.length_cons]
            rw [k4]
            have hof : UInt8.ofNat (p.getD 15 0).toNat = p.getD 15 0 := by simp
            rw [hof, recs_len]
            congr 3
            omega
          rw [hd] at h1
          exact h1
        · cases h
      · cases h
    · cases h
  · rintro ⟨hm, rfl⟩
    have hl := putU_len no u hm
    have ho : opensP 2 no (putU no u) := opens_of_pg _ _ _ _
    have hd : (putU no u).drop 15 = restU u.olds := drop_pg _ _ _ _
    have ht : (putU no u).take 15 ++ restU u.olds = putU no u := by rw [← hd, List.take_append_drop]
    have h15 : (putU no u).getD 15 0 = UInt8.ofNat u.olds.length := by
      rw [getD_get _ _ _ (by omega)]
      have := List.drop_eq_getElem_cons (l := putU no u) (i := 15) (by omega)
      rw [hd, restU, textU, List.cons_append] at this
      exact (List.cons.inj this).1.symm
    have hn : (UInt8.ofNat u.olds.length).toNat = u.olds.length := by rw [UInt8.toNat_ofNat']; have := hm.1; omega
    have h16 : (putU no u).take 16 ++ (recs u.olds ++ List.replicate (209 - (textU u.olds).length) 0) = putU no u := by
      have e16 : (putU no u).drop 16 = recs u.olds ++ List.replicate (209 - (textU u.olds).length) 0 := by
        rw [show (16 : Nat) = 15 + 1 by rfl, ← List.drop_drop, hd, restU, textU]; rfl
      rw [← e16, List.take_append_drop]
    have hpz := parse_recs u.olds ((putU no u).take 16) (List.replicate (209 - (textU u.olds).length) 0) hm.2.2.1
    rw [h16, show ((putU no u).take 16).length = 16 by rw [List.length_take]; omega] at hpz
    unfold gu
    rw [if_pos ho, h15, hn, hpz]
    simp only
    have hk := textU_len u.olds
    unfold usize at hk
    have hu := hm.2.2.2
    unfold usize at hu
    have hdz : (putU no u).drop (16 + (u.olds.map osize).sum) = List.replicate (224 - (16 + (u.olds.map osize).sum)) 0 := by
      rw [← List.drop_drop]
      have e16 : (putU no u).drop 16 = recs u.olds ++ List.replicate (209 - (textU u.olds).length) 0 := by
        rw [show (16 : Nat) = 15 + 1 by rfl, ← List.drop_drop, hd, restU, textU]; rfl
      rw [e16, ← recs_len, List.drop_left, recs_len]
      congr 1
      omega
    rw [if_pos ⟨hdz, hm⟩]
    congr 1
    obtain ⟨a, l⟩ := u
    simp only [putU, lsn_pg]

theorem gu_no1 {no : BitVec 16} {p : List UInt8} (h : ¬ opensP 2 no p) : gu no p = none := by unfold gu; rw [if_neg h]
theorem gu_no2 {no : BitVec 16} {p : List UInt8} {i e : Nat} {l : List Old} (hp : parse p i 16 = some (l, e)) (ho : oneAt p e = none) (hi : i < (p.getD 15 0).toNat) : gu no p = none := by
  have h1 := parse_snoc p i 16 l e hp
  rw [ho] at h1
  have h2 := parse_none p (i + 1) 16 h1 (p.getD 15 0).toNat (by omega)
  unfold gu
  rw [h2]
  split <;> rfl
theorem gu_no3 {no : BitVec 16} {p : List UInt8} {e : Nat} {l : List Old} (hp : parse p (p.getD 15 0).toNat 16 = some (l, e)) (hz : ¬ p.drop e = List.replicate (224 - e) 0) : gu no p = none := by
  unfold gu
  rw [hp]
  simp only [hz, false_and, if_false]
  split <;> rfl
theorem gu_no4 {no : BitVec 16} {p : List UInt8} {e : Nat} {l : List Old} (hp : parse p (p.getD 15 0).toNat 16 = some (l, e)) (hz : ¬ mayU l) : gu no p = none := by
  unfold gu
  rw [hp]
  simp only [hz, and_false, if_false]
  split <;> rfl
theorem gu_yes {no : BitVec 16} {p : List UInt8} {e : Nat} {l : List Old} (h : opensP 2 no p) (hp : parse p (p.getD 15 0).toNat 16 = some (l, e)) (hz : p.drop e = List.replicate (224 - e) 0) (hm : mayU l) : gu no p = some ⟨lsnOf p, l⟩ := by
  unfold gu
  rw [if_pos h, hp]
  simp only
  rw [if_pos ⟨hz, hm⟩]
theorem one_no1 {p : List UInt8} {e : Nat} (hp : p.length = 224) (h : 224 ≤ e) : oneAt p e = none := by unfold oneAt; rw [if_pos (by omega)]
theorem one_no2 {p : List UInt8} {e : Nat} (h : 1 < (p.getD e 0).toNat) : oneAt p e = none := by
  unfold oneAt
  split
  · rfl
  rw [if_neg (fun k => by rw [k] at h; exact absurd h (by decide)), if_neg (fun k => by rw [k] at h; exact absurd h (by decide))]
theorem one_no3 {p : List UInt8} {e : Nat} (hp : p.length = 224) (h : p.getD e 0 = 1) (hn : 224 < e + 11 ∨ 224 < e + 11 + (p.getD (e + 10) 0).toNat) : oneAt p e = none := by
  have h0 : ¬ p.getD e 0 = 0 := by rw [h]; decide
  unfold oneAt
  by_cases h1 : p.length ≤ e
  · rw [if_pos h1]
  rw [if_neg h1, if_neg h0, if_pos h]
  by_cases h2 : p.length < e + 11
  · rw [if_pos h2]
  · rw [if_neg h2, if_pos (by omega)]
theorem one_0 {p : List UInt8} {e : Nat} (hp : p.length = 224) (he : e < 224) (h : p.getD e 0 = 0) : oneAt p e = some (Old.zero, e + 1) := by
  unfold oneAt
  rw [if_neg (by omega), if_pos h]
theorem one_1 {p : List UInt8} {e : Nat} (hp : p.length = 224) (h : p.getD e 0 = 1) (hn : e + 11 + (p.getD (e + 10) 0).toNat ≤ 224) : oneAt p e = some (decO p e, e + 11 + (p.getD (e + 10) 0).toNat) := by
  unfold oneAt
  rw [if_neg (by omega), if_neg (by rw [h]; decide), if_pos h, if_neg (by omega), if_neg (by omega)]

/-! ### The lenient reading -/

def lpOne (p : List UInt8) (a : Nat) : Option (Old × Nat) :=
  if p.getD a 0 = 1 ∧ a ≤ 213 then
    if 224 - a - 11 < (p.getD (a + 10) 0).toNat then none
    else some (decO p a, a + 11 + (p.getD (a + 10) 0).toNat)
  else some (Old.zero, a + 1)
theorem lp_of (p : List UInt8) (a : Nat) (hp : p.length = 224) (o : Old) (e : Nat) (h : oneAt p a = some (o, e)) : lpOne p a = some (o, e) := by
  unfold oneAt at h
  unfold lpOne
  split at h
  · cases h
  rename_i h0
  split at h
  · rename_i h1
    rw [if_neg (fun k => by rw [h1] at k; exact absurd k.1 (by decide))]
    exact h
  split at h
  · rename_i h1
    split at h
    · cases h
    split at h
    · cases h
    rename_i h2 h3
    rw [if_pos ⟨h1, by omega⟩, if_neg (by omega)]
    exact h
  · cases h

theorem may_no {l : List Old} {o : Old} (i : Nat) (h : l[i]? = some o) (hw : ¬ wfO o) : ¬ mayU l := fun k => hw (k.2.2.1 o (List.mem_of_getElem? h))
theorem may_no15 {l : List Old} (h : 15 < l.length) : ¬ mayU l := fun k => by have := k.1; omega
theorem may_nolast {l : List Old} {o : Old} (h : l[l.length - 1]? = some o) (hv : o.live = false) : ¬ mayU l := fun k => by
  have := k.2.1 o (by rw [List.getLast?_eq_getElem?]; exact h)
  rw [hv] at this; cases this
theorem may_yes {l : List Old} (h15 : ¬ 15 < l.length) (hl : l.length = 0 ∨ ∃ o, l[l.length - 1]? = some o ∧ o.live = true) (hw : ∀ o ∈ l, wfO o) : mayU l ↔ usize l ≤ 224 := by
  constructor
  · exact fun h => h.2.2.2
  · intro h
    refine ⟨by omega, fun o ho => ?_, hw, h⟩
    rw [List.getLast?_eq_getElem?] at ho
    rcases hl with h0 | ⟨o', h1, h2⟩
    · rw [List.length_eq_zero_iff.1 h0] at ho; cases ho
    · rw [h1] at ho; cases ho; exact h2
theorem wf_take {l : List Old} {o : Old} (i : Nat) (h : l[i]? = some o) (hw : ∀ x ∈ l.take i, wfO x) (ho : wfO o) : ∀ x ∈ l.take (i + 1), wfO x := by
  rw [List.take_add_one, h]
  intro x hx
  rcases List.mem_append.1 hx with hx | hx
  · exact hw x hx
  · simp at hx; subst hx; exact ho

theorem may_nil : mayU [] := ⟨by simp, by simp, by simp, by decide⟩
theorem gu_put (no : BitVec 16) (u : PU) (h : mayU u.olds) : gu no (putU no u) = some u := (gu_iff no _ (putU_len no u h) u).2 ⟨h, rfl⟩
theorem gu_put_no (no n' : BitVec 16) (u : PU) (h : n' ≠ no) : gu n' (putU no u) = none := gu_no1 fun k => h ((opens_pg' 2 2 no n' u.lsn (restU u.olds)).1 k).2
theorem gu_putD (no n' : BitVec 16) (d : PD) : gu n' (putD no d) = none := gu_no1 fun k => by
  have := ((opens_pg' 1 2 no n' d.lsn (restD d)).1 k).1
  revert this; decide
theorem okD_putU (no n' : BitVec 16) (u : PU) : ¬ okD n' (putU no u) := fun k => by
  have := ((opens_pg' 2 1 no n' u.lsn (restU u.olds)).1 k.1).1
  revert this; decide
theorem lsn_putU (no : BitVec 16) (u : PU) : lsnOf (putU no u) = u.lsn := by simp only [putU, lsn_pg]
theorem gu_short {no : BitVec 16} {p : List UInt8} (hp : p.length = 224) : ((gu no p).getD PU.zero).olds.length ≤ 15 := by
  cases h : gu no p with
  | none => simp [PU.zero]
  | some u => exact ((gu_iff no p hp u).1 h).1.1
theorem PU.cells_def (u : PU) : PU.cells u = [c64 u.lsn, .s 6 (u.olds.map Old.cells) none] := rfl
attribute [go_sem] PU.cells_def

/-- If a payload is read at all, every record of it is. -/
theorem gu_parse {no : BitVec 16} {p : List UInt8} {u : PU} (h : gu no p = some u) : ∃ e, parse p (p.getD 15 0).toNat 16 = some (u.olds, e) := by
  unfold gu at h
  split at h
  · split at h
    · rename_i l e h2
      split at h
      · cases h; exact ⟨e, h2⟩
      · cases h
    · cases h
  · cases h
theorem gu_step {no : BitVec 16} {p : List UInt8} {u : PU} (h : gu no p = some u) {i e : Nat} {l : List Old} (hp : parse p i 16 = some (l, e)) (hi : i < (p.getD 15 0).toNat) : ∃ o e', oneAt p e = some (o, e') ∧ parse p (i + 1) 16 = some (l ++ [o], e') := by
  obtain ⟨E, hE⟩ := gu_parse h
  have hs := parse_snoc p i 16 l e hp
  cases ho : oneAt p e with
  | none =>
    rw [ho] at hs
    have := parse_none p (i + 1) 16 hs (p.getD 15 0).toNat (by omega)
    rw [this] at hE; cases hE
  | some x =>
    obtain ⟨o, e'⟩ := x
    rw [ho] at hs
    exact ⟨o, e', rfl, hs⟩
theorem gu_final {no : BitVec 16} {p : List UInt8} (hpl : p.length = 224) {l : List Old} {i e : Nat} (hp : ∀ u, gu no p = some u → parse p i 16 = some (l, e)) (hi : i ≤ (p.getD 15 0).toNat) (hx : (p.getD 15 0).toNat ≤ i ∨ 224 ≤ e) :
    gu no p = if mayU l ∧ putU no ⟨lsnOf p, l⟩ = p then some ⟨lsnOf p, l⟩ else none := by
  by_cases h : mayU l ∧ putU no ⟨lsnOf p, l⟩ = p
  · rw [if_pos h]
    exact (gu_iff no p hpl _).2 ⟨h.1, h.2.symm⟩
  · rw [if_neg h]
    cases hg : gu no p with
    | none => rfl
    | some u =>
      exfalso
      have hpa := hp u hg
      obtain ⟨E, hE⟩ := gu_parse hg
      have hic : i = (p.getD 15 0).toNat := by
        rcases hx with hx | hx
        · omega
        · rcases Nat.lt_or_ge i (p.getD 15 0).toNat with h1 | h1
          · obtain ⟨o, e', h2, _⟩ := gu_step hg hpa h1
            rw [one_no1 hpl hx] at h2; cases h2
          · omega
      rw [hic, hE] at hpa
      simp only [Option.some.injEq, Prod.mk.injEq] at hpa
      obtain ⟨h1, h2⟩ := (gu_iff no p hpl u).1 hg
      have hl : lsnOf p = u.lsn := by rw [h2]; simp only [putU, lsn_pg]
      apply h
      rw [← hpa.1, hl]
      exact ⟨h1, h2.symm⟩
theorem lp_gu {no : BitVec 16} {p : List UInt8} (hpl : p.length = 224) {i e e' : Nat} {l : List Old} {o : Old} (hp : ∀ u, gu no p = some u → parse p i 16 = some (l, e)) (hi : i < (p.getD 15 0).toNat) (ho : lpOne p e = some (o, e')) : ∀ u, gu no p = some u → parse p (i + 1) 16 = some (l ++ [o], e') := by
  intro u hu
  obtain ⟨o2, e2, h1, h2⟩ := gu_step hu (hp u hu) hi
  have := lp_of p e hpl o2 e2 h1
  rw [ho] at this
  cases this
  exact h2
theorem lp_gu_no {no : BitVec 16} {p : List UInt8} (hpl : p.length = 224) {i e : Nat} {l : List Old} (hp : ∀ u, gu no p = some u → parse p i 16 = some (l, e)) (hi : i < (p.getD 15 0).toNat) (ho : lpOne p e = none) : gu no p = none := by
  cases hg : gu no p with
  | none => rfl
  | some u =>
    obtain ⟨o2, e2, h1, h2⟩ := gu_step hg (hp u hg) hi
    have := lp_of p e hpl o2 e2 h1
    rw [ho] at this
    cases this
theorem lp_1 {p : List UInt8} {e : Nat} (h : p.getD e 0 = 1) (he : e ≤ 213) (hn : ¬ 224 - e - 11 < (p.getD (e + 10) 0).toNat) : lpOne p e = some (decO p e, e + 11 + (p.getD (e + 10) 0).toNat) := by unfold lpOne; rw [if_pos ⟨h, he⟩, if_neg hn]
theorem lp_no {p : List UInt8} {e : Nat} (h : p.getD e 0 = 1) (he : e ≤ 213) (hn : 224 - e - 11 < (p.getD (e + 10) 0).toNat) : lpOne p e = none := by unfold lpOne; rw [if_pos ⟨h, he⟩, if_pos hn]
theorem lp_0 {p : List UInt8} {e : Nat} (h : ¬ (p.getD e 0 = 1 ∧ e ≤ 213)) : lpOne p e = some (Old.zero, e + 1) := by unfold lpOne; rw [if_neg h]

end Go.Eng
