/-
  Pages as lists of bytes: plain laws. Nothing here speaks of the program.
-/
import Derived.Test.YtmnmbpcbfmhceaaEng25
set_option linter.unusedSimpArgs false
set_option linter.unusedVariables false
namespace Go.Eng

theorem over_s {α : Type} (x : α) (l m : List α) (n : Nat) : over (x :: l) (n + 1) m = x :: over l n m := by
  simp only [over, List.take_succ_cons, List.cons_append, List.cons.injEq, true_and]
  congr 1
  rw [show n + 1 + m.length = (n + m.length) + 1 by omega, List.drop_succ_cons]
theorem over_c {α : Type} (x y : α) (l m : List α) : over (x :: l) 0 (y :: m) = y :: over l 0 m := by simp [over]
theorem over_n {α : Type} (l : List α) (o : Nat) : over l o [] = l := by simp [over]
theorem over_all {α : Type} (l m : List α) (h : l.length ≤ m.length) : over l 0 m = m := by
  simp only [over, List.take_zero, List.nil_append, Nat.zero_add]; rw [List.drop_eq_nil_of_le h, List.append_nil]
theorem over_rep {α : Type} (n o : Nat) (z : α) (m : List α) (h : o + m.length ≤ n) : over (List.replicate n z) o m = List.replicate o z ++ m ++ List.replicate (n - o - m.length) z := by
  simp only [over, List.take_replicate, List.drop_replicate]
  rw [Nat.min_eq_left (by omega), show n - (o + m.length) = n - o - m.length by omega]
theorem over_r {α : Type} (a b m : List α) (o : Nat) (h : a.length ≤ o) : over (a ++ b) o m = a ++ over b (o - a.length) m := by
  simp only [over, List.take_append, List.drop_append]
  rw [List.take_of_length_le h, List.drop_eq_nil_of_le (by omega), List.nil_append]
  simp only [List.append_assoc]
  congr 3
  rw [show o + m.length - a.length = o - a.length + m.length by omega]
theorem over_front {α : Type} (a b m : List α) (h : a.length = m.length) : over (a ++ b) 0 m = m ++ b := by
  simp only [over, List.take_zero, List.nil_append, Nat.zero_add, ← h, List.drop_left]
theorem sub_s {α : Type} (x : α) (l : List α) (o n : Nat) : sub (x :: l) (o + 1) n = sub l o n := by simp [sub]
theorem sub_t {α : Type} (x : α) (l : List α) (n : Nat) : sub (x :: l) 0 (n + 1) = x :: sub l 0 n := by simp [sub]
theorem sub_r {α : Type} (a b : List α) (o n : Nat) (h : a.length ≤ o) : sub (a ++ b) o n = sub b (o - a.length) n := by
  simp only [sub, List.drop_append]; rw [List.drop_eq_nil_of_le h, List.nil_append]
theorem sub_l {α : Type} (a b : List α) (n : Nat) (h : a.length = n) : sub (a ++ b) 0 n = a := by
  simp only [sub, List.drop_zero, ← h, List.take_left]
theorem sub_split {α : Type} (l : List α) (o n m : Nat) (h : o + n ≤ l.length) : sub l o (n + m) = sub l o n ++ sub l (o + n) m := by
  simp only [sub]
  rw [List.take_add, List.drop_drop]

theorem le2 (v : BitVec 64) : le 2 v = [byteN v 0, byteN v 1] := rfl
theorem le4 (v : BitVec 64) : le 4 v = [byteN v 0, byteN v 1, byteN v 2, byteN v 3] := rfl
theorem le8 (v : BitVec 64) : le 8 v = [byteN v 0, byteN v 1, byteN v 2, byteN v 3, byteN v 4, byteN v 5, byteN v 6, byteN v 7] := rfl

/-- A payload of its parts, with its sum. -/
def pgHead (kind : UInt8) (no : BitVec 16) : List UInt8 := kind :: le 2 (no.setWidth 64)
def pg (kind : UInt8) (no : BitVec 16) (lsn : BitVec 64) (r : List UInt8) : List UInt8 :=
  pgHead kind no ++ le 4 ((more 0 (pgHead kind no ++ [0, 0, 0, 0] ++ (le 8 lsn ++ r))).setWidth 64) ++ (le 8 lsn ++ r)

theorem pg_len (kind : UInt8) (no : BitVec 16) (lsn : BitVec 64) (r : List UInt8) : (pg kind no lsn r).length = 15 + r.length := by
  simp only [pg, pgHead, List.length_append, List.length_cons, le_len]; omega

/-- The sum of a payload, without the bytes in which it stands. -/
def psum (p : List UInt8) : BitVec 32 := more 0 (over p 3 [0, 0, 0, 0])
def sealL (kind : UInt8) (no : BitVec 16) (lsn : BitVec 64) (p : List UInt8) : List UInt8 :=
  over (over (over (over p 0 [kind]) 1 (le 2 (no.setWidth 64))) 7 (le 8 lsn)) 3 (le 4 ((psum (over (over (over p 0 [kind]) 1 (le 2 (no.setWidth 64))) 7 (le 8 lsn))).setWidth 64))

theorem explode (p : List UInt8) (h : 15 ≤ p.length) : ∃ x0 x1 x2 x3 x4 x5 x6 x7 x8 x9 x10 x11 x12 x13 x14 r, p = x0 :: x1 :: x2 :: x3 :: x4 :: x5 :: x6 :: x7 :: x8 :: x9 :: x10 :: x11 :: x12 :: x13 :: x14 :: r := by
  match p, h with
  | x0 :: x1 :: x2 :: x3 :: x4 :: x5 :: x6 :: x7 :: x8 :: x9 :: x10 :: x11 :: x12 :: x13 :: x14 :: r, _ => exact ⟨_, _, _, _, _, _, _, _, _, _, _, _, _, _, _, _, rfl⟩

theorem seal_pg (kind : UInt8) (no : BitVec 16) (lsn : BitVec 64) (p : List UInt8) (h : 15 ≤ p.length) : sealL kind no lsn p = pg kind no lsn (p.drop 15) := by
  obtain ⟨x0, x1, x2, x3, x4, x5, x6, x7, x8, x9, x10, x11, x12, x13, x14, r, rfl⟩ := explode p h
  simp only [sealL, psum, pg, pgHead, le2, le4, le8, over_s, over_c, over_n, List.drop_succ_cons, List.drop_zero, List.cons_append, List.nil_append]

/-- Is a payload one of a kind and a number? -/
def opensP (kind : UInt8) (no : BitVec 16) (p : List UInt8) : Prop := p.getD 0 0 = kind ∧ dle (sub p 1 2) = no.setWidth 64 ∧ dle (sub p 3 4) = (psum p).setWidth 64
instance (kind : UInt8) (no : BitVec 16) (p : List UInt8) : Decidable (opensP kind no p) := inferInstanceAs (Decidable (_ ∧ _))

def lsnOf (p : List UInt8) : BitVec 64 := dle (sub p 7 8)

theorem opens_pg (kind : UInt8) (no : BitVec 16) (p : List UInt8) (h : 15 ≤ p.length) : opensP kind no p ↔ p = pg kind no (lsnOf p) (p.drop 15) := by
  obtain ⟨x0, x1, x2, x3, x4, x5, x6, x7, x8, x9, x10, x11, x12, x13, x14, r, rfl⟩ := explode p h
  have h1 := dle_eq_iff 2 [x1, x2] (no.setWidth 64) rfl (by decide) (sw64_16 no)
  have h2 := dle_eq_iff 4 [x3, x4, x5, x6] ((more 0 (x0 :: x1 :: x2 :: 0 :: 0 :: 0 :: 0 :: x7 :: x8 :: x9 :: x10 :: x11 :: x12 :: x13 :: x14 :: r)).setWidth 64) rfl (by decide) (sw64_32 _)
  have h3 := le_dle' 8 [x7, x8, x9, x10, x11, x12, x13, x14] rfl (by decide)
  simp only [opensP, lsnOf, psum, pg, pgHead, sub_s, sub_t, sub_0, over_s, over_c, over_n, List.getD_cons_zero, List.drop_succ_cons, List.drop_zero, h1, h2, h3]
  simp only [le2, le4, List.cons_append, List.nil_append, List.cons.injEq, and_true]
  constructor
  · rintro ⟨rfl, ⟨rfl, rfl⟩, e1, e2, e3, e4⟩
    exact ⟨rfl, rfl, rfl, e1, e2, e3, e4⟩
  · rintro ⟨rfl, rfl, rfl, e1, e2, e3, e4⟩
    exact ⟨rfl, ⟨rfl, rfl⟩, e1, e2, e3, e4⟩

theorem lsn_pg (kind : UInt8) (no : BitVec 16) (lsn : BitVec 64) (r : List UInt8) : lsnOf (pg kind no lsn r) = lsn := by
  have h3 := dle_le 8 lsn (by decide) (sw64_64 lsn)
  rw [le8] at h3
  simp only [lsnOf, pg, pgHead, le2, le4, le8, List.cons_append, List.nil_append, sub_s, sub_t, sub_0, h3]

theorem drop_pg (kind : UInt8) (no : BitVec 16) (lsn : BitVec 64) (r : List UInt8) : (pg kind no lsn r).drop 15 = r := by
  simp only [pg, pgHead, le2, le4, le8, List.cons_append, List.nil_append, List.drop_succ_cons, List.drop_zero]

theorem opens_of_pg (kind : UInt8) (no : BitVec 16) (lsn : BitVec 64) (r : List UInt8) : opensP kind no (pg kind no lsn r) :=
  (opens_pg _ _ _ (by rw [pg_len]; omega)).2 (by rw [lsn_pg, drop_pg])

theorem no_inj (a b : BitVec 16) (h : a.setWidth 64 = b.setWidth 64) : a = b := by
  have := congrArg (fun x : BitVec 64 => x.setWidth 16) h
  simpa [back16] using this

theorem opens_pg' (kind k' : UInt8) (no n' : BitVec 16) (lsn : BitVec 64) (r : List UInt8) : opensP k' n' (pg kind no lsn r) ↔ k' = kind ∧ n' = no := by
  constructor
  · intro h
    have h1 := h.1
    have h2 := h.2.1
    simp only [pg, pgHead, List.cons_append, List.getD_cons_zero] at h1
    have h3 : sub (pg kind no lsn r) 1 2 = le 2 (no.setWidth 64) := by
      simp only [pg, pgHead, le2, le4, le8, List.cons_append, List.nil_append, sub_s, sub_t, sub_0]
    rw [h3, dle_le 2 _ (by decide) (sw64_16 no)] at h2
    exact ⟨h1.symm, (no_inj _ _ h2).symm⟩
  · rintro ⟨rfl, rfl⟩
    exact opens_of_pg _ _ _ _

/-! ### Data pages -/

/-- A data page: the slot's byte and the body stand in one list. -/
structure PD where
  lsn : BitVec 64
  ts : BitVec 32
  pn : BitVec 16
  sb : List UInt8
  deriving DecidableEq

def PD.cells (d : PD) : List CV := c64 d.lsn :: c32 d.ts :: c16 d.pn :: d.sb.map b8
def PD.zero : PD := ⟨0, 0, 0, List.replicate 65 0⟩
def restD (d : PD) : List UInt8 := le 4 (d.ts.setWidth 64) ++ (le 2 (d.pn.setWidth 64) ++ (d.sb ++ List.replicate 138 0))
def putD (no : BitVec 16) (d : PD) : List UInt8 := pg 1 no d.lsn (restD d)
def getD (p : List UInt8) : PD := ⟨lsnOf p, (dle (sub p 15 4)).setWidth 32, (dle (sub p 19 2)).setWidth 16, sub p 21 65⟩
def okD (no : BitVec 16) (p : List UInt8) : Prop := opensP 1 no p ∧ p.drop 86 = List.replicate 138 0
instance (no : BitVec 16) (p : List UInt8) : Decidable (okD no p) := inferInstanceAs (Decidable (_ ∧ _))

theorem putD_len (no : BitVec 16) (d : PD) (h : d.sb.length = 65) : (putD no d).length = 224 := by
  simp only [putD, pg_len, restD, List.length_append, le_len, List.length_replicate, h]

theorem restD_getD (p : List UInt8) (h : p.length = 224) : restD (getD p) = sub p 15 71 ++ List.replicate 138 0 := by
  have l4 : (sub p 15 4).length = 4 := sub_len _ _ _ (by omega)
  have l2 : (sub p 19 2).length = 2 := sub_len _ _ _ (by omega)
  have a := dle_lt (sub p 15 4) (by omega)
  have b := dle_lt (sub p 19 2) (by omega)
  rw [l4] at a
  rw [l2] at b
  simp only [restD, getD]
  rw [up32 _ a, up16 _ b, le_dle' 4 _ l4 (by decide), le_dle' 2 _ l2 (by decide)]
  rw [show (71 : Nat) = 4 + 67 by rfl, sub_split p 15 4 67 (by omega), show (67 : Nat) = 2 + 65 by rfl, sub_split p (15 + 4) 2 65 (by omega)]
  simp only [List.append_assoc]

theorem put_get (no : BitVec 16) (p : List UInt8) (h : p.length = 224) : putD no (getD p) = p ↔ okD no p := by
  have hl : (putD no (getD p)).length = 224 := putD_len _ _ (sub_len _ _ _ (by omega))
  have hd : p.drop 15 = sub p 15 71 ++ p.drop 86 := by
    simp only [sub]
    rw [show (86 : Nat) = 15 + 71 by rfl, ← List.drop_drop, List.take_append_drop]
  have l71 : (sub p 15 71).length = 71 := sub_len _ _ _ (by omega)
  constructor
  · intro e
    have e15 : p.drop 15 = restD (getD p) := by
      have := congrArg (fun l => l.drop 15) e
      simp only [putD, drop_pg] at this
      exact this.symm
    constructor
    · rw [opens_pg _ _ _ (by omega), e15]
      exact e.symm
    · rw [hd, restD_getD p h] at e15
      exact List.append_cancel_left e15
  · rintro ⟨h1, h2⟩
    rw [opens_pg _ _ _ (by omega)] at h1
    have : restD (getD p) = p.drop 15 := by rw [restD_getD p h, hd, h2]
    simp only [putD]
    rw [this]
    exact h1.symm

theorem get_put (no : BitVec 16) (d : PD) (h : d.sb.length = 65) : getD (putD no d) = d := by
  have h0 : ∀ o n, 15 ≤ o → sub (putD no d) o n = sub (restD d) (o - 15) n := fun o n ho => by
    simp only [sub, putD]
    rw [show o = 15 + (o - 15) by omega, ← List.drop_drop, drop_pg, show 15 + (o - 15) - 15 = o - 15 by omega]
  have h1 : sub (putD no d) 15 4 = le 4 (d.ts.setWidth 64) := by rw [h0 _ _ (by decide)]; exact sub_l _ _ _ (le_len _ _)
  have h2 : sub (putD no d) 19 2 = le 2 (d.pn.setWidth 64) := by
    rw [h0 _ _ (by decide), restD, sub_r _ _ _ _ (by rw [le_len]; decide), le_len]; exact sub_l _ _ _ (le_len _ _)
  have h3 : sub (putD no d) 21 65 = d.sb := by
    rw [h0 _ _ (by decide), restD, sub_r _ _ _ _ (by rw [le_len]; decide), le_len, sub_r _ _ _ _ (by rw [le_len]; decide), le_len]; exact sub_l _ _ _ h
  simp only [getD, h1, h2, h3]
  rw [dle_le 4 _ (by decide) (sw64_32 _), dle_le 2 _ (by decide) (sw64_16 _), back32, back16]
  simp only [putD, lsn_pg]

theorem okD_put (no n' : BitVec 16) (d : PD) (h : d.sb.length = 65) : okD n' (putD no d) ↔ n' = no := by
  constructor
  · intro hk; exact ((opens_pg' _ _ _ _ _ _).1 hk.1).2
  · rintro rfl
    exact (put_get _ _ (putD_len _ _ h)).1 (by rw [get_put _ _ h])

/-- What is read of a payload. -/
def gd (no : BitVec 16) (p : List UInt8) : PD := if okD no p then getD p else PD.zero
theorem gd_len (no : BitVec 16) (p : List UInt8) (h : p.length = 224) : (gd no p).sb.length = 65 := by
  unfold gd
  split
  · exact sub_len _ _ _ (by omega)
  · rfl
theorem gd_put (no : BitVec 16) (d : PD) (h : d.sb.length = 65) : gd no (putD no d) = d := by
  rw [gd, if_pos ((okD_put _ _ _ h).2 rfl), get_put _ _ h]

theorem PD.cells_mk (a : BitVec 64) (b : BitVec 32) (c : BitVec 16) (l : List UInt8) : PD.cells ⟨a, b, c, l⟩ = c64 a :: c32 b :: c16 c :: l.map b8 := rfl
theorem PD.cells_len (d : PD) : (PD.cells d).length = 3 + d.sb.length := by simp [PD.cells]; omega
theorem PD.kinds (d : PD) : kinds (PD.cells d) = .i .u64 :: .i .u32 :: .i .u16 :: List.replicate d.sb.length (.i .u8) := by
  simp only [PD.cells, kinds_cons, kinds_map, kind_64, kind_32, kind_16]
theorem PD.eqCs (a b : PD) : eqCs (PD.cells a) (PD.cells b) = decide (a = b) := by
  cases a; cases b
  simp only [PD.cells, eqCs_cons, eqC_64, eqC_32, eqC_16, eqCs_map, PD.mk.injEq, Bool.decide_and]
attribute [go_sem] PD.cells_mk PD.cells_len PD.kinds PD.eqCs

theorem putD_0 (no : BitVec 16) (d : PD) : (putD no d).getD 0 0 = 1 := by
  simp only [putD, pg, pgHead, List.cons_append, List.getD_cons_zero]

end Go.Eng
