/-
  Turned bits in a payload: plain laws. Nothing here speaks of the program.
-/
import Derived.Test.YtmnmbpcbfmhceaaM3
set_option linter.unusedSimpArgs false
set_option linter.unusedVariables false
namespace Go.Eng

/-- A payload in which bits were turned from a place on, so many bytes of it. -/
def fl (p : List UInt8) (s : Nat) (x : BitVec 64) : Nat → List UInt8
  | 0 => p
  | i + 1 => over (fl p s x i) (s + i) [(fl p s x i).getD (s + i) 0 ^^^ byteN x i]
theorem fl_len (p : List UInt8) (s : Nat) (x : BitVec 64) : ∀ i, s + i ≤ p.length → (fl p s x i).length = p.length
  | 0, _ => rfl
  | i + 1, h => by
    have ih := fl_len p s x i (by omega)
    rw [fl, over_len _ _ _ (by rw [ih, List.length_singleton]; omega), ih]
theorem over_l {α : Type} (a b m : List α) (o : Nat) (h : o + m.length ≤ a.length) : over (a ++ b) o m = over a o m ++ b := by
  simp only [over]
  rw [List.take_append_of_le_length (by omega), List.drop_append_of_le_length h]
  simp only [List.append_assoc]
theorem fl_step (a b : List UInt8) (w y : UInt8) (k : Nat) (hk : k = a.length) : over (a ++ w :: b) k [y] = a ++ y :: b := by
  subst hk
  rw [over_r _ _ _ _ (Nat.le_refl _), Nat.sub_self, over_c, over_n]
theorem fl_get (a b : List UInt8) (w : UInt8) (k : Nat) (hk : k = a.length) : (a ++ w :: b).getD k 0 = w := by
  subst hk
  have := getD_app a (w :: b) 0
  rw [Nat.add_zero] at this
  rw [this]; rfl
theorem fl_5 (a b : List UInt8) (w0 w1 w2 w3 w4 : UInt8) (x : BitVec 64) :
    fl (a ++ w0 :: w1 :: w2 :: w3 :: w4 :: b) a.length x 5 = a ++ (List.zipWith (· ^^^ ·) [w0, w1, w2, w3, w4] (List.map (byteN x) [0, 1, 2, 3, 4])) ++ b := by
  have e : ∀ (c : List UInt8) (z : UInt8) (r : List UInt8), c ++ z :: r = (c ++ [z]) ++ r := by intros; simp
  have s1 : fl (a ++ w0 :: w1 :: w2 :: w3 :: w4 :: b) a.length x 1 = a ++ (w0 ^^^ byteN x 0) :: w1 :: w2 :: w3 :: w4 :: b := by
    simp only [fl]; rw [fl_get _ _ _ _ (by simp), fl_step _ _ _ _ _ (by simp)]
  have s2 : fl (a ++ w0 :: w1 :: w2 :: w3 :: w4 :: b) a.length x 2 = (a ++ [w0 ^^^ byteN x 0]) ++ (w1 ^^^ byteN x 1) :: w2 :: w3 :: w4 :: b := by
    rw [fl, s1, e, fl_get _ _ _ _ (by simp), fl_step _ _ _ _ _ (by simp)]
  have s3 : fl (a ++ w0 :: w1 :: w2 :: w3 :: w4 :: b) a.length x 3 = (a ++ [w0 ^^^ byteN x 0] ++ [w1 ^^^ byteN x 1]) ++ (w2 ^^^ byteN x 2) :: w3 :: w4 :: b := by
    rw [fl, s2, e, fl_get _ _ _ _ (by simp), fl_step _ _ _ _ _ (by simp)]
  have s4 : fl (a ++ w0 :: w1 :: w2 :: w3 :: w4 :: b) a.length x 4 = (a ++ [w0 ^^^ byteN x 0] ++ [w1 ^^^ byteN x 1] ++ [w2 ^^^ byteN x 2]) ++ (w3 ^^^ byteN x 3) :: w4 :: b := by
    rw [fl, s3, e, fl_get _ _ _ _ (by simp), fl_step _ _ _ _ _ (by simp)]
  rw [fl, s4, e, fl_get _ _ _ _ (by simp), fl_step _ _ _ _ _ (by simp)]
  simp

theorem split5 (p : List UInt8) (s : Nat) (h : s + 5 ≤ p.length) : ∃ a w0 w1 w2 w3 w4 b, p = a ++ w0 :: w1 :: w2 :: w3 :: w4 :: b ∧ a.length = s := by
  have hl : (p.drop s).length = p.length - s := List.length_drop
  have h5 : 5 ≤ (p.drop s).length := by omega
  clear hl
  match hq : p.drop s, h5 with
  | w0 :: w1 :: w2 :: w3 :: w4 :: b, _ => exact ⟨p.take s, w0, w1, w2, w3, w4, b, by rw [← hq, List.take_append_drop], by rw [List.length_take]; omega⟩
  | [], h => simp at h
  | [_], h => simp at h
  | [_, _], h => simp at h
  | [_, _, _], h => simp at h
  | [_, _, _, _], h => simp at h

/-- Such a payload is none. -/
theorem turned_no (p : List UInt8) (k k' : UInt8) (no no' : BitVec 16) (bits : BitVec 32) (r s : Nat) (hr : r < 8) (hb : bits ≠ 0#32) (hs : 7 ≤ s) (hp : s + 5 ≤ p.length) (ho : opensP k no p) :
    ¬ opensP k' no' (fl p s ((bits.setWidth 64) <<< r) 5) := by
  obtain ⟨a, w0, w1, w2, w3, w4, b, rfl, rfl⟩ := split5 p s hp
  rw [fl_5]
  intro h
  have h1 := ho.2.2
  have h2 := h.2.2
  have e1 : ∀ c : List UInt8, sub (a ++ c) 3 4 = sub a 3 4 := fun c => by
    simp only [sub]; rw [List.drop_append_of_le_length (by omega), List.take_append_of_le_length (by rw [List.length_drop]; omega)]
  have e2 : ∀ c : List UInt8, psum (a ++ c) = more 0 (over a 3 [0, 0, 0, 0] ++ c) := fun c => by
    unfold psum; rw [over_l _ _ _ _ (by simp only [List.length_cons, List.length_nil]; omega)]
  rw [List.append_assoc, e1, e2] at h2
  rw [e1, e2] at h1
  rw [h1] at h2
  have h3 : ∀ x y : BitVec 32, x.setWidth 64 = y.setWidth 64 → x = y := fun x y h => by rw [← back32 x, h, back32 y]
  have h4 := h3 _ _ h2
  refine more_burst (over a 3 [0, 0, 0, 0]) [w0, w1, w2, w3, w4] b bits r hr hb rfl ?_
  rw [List.append_assoc, List.append_assoc]
  exact h4.symm

theorem xor8 (x y : UInt8) : ariV .xor (.c (b8 x)) (.c (b8 y)) = some (.c (b8 (x ^^^ y))) := by
  simp only [ariV, b8, ariI, if_true, I, w8]
  refine congrArg (fun z : UInt8 => some (AV.c (b8 z))) ?_
  apply UInt8.toBitVec_inj.1
  show BitVec.ofInt 8 ((BitVec.ofInt 8 (x.toBitVec.toNat : Int) ^^^ BitVec.ofInt 8 (y.toBitVec.toNat : Int)).toNat : Int) = (x ^^^ y).toBitVec
  rw [xorG]; rfl
theorem remi8 (q : Nat) : ariV .rem (.c (.p (.int .i64 (q : Int)))) (.c (.p (.int .i64 8))) = some (I .i64 ((q % 8 : Nat) : Int)) := by
  simp only [ariV, ariI, if_true, if_neg (show ¬ (8 : Int) = 0 by decide), I]
  rw [Int.tmod_eq_emod_of_nonneg (by omega)]; rfl
theorem quoi8 (q : Nat) (h : q < 4611686018427387904) : ariV .quo (.c (.p (.int .i64 (q : Int)))) (.c (.p (.int .i64 8))) = some (I .i64 ((q / 8 : Nat) : Int)) := by
  simp only [ariV, ariI, if_true, if_neg (show ¬ (8 : Int) = 0 by decide), I]
  rw [Int.tdiv_eq_ediv_of_nonneg (by omega), wi _ (by omega)]; rfl

end Go.Eng
