/-
  Words and their bytes, sums of texts: plain laws. Nothing here speaks of the program.
-/
import Derived.KernelRfl
set_option linter.unusedVariables false
set_option linter.unusedSimpArgs false
namespace Go.Eng

/-- The lowest n bytes of a word, the lowest first. -/
def le : Nat → BitVec 64 → List UInt8
  | 0, _ => []
  | n + 1, v => le n v ++ [UInt8.ofBitVec ((v >>> (8 * n)).setWidth 8)]

theorem le_len : ∀ (n : Nat) (v : BitVec 64), (le n v).length = n
  | 0, _ => rfl
  | n + 1, v => by simp [le, le_len n v]

/-- The word whose bytes these are, the lowest first. -/
def dle : List UInt8 → BitVec 64
  | [] => 0
  | b :: l => (dle l <<< 8) ||| BitVec.ofNat 64 b.toNat

def stp (r : BitVec 32) : BitVec 32 := r >>> 1 ^^^ (3988292384#32 &&& -(r &&& 1#32))
def it : Nat → BitVec 32 → BitVec 32
  | 0, r => r
  | k + 1, r => stp (it k r)
def byte8 (r : BitVec 32) (b : UInt8) : BitVec 32 := it 8 (r ^^^ BitVec.ofNat 32 b.toNat)
def more (sum : BitVec 32) (l : List UInt8) : BitVec 32 := ~~~(l.foldl byte8 (~~~sum))

theorem le_0 (v : BitVec 64) : le 0 v = [] := rfl
theorem it_0 (v : BitVec 32) : it 0 v = v := rfl

/-! ### Bytes of words -/

def numL : List UInt8 → Nat
  | [] => 0
  | b :: l => b.toNat + 256 * numL l

theorem numL_lt : ∀ l : List UInt8, numL l < 256 ^ l.length
  | [] => by simp [numL]
  | b :: l => by
    have := numL_lt l
    have hb := b.toNat_lt
    simp only [numL, List.length_cons, Nat.pow_succ]
    omega

theorem numL_append : ∀ (a b : List UInt8), numL (a ++ b) = numL a + 256 ^ a.length * numL b
  | [], b => by simp [numL]
  | x :: a, b => by
    simp only [List.cons_append, numL, numL_append a b, List.length_cons, Nat.pow_succ]
    rw [Nat.mul_add, Nat.add_assoc, Nat.mul_comm (256 ^ a.length) 256, Nat.mul_assoc]

theorem numL_inj : ∀ (a b : List UInt8), a.length = b.length → numL a = numL b → a = b
  | [], [], _, _ => rfl
  | x :: a, y :: b, hl, h => by
    simp only [numL] at h
    have hx := x.toNat_lt
    have hy := y.toNat_lt
    have h1 : x.toNat = y.toNat := by omega
    have h2 : numL a = numL b := by omega
    rw [UInt8.toNat_inj.1 h1, numL_inj a b (by simpa using hl) h2]
  | [], _ :: _, hl, _ => by simp at hl
  | _ :: _, [], hl, _ => by simp at hl

theorem dle_num : ∀ l : List UInt8, l.length ≤ 8 → (dle l).toNat = numL l
  | [], _ => rfl
  | b :: l, h => by
    have hl : l.length ≤ 7 := by simpa using h
    have ih := dle_num l (by omega)
    have h1 := numL_lt l
    have h2 : 256 ^ l.length ≤ 256 ^ 7 := Nat.pow_le_pow_right (by decide) hl
    have hb := b.toNat_lt
    have e : (2 : Nat) ^ 8 = 256 := rfl
    have h7 : (256 : Nat) ^ 7 = 72057594037927936 := rfl
    simp only [dle, BitVec.toNat_or, BitVec.toNat_shiftLeft, BitVec.toNat_ofNat, ih, numL]
    rw [Nat.mod_eq_of_lt (a := b.toNat) (by omega), Nat.shiftLeft_eq, e, Nat.mod_eq_of_lt (by omega)]
    have := Nat.shiftLeft_add_eq_or_of_lt (a := numL l) (b := b.toNat) (i := 8) (by omega)
    rw [Nat.shiftLeft_eq, e] at this
    rw [← this]; omega

theorem num_le : ∀ (n : Nat) (v : BitVec 64), numL (le n v) = v.toNat % 256 ^ n
  | 0, v => by simp [le, numL, Nat.mod_one]
  | n + 1, v => by
    rw [le, numL_append, num_le n v, le_len]
    have : (UInt8.ofBitVec ((v >>> (8 * n)).setWidth 8)).toNat = v.toNat / 256 ^ n % 256 := by
      show ((v >>> (8 * n)).setWidth 8).toNat = _
      rw [BitVec.toNat_setWidth, BitVec.toNat_ushiftRight, Nat.shiftRight_eq_div_pow, Nat.pow_mul]
    simp only [numL, this, Nat.mul_zero, Nat.add_zero]
    rw [Nat.pow_succ, Nat.mod_mul]

theorem dle_le (n : Nat) (v : BitVec 64) (hn : n ≤ 8) (hv : v.toNat < 256 ^ n) : dle (le n v) = v := by
  apply BitVec.eq_of_toNat_eq
  rw [dle_num _ (by rw [le_len]; exact hn), num_le, Nat.mod_eq_of_lt hv]

theorem le_dle (l : List UInt8) (hl : l.length ≤ 8) : le l.length (dle l) = l := by
  apply numL_inj _ _ (le_len _ _)
  rw [num_le, dle_num l hl, Nat.mod_eq_of_lt (numL_lt l)]

theorem le_dle' (n : Nat) (l : List UInt8) (h : l.length = n) (hl : n ≤ 8) : le n (dle l) = l := by subst h; exact le_dle l hl

theorem dle_lt (l : List UInt8) (hl : l.length ≤ 8) : (dle l).toNat < 256 ^ l.length := by rw [dle_num l hl]; exact numL_lt l

theorem dle_eq_iff (n : Nat) (l : List UInt8) (v : BitVec 64) (h : l.length = n) (hn : n ≤ 8) (hv : v.toNat < 256 ^ n) : dle l = v ↔ l = le n v := by
  constructor
  · intro e; rw [← e, le_dle' n l h hn]
  · intro e; rw [e, dle_le n v hn hv]

theorem sw64_16 (x : BitVec 16) : (x.setWidth 64).toNat < 256 ^ 2 := by
  have := x.isLt; rw [BitVec.toNat_setWidth]; omega
theorem sw64_32 (x : BitVec 32) : (x.setWidth 64).toNat < 256 ^ 4 := by
  have := x.isLt; rw [BitVec.toNat_setWidth]; omega
theorem sw64_64 (x : BitVec 64) : x.toNat < 256 ^ 8 := by have := x.isLt; omega

theorem back16 (x : BitVec 16) : (x.setWidth 64).setWidth 16 = x := by
  apply BitVec.eq_of_toNat_eq; have := x.isLt; simp only [BitVec.toNat_setWidth]; omega
theorem back32 (x : BitVec 32) : (x.setWidth 64).setWidth 32 = x := by
  apply BitVec.eq_of_toNat_eq; have := x.isLt; simp only [BitVec.toNat_setWidth]; omega
theorem up16 (v : BitVec 64) (h : v.toNat < 256 ^ 2) : (v.setWidth 16).setWidth 64 = v := by
  apply BitVec.eq_of_toNat_eq; simp only [BitVec.toNat_setWidth]; omega
theorem up32 (v : BitVec 64) (h : v.toNat < 256 ^ 4) : (v.setWidth 32).setWidth 64 = v := by
  apply BitVec.eq_of_toNat_eq; simp only [BitVec.toNat_setWidth]; omega

theorem le_inj (n : Nat) (v w : BitVec 64) (hn : n ≤ 8) (hv : v.toNat < 256 ^ n) (hw : w.toNat < 256 ^ n) (h : le n v = le n w) : v = w := by
  rw [← dle_le n v hn hv, h, dle_le n w hn hw]

/-! ### Sums of texts -/

theorem stp_xor (a b : BitVec 32) : stp (a ^^^ b) = stp a ^^^ stp b := by
  have h : -((a ^^^ b) &&& 1#32) = -(a &&& 1#32) ^^^ -(b &&& 1#32) := by
    have h1 : ∀ x : BitVec 32, x &&& 1#32 = 0#32 ∨ x &&& 1#32 = 1#32 := fun x => by
      rw [BitVec.and_one_eq_setWidth_ofBool_getLsbD]
      cases x.getLsbD 0
      · exact .inl rfl
      · exact .inr rfl
    have h2 : (a ^^^ b) &&& 1#32 = (a &&& 1#32) ^^^ (b &&& 1#32) := by
      apply BitVec.eq_of_getLsbD_eq; intro i hi; simp only [BitVec.getLsbD_and, BitVec.getLsbD_xor]; cases a.getLsbD i <;> cases b.getLsbD i <;> cases (1#32).getLsbD i <;> rfl
    rw [h2]
    rcases h1 a with e1 | e1 <;> rcases h1 b with e2 | e2 <;> rw [e1, e2] <;> decide
  unfold stp
  rw [h]
  apply BitVec.eq_of_getLsbD_eq; intro i hi
  simp only [BitVec.getLsbD_and, BitVec.getLsbD_xor, BitVec.getLsbD_ushiftRight]
  cases a.getLsbD (1 + i) <;> cases b.getLsbD (1 + i) <;> cases (3988292384#32).getLsbD i <;> cases (-(a &&& 1#32)).getLsbD i <;> cases (-(b &&& 1#32)).getLsbD i <;> rfl

theorem it_xor : ∀ (k : Nat) (a b : BitVec 32), it k (a ^^^ b) = it k a ^^^ it k b
  | 0, _, _ => rfl
  | k + 1, a, b => by simp only [it, it_xor k a b, stp_xor]

theorem it_add : ∀ (k j : Nat) (a : BitVec 32), it (k + j) a = it k (it j a)
  | 0, j, a => by simp [it]
  | k + 1, j, a => by rw [show k + 1 + j = (k + j) + 1 by omega, it, it, it_add k j a]

theorem stp_ne (r : BitVec 32) (h : r ≠ 0#32) : stp r ≠ 0#32 := by
  have h1 : r &&& 1#32 = 0#32 ∨ r &&& 1#32 = 1#32 := by
    rw [BitVec.and_one_eq_setWidth_ofBool_getLsbD]
    cases r.getLsbD 0
    · exact .inl rfl
    · exact .inr rfl
  intro e
  unfold stp at e
  rcases h1 with h1 | h1
  · rw [h1] at e
    have e' : r >>> 1 = 0#32 := by simpa using e
    apply h
    apply BitVec.eq_of_getLsbD_eq
    intro i hi
    cases i with
    | zero =>
      have := congrArg (fun x : BitVec 32 => x.getLsbD 0) h1
      simpa using this
    | succ i =>
      have := congrArg (fun x : BitVec 32 => x.getLsbD i) e'
      simp only [BitVec.getLsbD_ushiftRight, BitVec.getLsbD_zero] at this
      rw [show 1 + i = i + 1 by omega] at this
      simpa using this
  · rw [h1] at e
    have := congrArg (fun x : BitVec 32 => x.getLsbD 31) e
    simp only [BitVec.getLsbD_xor, BitVec.getLsbD_ushiftRight] at this
    have hz : r.getLsbD (1 + 31) = false := BitVec.getLsbD_of_ge r 32 (by decide)
    rw [hz] at this
    revert this
    decide

theorem it_ne : ∀ (k : Nat) (r : BitVec 32), r ≠ 0#32 → it k r ≠ 0#32
  | 0, _, h => h
  | k + 1, r, h => stp_ne _ (it_ne k r h)

theorem stp_even (r : BitVec 32) (h : r.getLsbD 0 = false) : stp r = r >>> 1 := by
  have h1 : r &&& 1#32 = 0#32 := by
    rw [BitVec.and_one_eq_setWidth_ofBool_getLsbD, h]; rfl
  unfold stp
  rw [h1]
  simp

/-- Bits that lie so high that they don't come down are only moved. -/
theorem it_high : ∀ (k : Nat) (c : BitVec 32), (∀ i, i < k → c.getLsbD i = false) → it k c = c >>> k
  | 0, c, _ => by simp [it]
  | k + 1, c, h => by
    rw [it, it_high k c (fun i hi => h i (by omega)), stp_even]
    · rw [BitVec.shiftRight_add]
    · rw [BitVec.getLsbD_ushiftRight]; exact h _ (by omega)

theorem foldl_xor : ∀ (l : List UInt8) (a b : BitVec 32), l.foldl byte8 a ^^^ l.foldl byte8 b = it (8 * l.length) (a ^^^ b)
  | [], a, b => by simp [it]
  | x :: l, a, b => by
    simp only [List.foldl_cons]
    rw [foldl_xor l, List.length_cons, show 8 * (l.length + 1) = 8 * l.length + 8 by omega, it_add]
    congr 1
    unfold byte8
    rw [← it_xor]
    congr 1
    apply BitVec.eq_of_getLsbD_eq; intro i hi
    simp only [BitVec.getLsbD_xor]
    cases a.getLsbD i <;> cases b.getLsbD i <;> cases (BitVec.ofNat 32 x.toNat).getLsbD i <;> rfl

theorem foldl_lin : ∀ (u v : List UInt8) (a b : BitVec 32), u.length = v.length → (List.zipWith (· ^^^ ·) u v).foldl byte8 (a ^^^ b) = u.foldl byte8 a ^^^ v.foldl byte8 b
  | [], [], a, b, _ => rfl
  | x :: u, y :: v, a, b, h => by
    simp only [List.zipWith_cons_cons, List.foldl_cons]
    rw [← foldl_lin u v _ _ (by simpa using h)]
    congr 1
    unfold byte8
    rw [← it_xor]
    congr 1
    apply BitVec.eq_of_getLsbD_eq; intro i hi
    simp only [BitVec.getLsbD_xor, BitVec.getLsbD_ofNat, UInt8.toNat_xor, Nat.testBit_xor]
    cases a.getLsbD i <;> cases b.getLsbD i <;> cases x.toNat.testBit i <;> cases y.toNat.testBit i <;> simp [hi]
  | [], _ :: _, _, _, h => by simp at h
  | _ :: _, [], _, _, h => by simp at h

def byteN (x : BitVec 64) (k : Nat) : UInt8 := UInt8.ofBitVec ((x >>> (8 * k)).setWidth 8)

theorem byteN_bit (x : BitVec 64) (k i : Nat) : (BitVec.ofNat 32 (byteN x k).toNat).getLsbD i = (decide (i < 8) && x.getLsbD (8 * k + i)) := by
  have : (byteN x k).toNat = ((x >>> (8 * k)).setWidth 8).toNat := rfl
  rw [this, BitVec.ofNat_toNat]
  simp only [BitVec.getLsbD_setWidth, BitVec.getLsbD_ushiftRight]
  by_cases h : i < 8
  · simp [h, show i < 32 by omega]
  · simp [h]

theorem byte_in (r : BitVec 32) (k : Nat) (b : UInt8) (hk : k ≤ 24) : it k r ^^^ BitVec.ofNat 32 b.toNat = it k (r ^^^ (BitVec.ofNat 32 b.toNat <<< k)) := by
  rw [it_xor]
  congr 1
  rw [it_high k _ (fun i hi => by rw [BitVec.getLsbD_shiftLeft]; simp [hi])]
  apply BitVec.eq_of_getLsbD_eq; intro i hi
  rw [BitVec.getLsbD_ushiftRight, BitVec.getLsbD_shiftLeft]
  have hb := b.toNat_lt
  by_cases h8 : i < 8
  · have e : k + i - k = i := by omega
    simp [e, show k + i < 32 by omega]
  · have : (BitVec.ofNat 32 b.toNat).getLsbD i = false := by
      rw [BitVec.getLsbD_ofNat]
      have : b.toNat.testBit i = false := Nat.testBit_lt_two_pow (Nat.lt_of_lt_of_le hb (Nat.pow_le_pow_right (n := 2) (by decide) (show 8 ≤ i by omega)))
      simp [this]
    rw [this]
    have e : k + i - k = i := by omega
    rw [e, this]; simp

/-- A burst of bits changes a sum. -/
theorem burst (bits : BitVec 32) (s : Nat) (hs : s < 8) (hb : bits ≠ 0#32) : (List.map (byteN ((bits.setWidth 64) <<< s)) [0, 1, 2, 3, 4]).foldl byte8 0#32 ≠ 0#32 := by
  generalize hX : (bits.setWidth 64) <<< s = X
  have hbit : ∀ i, X.getLsbD i = (decide (i < 64) && !decide (i < s) && bits.getLsbD (i - s)) := fun i => by
    rw [← hX, BitVec.getLsbD_shiftLeft, BitVec.getLsbD_setWidth]
    by_cases h : i < 64
    · simp [show i - s < 64 by omega]
    · simp [h]
  have hW : BitVec.ofNat 32 (byteN X 0).toNat ^^^ (BitVec.ofNat 32 (byteN X 1).toNat <<< 8) ^^^ (BitVec.ofNat 32 (byteN X 2).toNat <<< 16) ^^^ (BitVec.ofNat 32 (byteN X 3).toNat <<< 24) = bits <<< s := by
    apply BitVec.eq_of_getLsbD_eq; intro i hi
    simp only [BitVec.getLsbD_xor, BitVec.getLsbD_shiftLeft, byteN_bit]
    have h2 : (decide (i < 32) && !decide (i < s) && bits.getLsbD (i - s)) = X.getLsbD i := by rw [hbit]; simp [hi, show i < 64 by omega]
    rw [h2]
    rcases Nat.lt_or_ge i 8 with h | h
    · simp [h, show i < 16 by omega, show i < 24 by omega]
    rcases Nat.lt_or_ge i 16 with h' | h'
    · simp [h, h', show ¬ i < 8 by omega, show i < 24 by omega, show i - 8 < 8 by omega, show 8 + (i - 8) = i by omega]
      intro; omega
    rcases Nat.lt_or_ge i 24 with h'' | h''
    · simp [h', h'', show ¬ i < 8 by omega, show ¬ i < 16 by omega, show ¬ i - 8 < 8 by omega, show i - 16 < 8 by omega, show 16 + (i - 16) = i by omega]
      intro; omega
    · simp [h'', show ¬ i < 8 by omega, show ¬ i < 16 by omega, show ¬ i < 24 by omega, show ¬ i - 8 < 8 by omega, show ¬ i - 16 < 8 by omega, show i - 24 < 8 by omega, show 24 + (i - 24) = i by omega]
      intro; omega
  have h4 : BitVec.ofNat 32 (byteN X 4).toNat = bits >>> (32 - s) := by
    apply BitVec.eq_of_getLsbD_eq; intro i hi
    rw [byteN_bit, BitVec.getLsbD_ushiftRight, hbit]
    by_cases h : i < 8
    · rw [show 8 * 4 + i - s = 32 - s + i by omega]
      simp [h, show 8 * 4 + i < 64 by omega]
      intro; omega
    · rw [BitVec.getLsbD_of_ge bits (32 - s + i) (by omega)]; simp [h]
  have e : (List.map (byteN X) [0, 1, 2, 3, 4]).foldl byte8 0#32 = it (40 - s) bits := by
    simp only [List.map_cons, List.map_nil, List.foldl_cons, List.foldl_nil, byte8]
    rw [BitVec.zero_xor]
    rw [byte_in _ 8 (byteN X 1) (by decide), ← it_add]
    rw [byte_in _ 16 (byteN X 2) (by decide), ← it_add]
    rw [byte_in _ 24 (byteN X 3) (by decide), ← it_add]
    rw [hW, h4]
    have k1 : it s (bits <<< s) = bits <<< s >>> s := it_high s _ (fun i hi => by rw [BitVec.getLsbD_shiftLeft]; simp [hi])
    have k2 : it (8 + 24) (bits <<< s) = it (32 - s) (bits <<< s >>> s) := by
      rw [← k1, ← it_add]; congr 1; omega
    have k3 : it (32 - s) (bits >>> (32 - s) <<< (32 - s)) = bits >>> (32 - s) := by
      rw [it_high _ _ (fun i hi => by rw [BitVec.getLsbD_shiftLeft]; simp [hi])]
      apply BitVec.eq_of_getLsbD_eq; intro i hi
      rw [BitVec.getLsbD_ushiftRight, BitVec.getLsbD_shiftLeft, BitVec.getLsbD_ushiftRight, BitVec.getLsbD_ushiftRight]
      by_cases h : 32 - s + i < 32
      · simp [h]
      · rw [BitVec.getLsbD_of_ge bits (32 - s + i) (by omega)]; simp [h]
    rw [k2]
    conv => lhs; rw [← k3]
    rw [← it_xor]
    have k4 : bits <<< s >>> s ^^^ bits >>> (32 - s) <<< (32 - s) = bits := by
      apply BitVec.eq_of_getLsbD_eq; intro i hi
      simp only [BitVec.getLsbD_xor, BitVec.getLsbD_ushiftRight, BitVec.getLsbD_shiftLeft]
      by_cases h : i < 32 - s
      · simp [h, show s + i < 32 by omega]
      · simp [h, hi, show ¬ s + i < 32 by omega, show 32 - s + (i - (32 - s)) = i by omega]
    rw [k4, ← it_add]
    congr 1; omega
  rw [e]
  exact it_ne _ _ hb

/-- Two texts that differ by a burst have unlike sums. -/
theorem more_burst (a w b : List UInt8) (bits : BitVec 32) (s : Nat) (hs : s < 8) (hb : bits ≠ 0#32) (hw : w.length = 5) :
    more 0 (a ++ List.zipWith (· ^^^ ·) w (List.map (byteN ((bits.setWidth 64) <<< s)) [0, 1, 2, 3, 4]) ++ b) ≠ more 0 (a ++ w ++ b) := by
  intro e
  have e1 := congrArg (fun x => ~~~x) e
  simp only [more, BitVec.not_not, List.foldl_append] at e1
  generalize a.foldl byte8 (~~~0#32) = r at e1
  have hl := foldl_lin w (List.map (byteN ((bits.setWidth 64) <<< s)) [0, 1, 2, 3, 4]) r 0#32 (by simp [hw])
  rw [BitVec.xor_zero] at hl
  rw [hl] at e1
  have hx := foldl_xor b (w.foldl byte8 r ^^^ (List.map (byteN ((bits.setWidth 64) <<< s)) [0, 1, 2, 3, 4]).foldl byte8 0#32) (w.foldl byte8 r)
  rw [e1, BitVec.xor_self] at hx
  refine it_ne (8 * b.length) _ ?_ hx.symm
  intro e2
  refine burst bits s hs hb ?_
  generalize (List.map (byteN ((bits.setWidth 64) <<< s)) [0, 1, 2, 3, 4]).foldl byte8 0#32 = y at e2 ⊢
  generalize w.foldl byte8 r = z at e2
  have : z ^^^ y ^^^ z = y := by rw [BitVec.xor_comm z y, BitVec.xor_assoc, BitVec.xor_self, BitVec.xor_zero]
  rw [← this]; exact e2

end Go.Eng
