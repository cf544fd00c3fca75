/-
  THE ENGINE, 22: words as bit vectors. Nothing here speaks of one program.
-/
import Derived.Test.YtmnmbpcbfmhceaaEng21
set_option linter.unusedSimpArgs false
set_option linter.unusedVariables false
namespace Go.Eng

def c16 (x : BitVec 16) : CV := .p (.int .u16 x.toNat)
def c32 (x : BitVec 32) : CV := .p (.int .u32 x.toNat)
def c64 (x : BitVec 64) : CV := .p (.int .u64 x.toNat)

theorem wrap_u {k : IntKind} (hk : k.signed = false) (n : Int) : k.wrap n = ((BitVec.ofInt k.bits n).toNat : Int) := by
  simp only [IntKind.wrap, hk, Bool.false_and, Bool.false_eq_true, if_false, BitVec.toNat_ofInt]
  have h : (0 : Int) ≤ n % (2 ^ k.bits : Int) := Int.emod_nonneg _ (by have : (0 : Int) < 2 ^ k.bits := Int.pow_pos (by decide); omega)
  rw [Int.toNat_of_nonneg]
  · simp
  · simpa using h

theorem w16 (n : Int) : IntKind.u16.wrap n = ((BitVec.ofInt 16 n).toNat : Int) := wrap_u rfl n
theorem w32 (n : Int) : IntKind.u32.wrap n = ((BitVec.ofInt 32 n).toNat : Int) := wrap_u rfl n
theorem w64 (n : Int) : IntKind.u64.wrap n = ((BitVec.ofInt 64 n).toNat : Int) := wrap_u rfl n
theorem w8 (n : Int) : IntKind.u8.wrap n = ((UInt8.ofBitVec (BitVec.ofInt 8 n)).toNat : Int) := wrap_u rfl n
theorem wi (n : Int) (h : -9223372036854775808 ≤ n ∧ n < 9223372036854775808) : IntKind.i64.wrap n = n := by
  change (if (true && decide (n % (18446744073709551616 : Int) ≥ (9223372036854775808 : Int))) = true then n % (18446744073709551616 : Int) - (18446744073709551616 : Int) else n % (18446744073709551616 : Int)) = n
  simp only [Bool.true_and, decide_eq_true_eq]
  split <;> omega

theorem ofI {n : Nat} (x : BitVec n) : BitVec.ofInt n (x.toNat : Int) = x := by
  apply BitVec.eq_of_toNat_eq
  simp [BitVec.toNat_ofInt]

theorem xorG {n : Nat} (x y : BitVec n) : BitVec.ofInt n ((BitVec.ofInt n x.toNat ^^^ BitVec.ofInt n y.toNat).toNat : Int) = x ^^^ y := by rw [ofI, ofI, ofI]
theorem andG {n : Nat} (x y : BitVec n) : BitVec.ofInt n ((BitVec.ofInt n x.toNat &&& BitVec.ofInt n y.toNat).toNat : Int) = x &&& y := by rw [ofI, ofI, ofI]
theorem orG {n : Nat} (x y : BitVec n) : BitVec.ofInt n ((BitVec.ofInt n x.toNat ||| BitVec.ofInt n y.toNat).toNat : Int) = x ||| y := by rw [ofI, ofI, ofI]

def negV : AV → Option AV
  | .c (.p (.int k n)) => some (I k (k.wrap (0 - n)))
  | _ => none
def cplV : AV → Option AV
  | .c (.p (.int k n)) => some (I k (k.wrap (BitVec.ofInt k.bits (if k.signed then -1 else k.max) ^^^ BitVec.ofInt k.bits n).toNat))
  | _ => none
def cviV (k : IntKind) : AV → Option AV
  | .c (.p (.int _ n)) => some (I k (k.wrap n))
  | _ => none

theorem qv_neg (x : O) (s : St) : qv (.neg x) s = (ev s.env x).bind negV := by
  simp only [qv]; cases ev s.env x with
  | none => rfl
  | some v => rcases v with (⟨_ | _⟩ | _ | _) | _ | _ | _ | _ | _ | _ | _ <;> rfl
theorem qv_cpl (x : O) (s : St) : qv (.cpl x) s = (ev s.env x).bind cplV := by
  simp only [qv]; cases ev s.env x with
  | none => rfl
  | some v => rcases v with (⟨_ | _⟩ | _ | _) | _ | _ | _ | _ | _ | _ | _ <;> rfl
theorem qv_cvi (k : IntKind) (x : O) (s : St) : qv (.cvi k x) s = (ev s.env x).bind (cviV k) := by
  simp only [qv]; cases ev s.env x with
  | none => rfl
  | some v => rcases v with (⟨_ | _⟩ | _ | _) | _ | _ | _ | _ | _ | _ | _ <;> rfl

/-! ### 32 bits -/

theorem neg32 (x : BitVec 32) : negV (.c (c32 x)) = some (.c (c32 (-x))) := by
  simp only [negV, c32, I, w32, Int.zero_sub, BitVec.ofInt_neg, ofI]
theorem cpl32 (x : BitVec 32) : cplV (.c (c32 x)) = some (.c (c32 (~~~x))) := by
  simp only [cplV, c32, I, w32]
  have h : BitVec.ofInt 32 ((BitVec.ofInt 32 4294967295 ^^^ BitVec.ofInt 32 (x.toNat : Int)).toNat : Int) = ~~~x := by
    rw [ofI, ofI, show BitVec.ofInt 32 4294967295 = BitVec.allOnes 32 by decide, BitVec.allOnes_xor]
  exact congrArg (fun z : BitVec 32 => some (AV.c (c32 z))) h

theorem cvi32_8 (b : UInt8) : cviV .u32 (.c (b8 b)) = some (.c (c32 (BitVec.ofNat 32 b.toNat))) := by
  simp only [cviV, b8, c32, I, w32, BitVec.ofInt_natCast]

section
variable (x y : BitVec 32)
theorem xor32 : ariV .xor (.c (c32 x)) (.c (c32 y)) = some (.c (c32 (x ^^^ y))) := by
  simp only [ariV, c32, ariI, if_true, I, w32]
  exact congrArg (fun z : BitVec 32 => some (AV.c (c32 z))) (xorG x y)
theorem and32 : ariV .and (.c (c32 x)) (.c (c32 y)) = some (.c (c32 (x &&& y))) := by
  simp only [ariV, c32, ariI, if_true, I, w32]
  exact congrArg (fun z : BitVec 32 => some (AV.c (c32 z))) (andG x y)
theorem or32 : ariV .or (.c (c32 x)) (.c (c32 y)) = some (.c (c32 (x ||| y))) := by
  simp only [ariV, c32, ariI, if_true, I, w32]
  exact congrArg (fun z : BitVec 32 => some (AV.c (c32 z))) (orG x y)
theorem add32 : ariV .add (.c (c32 x)) (.c (c32 y)) = some (.c (c32 (x + y))) := by
  simp only [ariV, c32, ariI, if_true, I, w32, BitVec.ofInt_add, ofI]
theorem sub32 : ariV .sub (.c (c32 x)) (.c (c32 y)) = some (.c (c32 (x - y))) := by
  simp only [ariV, c32, ariI, if_true, I, w32, Int.sub_eq_add_neg, BitVec.ofInt_add, BitVec.ofInt_neg, ofI, BitVec.sub_eq_add_neg]
end

/-! ### 64 bits -/

section
variable (x y : BitVec 64)
theorem xor64 : ariV .xor (.c (c64 x)) (.c (c64 y)) = some (.c (c64 (x ^^^ y))) := by
  simp only [ariV, c64, ariI, if_true, I, w64]
  exact congrArg (fun z : BitVec 64 => some (AV.c (c64 z))) (xorG x y)
theorem and64 : ariV .and (.c (c64 x)) (.c (c64 y)) = some (.c (c64 (x &&& y))) := by
  simp only [ariV, c64, ariI, if_true, I, w64]
  exact congrArg (fun z : BitVec 64 => some (AV.c (c64 z))) (andG x y)
theorem or64 : ariV .or (.c (c64 x)) (.c (c64 y)) = some (.c (c64 (x ||| y))) := by
  simp only [ariV, c64, ariI, if_true, I, w64]
  exact congrArg (fun z : BitVec 64 => some (AV.c (c64 z))) (orG x y)
theorem add64 : ariV .add (.c (c64 x)) (.c (c64 y)) = some (.c (c64 (x + y))) := by
  simp only [ariV, c64, ariI, if_true, I, w64, BitVec.ofInt_add, ofI]
theorem mul64 : ariV .mul (.c (c64 x)) (.c (c64 y)) = some (.c (c64 (x * y))) := by
  simp only [ariV, c64, ariI, if_true, I, w64, BitVec.ofInt_mul, ofI]
theorem sub64 : ariV .sub (.c (c64 x)) (.c (c64 y)) = some (.c (c64 (x - y))) := by
  simp only [ariV, c64, ariI, if_true, I, w64, Int.sub_eq_add_neg, BitVec.ofInt_add, BitVec.ofInt_neg, ofI, BitVec.sub_eq_add_neg]
end

theorem quo64 (x y : BitVec 64) (h : y ≠ 0) : ariV .quo (.c (c64 x)) (.c (c64 y)) = some (.c (c64 (x / y))) := by
  have hy : ¬ ((y.toNat : Int) = 0) := fun e => h (BitVec.eq_of_toNat_eq (by simpa using e))
  simp only [ariV, c64, ariI, if_true, if_neg hy, I, w64]
  refine congrArg (fun z : BitVec 64 => some (AV.c (c64 z))) ?_
  rw [Int.tdiv_eq_ediv_of_nonneg (by omega), ← Int.natCast_ediv, BitVec.ofInt_natCast]
  apply BitVec.eq_of_toNat_eq
  rw [BitVec.toNat_ofNat, BitVec.toNat_udiv, Nat.mod_eq_of_lt (Nat.lt_of_le_of_lt (Nat.div_le_self _ _) x.isLt)]
theorem rem64 (x y : BitVec 64) (h : y ≠ 0) : ariV .rem (.c (c64 x)) (.c (c64 y)) = some (.c (c64 (x % y))) := by
  have hy : ¬ ((y.toNat : Int) = 0) := fun e => h (BitVec.eq_of_toNat_eq (by simpa using e))
  simp only [ariV, c64, ariI, if_true, if_neg hy, I]
  refine congrArg (fun z : Int => some (AV.c (CV.p (Value.int .u64 z)))) ?_
  rw [Int.tmod_eq_emod_of_nonneg (by omega), ← Int.natCast_emod, BitVec.toNat_umod]

/-! ### Shifts -/

theorem shr_nat {n : Nat} (x : BitVec n) (k : Nat) : ((x.toNat : Int).fdiv (2 ^ (min k n))) = ((x >>> k).toNat : Int) := by
  have e : ((x.toNat : Int).fdiv (2 ^ (min k n))) = ((x.toNat / 2 ^ (min k n) : Nat) : Int) := by
    rw [Int.fdiv_eq_ediv_of_nonneg _ (Int.le_of_lt (Int.pow_pos (by decide)))]
    simp
  rw [e, BitVec.toNat_ushiftRight, Nat.shiftRight_eq_div_pow]
  rcases Nat.le_total k n with h | h
  · rw [Nat.min_eq_left h]
  · rw [Nat.min_eq_right h, Nat.div_eq_of_lt x.isLt, Nat.div_eq_of_lt (Nat.lt_of_lt_of_le x.isLt (Nat.pow_le_pow_right (by decide) h))]

theorem shl_nat {n : Nat} (x : BitVec n) (k : Nat) : BitVec.ofInt n ((x.toNat : Int) * 2 ^ (min k n)) = x <<< k := by
  have e : ((x.toNat : Int) * 2 ^ (min k n)) = ((x.toNat * 2 ^ (min k n) : Nat) : Int) := by simp
  rw [e, BitVec.ofInt_natCast]
  apply BitVec.eq_of_toNat_eq
  rw [BitVec.toNat_ofNat, BitVec.toNat_shiftLeft, Nat.shiftLeft_eq]
  rcases Nat.le_total k n with h | h
  · rw [Nat.min_eq_left h]
  · rw [Nat.min_eq_right h, Nat.mul_mod_left]
    have : 2 ^ n ∣ x.toNat * 2 ^ k := Nat.dvd_trans (Nat.pow_dvd_pow 2 h) (Nat.dvd_mul_left _ _)
    exact (Nat.mod_eq_zero_of_dvd this).symm

theorem shrI32 (x : BitVec 32) (k : IntKind) (n : Int) (h : 0 ≤ n) : ariV .shr (.c (c32 x)) (.c (.p (.int k n))) = some (.c (c32 (x >>> n.toNat))) := by
  simp only [ariV, c32, ariI, I, w32, if_neg (show ¬ n < 0 by omega)]
  exact congrArg (fun z : Int => some (AV.c (CV.p (Value.int .u32 z)))) (shr_nat x n.toNat)
theorem shr32_64 (x : BitVec 32) (y : BitVec 64) : ariV .shr (.c (c32 x)) (.c (c64 y)) = some (.c (c32 (x >>> y.toNat))) := by
  have := shrI32 x .u64 y.toNat (by omega)
  simpa [c64] using this
theorem shlI32 (x : BitVec 32) (k : IntKind) (n : Int) (h : 0 ≤ n) : ariV .shl (.c (c32 x)) (.c (.p (.int k n))) = some (.c (c32 (x <<< n.toNat))) := by
  simp only [ariV, c32, ariI, I, w32, if_neg (show ¬ n < 0 by omega)]
  exact congrArg (fun z : BitVec 32 => some (AV.c (c32 z))) (shl_nat x n.toNat)
theorem shl32_64 (x : BitVec 32) (y : BitVec 64) : ariV .shl (.c (c32 x)) (.c (c64 y)) = some (.c (c32 (x <<< y.toNat))) := by
  have := shlI32 x .u64 y.toNat (by omega)
  simpa [c64] using this
theorem shrI64 (x : BitVec 64) (k : IntKind) (n : Int) (h : 0 ≤ n) : ariV .shr (.c (c64 x)) (.c (.p (.int k n))) = some (.c (c64 (x >>> n.toNat))) := by
  simp only [ariV, c64, ariI, I, w64, if_neg (show ¬ n < 0 by omega)]
  exact congrArg (fun z : Int => some (AV.c (CV.p (Value.int .u64 z)))) (shr_nat x n.toNat)
theorem shr64_64 (x : BitVec 64) (y : BitVec 64) : ariV .shr (.c (c64 x)) (.c (c64 y)) = some (.c (c64 (x >>> y.toNat))) := by
  have := shrI64 x .u64 y.toNat (by omega)
  simpa [c64] using this
theorem shlI64 (x : BitVec 64) (k : IntKind) (n : Int) (h : 0 ≤ n) : ariV .shl (.c (c64 x)) (.c (.p (.int k n))) = some (.c (c64 (x <<< n.toNat))) := by
  simp only [ariV, c64, ariI, I, w64, if_neg (show ¬ n < 0 by omega)]
  exact congrArg (fun z : BitVec 64 => some (AV.c (c64 z))) (shl_nat x n.toNat)
theorem shl64_64 (x : BitVec 64) (y : BitVec 64) : ariV .shl (.c (c64 x)) (.c (c64 y)) = some (.c (c64 (x <<< y.toNat))) := by
  have := shlI64 x .u64 y.toNat (by omega)
  simpa [c64] using this

/-! ### Conversions -/

theorem cvi64_8 (b : UInt8) : cviV .u64 (.c (b8 b)) = some (.c (c64 (BitVec.ofNat 64 b.toNat))) := by simp only [cviV, b8, c64, I, w64, BitVec.ofInt_natCast]
theorem cvi64_16 (b : BitVec 16) : cviV .u64 (.c (c16 b)) = some (.c (c64 (b.setWidth 64))) := by simp only [cviV, c16, c64, I, w64, BitVec.ofInt_natCast, BitVec.ofNat_toNat]
theorem cvi64_32 (b : BitVec 32) : cviV .u64 (.c (c32 b)) = some (.c (c64 (b.setWidth 64))) := by simp only [cviV, c32, c64, I, w64, BitVec.ofInt_natCast, BitVec.ofNat_toNat]
theorem cvi64_i (k : IntKind) (n : Int) : cviV .u64 (.c (.p (.int k n))) = some (.c (c64 (BitVec.ofInt 64 n))) := by simp only [cviV, c64, I, w64]
theorem cvi32_64 (b : BitVec 64) : cviV .u32 (.c (c64 b)) = some (.c (c32 (b.setWidth 32))) := by simp only [cviV, c32, c64, I, w32, BitVec.ofInt_natCast, BitVec.ofNat_toNat]
theorem cvi16_64 (b : BitVec 64) : cviV .u16 (.c (c64 b)) = some (.c (c16 (b.setWidth 16))) := by simp only [cviV, c16, c64, I, w16, BitVec.ofInt_natCast, BitVec.ofNat_toNat]
theorem cvi8_64 (b : BitVec 64) : cviV .u8 (.c (c64 b)) = some (.c (b8 (UInt8.ofBitVec (b.setWidth 8)))) := by simp only [cviV, b8, c64, I, w8, BitVec.ofInt_natCast, BitVec.ofNat_toNat]
theorem cvi8_i (k : IntKind) (n : Int) : cviV .u8 (.c (.p (.int k n))) = some (.c (b8 (UInt8.ofBitVec (BitVec.ofInt 8 n)))) := by simp only [cviV, b8, I, w8]
theorem cvii_8 (b : UInt8) : cviV .i64 (.c (b8 b)) = some (I .i64 b.toNat) := by
  have := b.toNat_lt
  simp only [cviV, b8]; rw [wi _ (by omega)]
theorem cvii_16 (b : BitVec 16) : cviV .i64 (.c (c16 b)) = some (I .i64 b.toNat) := by
  have := b.isLt
  simp only [cviV, c16]; rw [wi _ (by omega)]
theorem cvii_32 (b : BitVec 32) : cviV .i64 (.c (c32 b)) = some (I .i64 b.toNat) := by
  have := b.isLt
  simp only [cviV, c32]; rw [wi _ (by omega)]
theorem cvii_64 (b : BitVec 64) (h : b.toNat < 9223372036854775808) : cviV .i64 (.c (c64 b)) = some (I .i64 b.toNat) := by
  simp only [cviV, c64]; rw [wi _ (by omega)]

theorem I8 (b : UInt8) : (.c (.p (.int .u8 ((b.toNat : Nat) : Int))) : AV) = .c (b8 b) := id rfl
theorem nat_8 (b : UInt8) : natOf (.c (b8 b)) = some (b.toNat : Int) := id rfl
theorem nat_64 (b : BitVec 64) : natOf (.c (c64 b)) = some (b.toNat : Int) := id rfl
theorem nat_i (k : IntKind) (n : Int) : natOf (.c (.p (.int k n))) = some n := id rfl

/-! ### Bytes and strings -/

theorem bytes_b8 (l : List UInt8) : bytesOf (l.map b8) = some l := by
  have h1 : (l.map b8).all isByte = true := by
    rw [List.all_eq_true]
    intro x hx
    obtain ⟨b, _, rfl⟩ := List.mem_map.1 hx
    have := b.toNat_lt
    simp only [b8, isByte, Bool.and_eq_true, decide_eq_true_eq]
    omega
  have h2 : (l.map b8).map byteOf = l := by
    rw [List.map_map]
    conv => rhs; rw [← List.map_id l]
    apply List.map_congr_left
    intro b _
    simp [b8, byteOf]
  rw [bytesOf, if_pos h1, h2]
theorem bytes_1 (x : UInt8) : bytesOf [b8 x] = some [x] := bytes_b8 [x]
theorem repz1 (n : Nat) (c : CV) : repz n [c] = List.replicate n c := by
  induction n with
  | zero => rfl
  | succ k ih => simp only [repz, List.replicate_succ, List.flatten_cons] at ih ⊢; rw [ih]; rfl
theorem str_append (a b : List UInt8) : str a ++ str b = str (a ++ b) := by
  apply ByteArray.ext
  simp [str, ByteArray.data_append]
theorem str_size (a : List UInt8) : (str a).size = a.length := by
  show a.toArray.size = _
  simp
theorem str_list (a : List UInt8) : (str a).data.toList = a := by simp [str]
theorem list_str (t : ByteArray) : str t.data.toList = t := by
  apply ByteArray.ext
  simp [str]
theorem adds (a b : List UInt8) (h : a.length + b.length ≤ 9223372036854775807) : ariV .add (S (str a)) (S (str b)) = some (S (str (a ++ b))) := by
  simp only [ariV, str_size, if_pos h, str_append]

/-! ### 'int' -/

section
variable (x y : Int)
theorem addi (h : -9223372036854775808 ≤ x + y ∧ x + y < 9223372036854775808) : ariV .add (.c (.p (.int .i64 x))) (.c (.p (.int .i64 y))) = some (I .i64 (x + y)) := by simp only [ariV, ariI, if_true, wi _ h]
theorem subi (h : -9223372036854775808 ≤ x - y ∧ x - y < 9223372036854775808) : ariV .sub (.c (.p (.int .i64 x))) (.c (.p (.int .i64 y))) = some (I .i64 (x - y)) := by simp only [ariV, ariI, if_true, wi _ h]
theorem muli (h : -9223372036854775808 ≤ x * y ∧ x * y < 9223372036854775808) : ariV .mul (.c (.p (.int .i64 x))) (.c (.p (.int .i64 y))) = some (I .i64 (x * y)) := by simp only [ariV, ariI, if_true, wi _ h]
theorem cmpi (op : Cmp) : cmpV op (.c (.p (.int .i64 x))) (.c (.p (.int .i64 y))) = some (B (cmpI op x y)) := by simp only [cmpV, if_true]
end

end Go.Eng
