/-
  THE ENGINE, 23: lists of bytes, loops by a family of states, calls of pure functions. Nothing here speaks of one program.
-/
import Derived.Test.YtmnmbpcbfmhceaaEng22
import Derived.Test.YtmnmbpcbfmhceaaM1
set_option linter.unusedSimpArgs false
set_option linter.unusedVariables false
namespace Go.Eng

/-! ### Parts of lists -/

def sub {α : Type} (l : List α) (o n : Nat) : List α := (l.drop o).take n
def over {α : Type} (l : List α) (o : Nat) (m : List α) : List α := l.take o ++ m ++ l.drop (o + m.length)

theorem part_map (l : List UInt8) (o n : Nat) : part (l.map b8) o n = (sub l o n).map b8 := by simp only [part, sub, List.map_take, List.map_drop]
theorem lay_map (l m : List UInt8) (o : Nat) : lay (l.map b8) o (m.map b8) = (over l o m).map b8 := by simp only [lay, over, List.map_append, List.map_take, List.map_drop, List.length_map]
theorem lay_one (l : List UInt8) (b : UInt8) (o : Nat) : lay (l.map b8) o [b8 b] = (over l o [b]).map b8 := lay_map l [b] o
theorem take_map (l : List UInt8) (n : Nat) : (l.map b8).take n = (l.take n).map b8 := List.map_take.symm
theorem drop_map (l : List UInt8) (n : Nat) : (l.map b8).drop n = (l.drop n).map b8 := List.map_drop.symm
theorem rep_map (n : Nat) (b : UInt8) : List.replicate n (b8 b) = (List.replicate n b).map b8 := by simp
theorem repz_map (n : Nat) (b : UInt8) : repz n [b8 b] = (List.replicate n b).map b8 := by rw [repz1, rep_map]
theorem rep_b8 (n : Nat) (b : UInt8) : rep n (b8 b) = (List.replicate n b).map b8 := rep_map n b
theorem app_map (l m : List UInt8) : l.map b8 ++ m.map b8 = (l ++ m).map b8 := List.map_append.symm
theorem one_map (b : UInt8) : [b8 b] = [b].map b8 := rfl

theorem sub_len {α : Type} (l : List α) (o n : Nat) (h : o + n ≤ l.length) : (sub l o n).length = n := by simp only [sub, List.length_take, List.length_drop]; omega
theorem sub_lenU {α : Type} (l : List α) (o n : Nat) : (sub l o n).length = min n (l.length - o) := by simp only [sub, List.length_take, List.length_drop]
theorem sub_0 {α : Type} (l : List α) (o : Nat) : sub l o 0 = [] := by simp only [sub, List.take_zero]
theorem sub_all {α : Type} (l : List α) (n : Nat) (h : l.length ≤ n) : sub l 0 n = l := by simp only [sub, List.drop_zero]; exact List.take_of_length_le h
theorem over_len {α : Type} (l m : List α) (o : Nat) (h : o + m.length ≤ l.length) : (over l o m).length = l.length := by
  simp only [over, List.length_append, List.length_take, List.length_drop]; omega

theorem over_lenU {α : Type} (l m : List α) (o : Nat) : (over l o m).length = min o l.length + m.length + (l.length - (o + m.length)) := by
  simp only [over, List.length_append, List.length_take, List.length_drop]

theorem getD_get {α : Type} (l : List α) (i : Nat) (d : α) (h : i < l.length) : l.getD i d = l[i] := by simp [List.getD_eq_getElem?_getD, h]

theorem sub_one (l : List UInt8) (i : Nat) (h : i < l.length) : sub l i 1 = [l.getD i 0] := by
  rw [getD_get _ _ _ h, sub, List.drop_eq_getElem_cons h, List.take_succ_cons, List.take_zero]

/-- One cell of a row of bytes. -/
theorem part_one (l : List UInt8) (i : Nat) (h : i < l.length) : part (l.map b8) i 1 = [b8 (l.getD i 0)] := by rw [part_map, sub_one _ _ h]; rfl

theorem cells_c (x : CV) : AV.cells (.c x) = some [x] := id rfl
theorem cells_g (x : List CV) : AV.cells (.g x) = some x := id rfl
theorem ofCells_1 (x : CV) : AV.ofCells none [x] = some (.c x) := id rfl
theorem ofCells_n (n : Nat) (x : List CV) : AV.ofCells (some n) x = some (.g x) := id rfl
theorem getD_none (n : Nat) : (none : Option Nat).getD n = n := id rfl
theorem getD_some (n m : Nat) : (some m : Option Nat).getD n = m := id rfl

theorem part_nil (n m : Nat) : part [] n m = [] := by simp [part]
theorem part_0 (l : List CV) (n : Nat) (h : l.length ≤ n) : part l 0 n = l := by simp only [part, List.drop_zero]; exact List.take_of_length_le h
theorem part_s (x : CV) (l : List CV) (n m : Nat) : part (x :: l) (n + 1) m = part l n m := by simp [part]
theorem part_t (x : CV) (l : List CV) (m : Nat) : part (x :: l) 0 (m + 1) = x :: part l 0 m := by simp [part]
theorem part_z (l : List CV) : part l 0 0 = [] := by simp [part]
theorem lay_s (x : CV) (l m : List CV) (n : Nat) : lay (x :: l) (n + 1) m = x :: lay l n m := by
  simp only [lay, List.take_succ_cons, List.cons_append, List.cons.injEq, true_and]
  congr 1
  rw [show n + 1 + m.length = (n + m.length) + 1 by omega, List.drop_succ_cons]
theorem lay_0 (l m : List CV) (h : l.length ≤ m.length) : lay l 0 m = m := by
  simp only [lay, List.take_zero, List.nil_append, Nat.zero_add]
  rw [List.drop_eq_nil_of_le h, List.append_nil]
theorem lay_n (l : List CV) (o : Nat) : lay l o [] = l := by simp [lay]
theorem lay_c (x y : CV) (l m : List CV) : lay (x :: l) 0 (y :: m) = y :: lay l 0 m := by simp [lay]
theorem lay_01 (x y : CV) (l : List CV) : lay (x :: l) 0 [y] = y :: l := by simp [lay]

theorem b8_inj (a b : UInt8) : (b8 a = b8 b) = (a = b) := by
  apply propext
  constructor
  · intro h; simp only [b8, CV.p.injEq, Value.int.injEq, true_and] at h; exact UInt8.toNat_inj.1 (by omega)
  · rintro rfl; rfl
theorem c16_inj (a b : BitVec 16) : (c16 a = c16 b) = (a = b) := by
  apply propext
  constructor
  · intro h; simp only [c16, CV.p.injEq, Value.int.injEq, true_and] at h; exact BitVec.eq_of_toNat_eq (by omega)
  · rintro rfl; rfl
theorem c32_inj (a b : BitVec 32) : (c32 a = c32 b) = (a = b) := by
  apply propext
  constructor
  · intro h; simp only [c32, CV.p.injEq, Value.int.injEq, true_and] at h; exact BitVec.eq_of_toNat_eq (by omega)
  · rintro rfl; rfl
theorem c64_inj (a b : BitVec 64) : (c64 a = c64 b) = (a = b) := by
  apply propext
  constructor
  · intro h; simp only [c64, CV.p.injEq, Value.int.injEq, true_and] at h; exact BitVec.eq_of_toNat_eq (by omega)
  · rintro rfl; rfl
theorem map_inj_b8 : ∀ (a b : List UInt8), (a.map b8 = b.map b8) = (a = b)
  | [], [] => by simp
  | x :: a, y :: b => by simp only [List.map_cons, List.cons.injEq, b8_inj, map_inj_b8 a b]
  | [], _ :: _ => by simp
  | _ :: _, [] => by simp

/-! ### Comparing -/

theorem eqC_8 (a b : UInt8) : eqC (b8 a) (b8 b) = decide (a = b) := by
  simp only [eqC, b8]
  apply decide_eq_decide.2
  constructor
  · intro h; exact UInt8.toNat_inj.1 (by omega)
  · rintro rfl; rfl
theorem eqC_16 (a b : BitVec 16) : eqC (c16 a) (c16 b) = decide (a = b) := by
  simp only [eqC, c16]
  apply decide_eq_decide.2
  constructor
  · intro h; exact BitVec.eq_of_toNat_eq (by omega)
  · rintro rfl; rfl
theorem eqC_32 (a b : BitVec 32) : eqC (c32 a) (c32 b) = decide (a = b) := by
  simp only [eqC, c32]
  apply decide_eq_decide.2
  constructor
  · intro h; exact BitVec.eq_of_toNat_eq (by omega)
  · rintro rfl; rfl
theorem eqC_64 (a b : BitVec 64) : eqC (c64 a) (c64 b) = decide (a = b) := by
  simp only [eqC, c64]
  apply decide_eq_decide.2
  constructor
  · intro h; exact BitVec.eq_of_toNat_eq (by omega)
  · rintro rfl; rfl
theorem eqC_i (k j : IntKind) (a b : Int) : eqC (.p (.int k a)) (.p (.int j b)) = decide (a = b) := id rfl
theorem eqC_b (a b : Bool) : eqC (.p (.bool a)) (.p (.bool b)) = (a == b) := id rfl
theorem eqC_s (a b : ByteArray) : eqC (.p (.string a)) (.p (.string b)) = decide (a = b) := id rfl
theorem eqCs_cons (x y : CV) (a b : List CV) : eqCs (x :: a) (y :: b) = (eqC x y && eqCs a b) := id rfl
theorem eqCs_nil : eqCs [] [] = true := id rfl
theorem eqCs_map : ∀ (a b : List UInt8), eqCs (a.map b8) (b.map b8) = decide (a = b)
  | [], [] => rfl
  | x :: a, y :: b => by
    simp only [List.map_cons, eqCs_cons, eqC_8, eqCs_map a b, List.cons.injEq, Bool.decide_and]
  | [], _ :: _ => rfl
  | _ :: _, [] => rfl

theorem kinds_nil : kinds [] = [] := id rfl
theorem kinds_cons (x : CV) (l : List CV) : kinds (x :: l) = kind x :: kinds l := id rfl
theorem kinds_map (l : List UInt8) : kinds (l.map b8) = List.replicate l.length (.i .u8) := by
  induction l with
  | nil => rfl
  | cons x l ih => simp only [List.map_cons, kinds_cons, ih, List.length_cons, List.replicate_succ]; rfl
theorem kind_8 (a : UInt8) : kind (b8 a) = .i .u8 := id rfl
theorem kind_16 (a : BitVec 16) : kind (c16 a) = .i .u16 := id rfl
theorem kind_32 (a : BitVec 32) : kind (c32 a) = .i .u32 := id rfl
theorem kind_64 (a : BitVec 64) : kind (c64 a) = .i .u64 := id rfl
theorem kind_i (k : IntKind) (a : Int) : kind (.p (.int k a)) = .i k := id rfl
theorem kind_b (a : Bool) : kind (.p (.bool a)) = .b := id rfl
theorem kind_s (a : ByteArray) : kind (.p (.string a)) = .s := id rfl
theorem expand_nil : expand [] = [] := id rfl
theorem expand_1 (k : Kd) (r : List (Nat × Kd)) : expand ((1, k) :: r) = k :: expand r := by simp [expand]
theorem expand_n (n : Nat) (k : Kd) (r : List (Nat × Kd)) (h : n ≠ 1) : expand ((n, k) :: r) = List.replicate n k ++ expand r := by simp [expand, h]
theorem rep_eq (n m : Nat) (k : Kd) (h : n = m) : (List.replicate n k = List.replicate m k) = True := by simp [h]

theorem over_fill {α : Type} (a : List α) (k n : Nat) (z x : α) (hk : a.length = k) (hn : 0 < n) : over (a ++ List.replicate n z) k [x] = (a ++ [x]) ++ List.replicate (n - 1) z := by
  subst hk
  obtain ⟨m, rfl⟩ : ∃ m, n = m + 1 := ⟨n - 1, by omega⟩
  simp only [over, List.length_singleton, List.take_left, List.append_assoc]
  congr 2
  rw [List.drop_append, List.drop_eq_nil_of_le (by omega)]
  simp [List.replicate_succ]

theorem replL_succ (n : Nat) (z : List CV) : List.replicate (n + 1) z = z :: List.replicate n z := List.replicate_succ
theorem take_sub {α : Type} {l : List α} {o n m : Nat} (h : m ≤ n) : (sub l o n).take m = sub l o m := by simp only [sub, List.take_take, Nat.min_eq_left h]
theorem lay_k {x : CV} {l m : List CV} {n : Nat} (h : 1 ≤ n) : lay (x :: l) n m = x :: lay l (n - 1) m := by
  obtain ⟨k, rfl⟩ : ∃ k, n = k + 1 := ⟨n - 1, by omega⟩
  rw [lay_s]; rfl
theorem part_k {x : CV} {l : List CV} {n m : Nat} (h : 1 ≤ n) : part (x :: l) n m = part l (n - 1) m := by
  obtain ⟨k, rfl⟩ : ∃ k, n = k + 1 := ⟨n - 1, by omega⟩
  rw [part_s]; rfl
theorem rep_cons_eq (n m : Nat) (k : Kd) (h : n = m + 1) : (List.replicate n k = k :: List.replicate m k) = True := by rw [h, List.replicate_succ]; simp
theorem rep_cons_eq' (n m : Nat) (k : Kd) (h : n = m + 1) : (k :: List.replicate m k = List.replicate n k) = True := by rw [h, List.replicate_succ]; simp
theorem min_l {a b : Nat} (h : a ≤ b) : min a b = a := Nat.min_eq_left h
theorem min_r {a b : Nat} (h : b ≤ a) : min a b = b := Nat.min_eq_right h
theorem take_all {α : Type} {l : List α} {n : Nat} (h : l.length ≤ n) : l.take n = l := List.take_of_length_le h
theorem ite_t {α : Sort _} {c : Prop} [Decidable c] {a b : α} (h : c) : (if c then a else b) = a := if_pos h
theorem ite_f {α : Sort _} {c : Prop} [Decidable c] {a b : α} (h : ¬ c) : (if c then a else b) = b := if_neg h
theorem dec_t {c : Prop} [Decidable c] (h : c) : decide c = true := decide_eq_true h
theorem dec_f {c : Prop} [Decidable c] (h : ¬ c) : decide c = false := decide_eq_false h

theorem B_eq {p q : Prop} [Decidable p] [Decidable q] (h : p ↔ q) : (some (B (decide p)) : Option AV) = some (B (decide q)) := by rw [decide_eq_decide.2 h]

/-- Comparisons of words. -/
theorem cmp8 (op : Cmp) (x y : UInt8) : cmpV op (.c (b8 x)) (.c (b8 y)) = some (B (cmpI op x.toNat y.toNat)) := by simp only [cmpV, b8, if_true]
theorem cmp16 (op : Cmp) (x y : BitVec 16) : cmpV op (.c (c16 x)) (.c (c16 y)) = some (B (cmpI op x.toNat y.toNat)) := by simp only [cmpV, c16, if_true]
theorem cmp32 (op : Cmp) (x y : BitVec 32) : cmpV op (.c (c32 x)) (.c (c32 y)) = some (B (cmpI op x.toNat y.toNat)) := by simp only [cmpV, c32, if_true]
theorem cmp64 (op : Cmp) (x y : BitVec 64) : cmpV op (.c (c64 x)) (.c (c64 y)) = some (B (cmpI op x.toNat y.toNat)) := by simp only [cmpV, c64, if_true]
theorem cmp8e (x y : UInt8) : cmpV .eq (.c (b8 x)) (.c (b8 y)) = some (B (decide (x = y))) := by
  rw [cmp8]; simp only [cmpI]; exact B_eq ⟨fun h => UInt8.toNat_inj.1 (by omega), fun h => by rw [h]⟩
theorem cmp8n (x y : UInt8) : cmpV .ne (.c (b8 x)) (.c (b8 y)) = some (B (decide (x ≠ y))) := by
  rw [cmp8]; simp only [cmpI]; exact B_eq ⟨fun h e => h (by rw [e]), fun h e => h (UInt8.toNat_inj.1 (by omega))⟩
theorem cmp16e (x y : BitVec 16) : cmpV .eq (.c (c16 x)) (.c (c16 y)) = some (B (decide (x = y))) := by
  rw [cmp16]; simp only [cmpI]; exact B_eq ⟨fun h => BitVec.eq_of_toNat_eq (by omega), fun h => by rw [h]⟩
theorem cmp16n (x y : BitVec 16) : cmpV .ne (.c (c16 x)) (.c (c16 y)) = some (B (decide (x ≠ y))) := by
  rw [cmp16]; simp only [cmpI]; exact B_eq ⟨fun h e => h (by rw [e]), fun h e => h (BitVec.eq_of_toNat_eq (by omega))⟩
theorem cmp32e (x y : BitVec 32) : cmpV .eq (.c (c32 x)) (.c (c32 y)) = some (B (decide (x = y))) := by
  rw [cmp32]; simp only [cmpI]; exact B_eq ⟨fun h => BitVec.eq_of_toNat_eq (by omega), fun h => by rw [h]⟩
theorem cmp32n (x y : BitVec 32) : cmpV .ne (.c (c32 x)) (.c (c32 y)) = some (B (decide (x ≠ y))) := by
  rw [cmp32]; simp only [cmpI]; exact B_eq ⟨fun h e => h (by rw [e]), fun h e => h (BitVec.eq_of_toNat_eq (by omega))⟩
theorem cmp64e (x y : BitVec 64) : cmpV .eq (.c (c64 x)) (.c (c64 y)) = some (B (decide (x = y))) := by
  rw [cmp64]; simp only [cmpI]; exact B_eq ⟨fun h => BitVec.eq_of_toNat_eq (by omega), fun h => by rw [h]⟩
theorem cmp64n (x y : BitVec 64) : cmpV .ne (.c (c64 x)) (.c (c64 y)) = some (B (decide (x ≠ y))) := by
  rw [cmp64]; simp only [cmpI]; exact B_eq ⟨fun h e => h (by rw [e]), fun h e => h (BitVec.eq_of_toNat_eq (by omega))⟩
theorem str_inj (a b : List UInt8) : (str a = str b) = (a = b) := by
  simp [str]
theorem cmps_e (x y : ByteArray) : cmpV .eq (.c (.p (.string x))) (.c (.p (.string y))) = some (B (decide (x = y))) := id rfl
theorem cmps_n (x y : ByteArray) : cmpV .ne (.c (.p (.string x))) (.c (.p (.string y))) = some (B (decide (x ≠ y))) := id rfl

theorem rem64_256 (x : BitVec 64) : ariV .rem (.c (c64 x)) (.c (c64 256)) = some (.c (c64 (x % 256))) := rem64 x 256 (by decide)
theorem quo64_256 (x : BitVec 64) : ariV .quo (.c (c64 x)) (.c (c64 256)) = some (.c (c64 (x / 256))) := quo64 x 256 (by decide)

/-! ### Loops by a family of states -/

section
variable {P : Program} {N : Nat} {Q : AX → St → Prop} {s : St}

theorem AR.loopS {x : AC} {σ : Type} (S : σ → St) (I : σ → Prop) (μ : σ → Nat) (x0 : σ) (hw : Wk N s (S x0)) (h0 : I x0)
    (hrun : ∀ y, I y → AR P N x (thn (fun s1 => ∃ y', Wk N s1 (S y') ∧ I y' ∧ μ y' < μ y) Q) (S y)) : AR P N (.loop x) Q s :=
  AR.wk hw (AR.loop (fun n s => ∃ y, I y ∧ n = μ y ∧ s = S y) ⟨x0, h0, rfl, rfl⟩ (by
    rintro n s ⟨y, hy, rfl, rfl⟩
    refine AR.mono (fun e s' h => ?_) (hrun y hy)
    cases e with
    | n => obtain ⟨y', h1, h2, h3⟩ := h; exact ⟨S y', μ y', h1, h3, y', h2, rfl, rfl⟩
    | x id => exact h
    | r => exact h))

theorem AR.cond_t {c : O} {x y : AC} (hc : ev s.env c = some (B true)) (h : AR P N x Q s) : AR P N (.cond c x y) Q s := AR.cond hc (fun _ => h) (fun h => by cases h)
theorem AR.cond_f {c : O} {x y : AC} (hc : ev s.env c = some (B false)) (h : AR P N y Q s) : AR P N (.cond c x y) Q s := AR.cond hc (fun h => by cases h) (fun _ => h)
theorem AR.cond_d {c : O} {x y : AC} {p : Prop} [Decidable p] (hc : ev s.env c = some (B (decide p))) (h1 : p → AR P N x Q s) (h2 : ¬ p → AR P N y Q s) : AR P N (.cond c x y) Q s :=
  AR.cond hc (fun h => h1 (of_decide_eq_true h)) (fun h => h2 (of_decide_eq_false h))

theorem Wk.lists0 {e : Env} {l : Loc} {H : Heap} (le : List (Nat × AV)) (h1 : keeps e le) (h3 : scopes (mk []) le) : Wk N ⟨e, l, H⟩ ⟨mk le, mk [], H⟩ := Wk.lists le [] h1 trivial h3

theorem fn_sound' {pure : List Nat} {f : FuncId} {fn : Func} {F : AFn} {args : List AV} {H : Heap} {Post : AV → Heap → Prop} (hm : P.follows .mixedOrders = true) (hf : P.funcs[f]? = some fn) (hF : cfn P pure fn = some F)
    (hargs : args.length = F.np ∧ F.np ≤ F.nt ∧ args.all okArg = true)
    (h : AR P F.nt F.body (fin F.res Post) ⟨mk (num 0 args), mk [], H⟩) : ACalls P f args H Post := fn_sound hm hf hF hargs h

/-! ### Calls -/

/-- A call of a pure function at known arguments. -/
def pcall (P : Program) (f : Nat) (vs : List AV) (d : Option Nat) (s : St) (K : St → Prop) : Prop :=
  (vs.all okArg = true ∧ okFn P f = true) ∧ ∃ v, (ACalls P f vs s.heap (fun v' H' => v' = v ∧ H' = s.heap) ∧ plainV v = true) ∧ K { s with env := put s.env d v }
/-- A call. -/
def hcall (P : Program) (f : Nat) (vs : List AV) (d : Option Nat) (s : St) (K : St → Prop) : Prop :=
  (vs.all okArg = true ∧ okFn P f = true) ∧ ∃ Post, ACalls P f vs s.heap Post ∧ ∀ v H', Post v H' → plainV v = true → K ⟨put s.env d v, s.loc, H'⟩

theorem act_callp' (d : Option Nat) (f : Nat) (args : List O) (K : St → Prop) : act P d (.callp f args) s K = (match evs s.env args with
    | some vs => pcall P f vs d s K
    | none => False) := id rfl
theorem act_call' (d : Option Nat) (f : Nat) (args : List O) (K : St → Prop) : act P d (.call f args) s K = (match evs s.env args with
    | some vs => hcall P f vs d s K
    | none => False) := id rfl
theorem pcall_of {f : Nat} {vs : List AV} {d : Option Nat} {e : Env} {l : Loc} {H : Heap} {K : St → Prop} {v : AV} (hc : ACalls P f vs H (fun v' H' => v' = v ∧ H' = H)) (h1 : vs.all okArg = true) (h2 : okFn P f = true) (hp : plainV v = true) (hk : K ⟨put e d v, l, H⟩) : pcall P f vs d ⟨e, l, H⟩ K :=
  ⟨⟨h1, h2⟩, v, ⟨hc, hp⟩, hk⟩
theorem hcall_of {f : Nat} {vs : List AV} {d : Option Nat} {e : Env} {l : Loc} {H : Heap} {K : St → Prop} {Post : AV → Heap → Prop} (hc : ACalls P f vs H Post) (h1 : vs.all okArg = true) (h2 : okFn P f = true) (hk : ∀ v H', Post v H' → plainV v = true → K ⟨put e d v, l, H'⟩) : hcall P f vs d ⟨e, l, H⟩ K :=
  ⟨⟨h1, h2⟩, Post, hc, hk⟩
end

/-! ### What the evaluation leaves alone: code that is not come to yet -/

@[congr] theorem AR_congr {P : Program} {N : Nat} {c : AC} {Q : AX → St → Prop} {s s' : St} (h : s = s') : AR P N c Q s = AR P N c Q s' := by rw [h]

end Go.Eng
