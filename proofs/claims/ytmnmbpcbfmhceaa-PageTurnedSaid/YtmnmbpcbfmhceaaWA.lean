import Derived.Test.YtmnmbpcbfmhceaaAA
set_option linter.unusedSimpArgs false
set_option linter.unusedVariables false
namespace Go.Eng
open Go.Proofs
theorem mixed : Try.prog.follows .mixedOrders = true := by kernel_rfl

theorem crc_step (r : BitVec 32) (H : Heap) : ACalls Try.prog 158 [.c (c32 r)] H (fun v H' => v = .c (c32 (stp r)) ∧ H' = H) := by
  refine fn_sound' mixed f158_at F158_ok ⟨rfl, by decide, rfl⟩ ?_
  dsimp only [F158, k158, num]
  repeat' first
    | with_reducible refine AR.seq ?_
    | ((first | with_reducible refine AR.reg ?_ | with_reducible refine AR.skip ?_ | with_reducible refine AR.exit ?_); try simp (maxSteps := 2000000) (disch := first | assumption | omega | (simp only [bool_to_prop]; first | done | omega)) only [go_sem])
    | ((with_reducible refine AR.ret ?_); try simp only [thn_r, blk_r])
    | with_reducible refine AR.block ?_
    | ((with_reducible refine And.intro ?_ ?_); · (first | omega | (simp only [bool_to_prop]; first | done | omega) | (simp (maxSteps := 2000000) (disch := first | assumption | omega | (simp only [bool_to_prop]; first | done | omega)) only [go_sem]; first | done | omega)))
    | ((with_reducible refine AR.cond_t ?_ ?_); · simp (maxSteps := 2000000) (disch := first | assumption | omega | (simp only [bool_to_prop]; first | done | omega)) only [go_sem])
    | ((with_reducible refine AR.cond_f ?_ ?_); · simp (maxSteps := 2000000) (disch := first | assumption | omega | (simp only [bool_to_prop]; first | done | omega)) only [go_sem])
  refine fin_r _ (by simp (maxSteps := 2000000) (disch := first | assumption | omega | (simp only [bool_to_prop]; first | done | omega)) only [resV, rvs, rv1, go_sem]; rfl) rfl ⟨?_, rfl⟩
  rfl

theorem fold_take (t : List UInt8) (i : Nat) (a : BitVec 32) (h : i < t.length) : (t.take (i + 1)).foldl byte8 a = it 8 ((t.take i).foldl byte8 a ^^^ BitVec.ofNat 32 (t.getD i 0).toNat) := by
  rw [List.take_add_one, List.foldl_append, List.getElem?_eq_getElem h, getD_get _ _ _ h]
  rfl

theorem crc_more (sum : BitVec 32) (t : ByteArray) (ht : (t.size : Int) < 9223372036854775807) (H : Heap) : ACalls Try.prog 144 [.c (c32 sum), S t] H (fun v H' => v = .c (c32 (more sum t.data.toList)) ∧ H' = H) := by
  have hlen : t.data.toList.length = t.size := Array.length_toList
  refine fn_sound' mixed f144_at F144_ok ⟨rfl, by decide, rfl⟩ ?_
  dsimp only [F144, k144, num]
  repeat' first
    | with_reducible refine AR.seq ?_
    | ((first | with_reducible refine AR.reg ?_ | with_reducible refine AR.skip ?_ | with_reducible refine AR.exit ?_ | ((with_reducible show pcall _ 158 _ _ _ _); refine pcall_of (crc_step _ _) rfl f158_fn (by first | rfl | exact getS_ok _ _ _) ?_)); try simp (maxSteps := 2000000) (disch := first | assumption | omega | (simp only [bool_to_prop]; first | done | omega)) only [go_sem])
    | ((with_reducible refine AR.ret ?_); try simp only [thn_r, blk_r])
    | with_reducible refine AR.block ?_
    | ((with_reducible refine And.intro ?_ ?_); · (first | omega | (simp only [bool_to_prop]; first | done | omega) | (simp (maxSteps := 2000000) (disch := first | assumption | omega | (simp only [bool_to_prop]; first | done | omega)) only [go_sem]; first | done | omega)))
    | ((with_reducible refine AR.cond_t ?_ ?_); · simp (maxSteps := 2000000) (disch := first | assumption | omega | (simp only [bool_to_prop]; first | done | omega)) only [go_sem])
    | ((with_reducible refine AR.cond_f ?_ ?_); · simp (maxSteps := 2000000) (disch := first | assumption | omega | (simp only [bool_to_prop]; first | done | omega)) only [go_sem])
  refine AR.loopS (σ := Nat) (fun i => ⟨mk [(0, .c (c32 sum)), (1, S t), (5, .c (c32 ((t.data.toList.take i).foldl byte8 (~~~sum)))), (6, I .i64 i)], mk [], H⟩) (fun i => i ≤ t.size) (fun i => t.size - i) (0) ?_ ?_ ?_
  refine Wk.lists0 _ ?_ ?_
  all_goals try (first | exact trivial | (simp (maxSteps := 2000000) (disch := first | assumption | omega | (simp only [bool_to_prop]; first | done | omega)) only [List.take_zero, List.foldl_nil, List.nil_append, List.append_nil, List.replicate_zero, Nat.sub_zero, Nat.sub_self, Nat.mul_zero, le_0, it_0, sub_0, keeps_cons, keeps_nil, keepl_cons, keepl_nil, scopes_c, scopes_g, scopes_u, scopes_ep, scopes_lp, scopes_lw, scopes_nil, mk_cons, mk_nil, upd, Nat.reduceEqDiff, ↓reduceIte, and_self, and_true, true_and, ne_eq, reduceCtorEq, not_false_eq_true, Int.natCast_add, Int.natCast_one, Int.cast_ofNat_Int, Option.some.injEq, AV.c.injEq, AV.g.injEq, map_inj_b8, c64_inj, c32_inj, c16_inj, b8_inj, CV.p.injEq, Value.int.injEq, Value.string.injEq, AV.lp.injEq, AV.lw.injEq, List.cons.injEq]; done) | omega)
  all_goals try (simp (maxSteps := 2000000) (disch := first | assumption | omega | (simp only [bool_to_prop]; first | done | omega)) only [List.take_zero, List.foldl_nil, List.nil_append, List.append_nil, List.replicate_zero, Nat.sub_zero, Nat.sub_self, Nat.mul_zero, le_0, it_0, sub_0, keeps_cons, keeps_nil, keepl_cons, keepl_nil, scopes_c, scopes_g, scopes_u, scopes_ep, scopes_lp, scopes_lw, scopes_nil, mk_cons, mk_nil, upd, Nat.reduceEqDiff, ↓reduceIte, and_self, and_true, true_and, ne_eq, reduceCtorEq, not_false_eq_true, Int.natCast_add, Int.natCast_one, Int.cast_ofNat_Int, Option.some.injEq, AV.c.injEq, AV.g.injEq, map_inj_b8, c64_inj, c32_inj, c16_inj, b8_inj, CV.p.injEq, Value.int.injEq, Value.string.injEq, AV.lp.injEq, AV.lw.injEq, List.cons.injEq])
  all_goals try omega
  all_goals try with_reducible (first | rfl | exact ⟨rfl, rfl⟩ | exact ⟨rfl, rfl, rfl⟩)
  rintro i hi
  by_cases hlt : i < t.size
  · repeat' first
      | with_reducible refine AR.seq ?_
      | ((first | with_reducible refine AR.reg ?_ | with_reducible refine AR.skip ?_ | with_reducible refine AR.exit ?_ | ((with_reducible show pcall _ 158 _ _ _ _); refine pcall_of (crc_step _ _) rfl f158_fn (by first | rfl | exact getS_ok _ _ _) ?_)); try simp (maxSteps := 2000000) (disch := first | assumption | omega | (simp only [bool_to_prop]; first | done | omega)) only [go_sem])
      | ((with_reducible refine AR.ret ?_); try simp only [thn_r, blk_r])
      | with_reducible refine AR.block ?_
      | ((with_reducible refine And.intro ?_ ?_); · (first | omega | (simp only [bool_to_prop]; first | done | omega) | (simp (maxSteps := 2000000) (disch := first | assumption | omega | (simp only [bool_to_prop]; first | done | omega)) only [go_sem]; first | done | omega)))
      | ((with_reducible refine AR.cond_t ?_ ?_); · simp (maxSteps := 2000000) (disch := first | assumption | omega | (simp only [bool_to_prop]; first | done | omega)) only [go_sem])
      | ((with_reducible refine AR.cond_f ?_ ?_); · simp (maxSteps := 2000000) (disch := first | assumption | omega | (simp only [bool_to_prop]; first | done | omega)) only [go_sem])
    refine AR.loopS (σ := Nat) (fun k => ⟨mk [(0, .c (c32 sum)), (1, S t), (5, .c (c32 (it k ((t.data.toList.take i).foldl byte8 (~~~sum) ^^^ BitVec.ofNat 32 (t.data.toList.getD i 0).toNat)))), (6, I .i64 i), (21, I .i64 k)], mk [], H⟩) (fun k => k ≤ 8) (fun k => 8 - k) (0) ?_ ?_ ?_
    refine Wk.lists0 _ ?_ ?_
    all_goals try (first | exact trivial | (simp (maxSteps := 2000000) (disch := first | assumption | omega | (simp only [bool_to_prop]; first | done | omega)) only [List.take_zero, List.foldl_nil, List.nil_append, List.append_nil, List.replicate_zero, Nat.sub_zero, Nat.sub_self, Nat.mul_zero, le_0, it_0, sub_0, keeps_cons, keeps_nil, keepl_cons, keepl_nil, scopes_c, scopes_g, scopes_u, scopes_ep, scopes_lp, scopes_lw, scopes_nil, mk_cons, mk_nil, upd, Nat.reduceEqDiff, ↓reduceIte, and_self, and_true, true_and, ne_eq, reduceCtorEq, not_false_eq_true, Int.natCast_add, Int.natCast_one, Int.cast_ofNat_Int, Option.some.injEq, AV.c.injEq, AV.g.injEq, map_inj_b8, c64_inj, c32_inj, c16_inj, b8_inj, CV.p.injEq, Value.int.injEq, Value.string.injEq, AV.lp.injEq, AV.lw.injEq, List.cons.injEq]; done) | omega)
    all_goals try (simp (maxSteps := 2000000) (disch := first | assumption | omega | (simp only [bool_to_prop]; first | done | omega)) only [List.take_zero, List.foldl_nil, List.nil_append, List.append_nil, List.replicate_zero, Nat.sub_zero, Nat.sub_self, Nat.mul_zero, le_0, it_0, sub_0, keeps_cons, keeps_nil, keepl_cons, keepl_nil, scopes_c, scopes_g, scopes_u, scopes_ep, scopes_lp, scopes_lw, scopes_nil, mk_cons, mk_nil, upd, Nat.reduceEqDiff, ↓reduceIte, and_self, and_true, true_and, ne_eq, reduceCtorEq, not_false_eq_true, Int.natCast_add, Int.natCast_one, Int.cast_ofNat_Int, Option.some.injEq, AV.c.injEq, AV.g.injEq, map_inj_b8, c64_inj, c32_inj, c16_inj, b8_inj, CV.p.injEq, Value.int.injEq, Value.string.injEq, AV.lp.injEq, AV.lw.injEq, List.cons.injEq])
    all_goals try omega
    all_goals try with_reducible (first | rfl | exact ⟨rfl, rfl⟩ | exact ⟨rfl, rfl, rfl⟩)
    rintro k hk
    by_cases hk8 : k < 8
    · repeat' first
        | with_reducible refine AR.seq ?_
        | ((first | with_reducible refine AR.reg ?_ | with_reducible refine AR.skip ?_ | with_reducible refine AR.exit ?_ | ((with_reducible show pcall _ 158 _ _ _ _); refine pcall_of (crc_step _ _) rfl f158_fn (by first | rfl | exact getS_ok _ _ _) ?_)); try simp (maxSteps := 2000000) (disch := first | assumption | omega | (simp only [bool_to_prop]; first | done | omega)) only [go_sem])
        | ((with_reducible refine AR.ret ?_); try simp only [thn_r, blk_r])
        | with_reducible refine AR.block ?_
        | ((with_reducible refine And.intro ?_ ?_); · (first | omega | (simp only [bool_to_prop]; first | done | omega) | (simp (maxSteps := 2000000) (disch := first | assumption | omega | (simp only [bool_to_prop]; first | done | omega)) only [go_sem]; first | done | omega)))
        | ((with_reducible refine AR.cond_t ?_ ?_); · simp (maxSteps := 2000000) (disch := first | assumption | omega | (simp only [bool_to_prop]; first | done | omega)) only [go_sem])
        | ((with_reducible refine AR.cond_f ?_ ?_); · simp (maxSteps := 2000000) (disch := first | assumption | omega | (simp only [bool_to_prop]; first | done | omega)) only [go_sem])
      refine ⟨k + 1, Wk.lists0 _ ?_ ?_, ?_, ?_⟩
      all_goals try (first | exact trivial | (simp (maxSteps := 2000000) (disch := first | assumption | omega | (simp only [bool_to_prop]; first | done | omega)) only [List.take_zero, List.foldl_nil, List.nil_append, List.append_nil, List.replicate_zero, Nat.sub_zero, Nat.sub_self, Nat.mul_zero, le_0, it_0, sub_0, keeps_cons, keeps_nil, keepl_cons, keepl_nil, scopes_c, scopes_g, scopes_u, scopes_ep, scopes_lp, scopes_lw, scopes_nil, mk_cons, mk_nil, upd, Nat.reduceEqDiff, ↓reduceIte, and_self, and_true, true_and, ne_eq, reduceCtorEq, not_false_eq_true, Int.natCast_add, Int.natCast_one, Int.cast_ofNat_Int, Option.some.injEq, AV.c.injEq, AV.g.injEq, map_inj_b8, c64_inj, c32_inj, c16_inj, b8_inj, CV.p.injEq, Value.int.injEq, Value.string.injEq, AV.lp.injEq, AV.lw.injEq, List.cons.injEq]; done) | omega)
      all_goals try (simp (maxSteps := 2000000) (disch := first | assumption | omega | (simp only [bool_to_prop]; first | done | omega)) only [List.take_zero, List.foldl_nil, List.nil_append, List.append_nil, List.replicate_zero, Nat.sub_zero, Nat.sub_self, Nat.mul_zero, le_0, it_0, sub_0, keeps_cons, keeps_nil, keepl_cons, keepl_nil, scopes_c, scopes_g, scopes_u, scopes_ep, scopes_lp, scopes_lw, scopes_nil, mk_cons, mk_nil, upd, Nat.reduceEqDiff, ↓reduceIte, and_self, and_true, true_and, ne_eq, reduceCtorEq, not_false_eq_true, Int.natCast_add, Int.natCast_one, Int.cast_ofNat_Int, Option.some.injEq, AV.c.injEq, AV.g.injEq, map_inj_b8, c64_inj, c32_inj, c16_inj, b8_inj, CV.p.injEq, Value.int.injEq, Value.string.injEq, AV.lp.injEq, AV.lw.injEq, List.cons.injEq])
      all_goals try omega
      all_goals try with_reducible (first | rfl | exact ⟨rfl, rfl⟩ | exact ⟨rfl, rfl, rfl⟩)
      rfl
    · obtain rfl : k = 8 := by omega
      repeat' first
        | with_reducible refine AR.seq ?_
        | ((first | with_reducible refine AR.reg ?_ | with_reducible refine AR.skip ?_ | with_reducible refine AR.exit ?_ | ((with_reducible show pcall _ 158 _ _ _ _); refine pcall_of (crc_step _ _) rfl f158_fn (by first | rfl | exact getS_ok _ _ _) ?_)); try simp (maxSteps := 2000000) (disch := first | assumption | omega | (simp only [bool_to_prop]; first | done | omega)) only [go_sem])
        | ((with_reducible refine AR.ret ?_); try simp only [thn_r, blk_r])
        | with_reducible refine AR.block ?_
        | ((with_reducible refine And.intro ?_ ?_); · (first | omega | (simp only [bool_to_prop]; first | done | omega) | (simp (maxSteps := 2000000) (disch := first | assumption | omega | (simp only [bool_to_prop]; first | done | omega)) only [go_sem]; first | done | omega)))
        | ((with_reducible refine AR.cond_t ?_ ?_); · simp (maxSteps := 2000000) (disch := first | assumption | omega | (simp only [bool_to_prop]; first | done | omega)) only [go_sem])
        | ((with_reducible refine AR.cond_f ?_ ?_); · simp (maxSteps := 2000000) (disch := first | assumption | omega | (simp only [bool_to_prop]; first | done | omega)) only [go_sem])
      refine ⟨i + 1, Wk.lists0 _ ?_ ?_, ?_, ?_⟩
      all_goals try (first | exact trivial | (simp (maxSteps := 2000000) (disch := first | assumption | omega | (simp only [bool_to_prop]; first | done | omega)) only [List.take_zero, List.foldl_nil, List.nil_append, List.append_nil, List.replicate_zero, Nat.sub_zero, Nat.sub_self, Nat.mul_zero, le_0, it_0, sub_0, keeps_cons, keeps_nil, keepl_cons, keepl_nil, scopes_c, scopes_g, scopes_u, scopes_ep, scopes_lp, scopes_lw, scopes_nil, mk_cons, mk_nil, upd, Nat.reduceEqDiff, ↓reduceIte, and_self, and_true, true_and, ne_eq, reduceCtorEq, not_false_eq_true, Int.natCast_add, Int.natCast_one, Int.cast_ofNat_Int, Option.some.injEq, AV.c.injEq, AV.g.injEq, map_inj_b8, c64_inj, c32_inj, c16_inj, b8_inj, CV.p.injEq, Value.int.injEq, Value.string.injEq, AV.lp.injEq, AV.lw.injEq, List.cons.injEq]; done) | omega)
      all_goals try (simp (maxSteps := 2000000) (disch := first | assumption | omega | (simp only [bool_to_prop]; first | done | omega)) only [List.take_zero, List.foldl_nil, List.nil_append, List.append_nil, List.replicate_zero, Nat.sub_zero, Nat.sub_self, Nat.mul_zero, le_0, it_0, sub_0, keeps_cons, keeps_nil, keepl_cons, keepl_nil, scopes_c, scopes_g, scopes_u, scopes_ep, scopes_lp, scopes_lw, scopes_nil, mk_cons, mk_nil, upd, Nat.reduceEqDiff, ↓reduceIte, and_self, and_true, true_and, ne_eq, reduceCtorEq, not_false_eq_true, Int.natCast_add, Int.natCast_one, Int.cast_ofNat_Int, Option.some.injEq, AV.c.injEq, AV.g.injEq, map_inj_b8, c64_inj, c32_inj, c16_inj, b8_inj, CV.p.injEq, Value.int.injEq, Value.string.injEq, AV.lp.injEq, AV.lw.injEq, List.cons.injEq])
      all_goals try omega
      all_goals try with_reducible (first | rfl | exact ⟨rfl, rfl⟩ | exact ⟨rfl, rfl, rfl⟩)
      rw [fold_take _ _ _ (by omega)]
  · obtain rfl : i = t.size := by omega
    repeat' first
      | with_reducible refine AR.seq ?_
      | ((first | with_reducible refine AR.reg ?_ | with_reducible refine AR.skip ?_ | with_reducible refine AR.exit ?_ | ((with_reducible show pcall _ 158 _ _ _ _); refine pcall_of (crc_step _ _) rfl f158_fn (by first | rfl | exact getS_ok _ _ _) ?_)); try simp (maxSteps := 2000000) (disch := first | assumption | omega | (simp only [bool_to_prop]; first | done | omega)) only [go_sem])
      | ((with_reducible refine AR.ret ?_); try simp only [thn_r, blk_r])
      | with_reducible refine AR.block ?_
      | ((with_reducible refine And.intro ?_ ?_); · (first | omega | (simp only [bool_to_prop]; first | done | omega) | (simp (maxSteps := 2000000) (disch := first | assumption | omega | (simp only [bool_to_prop]; first | done | omega)) only [go_sem]; first | done | omega)))
      | ((with_reducible refine AR.cond_t ?_ ?_); · simp (maxSteps := 2000000) (disch := first | assumption | omega | (simp only [bool_to_prop]; first | done | omega)) only [go_sem])
      | ((with_reducible refine AR.cond_f ?_ ?_); · simp (maxSteps := 2000000) (disch := first | assumption | omega | (simp only [bool_to_prop]; first | done | omega)) only [go_sem])
    refine fin_r _ (by simp (maxSteps := 2000000) (disch := first | assumption | omega | (simp only [bool_to_prop]; first | done | omega)) only [resV, rvs, rv1, go_sem]; rfl) rfl ⟨?_, rfl⟩
    rfl

theorem crc_sum (t : ByteArray) (ht : (t.size : Int) < 9223372036854775807) (H : Heap) : ACalls Try.prog 105 [S t] H (fun v H' => v = .c (c32 (more 0 t.data.toList)) ∧ H' = H) := by
  refine fn_sound' mixed f105_at F105_ok ⟨rfl, by decide, rfl⟩ ?_
  dsimp only [F105, k105, num]
  repeat' first
    | with_reducible refine AR.seq ?_
    | ((first | with_reducible refine AR.reg ?_ | with_reducible refine AR.skip ?_ | with_reducible refine AR.exit ?_ | ((with_reducible show pcall _ 144 _ _ _ _); refine pcall_of (crc_more _ _ (by omega) _) rfl f144_fn (by first | rfl | exact getS_ok _ _ _) ?_)); try simp (maxSteps := 2000000) (disch := first | assumption | omega | (simp only [bool_to_prop]; first | done | omega)) only [go_sem])
    | ((with_reducible refine AR.ret ?_); try simp only [thn_r, blk_r])
    | with_reducible refine AR.block ?_
    | ((with_reducible refine And.intro ?_ ?_); · (first | omega | (simp only [bool_to_prop]; first | done | omega) | (simp (maxSteps := 2000000) (disch := first | assumption | omega | (simp only [bool_to_prop]; first | done | omega)) only [go_sem]; first | done | omega)))
    | ((with_reducible refine AR.cond_t ?_ ?_); · simp (maxSteps := 2000000) (disch := first | assumption | omega | (simp only [bool_to_prop]; first | done | omega)) only [go_sem])
    | ((with_reducible refine AR.cond_f ?_ ?_); · simp (maxSteps := 2000000) (disch := first | assumption | omega | (simp only [bool_to_prop]; first | done | omega)) only [go_sem])
  refine fin_r _ (by simp (maxSteps := 2000000) (disch := first | assumption | omega | (simp only [bool_to_prop]; first | done | omega)) only [resV, rvs, rv1, go_sem]; rfl) rfl ⟨?_, rfl⟩
  rfl
end Go.Eng
set_option linter.unusedSimpArgs false
set_option linter.unusedVariables false
namespace Go.Eng
open Go.Proofs

def putS (v : BitVec 64) (n : Int) : ByteArray := if n < 0 ∨ 8 < n then str [] else str (le n.toNat v)

theorem putS_ok (v : BitVec 64) (n : Int) (h : 0 ≤ n ∧ n ≤ 8) : putS v n = str (le n.toNat v) := by rw [putS, if_neg (by omega)]
attribute [go_sem] putS_ok

theorem word_put (v : BitVec 64) (n : Int) (H : Heap) : ACalls Try.prog 104 [.c (c64 v), I .i64 n] H (fun r H' => r = S (putS v n) ∧ H' = H) := by
  refine fn_sound' mixed f104_at F104_ok ⟨rfl, by decide, rfl⟩ ?_
  dsimp only [F104, k104, num]
  by_cases h0 : n < 0
  · repeat' first
      | with_reducible refine AR.seq ?_
      | ((first | with_reducible refine AR.reg ?_ | with_reducible refine AR.skip ?_ | with_reducible refine AR.exit ?_); try simp (maxSteps := 2000000) (disch := first | assumption | omega | (simp only [bool_to_prop]; first | done | omega)) only [go_sem])
      | ((with_reducible refine AR.ret ?_); try simp only [thn_r, blk_r])
      | with_reducible refine AR.block ?_
      | ((with_reducible refine And.intro ?_ ?_); · (first | omega | (simp only [bool_to_prop]; first | done | omega) | (simp (maxSteps := 2000000) (disch := first | assumption | omega | (simp only [bool_to_prop]; first | done | omega)) only [go_sem]; first | done | omega)))
      | ((with_reducible refine AR.cond_t ?_ ?_); · simp (maxSteps := 2000000) (disch := first | assumption | omega | (simp only [bool_to_prop]; first | done | omega)) only [go_sem])
      | ((with_reducible refine AR.cond_f ?_ ?_); · simp (maxSteps := 2000000) (disch := first | assumption | omega | (simp only [bool_to_prop]; first | done | omega)) only [go_sem])
    refine fin_r _ (by simp (maxSteps := 2000000) (disch := first | assumption | omega | (simp only [bool_to_prop]; first | done | omega)) only [resV, rvs, rv1, go_sem]; rfl) rfl ⟨?_, rfl⟩
    rw [putS, if_pos (.inl h0)]
  by_cases h8 : 8 < n
  · repeat' first
      | with_reducible refine AR.seq ?_
      | ((first | with_reducible refine AR.reg ?_ | with_reducible refine AR.skip ?_ | with_reducible refine AR.exit ?_); try simp (maxSteps := 2000000) (disch := first | assumption | omega | (simp only [bool_to_prop]; first | done | omega)) only [go_sem])
      | ((with_reducible refine AR.ret ?_); try simp only [thn_r, blk_r])
      | with_reducible refine AR.block ?_
      | ((with_reducible refine And.intro ?_ ?_); · (first | omega | (simp only [bool_to_prop]; first | done | omega) | (simp (maxSteps := 2000000) (disch := first | assumption | omega | (simp only [bool_to_prop]; first | done | omega)) only [go_sem]; first | done | omega)))
      | ((with_reducible refine AR.cond_t ?_ ?_); · simp (maxSteps := 2000000) (disch := first | assumption | omega | (simp only [bool_to_prop]; first | done | omega)) only [go_sem])
      | ((with_reducible refine AR.cond_f ?_ ?_); · simp (maxSteps := 2000000) (disch := first | assumption | omega | (simp only [bool_to_prop]; first | done | omega)) only [go_sem])
    refine fin_r _ (by simp (maxSteps := 2000000) (disch := first | assumption | omega | (simp only [bool_to_prop]; first | done | omega)) only [resV, rvs, rv1, go_sem]; rfl) rfl ⟨?_, rfl⟩
    rw [putS, if_pos (.inr h8)]
  obtain ⟨m, rfl⟩ : ∃ m : Nat, n = m := ⟨n.toNat, by omega⟩
  have hm : m ≤ 8 := by omega
  repeat' first
    | with_reducible refine AR.seq ?_
    | ((first | with_reducible refine AR.reg ?_ | with_reducible refine AR.skip ?_ | with_reducible refine AR.exit ?_); try simp (maxSteps := 2000000) (disch := first | assumption | omega | (simp only [bool_to_prop]; first | done | omega)) only [go_sem])
    | ((with_reducible refine AR.ret ?_); try simp only [thn_r, blk_r])
    | with_reducible refine AR.block ?_
    | ((with_reducible refine And.intro ?_ ?_); · (first | omega | (simp only [bool_to_prop]; first | done | omega) | (simp (maxSteps := 2000000) (disch := first | assumption | omega | (simp only [bool_to_prop]; first | done | omega)) only [go_sem]; first | done | omega)))
    | ((with_reducible refine AR.cond_t ?_ ?_); · simp (maxSteps := 2000000) (disch := first | assumption | omega | (simp only [bool_to_prop]; first | done | omega)) only [go_sem])
    | ((with_reducible refine AR.cond_f ?_ ?_); · simp (maxSteps := 2000000) (disch := first | assumption | omega | (simp only [bool_to_prop]; first | done | omega)) only [go_sem])
  refine AR.loopS (σ := Nat) (fun i => ⟨mk [(0, .c (c64 v)), (5, .lw 14 0 m m), (16, I .i64 m), (17, I .i64 i)], mk [(14, (le i v ++ List.replicate (m - i) 0).map b8)], H⟩) (fun i => i ≤ m) (fun i => m - i) (0) ?_ ?_ ?_
  refine Wk.lists _ _ ?_ ?_ ?_
  all_goals try (first | exact trivial | (simp (maxSteps := 2000000) (disch := first | assumption | omega | (simp only [bool_to_prop]; first | done | omega)) only [List.take_zero, List.foldl_nil, List.nil_append, List.append_nil, List.replicate_zero, Nat.sub_zero, Nat.sub_self, Nat.mul_zero, le_0, it_0, sub_0, keeps_cons, keeps_nil, keepl_cons, keepl_nil, scopes_c, scopes_g, scopes_u, scopes_ep, scopes_lp, scopes_lw, scopes_nil, mk_cons, mk_nil, upd, Nat.reduceEqDiff, ↓reduceIte, and_self, and_true, true_and, ne_eq, reduceCtorEq, not_false_eq_true, Int.natCast_add, Int.natCast_one, Int.cast_ofNat_Int, Option.some.injEq, AV.c.injEq, AV.g.injEq, map_inj_b8, c64_inj, c32_inj, c16_inj, b8_inj, CV.p.injEq, Value.int.injEq, Value.string.injEq, AV.lp.injEq, AV.lw.injEq, List.cons.injEq]; done) | omega)
  all_goals try (simp (maxSteps := 2000000) (disch := first | assumption | omega | (simp only [bool_to_prop]; first | done | omega)) only [List.take_zero, List.foldl_nil, List.nil_append, List.append_nil, List.replicate_zero, Nat.sub_zero, Nat.sub_self, Nat.mul_zero, le_0, it_0, sub_0, keeps_cons, keeps_nil, keepl_cons, keepl_nil, scopes_c, scopes_g, scopes_u, scopes_ep, scopes_lp, scopes_lw, scopes_nil, mk_cons, mk_nil, upd, Nat.reduceEqDiff, ↓reduceIte, and_self, and_true, true_and, ne_eq, reduceCtorEq, not_false_eq_true, Int.natCast_add, Int.natCast_one, Int.cast_ofNat_Int, Option.some.injEq, AV.c.injEq, AV.g.injEq, map_inj_b8, c64_inj, c32_inj, c16_inj, b8_inj, CV.p.injEq, Value.int.injEq, Value.string.injEq, AV.lp.injEq, AV.lw.injEq, List.cons.injEq])
  all_goals try omega
  all_goals try with_reducible (first | rfl | exact ⟨rfl, rfl⟩ | exact ⟨rfl, rfl, rfl⟩)
  rintro i hi
  have hl := le_len i v
  by_cases hlt : i < m
  · repeat' first
      | with_reducible refine AR.seq ?_
      | ((first | with_reducible refine AR.reg ?_ | with_reducible refine AR.skip ?_ | with_reducible refine AR.exit ?_); try simp (maxSteps := 2000000) (disch := first | assumption | omega | (simp only [bool_to_prop]; first | done | omega)) only [go_sem])
      | ((with_reducible refine AR.ret ?_); try simp only [thn_r, blk_r])
      | with_reducible refine AR.block ?_
      | ((with_reducible refine And.intro ?_ ?_); · (first | omega | (simp only [bool_to_prop]; first | done | omega) | (simp (maxSteps := 2000000) (disch := first | assumption | omega | (simp only [bool_to_prop]; first | done | omega)) only [go_sem]; first | done | omega)))
      | ((with_reducible refine AR.cond_t ?_ ?_); · simp (maxSteps := 2000000) (disch := first | assumption | omega | (simp only [bool_to_prop]; first | done | omega)) only [go_sem])
      | ((with_reducible refine AR.cond_f ?_ ?_); · simp (maxSteps := 2000000) (disch := first | assumption | omega | (simp only [bool_to_prop]; first | done | omega)) only [go_sem])
    refine ⟨i + 1, Wk.lists _ _ ?_ ?_ ?_, ?_, ?_⟩
    all_goals try (first | exact trivial | (simp (maxSteps := 2000000) (disch := first | assumption | omega | (simp only [bool_to_prop]; first | done | omega)) only [List.take_zero, List.foldl_nil, List.nil_append, List.append_nil, List.replicate_zero, Nat.sub_zero, Nat.sub_self, Nat.mul_zero, le_0, it_0, sub_0, keeps_cons, keeps_nil, keepl_cons, keepl_nil, scopes_c, scopes_g, scopes_u, scopes_ep, scopes_lp, scopes_lw, scopes_nil, mk_cons, mk_nil, upd, Nat.reduceEqDiff, ↓reduceIte, and_self, and_true, true_and, ne_eq, reduceCtorEq, not_false_eq_true, Int.natCast_add, Int.natCast_one, Int.cast_ofNat_Int, Option.some.injEq, AV.c.injEq, AV.g.injEq, map_inj_b8, c64_inj, c32_inj, c16_inj, b8_inj, CV.p.injEq, Value.int.injEq, Value.string.injEq, AV.lp.injEq, AV.lw.injEq, List.cons.injEq]; done) | omega)
    all_goals try (simp (maxSteps := 2000000) (disch := first | assumption | omega | (simp only [bool_to_prop]; first | done | omega)) only [List.take_zero, List.foldl_nil, List.nil_append, List.append_nil, List.replicate_zero, Nat.sub_zero, Nat.sub_self, Nat.mul_zero, le_0, it_0, sub_0, keeps_cons, keeps_nil, keepl_cons, keepl_nil, scopes_c, scopes_g, scopes_u, scopes_ep, scopes_lp, scopes_lw, scopes_nil, mk_cons, mk_nil, upd, Nat.reduceEqDiff, ↓reduceIte, and_self, and_true, true_and, ne_eq, reduceCtorEq, not_false_eq_true, Int.natCast_add, Int.natCast_one, Int.cast_ofNat_Int, Option.some.injEq, AV.c.injEq, AV.g.injEq, map_inj_b8, c64_inj, c32_inj, c16_inj, b8_inj, CV.p.injEq, Value.int.injEq, Value.string.injEq, AV.lp.injEq, AV.lw.injEq, List.cons.injEq])
    all_goals try omega
    all_goals try with_reducible (first | rfl | exact ⟨rfl, rfl⟩ | exact ⟨rfl, rfl, rfl⟩)
    have hsh : ((8 : Int) * (i : Int)).toNat = 8 * i := by omega
    rw [over_fill _ _ _ _ _ hl (by omega), hsh]
    rfl
  · obtain rfl : i = m := by omega
    repeat' first
      | with_reducible refine AR.seq ?_
      | ((first | with_reducible refine AR.reg ?_ | with_reducible refine AR.skip ?_ | with_reducible refine AR.exit ?_); try simp (maxSteps := 2000000) (disch := first | assumption | omega | (simp only [bool_to_prop]; first | done | omega)) only [go_sem])
      | ((with_reducible refine AR.ret ?_); try simp only [thn_r, blk_r])
      | with_reducible refine AR.block ?_
      | ((with_reducible refine And.intro ?_ ?_); · (first | omega | (simp only [bool_to_prop]; first | done | omega) | (simp (maxSteps := 2000000) (disch := first | assumption | omega | (simp only [bool_to_prop]; first | done | omega)) only [go_sem]; first | done | omega)))
      | ((with_reducible refine AR.cond_t ?_ ?_); · simp (maxSteps := 2000000) (disch := first | assumption | omega | (simp only [bool_to_prop]; first | done | omega)) only [go_sem])
      | ((with_reducible refine AR.cond_f ?_ ?_); · simp (maxSteps := 2000000) (disch := first | assumption | omega | (simp only [bool_to_prop]; first | done | omega)) only [go_sem])
    refine fin_r _ (by simp (maxSteps := 2000000) (disch := first | assumption | omega | (simp only [bool_to_prop]; first | done | omega)) only [resV, rvs, rv1, go_sem]; rfl) rfl ⟨?_, rfl⟩
    first | rfl | (rw [putS, if_neg (by omega)]; rfl)
end Go.Eng
set_option linter.unusedSimpArgs false
set_option linter.unusedVariables false
namespace Go.Eng
open Go.Proofs

def getB (t : ByteArray) (at_ n : Int) : Bool := decide (n < 0) || decide (8 < n) || decide (at_ < 0) || decide ((t.size : Int) < at_) || decide ((t.size : Int) - at_ < n)
def getS (t : ByteArray) (at_ n : Int) : AV := if getB t at_ n = true then .t [.c (c64 0), B false] else .t [.c (c64 (dle ((t.data.toList.drop at_.toNat).take n.toNat))), B true]

theorem getS_f {t : ByteArray} {at_ n : Int} (h : n < 0 ∨ 8 < n ∨ at_ < 0 ∨ (t.size : Int) < at_ ∨ (t.size : Int) - at_ < n) : getS t at_ n = .t [.c (c64 0), B false] := by
  rw [getS, if_pos]
  simp only [getB, Bool.or_eq_true, decide_eq_true_eq]
  omega
theorem getS_t {t : ByteArray} {at_ n : Nat} (h1 : n ≤ 8) (h2 : at_ + n ≤ t.size) : getS t at_ n = .t [.c (c64 (dle (sub t.data.toList at_ n))), B true] := by
  rw [getS, if_neg]
  · rfl
  · simp only [getB, Bool.or_eq_true, decide_eq_true_eq]
    omega
theorem getS_i (l : List UInt8) (a n : Int) (h : 0 ≤ n ∧ n ≤ 8 ∧ 0 ≤ a ∧ a + n ≤ l.length) : getS (str l) a n = .t [.c (c64 (dle (sub l a.toNat n.toNat))), B true] := by
  obtain ⟨k, rfl⟩ : ∃ k : Nat, n = k := ⟨n.toNat, by omega⟩
  obtain ⟨p, rfl⟩ : ∃ p : Nat, a = p := ⟨a.toNat, by omega⟩
  rw [getS_t (by omega) (by rw [str_size]; omega), str_list]; rfl
attribute [go_sem] getS_i
theorem getS_ok (t : ByteArray) (at_ n : Int) : plainV (getS t at_ n) = true := by unfold getS; split <;> rfl

theorem dle_step (t : List UInt8) (p m i : Nat) (h : i < m) (hp : p + m ≤ t.length) : dle ((t.drop (p + i)).take (m - i)) = (dle ((t.drop (p + (i + 1))).take (m - (i + 1))) <<< 8) ||| BitVec.ofNat 64 (t.getD (p + i) 0).toNat := by
  have hlt' : p + i < t.length := by omega
  rw [List.drop_eq_getElem_cons hlt', show m - i = (m - (i + 1)) + 1 by omega, List.take_succ_cons, dle, getD_get _ _ _ hlt']
  rfl

theorem word_get (t : ByteArray) (at_ n : Int) (ht : (t.size : Int) < 9223372036854775807) (H : Heap) : ACalls Try.prog 115 [S t, I .i64 at_, I .i64 n] H (fun r H' => r = getS t at_ n ∧ H' = H) := by
  have hlen : t.data.toList.length = t.size := Array.length_toList
  refine fn_sound' mixed f115_at F115_ok ⟨rfl, by decide, rfl⟩ ?_
  dsimp only [F115, k115, num]
  by_cases h1 : n < 0
  · repeat' first
      | with_reducible refine AR.seq ?_
      | ((first | with_reducible refine AR.reg ?_ | with_reducible refine AR.skip ?_ | with_reducible refine AR.exit ?_); try simp (maxSteps := 2000000) (disch := first | assumption | omega | (simp only [bool_to_prop]; first | done | omega)) only [go_sem])
      | ((with_reducible refine AR.ret ?_); try simp only [thn_r, blk_r])
      | with_reducible refine AR.block ?_
      | ((with_reducible refine And.intro ?_ ?_); · (first | omega | (simp only [bool_to_prop]; first | done | omega) | (simp (maxSteps := 2000000) (disch := first | assumption | omega | (simp only [bool_to_prop]; first | done | omega)) only [go_sem]; first | done | omega)))
      | ((with_reducible refine AR.cond_t ?_ ?_); · simp (maxSteps := 2000000) (disch := first | assumption | omega | (simp only [bool_to_prop]; first | done | omega)) only [go_sem])
      | ((with_reducible refine AR.cond_f ?_ ?_); · simp (maxSteps := 2000000) (disch := first | assumption | omega | (simp only [bool_to_prop]; first | done | omega)) only [go_sem])
    refine fin_r _ (by simp (maxSteps := 2000000) (disch := first | assumption | omega | (simp only [bool_to_prop]; first | done | omega)) only [resV, rvs, rv1, go_sem]; rfl) rfl ⟨?_, rfl⟩
    rw [getS_f (by omega)]
  by_cases h2 : 8 < n
  · repeat' first
      | with_reducible refine AR.seq ?_
      | ((first | with_reducible refine AR.reg ?_ | with_reducible refine AR.skip ?_ | with_reducible refine AR.exit ?_); try simp (maxSteps := 2000000) (disch := first | assumption | omega | (simp only [bool_to_prop]; first | done | omega)) only [go_sem])
      | ((with_reducible refine AR.ret ?_); try simp only [thn_r, blk_r])
      | with_reducible refine AR.block ?_
      | ((with_reducible refine And.intro ?_ ?_); · (first | omega | (simp only [bool_to_prop]; first | done | omega) | (simp (maxSteps := 2000000) (disch := first | assumption | omega | (simp only [bool_to_prop]; first | done | omega)) only [go_sem]; first | done | omega)))
      | ((with_reducible refine AR.cond_t ?_ ?_); · simp (maxSteps := 2000000) (disch := first | assumption | omega | (simp only [bool_to_prop]; first | done | omega)) only [go_sem])
      | ((with_reducible refine AR.cond_f ?_ ?_); · simp (maxSteps := 2000000) (disch := first | assumption | omega | (simp only [bool_to_prop]; first | done | omega)) only [go_sem])
    refine fin_r _ (by simp (maxSteps := 2000000) (disch := first | assumption | omega | (simp only [bool_to_prop]; first | done | omega)) only [resV, rvs, rv1, go_sem]; rfl) rfl ⟨?_, rfl⟩
    rw [getS_f (by omega)]
  by_cases h3 : at_ < 0
  · repeat' first
      | with_reducible refine AR.seq ?_
      | ((first | with_reducible refine AR.reg ?_ | with_reducible refine AR.skip ?_ | with_reducible refine AR.exit ?_); try simp (maxSteps := 2000000) (disch := first | assumption | omega | (simp only [bool_to_prop]; first | done | omega)) only [go_sem])
      | ((with_reducible refine AR.ret ?_); try simp only [thn_r, blk_r])
      | with_reducible refine AR.block ?_
      | ((with_reducible refine And.intro ?_ ?_); · (first | omega | (simp only [bool_to_prop]; first | done | omega) | (simp (maxSteps := 2000000) (disch := first | assumption | omega | (simp only [bool_to_prop]; first | done | omega)) only [go_sem]; first | done | omega)))
      | ((with_reducible refine AR.cond_t ?_ ?_); · simp (maxSteps := 2000000) (disch := first | assumption | omega | (simp only [bool_to_prop]; first | done | omega)) only [go_sem])
      | ((with_reducible refine AR.cond_f ?_ ?_); · simp (maxSteps := 2000000) (disch := first | assumption | omega | (simp only [bool_to_prop]; first | done | omega)) only [go_sem])
    refine fin_r _ (by simp (maxSteps := 2000000) (disch := first | assumption | omega | (simp only [bool_to_prop]; first | done | omega)) only [resV, rvs, rv1, go_sem]; rfl) rfl ⟨?_, rfl⟩
    rw [getS_f (by omega)]
  by_cases h4 : (t.size : Int) < at_
  · repeat' first
      | with_reducible refine AR.seq ?_
      | ((first | with_reducible refine AR.reg ?_ | with_reducible refine AR.skip ?_ | with_reducible refine AR.exit ?_); try simp (maxSteps := 2000000) (disch := first | assumption | omega | (simp only [bool_to_prop]; first | done | omega)) only [go_sem])
      | ((with_reducible refine AR.ret ?_); try simp only [thn_r, blk_r])
      | with_reducible refine AR.block ?_
      | ((with_reducible refine And.intro ?_ ?_); · (first | omega | (simp only [bool_to_prop]; first | done | omega) | (simp (maxSteps := 2000000) (disch := first | assumption | omega | (simp only [bool_to_prop]; first | done | omega)) only [go_sem]; first | done | omega)))
      | ((with_reducible refine AR.cond_t ?_ ?_); · simp (maxSteps := 2000000) (disch := first | assumption | omega | (simp only [bool_to_prop]; first | done | omega)) only [go_sem])
      | ((with_reducible refine AR.cond_f ?_ ?_); · simp (maxSteps := 2000000) (disch := first | assumption | omega | (simp only [bool_to_prop]; first | done | omega)) only [go_sem])
    refine fin_r _ (by simp (maxSteps := 2000000) (disch := first | assumption | omega | (simp only [bool_to_prop]; first | done | omega)) only [resV, rvs, rv1, go_sem]; rfl) rfl ⟨?_, rfl⟩
    rw [getS_f (by omega)]
  by_cases h5 : (t.size : Int) - at_ < n
  · repeat' first
      | with_reducible refine AR.seq ?_
      | ((first | with_reducible refine AR.reg ?_ | with_reducible refine AR.skip ?_ | with_reducible refine AR.exit ?_); try simp (maxSteps := 2000000) (disch := first | assumption | omega | (simp only [bool_to_prop]; first | done | omega)) only [go_sem])
      | ((with_reducible refine AR.ret ?_); try simp only [thn_r, blk_r])
      | with_reducible refine AR.block ?_
      | ((with_reducible refine And.intro ?_ ?_); · (first | omega | (simp only [bool_to_prop]; first | done | omega) | (simp (maxSteps := 2000000) (disch := first | assumption | omega | (simp only [bool_to_prop]; first | done | omega)) only [go_sem]; first | done | omega)))
      | ((with_reducible refine AR.cond_t ?_ ?_); · simp (maxSteps := 2000000) (disch := first | assumption | omega | (simp only [bool_to_prop]; first | done | omega)) only [go_sem])
      | ((with_reducible refine AR.cond_f ?_ ?_); · simp (maxSteps := 2000000) (disch := first | assumption | omega | (simp only [bool_to_prop]; first | done | omega)) only [go_sem])
    refine fin_r _ (by simp (maxSteps := 2000000) (disch := first | assumption | omega | (simp only [bool_to_prop]; first | done | omega)) only [resV, rvs, rv1, go_sem]; rfl) rfl ⟨?_, rfl⟩
    rw [getS_f (by omega)]
  obtain ⟨m, rfl⟩ : ∃ m : Nat, n = m := ⟨n.toNat, by omega⟩
  obtain ⟨p, rfl⟩ : ∃ p : Nat, at_ = p := ⟨at_.toNat, by omega⟩
  repeat' first
    | with_reducible refine AR.seq ?_
    | ((first | with_reducible refine AR.reg ?_ | with_reducible refine AR.skip ?_ | with_reducible refine AR.exit ?_); try simp (maxSteps := 2000000) (disch := first | assumption | omega | (simp only [bool_to_prop]; first | done | omega)) only [go_sem])
    | ((with_reducible refine AR.ret ?_); try simp only [thn_r, blk_r])
    | with_reducible refine AR.block ?_
    | ((with_reducible refine And.intro ?_ ?_); · (first | omega | (simp only [bool_to_prop]; first | done | omega) | (simp (maxSteps := 2000000) (disch := first | assumption | omega | (simp only [bool_to_prop]; first | done | omega)) only [go_sem]; first | done | omega)))
    | ((with_reducible refine AR.cond_t ?_ ?_); · simp (maxSteps := 2000000) (disch := first | assumption | omega | (simp only [bool_to_prop]; first | done | omega)) only [go_sem])
    | ((with_reducible refine AR.cond_f ?_ ?_); · simp (maxSteps := 2000000) (disch := first | assumption | omega | (simp only [bool_to_prop]; first | done | omega)) only [go_sem])
  refine AR.loopS (σ := Nat) (fun j => ⟨mk [(0, S t), (1, I .i64 p), (8, .c (c64 (dle ((t.data.toList.drop (p + j)).take (m - j))))), (9, I .i64 ((j : Int) - 1))], mk [], H⟩) (fun j => j ≤ m) (fun j => j) (m) ?_ ?_ ?_
  refine Wk.lists0 _ ?_ ?_
  all_goals try (first | exact trivial | (simp (maxSteps := 2000000) (disch := first | assumption | omega | (simp only [bool_to_prop]; first | done | omega)) only [List.take_zero, List.foldl_nil, List.nil_append, List.append_nil, List.replicate_zero, Nat.sub_zero, Nat.sub_self, Nat.mul_zero, le_0, it_0, sub_0, keeps_cons, keeps_nil, keepl_cons, keepl_nil, scopes_c, scopes_g, scopes_u, scopes_ep, scopes_lp, scopes_lw, scopes_nil, mk_cons, mk_nil, upd, Nat.reduceEqDiff, ↓reduceIte, and_self, and_true, true_and, ne_eq, reduceCtorEq, not_false_eq_true, Int.natCast_add, Int.natCast_one, Int.cast_ofNat_Int, Option.some.injEq, AV.c.injEq, AV.g.injEq, map_inj_b8, c64_inj, c32_inj, c16_inj, b8_inj, CV.p.injEq, Value.int.injEq, Value.string.injEq, AV.lp.injEq, AV.lw.injEq, List.cons.injEq]; done) | omega)
  all_goals try (simp (maxSteps := 2000000) (disch := first | assumption | omega | (simp only [bool_to_prop]; first | done | omega)) only [List.take_zero, List.foldl_nil, List.nil_append, List.append_nil, List.replicate_zero, Nat.sub_zero, Nat.sub_self, Nat.mul_zero, le_0, it_0, sub_0, keeps_cons, keeps_nil, keepl_cons, keepl_nil, scopes_c, scopes_g, scopes_u, scopes_ep, scopes_lp, scopes_lw, scopes_nil, mk_cons, mk_nil, upd, Nat.reduceEqDiff, ↓reduceIte, and_self, and_true, true_and, ne_eq, reduceCtorEq, not_false_eq_true, Int.natCast_add, Int.natCast_one, Int.cast_ofNat_Int, Option.some.injEq, AV.c.injEq, AV.g.injEq, map_inj_b8, c64_inj, c32_inj, c16_inj, b8_inj, CV.p.injEq, Value.int.injEq, Value.string.injEq, AV.lp.injEq, AV.lw.injEq, List.cons.injEq])
  all_goals try omega
  all_goals try with_reducible (first | rfl | exact ⟨rfl, rfl⟩ | exact ⟨rfl, rfl, rfl⟩)
  · simp [dle]
  rintro j hj
  by_cases hlt : 0 < j
  · obtain ⟨i, rfl⟩ : ∃ i, j = i + 1 := ⟨j - 1, by omega⟩
    have hb : ((p : Int) + (((i + 1 : Nat) : Int) - 1)).toNat = p + i := by omega
    repeat' first
      | with_reducible refine AR.seq ?_
      | ((first | with_reducible refine AR.reg ?_ | with_reducible refine AR.skip ?_ | with_reducible refine AR.exit ?_); try simp (maxSteps := 2000000) (disch := first | assumption | omega | (simp only [bool_to_prop]; first | done | omega)) only [go_sem, hb])
      | ((with_reducible refine AR.ret ?_); try simp only [thn_r, blk_r])
      | with_reducible refine AR.block ?_
      | ((with_reducible refine And.intro ?_ ?_); · (first | omega | (simp only [bool_to_prop]; first | done | omega) | (simp (maxSteps := 2000000) (disch := first | assumption | omega | (simp only [bool_to_prop]; first | done | omega)) only [go_sem, hb]; first | done | omega)))
      | ((with_reducible refine AR.cond_t ?_ ?_); · simp (maxSteps := 2000000) (disch := first | assumption | omega | (simp only [bool_to_prop]; first | done | omega)) only [go_sem, hb])
      | ((with_reducible refine AR.cond_f ?_ ?_); · simp (maxSteps := 2000000) (disch := first | assumption | omega | (simp only [bool_to_prop]; first | done | omega)) only [go_sem, hb])
    refine ⟨i, Wk.lists0 _ ?_ ?_, ?_, ?_⟩
    all_goals try (first | exact trivial | (simp (maxSteps := 2000000) (disch := first | assumption | omega | (simp only [bool_to_prop]; first | done | omega)) only [List.take_zero, List.foldl_nil, List.nil_append, List.append_nil, List.replicate_zero, Nat.sub_zero, Nat.sub_self, Nat.mul_zero, le_0, it_0, sub_0, keeps_cons, keeps_nil, keepl_cons, keepl_nil, scopes_c, scopes_g, scopes_u, scopes_ep, scopes_lp, scopes_lw, scopes_nil, mk_cons, mk_nil, upd, Nat.reduceEqDiff, ↓reduceIte, and_self, and_true, true_and, ne_eq, reduceCtorEq, not_false_eq_true, Int.natCast_add, Int.natCast_one, Int.cast_ofNat_Int, Option.some.injEq, AV.c.injEq, AV.g.injEq, map_inj_b8, c64_inj, c32_inj, c16_inj, b8_inj, CV.p.injEq, Value.int.injEq, Value.string.injEq, AV.lp.injEq, AV.lw.injEq, List.cons.injEq]; done) | omega)
    all_goals try (simp (maxSteps := 2000000) (disch := first | assumption | omega | (simp only [bool_to_prop]; first | done | omega)) only [List.take_zero, List.foldl_nil, List.nil_append, List.append_nil, List.replicate_zero, Nat.sub_zero, Nat.sub_self, Nat.mul_zero, le_0, it_0, sub_0, keeps_cons, keeps_nil, keepl_cons, keepl_nil, scopes_c, scopes_g, scopes_u, scopes_ep, scopes_lp, scopes_lw, scopes_nil, mk_cons, mk_nil, upd, Nat.reduceEqDiff, ↓reduceIte, and_self, and_true, true_and, ne_eq, reduceCtorEq, not_false_eq_true, Int.natCast_add, Int.natCast_one, Int.cast_ofNat_Int, Option.some.injEq, AV.c.injEq, AV.g.injEq, map_inj_b8, c64_inj, c32_inj, c16_inj, b8_inj, CV.p.injEq, Value.int.injEq, Value.string.injEq, AV.lp.injEq, AV.lw.injEq, List.cons.injEq])
    all_goals try omega
    all_goals try with_reducible (first | rfl | exact ⟨rfl, rfl⟩ | exact ⟨rfl, rfl, rfl⟩)
    · rw [dle_step t.data.toList p m i (by omega) (by omega)]
      refine ⟨rfl, by omega⟩
  · obtain rfl : j = 0 := by omega
    repeat' first
      | with_reducible refine AR.seq ?_
      | ((first | with_reducible refine AR.reg ?_ | with_reducible refine AR.skip ?_ | with_reducible refine AR.exit ?_); try simp (maxSteps := 2000000) (disch := first | assumption | omega | (simp only [bool_to_prop]; first | done | omega)) only [go_sem])
      | ((with_reducible refine AR.ret ?_); try simp only [thn_r, blk_r])
      | with_reducible refine AR.block ?_
      | ((with_reducible refine And.intro ?_ ?_); · (first | omega | (simp only [bool_to_prop]; first | done | omega) | (simp (maxSteps := 2000000) (disch := first | assumption | omega | (simp only [bool_to_prop]; first | done | omega)) only [go_sem]; first | done | omega)))
      | ((with_reducible refine AR.cond_t ?_ ?_); · simp (maxSteps := 2000000) (disch := first | assumption | omega | (simp only [bool_to_prop]; first | done | omega)) only [go_sem])
      | ((with_reducible refine AR.cond_f ?_ ?_); · simp (maxSteps := 2000000) (disch := first | assumption | omega | (simp only [bool_to_prop]; first | done | omega)) only [go_sem])
    refine fin_r _ (by simp (maxSteps := 2000000) (disch := first | assumption | omega | (simp only [bool_to_prop]; first | done | omega)) only [resV, rvs, rv1, go_sem]; rfl) rfl ⟨?_, rfl⟩
    rw [getS_t (by omega) (by omega)]
    rfl
end Go.Eng
set_option linter.unusedSimpArgs false
set_option linter.unusedVariables false
namespace Go.Eng
open Go.Proofs

theorem div256 (x : BitVec 64) : x / (256 : BitVec 64) = x >>> 8 := by
  apply BitVec.eq_of_toNat_eq
  rw [BitVec.toNat_udiv, BitVec.toNat_ushiftRight, Nat.shiftRight_eq_div_pow]
  rfl
theorem mod256 (x : BitVec 64) : (x % (256 : BitVec 64)).setWidth 8 = x.setWidth 8 := by
  apply BitVec.eq_of_toNat_eq
  rw [BitVec.toNat_setWidth, BitVec.toNat_setWidth, BitVec.toNat_umod]
  show x.toNat % 256 % 256 = x.toNat % 256
  omega

theorem ref_put (v : BitVec 64) (n : Int) (H : Heap) : ACalls Try.prog 119 [.c (c64 v), I .i64 n] H (fun r H' => r = S (putS v n) ∧ H' = H) := by
  refine fn_sound' mixed f119_at F119_ok ⟨rfl, by decide, rfl⟩ ?_
  dsimp only [F119, k119, num]
  by_cases h0 : n < 0
  · repeat' first
      | with_reducible refine AR.seq ?_
      | ((first | with_reducible refine AR.reg ?_ | with_reducible refine AR.skip ?_ | with_reducible refine AR.exit ?_); try simp (maxSteps := 2000000) (disch := first | assumption | omega | (simp only [bool_to_prop]; first | done | omega)) only [go_sem])
      | ((with_reducible refine AR.ret ?_); try simp only [thn_r, blk_r])
      | with_reducible refine AR.block ?_
      | ((with_reducible refine And.intro ?_ ?_); · (first | omega | (simp only [bool_to_prop]; first | done | omega) | (simp (maxSteps := 2000000) (disch := first | assumption | omega | (simp only [bool_to_prop]; first | done | omega)) only [go_sem]; first | done | omega)))
      | ((with_reducible refine AR.cond_t ?_ ?_); · simp (maxSteps := 2000000) (disch := first | assumption | omega | (simp only [bool_to_prop]; first | done | omega)) only [go_sem])
      | ((with_reducible refine AR.cond_f ?_ ?_); · simp (maxSteps := 2000000) (disch := first | assumption | omega | (simp only [bool_to_prop]; first | done | omega)) only [go_sem])
    refine fin_r _ (by simp (maxSteps := 2000000) (disch := first | assumption | omega | (simp only [bool_to_prop]; first | done | omega)) only [resV, rvs, rv1, go_sem]; rfl) rfl ⟨?_, rfl⟩
    rw [putS, if_pos (.inl h0)]
  by_cases h8 : 8 < n
  · repeat' first
      | with_reducible refine AR.seq ?_
      | ((first | with_reducible refine AR.reg ?_ | with_reducible refine AR.skip ?_ | with_reducible refine AR.exit ?_); try simp (maxSteps := 2000000) (disch := first | assumption | omega | (simp only [bool_to_prop]; first | done | omega)) only [go_sem])
      | ((with_reducible refine AR.ret ?_); try simp only [thn_r, blk_r])
      | with_reducible refine AR.block ?_
      | ((with_reducible refine And.intro ?_ ?_); · (first | omega | (simp only [bool_to_prop]; first | done | omega) | (simp (maxSteps := 2000000) (disch := first | assumption | omega | (simp only [bool_to_prop]; first | done | omega)) only [go_sem]; first | done | omega)))
      | ((with_reducible refine AR.cond_t ?_ ?_); · simp (maxSteps := 2000000) (disch := first | assumption | omega | (simp only [bool_to_prop]; first | done | omega)) only [go_sem])
      | ((with_reducible refine AR.cond_f ?_ ?_); · simp (maxSteps := 2000000) (disch := first | assumption | omega | (simp only [bool_to_prop]; first | done | omega)) only [go_sem])
    refine fin_r _ (by simp (maxSteps := 2000000) (disch := first | assumption | omega | (simp only [bool_to_prop]; first | done | omega)) only [resV, rvs, rv1, go_sem]; rfl) rfl ⟨?_, rfl⟩
    rw [putS, if_pos (.inr h8)]
  obtain ⟨m, rfl⟩ : ∃ m : Nat, n = m := ⟨n.toNat, by omega⟩
  have hm : m ≤ 8 := by omega
  repeat' first
    | with_reducible refine AR.seq ?_
    | ((first | with_reducible refine AR.reg ?_ | with_reducible refine AR.skip ?_ | with_reducible refine AR.exit ?_); try simp (maxSteps := 2000000) (disch := first | assumption | omega | (simp only [bool_to_prop]; first | done | omega)) only [go_sem])
    | ((with_reducible refine AR.ret ?_); try simp only [thn_r, blk_r])
    | with_reducible refine AR.block ?_
    | ((with_reducible refine And.intro ?_ ?_); · (first | omega | (simp only [bool_to_prop]; first | done | omega) | (simp (maxSteps := 2000000) (disch := first | assumption | omega | (simp only [bool_to_prop]; first | done | omega)) only [go_sem]; first | done | omega)))
    | ((with_reducible refine AR.cond_t ?_ ?_); · simp (maxSteps := 2000000) (disch := first | assumption | omega | (simp only [bool_to_prop]; first | done | omega)) only [go_sem])
    | ((with_reducible refine AR.cond_f ?_ ?_); · simp (maxSteps := 2000000) (disch := first | assumption | omega | (simp only [bool_to_prop]; first | done | omega)) only [go_sem])
  refine AR.loopS (σ := Nat) (fun i => ⟨mk [(0, .c (c64 (v >>> (8 * i)))), (1, I .i64 m), (5, S (str (le i v))), (6, I .i64 i)], mk [], H⟩) (fun i => i ≤ m) (fun i => m - i) (0) ?_ ?_ ?_
  refine Wk.lists0 _ ?_ ?_
  all_goals try (first | exact trivial | (simp (maxSteps := 2000000) (disch := first | assumption | omega | (simp only [bool_to_prop]; first | done | omega)) only [List.take_zero, List.foldl_nil, List.nil_append, List.append_nil, List.replicate_zero, Nat.sub_zero, Nat.sub_self, Nat.mul_zero, le_0, it_0, sub_0, keeps_cons, keeps_nil, keepl_cons, keepl_nil, scopes_c, scopes_g, scopes_u, scopes_ep, scopes_lp, scopes_lw, scopes_nil, mk_cons, mk_nil, upd, Nat.reduceEqDiff, ↓reduceIte, and_self, and_true, true_and, ne_eq, reduceCtorEq, not_false_eq_true, Int.natCast_add, Int.natCast_one, Int.cast_ofNat_Int, Option.some.injEq, AV.c.injEq, AV.g.injEq, map_inj_b8, c64_inj, c32_inj, c16_inj, b8_inj, CV.p.injEq, Value.int.injEq, Value.string.injEq, AV.lp.injEq, AV.lw.injEq, List.cons.injEq]; done) | omega)
  all_goals try (simp (maxSteps := 2000000) (disch := first | assumption | omega | (simp only [bool_to_prop]; first | done | omega)) only [List.take_zero, List.foldl_nil, List.nil_append, List.append_nil, List.replicate_zero, Nat.sub_zero, Nat.sub_self, Nat.mul_zero, le_0, it_0, sub_0, keeps_cons, keeps_nil, keepl_cons, keepl_nil, scopes_c, scopes_g, scopes_u, scopes_ep, scopes_lp, scopes_lw, scopes_nil, mk_cons, mk_nil, upd, Nat.reduceEqDiff, ↓reduceIte, and_self, and_true, true_and, ne_eq, reduceCtorEq, not_false_eq_true, Int.natCast_add, Int.natCast_one, Int.cast_ofNat_Int, Option.some.injEq, AV.c.injEq, AV.g.injEq, map_inj_b8, c64_inj, c32_inj, c16_inj, b8_inj, CV.p.injEq, Value.int.injEq, Value.string.injEq, AV.lp.injEq, AV.lw.injEq, List.cons.injEq])
  all_goals try omega
  all_goals try with_reducible (first | rfl | exact ⟨rfl, rfl⟩ | exact ⟨rfl, rfl, rfl⟩)
  · simp
  rintro i hi
  have hl := le_len i v
  by_cases hlt : i < m
  · repeat' first
      | with_reducible refine AR.seq ?_
      | ((first | with_reducible refine AR.reg ?_ | with_reducible refine AR.skip ?_ | with_reducible refine AR.exit ?_); try simp (maxSteps := 2000000) (disch := first | assumption | omega | (simp only [bool_to_prop]; first | done | omega)) only [go_sem, hl])
      | ((with_reducible refine AR.ret ?_); try simp only [thn_r, blk_r])
      | with_reducible refine AR.block ?_
      | ((with_reducible refine And.intro ?_ ?_); · (first | omega | (simp only [bool_to_prop]; first | done | omega) | (simp (maxSteps := 2000000) (disch := first | assumption | omega | (simp only [bool_to_prop]; first | done | omega)) only [go_sem, hl]; first | done | omega)))
      | ((with_reducible refine AR.cond_t ?_ ?_); · simp (maxSteps := 2000000) (disch := first | assumption | omega | (simp only [bool_to_prop]; first | done | omega)) only [go_sem, hl])
      | ((with_reducible refine AR.cond_f ?_ ?_); · simp (maxSteps := 2000000) (disch := first | assumption | omega | (simp only [bool_to_prop]; first | done | omega)) only [go_sem, hl])
    refine ⟨i + 1, Wk.lists0 _ ?_ ?_, ?_, ?_⟩
    all_goals try (first | exact trivial | (simp (maxSteps := 2000000) (disch := first | assumption | omega | (simp only [bool_to_prop]; first | done | omega)) only [List.take_zero, List.foldl_nil, List.nil_append, List.append_nil, List.replicate_zero, Nat.sub_zero, Nat.sub_self, Nat.mul_zero, le_0, it_0, sub_0, keeps_cons, keeps_nil, keepl_cons, keepl_nil, scopes_c, scopes_g, scopes_u, scopes_ep, scopes_lp, scopes_lw, scopes_nil, mk_cons, mk_nil, upd, Nat.reduceEqDiff, ↓reduceIte, and_self, and_true, true_and, ne_eq, reduceCtorEq, not_false_eq_true, Int.natCast_add, Int.natCast_one, Int.cast_ofNat_Int, Option.some.injEq, AV.c.injEq, AV.g.injEq, map_inj_b8, c64_inj, c32_inj, c16_inj, b8_inj, CV.p.injEq, Value.int.injEq, Value.string.injEq, AV.lp.injEq, AV.lw.injEq, List.cons.injEq]; done) | omega)
    all_goals try (simp (maxSteps := 2000000) (disch := first | assumption | omega | (simp only [bool_to_prop]; first | done | omega)) only [List.take_zero, List.foldl_nil, List.nil_append, List.append_nil, List.replicate_zero, Nat.sub_zero, Nat.sub_self, Nat.mul_zero, le_0, it_0, sub_0, keeps_cons, keeps_nil, keepl_cons, keepl_nil, scopes_c, scopes_g, scopes_u, scopes_ep, scopes_lp, scopes_lw, scopes_nil, mk_cons, mk_nil, upd, Nat.reduceEqDiff, ↓reduceIte, and_self, and_true, true_and, ne_eq, reduceCtorEq, not_false_eq_true, Int.natCast_add, Int.natCast_one, Int.cast_ofNat_Int, Option.some.injEq, AV.c.injEq, AV.g.injEq, map_inj_b8, c64_inj, c32_inj, c16_inj, b8_inj, CV.p.injEq, Value.int.injEq, Value.string.injEq, AV.lp.injEq, AV.lw.injEq, List.cons.injEq])
    all_goals try omega
    all_goals try with_reducible (first | rfl | exact ⟨rfl, rfl⟩ | exact ⟨rfl, rfl, rfl⟩)
    refine ⟨?_, ?_⟩
    · rw [div256, ← BitVec.shiftRight_add]; rfl
    · simp only [mod256]; rfl
  · obtain rfl : i = m := by omega
    repeat' first
      | with_reducible refine AR.seq ?_
      | ((first | with_reducible refine AR.reg ?_ | with_reducible refine AR.skip ?_ | with_reducible refine AR.exit ?_); try simp (maxSteps := 2000000) (disch := first | assumption | omega | (simp only [bool_to_prop]; first | done | omega)) only [go_sem])
      | ((with_reducible refine AR.ret ?_); try simp only [thn_r, blk_r])
      | with_reducible refine AR.block ?_
      | ((with_reducible refine And.intro ?_ ?_); · (first | omega | (simp only [bool_to_prop]; first | done | omega) | (simp (maxSteps := 2000000) (disch := first | assumption | omega | (simp only [bool_to_prop]; first | done | omega)) only [go_sem]; first | done | omega)))
      | ((with_reducible refine AR.cond_t ?_ ?_); · simp (maxSteps := 2000000) (disch := first | assumption | omega | (simp only [bool_to_prop]; first | done | omega)) only [go_sem])
      | ((with_reducible refine AR.cond_f ?_ ?_); · simp (maxSteps := 2000000) (disch := first | assumption | omega | (simp only [bool_to_prop]; first | done | omega)) only [go_sem])
    refine fin_r _ (by simp (maxSteps := 2000000) (disch := first | assumption | omega | (simp only [bool_to_prop]; first | done | omega)) only [resV, rvs, rv1, go_sem]; rfl) rfl ⟨?_, rfl⟩
    first | rfl | (rw [putS, if_neg (by omega)]; rfl)

/-- The sum of bytes by powers. -/
def acc : List UInt8 → BitVec 64 × BitVec 64 → BitVec 64 × BitVec 64
  | [], x => x
  | b :: l, (v, k) => acc l (v + k * BitVec.ofNat 64 b.toNat, k * 256)

theorem acc_app : ∀ (a b : List UInt8) (x : BitVec 64 × BitVec 64), acc (a ++ b) x = acc b (acc a x)
  | [], _, _ => rfl
  | c :: a, b, (v, k) => by simp only [List.cons_append, acc]; exact acc_app a b _

theorem acc_num : ∀ (l : List UInt8) (v k : BitVec 64), (acc l (v, k)).1 = v + k * BitVec.ofNat 64 (numL l)
  | [], v, k => by simp [acc, numL]
  | b :: l, v, k => by
    simp only [acc, acc_num l, numL]
    rw [BitVec.ofNat_add, BitVec.ofNat_mul, BitVec.mul_add, BitVec.add_assoc, BitVec.mul_assoc]; rfl

theorem acc_dle (l : List UInt8) (h : l.length ≤ 8) : (acc l (0, 1)).1 = dle l := by
  rw [acc_num]
  apply BitVec.eq_of_toNat_eq
  have h1 := numL_lt l
  have h2 : 256 ^ l.length ≤ 256 ^ 8 := Nat.pow_le_pow_right (by decide) h
  rw [dle_num l h, show (0 : BitVec 64) = 0#64 from rfl, show (1 : BitVec 64) = 1#64 from rfl, BitVec.zero_add, BitVec.one_mul, BitVec.toNat_ofNat, Nat.mod_eq_of_lt (by omega)]

theorem ref_get (t : ByteArray) (at_ n : Int) (ht : (t.size : Int) < 9223372036854775807) (H : Heap) : ACalls Try.prog 131 [S t, I .i64 at_, I .i64 n] H (fun r H' => r = getS t at_ n ∧ H' = H) := by
  have hlen : t.data.toList.length = t.size := Array.length_toList
  refine fn_sound' mixed f131_at F131_ok ⟨rfl, by decide, rfl⟩ ?_
  dsimp only [F131, k131, num]
  by_cases h1 : n < 0
  · repeat' first
      | with_reducible refine AR.seq ?_
      | ((first | with_reducible refine AR.reg ?_ | with_reducible refine AR.skip ?_ | with_reducible refine AR.exit ?_); try simp (maxSteps := 2000000) (disch := first | assumption | omega | (simp only [bool_to_prop]; first | done | omega)) only [go_sem])
      | ((with_reducible refine AR.ret ?_); try simp only [thn_r, blk_r])
      | with_reducible refine AR.block ?_
      | ((with_reducible refine And.intro ?_ ?_); · (first | omega | (simp only [bool_to_prop]; first | done | omega) | (simp (maxSteps := 2000000) (disch := first | assumption | omega | (simp only [bool_to_prop]; first | done | omega)) only [go_sem]; first | done | omega)))
      | ((with_reducible refine AR.cond_t ?_ ?_); · simp (maxSteps := 2000000) (disch := first | assumption | omega | (simp only [bool_to_prop]; first | done | omega)) only [go_sem])
      | ((with_reducible refine AR.cond_f ?_ ?_); · simp (maxSteps := 2000000) (disch := first | assumption | omega | (simp only [bool_to_prop]; first | done | omega)) only [go_sem])
    refine fin_r _ (by simp (maxSteps := 2000000) (disch := first | assumption | omega | (simp only [bool_to_prop]; first | done | omega)) only [resV, rvs, rv1, go_sem]; rfl) rfl ⟨?_, rfl⟩
    rw [getS_f (by omega)]
  by_cases h2 : 8 < n
  · repeat' first
      | with_reducible refine AR.seq ?_
      | ((first | with_reducible refine AR.reg ?_ | with_reducible refine AR.skip ?_ | with_reducible refine AR.exit ?_); try simp (maxSteps := 2000000) (disch := first | assumption | omega | (simp only [bool_to_prop]; first | done | omega)) only [go_sem])
      | ((with_reducible refine AR.ret ?_); try simp only [thn_r, blk_r])
      | with_reducible refine AR.block ?_
      | ((with_reducible refine And.intro ?_ ?_); · (first | omega | (simp only [bool_to_prop]; first | done | omega) | (simp (maxSteps := 2000000) (disch := first | assumption | omega | (simp only [bool_to_prop]; first | done | omega)) only [go_sem]; first | done | omega)))
      | ((with_reducible refine AR.cond_t ?_ ?_); · simp (maxSteps := 2000000) (disch := first | assumption | omega | (simp only [bool_to_prop]; first | done | omega)) only [go_sem])
      | ((with_reducible refine AR.cond_f ?_ ?_); · simp (maxSteps := 2000000) (disch := first | assumption | omega | (simp only [bool_to_prop]; first | done | omega)) only [go_sem])
    refine fin_r _ (by simp (maxSteps := 2000000) (disch := first | assumption | omega | (simp only [bool_to_prop]; first | done | omega)) only [resV, rvs, rv1, go_sem]; rfl) rfl ⟨?_, rfl⟩
    rw [getS_f (by omega)]
  by_cases h3 : at_ < 0
  · repeat' first
      | with_reducible refine AR.seq ?_
      | ((first | with_reducible refine AR.reg ?_ | with_reducible refine AR.skip ?_ | with_reducible refine AR.exit ?_); try simp (maxSteps := 2000000) (disch := first | assumption | omega | (simp only [bool_to_prop]; first | done | omega)) only [go_sem])
      | ((with_reducible refine AR.ret ?_); try simp only [thn_r, blk_r])
      | with_reducible refine AR.block ?_
      | ((with_reducible refine And.intro ?_ ?_); · (first | omega | (simp only [bool_to_prop]; first | done | omega) | (simp (maxSteps := 2000000) (disch := first | assumption | omega | (simp only [bool_to_prop]; first | done | omega)) only [go_sem]; first | done | omega)))
      | ((with_reducible refine AR.cond_t ?_ ?_); · simp (maxSteps := 2000000) (disch := first | assumption | omega | (simp only [bool_to_prop]; first | done | omega)) only [go_sem])
      | ((with_reducible refine AR.cond_f ?_ ?_); · simp (maxSteps := 2000000) (disch := first | assumption | omega | (simp only [bool_to_prop]; first | done | omega)) only [go_sem])
    refine fin_r _ (by simp (maxSteps := 2000000) (disch := first | assumption | omega | (simp only [bool_to_prop]; first | done | omega)) only [resV, rvs, rv1, go_sem]; rfl) rfl ⟨?_, rfl⟩
    rw [getS_f (by omega)]
  by_cases h4 : (t.size : Int) < at_
  · repeat' first
      | with_reducible refine AR.seq ?_
      | ((first | with_reducible refine AR.reg ?_ | with_reducible refine AR.skip ?_ | with_reducible refine AR.exit ?_); try simp (maxSteps := 2000000) (disch := first | assumption | omega | (simp only [bool_to_prop]; first | done | omega)) only [go_sem])
      | ((with_reducible refine AR.ret ?_); try simp only [thn_r, blk_r])
      | with_reducible refine AR.block ?_
      | ((with_reducible refine And.intro ?_ ?_); · (first | omega | (simp only [bool_to_prop]; first | done | omega) | (simp (maxSteps := 2000000) (disch := first | assumption | omega | (simp only [bool_to_prop]; first | done | omega)) only [go_sem]; first | done | omega)))
      | ((with_reducible refine AR.cond_t ?_ ?_); · simp (maxSteps := 2000000) (disch := first | assumption | omega | (simp only [bool_to_prop]; first | done | omega)) only [go_sem])
      | ((with_reducible refine AR.cond_f ?_ ?_); · simp (maxSteps := 2000000) (disch := first | assumption | omega | (simp only [bool_to_prop]; first | done | omega)) only [go_sem])
    refine fin_r _ (by simp (maxSteps := 2000000) (disch := first | assumption | omega | (simp only [bool_to_prop]; first | done | omega)) only [resV, rvs, rv1, go_sem]; rfl) rfl ⟨?_, rfl⟩
    rw [getS_f (by omega)]
  by_cases h5 : (t.size : Int) - at_ < n
  · repeat' first
      | with_reducible refine AR.seq ?_
      | ((first | with_reducible refine AR.reg ?_ | with_reducible refine AR.skip ?_ | with_reducible refine AR.exit ?_); try simp (maxSteps := 2000000) (disch := first | assumption | omega | (simp only [bool_to_prop]; first | done | omega)) only [go_sem])
      | ((with_reducible refine AR.ret ?_); try simp only [thn_r, blk_r])
      | with_reducible refine AR.block ?_
      | ((with_reducible refine And.intro ?_ ?_); · (first | omega | (simp only [bool_to_prop]; first | done | omega) | (simp (maxSteps := 2000000) (disch := first | assumption | omega | (simp only [bool_to_prop]; first | done | omega)) only [go_sem]; first | done | omega)))
      | ((with_reducible refine AR.cond_t ?_ ?_); · simp (maxSteps := 2000000) (disch := first | assumption | omega | (simp only [bool_to_prop]; first | done | omega)) only [go_sem])
      | ((with_reducible refine AR.cond_f ?_ ?_); · simp (maxSteps := 2000000) (disch := first | assumption | omega | (simp only [bool_to_prop]; first | done | omega)) only [go_sem])
    refine fin_r _ (by simp (maxSteps := 2000000) (disch := first | assumption | omega | (simp only [bool_to_prop]; first | done | omega)) only [resV, rvs, rv1, go_sem]; rfl) rfl ⟨?_, rfl⟩
    rw [getS_f (by omega)]
  obtain ⟨m, rfl⟩ : ∃ m : Nat, n = m := ⟨n.toNat, by omega⟩
  obtain ⟨p, rfl⟩ : ∃ p : Nat, at_ = p := ⟨at_.toNat, by omega⟩
  repeat' first
    | with_reducible refine AR.seq ?_
    | ((first | with_reducible refine AR.reg ?_ | with_reducible refine AR.skip ?_ | with_reducible refine AR.exit ?_); try simp (maxSteps := 2000000) (disch := first | assumption | omega | (simp only [bool_to_prop]; first | done | omega)) only [go_sem])
    | ((with_reducible refine AR.ret ?_); try simp only [thn_r, blk_r])
    | with_reducible refine AR.block ?_
    | ((with_reducible refine And.intro ?_ ?_); · (first | omega | (simp only [bool_to_prop]; first | done | omega) | (simp (maxSteps := 2000000) (disch := first | assumption | omega | (simp only [bool_to_prop]; first | done | omega)) only [go_sem]; first | done | omega)))
    | ((with_reducible refine AR.cond_t ?_ ?_); · simp (maxSteps := 2000000) (disch := first | assumption | omega | (simp only [bool_to_prop]; first | done | omega)) only [go_sem])
    | ((with_reducible refine AR.cond_f ?_ ?_); · simp (maxSteps := 2000000) (disch := first | assumption | omega | (simp only [bool_to_prop]; first | done | omega)) only [go_sem])
  refine AR.loopS (σ := Nat) (fun j => ⟨mk [(0, S t), (1, I .i64 p), (2, I .i64 m), (8, .c (c64 (acc (sub t.data.toList p j) (0, 1)).1)), (9, .c (c64 (acc (sub t.data.toList p j) (0, 1)).2)), (10, I .i64 j)], mk [], H⟩) (fun j => j ≤ m) (fun j => m - j) (0) ?_ ?_ ?_
  refine Wk.lists0 _ ?_ ?_
  all_goals try (first | exact trivial | (simp (maxSteps := 2000000) (disch := first | assumption | omega | (simp only [bool_to_prop]; first | done | omega)) only [List.take_zero, List.foldl_nil, List.nil_append, List.append_nil, List.replicate_zero, Nat.sub_zero, Nat.sub_self, Nat.mul_zero, le_0, it_0, sub_0, keeps_cons, keeps_nil, keepl_cons, keepl_nil, scopes_c, scopes_g, scopes_u, scopes_ep, scopes_lp, scopes_lw, scopes_nil, mk_cons, mk_nil, upd, Nat.reduceEqDiff, ↓reduceIte, and_self, and_true, true_and, ne_eq, reduceCtorEq, not_false_eq_true, Int.natCast_add, Int.natCast_one, Int.cast_ofNat_Int, Option.some.injEq, AV.c.injEq, AV.g.injEq, map_inj_b8, c64_inj, c32_inj, c16_inj, b8_inj, CV.p.injEq, Value.int.injEq, Value.string.injEq, AV.lp.injEq, AV.lw.injEq, List.cons.injEq]; done) | omega)
  all_goals try (simp (maxSteps := 2000000) (disch := first | assumption | omega | (simp only [bool_to_prop]; first | done | omega)) only [List.take_zero, List.foldl_nil, List.nil_append, List.append_nil, List.replicate_zero, Nat.sub_zero, Nat.sub_self, Nat.mul_zero, le_0, it_0, sub_0, keeps_cons, keeps_nil, keepl_cons, keepl_nil, scopes_c, scopes_g, scopes_u, scopes_ep, scopes_lp, scopes_lw, scopes_nil, mk_cons, mk_nil, upd, Nat.reduceEqDiff, ↓reduceIte, and_self, and_true, true_and, ne_eq, reduceCtorEq, not_false_eq_true, Int.natCast_add, Int.natCast_one, Int.cast_ofNat_Int, Option.some.injEq, AV.c.injEq, AV.g.injEq, map_inj_b8, c64_inj, c32_inj, c16_inj, b8_inj, CV.p.injEq, Value.int.injEq, Value.string.injEq, AV.lp.injEq, AV.lw.injEq, List.cons.injEq])
  all_goals try omega
  all_goals try with_reducible (first | rfl | exact ⟨rfl, rfl⟩ | exact ⟨rfl, rfl, rfl⟩)
  rintro j hj
  by_cases hlt : j < m
  · have hb : ((p : Int) + (j : Int)).toNat = p + j := by omega
    have hs : sub t.data.toList p (j + 1) = sub t.data.toList p j ++ [t.data.toList.getD (p + j) 0] := by
      rw [getD_get _ _ _ (by omega)]
      simp only [sub]
      rw [List.take_add_one, List.getElem?_drop, List.getElem?_eq_getElem (by omega)]
      rfl
    have ha : acc (sub t.data.toList p (j + 1)) (0, 1) = ((acc (sub t.data.toList p j) (0, 1)).1 + (acc (sub t.data.toList p j) (0, 1)).2 * BitVec.ofNat 64 (t.data.toList.getD (p + j) 0).toNat, (acc (sub t.data.toList p j) (0, 1)).2 * 256) := by
      rw [hs, acc_app]; rfl
    repeat' first
      | with_reducible refine AR.seq ?_
      | ((first | with_reducible refine AR.reg ?_ | with_reducible refine AR.skip ?_ | with_reducible refine AR.exit ?_); try simp (maxSteps := 2000000) (disch := first | assumption | omega | (simp only [bool_to_prop]; first | done | omega)) only [go_sem, hb])
      | ((with_reducible refine AR.ret ?_); try simp only [thn_r, blk_r])
      | with_reducible refine AR.block ?_
      | ((with_reducible refine And.intro ?_ ?_); · (first | omega | (simp only [bool_to_prop]; first | done | omega) | (simp (maxSteps := 2000000) (disch := first | assumption | omega | (simp only [bool_to_prop]; first | done | omega)) only [go_sem, hb]; first | done | omega)))
      | ((with_reducible refine AR.cond_t ?_ ?_); · simp (maxSteps := 2000000) (disch := first | assumption | omega | (simp only [bool_to_prop]; first | done | omega)) only [go_sem, hb])
      | ((with_reducible refine AR.cond_f ?_ ?_); · simp (maxSteps := 2000000) (disch := first | assumption | omega | (simp only [bool_to_prop]; first | done | omega)) only [go_sem, hb])
    refine ⟨j + 1, Wk.lists0 _ ?_ ?_, ?_, ?_⟩
    all_goals try (first | exact trivial | (simp (maxSteps := 2000000) (disch := first | assumption | omega | (simp only [bool_to_prop]; first | done | omega)) only [List.take_zero, List.foldl_nil, List.nil_append, List.append_nil, List.replicate_zero, Nat.sub_zero, Nat.sub_self, Nat.mul_zero, le_0, it_0, sub_0, keeps_cons, keeps_nil, keepl_cons, keepl_nil, scopes_c, scopes_g, scopes_u, scopes_ep, scopes_lp, scopes_lw, scopes_nil, mk_cons, mk_nil, upd, Nat.reduceEqDiff, ↓reduceIte, and_self, and_true, true_and, ne_eq, reduceCtorEq, not_false_eq_true, Int.natCast_add, Int.natCast_one, Int.cast_ofNat_Int, Option.some.injEq, AV.c.injEq, AV.g.injEq, map_inj_b8, c64_inj, c32_inj, c16_inj, b8_inj, CV.p.injEq, Value.int.injEq, Value.string.injEq, AV.lp.injEq, AV.lw.injEq, List.cons.injEq]; done) | omega)
    all_goals try (simp (maxSteps := 2000000) (disch := first | assumption | omega | (simp only [bool_to_prop]; first | done | omega)) only [List.take_zero, List.foldl_nil, List.nil_append, List.append_nil, List.replicate_zero, Nat.sub_zero, Nat.sub_self, Nat.mul_zero, le_0, it_0, sub_0, keeps_cons, keeps_nil, keepl_cons, keepl_nil, scopes_c, scopes_g, scopes_u, scopes_ep, scopes_lp, scopes_lw, scopes_nil, mk_cons, mk_nil, upd, Nat.reduceEqDiff, ↓reduceIte, and_self, and_true, true_and, ne_eq, reduceCtorEq, not_false_eq_true, Int.natCast_add, Int.natCast_one, Int.cast_ofNat_Int, Option.some.injEq, AV.c.injEq, AV.g.injEq, map_inj_b8, c64_inj, c32_inj, c16_inj, b8_inj, CV.p.injEq, Value.int.injEq, Value.string.injEq, AV.lp.injEq, AV.lw.injEq, List.cons.injEq])
    all_goals try omega
    all_goals try with_reducible (first | rfl | exact ⟨rfl, rfl⟩ | exact ⟨rfl, rfl, rfl⟩)
    rw [ha]; exact ⟨rfl, rfl⟩
  · obtain rfl : j = m := by omega
    repeat' first
      | with_reducible refine AR.seq ?_
      | ((first | with_reducible refine AR.reg ?_ | with_reducible refine AR.skip ?_ | with_reducible refine AR.exit ?_); try simp (maxSteps := 2000000) (disch := first | assumption | omega | (simp only [bool_to_prop]; first | done | omega)) only [go_sem])
      | ((with_reducible refine AR.ret ?_); try simp only [thn_r, blk_r])
      | with_reducible refine AR.block ?_
      | ((with_reducible refine And.intro ?_ ?_); · (first | omega | (simp only [bool_to_prop]; first | done | omega) | (simp (maxSteps := 2000000) (disch := first | assumption | omega | (simp only [bool_to_prop]; first | done | omega)) only [go_sem]; first | done | omega)))
      | ((with_reducible refine AR.cond_t ?_ ?_); · simp (maxSteps := 2000000) (disch := first | assumption | omega | (simp only [bool_to_prop]; first | done | omega)) only [go_sem])
      | ((with_reducible refine AR.cond_f ?_ ?_); · simp (maxSteps := 2000000) (disch := first | assumption | omega | (simp only [bool_to_prop]; first | done | omega)) only [go_sem])
    refine fin_r _ (by simp (maxSteps := 2000000) (disch := first | assumption | omega | (simp only [bool_to_prop]; first | done | omega)) only [resV, rvs, rv1, go_sem]; rfl) rfl ⟨?_, rfl⟩
    rw [getS_t (by omega) (by omega), acc_dle _ (by rw [sub_len _ _ _ (by omega)]; omega)]
end Go.Eng
set_option linter.unusedSimpArgs false
set_option linter.unusedVariables false
namespace Go.Eng
open Go.Proofs

theorem sub_all1 (x : BitVec 32) : (4294967295 : BitVec 32) - x = ~~~x := by
  apply BitVec.eq_of_toNat_eq
  have := x.isLt
  rw [BitVec.toNat_sub, BitVec.toNat_not, show (4294967295 : BitVec 32).toNat = 4294967295 from rfl]
  omega

theorem rem32_2 (x : BitVec 32) : ariV .rem (.c (c32 x)) (.c (c32 2)) = some (.c (c32 (x % 2))) := by
  have hy : ¬ (((2 : BitVec 32).toNat : Int) = 0) := by decide
  simp only [ariV, c32, ariI, if_true, if_neg hy, I]
  refine congrArg (fun z : Int => some (AV.c (CV.p (Value.int .u32 z)))) ?_
  rw [Int.tmod_eq_emod_of_nonneg (by omega), ← Int.natCast_emod, BitVec.toNat_umod]
theorem quo32_2 (x : BitVec 32) : ariV .quo (.c (c32 x)) (.c (c32 2)) = some (.c (c32 (x >>> 1))) := by
  have hy : ¬ (((2 : BitVec 32).toNat : Int) = 0) := by decide
  simp only [ariV, c32, ariI, if_true, if_neg hy, I, w32]
  refine congrArg (fun z : BitVec 32 => some (AV.c (c32 z))) ?_
  rw [Int.tdiv_eq_ediv_of_nonneg (by omega), ← Int.natCast_ediv, BitVec.ofInt_natCast]
  apply BitVec.eq_of_toNat_eq
  rw [BitVec.toNat_ofNat, BitVec.toNat_ushiftRight, Nat.shiftRight_eq_div_pow, Nat.mod_eq_of_lt (Nat.lt_of_le_of_lt (Nat.div_le_self _ _) x.isLt)]
  rfl

theorem stp_odd (r : BitVec 32) (h : r % (2 : BitVec 32) = 1) : r >>> 1 ^^^ 3988292384#32 = stp r := by
  have e : r &&& 1#32 = 1#32 := by
    apply BitVec.eq_of_toNat_eq
    have := congrArg BitVec.toNat h
    rw [BitVec.toNat_umod] at this
    rw [BitVec.toNat_and, show (1#32).toNat = 1 from rfl, Nat.and_one_is_mod]
    exact this
  have e2 : 3988292384#32 &&& -1#32 = 3988292384#32 := by decide
  unfold stp
  rw [e, e2]
theorem stp_ev (r : BitVec 32) (h : ¬ r % (2 : BitVec 32) = 1) : r >>> 1 = stp r := by
  have e : r &&& 1#32 = 0#32 := by
    apply BitVec.eq_of_toNat_eq
    rw [BitVec.toNat_and, show (1#32).toNat = 1 from rfl, Nat.and_one_is_mod]
    have : r.toNat % 2 ≠ 1 := fun e => h (by apply BitVec.eq_of_toNat_eq; rw [BitVec.toNat_umod]; exact e)
    show r.toNat % 2 = 0
    omega
  have e2 : 3988292384#32 &&& -0#32 = 0#32 := by decide
  unfold stp
  rw [e, e2, BitVec.xor_zero]

theorem ref_turned (r : BitVec 32) (H : Heap) : ACalls Try.prog 159 [.c (c32 r)] H (fun v H' => v = .c (c32 (stp r)) ∧ H' = H) := by
  refine fn_sound' mixed f159_at F159_ok ⟨rfl, by decide, rfl⟩ ?_
  dsimp only [F159, k159, num]
  by_cases h : r % (2 : BitVec 32) = 1
  · repeat' first
      | with_reducible refine AR.seq ?_
      | ((first | with_reducible refine AR.reg ?_ | with_reducible refine AR.skip ?_ | with_reducible refine AR.exit ?_); try simp (maxSteps := 2000000) (disch := first | assumption | omega | (simp only [bool_to_prop]; first | done | omega)) only [go_sem, rem32_2, quo32_2, h])
      | ((with_reducible refine AR.ret ?_); try simp only [thn_r, blk_r])
      | with_reducible refine AR.block ?_
      | ((with_reducible refine And.intro ?_ ?_); · (first | omega | (simp only [bool_to_prop]; first | done | omega) | (simp (maxSteps := 2000000) (disch := first | assumption | omega | (simp only [bool_to_prop]; first | done | omega)) only [go_sem, rem32_2, quo32_2, h]; first | done | omega)))
      | ((with_reducible refine AR.cond_t ?_ ?_); · simp (maxSteps := 2000000) (disch := first | assumption | omega | (simp only [bool_to_prop]; first | done | omega)) only [go_sem, rem32_2, quo32_2, h])
      | ((with_reducible refine AR.cond_f ?_ ?_); · simp (maxSteps := 2000000) (disch := first | assumption | omega | (simp only [bool_to_prop]; first | done | omega)) only [go_sem, rem32_2, quo32_2, h])
    refine fin_r _ (by simp (maxSteps := 2000000) (disch := first | assumption | omega | (simp only [bool_to_prop]; first | done | omega)) only [resV, rvs, rv1, go_sem]; rfl) rfl ⟨?_, rfl⟩
    exact congrArg (fun x => AV.c (c32 x)) (stp_odd r h)
  · repeat' first
      | with_reducible refine AR.seq ?_
      | ((first | with_reducible refine AR.reg ?_ | with_reducible refine AR.skip ?_ | with_reducible refine AR.exit ?_); try simp (maxSteps := 2000000) (disch := first | assumption | omega | (simp only [bool_to_prop]; first | done | omega)) only [go_sem, rem32_2, quo32_2, h])
      | ((with_reducible refine AR.ret ?_); try simp only [thn_r, blk_r])
      | with_reducible refine AR.block ?_
      | ((with_reducible refine And.intro ?_ ?_); · (first | omega | (simp only [bool_to_prop]; first | done | omega) | (simp (maxSteps := 2000000) (disch := first | assumption | omega | (simp only [bool_to_prop]; first | done | omega)) only [go_sem, rem32_2, quo32_2, h]; first | done | omega)))
      | ((with_reducible refine AR.cond_t ?_ ?_); · simp (maxSteps := 2000000) (disch := first | assumption | omega | (simp only [bool_to_prop]; first | done | omega)) only [go_sem, rem32_2, quo32_2, h])
      | ((with_reducible refine AR.cond_f ?_ ?_); · simp (maxSteps := 2000000) (disch := first | assumption | omega | (simp only [bool_to_prop]; first | done | omega)) only [go_sem, rem32_2, quo32_2, h])
    refine fin_r _ (by simp (maxSteps := 2000000) (disch := first | assumption | omega | (simp only [bool_to_prop]; first | done | omega)) only [resV, rvs, rv1, go_sem]; rfl) rfl ⟨?_, rfl⟩
    exact congrArg (fun x => AV.c (c32 x)) (stp_ev r h)

theorem ref_more (sum : BitVec 32) (t : ByteArray) (ht : (t.size : Int) < 9223372036854775807) (H : Heap) : ACalls Try.prog 149 [.c (c32 sum), S t] H (fun v H' => v = .c (c32 (more sum t.data.toList)) ∧ H' = H) := by
  have hlen : t.data.toList.length = t.size := Array.length_toList
  refine fn_sound' mixed f149_at F149_ok ⟨rfl, by decide, rfl⟩ ?_
  dsimp only [F149, k149, num]
  repeat' first
    | with_reducible refine AR.seq ?_
    | ((first | with_reducible refine AR.reg ?_ | with_reducible refine AR.skip ?_ | with_reducible refine AR.exit ?_ | ((with_reducible show pcall _ 159 _ _ _ _); refine pcall_of (ref_turned _ _) rfl f159_fn (by first | rfl | exact getS_ok _ _ _) ?_)); try simp (maxSteps := 2000000) (disch := first | assumption | omega | (simp only [bool_to_prop]; first | done | omega)) only [go_sem, sub_all1])
    | ((with_reducible refine AR.ret ?_); try simp only [thn_r, blk_r])
    | with_reducible refine AR.block ?_
    | ((with_reducible refine And.intro ?_ ?_); · (first | omega | (simp only [bool_to_prop]; first | done | omega) | (simp (maxSteps := 2000000) (disch := first | assumption | omega | (simp only [bool_to_prop]; first | done | omega)) only [go_sem, sub_all1]; first | done | omega)))
    | ((with_reducible refine AR.cond_t ?_ ?_); · simp (maxSteps := 2000000) (disch := first | assumption | omega | (simp only [bool_to_prop]; first | done | omega)) only [go_sem, sub_all1])
    | ((with_reducible refine AR.cond_f ?_ ?_); · simp (maxSteps := 2000000) (disch := first | assumption | omega | (simp only [bool_to_prop]; first | done | omega)) only [go_sem, sub_all1])
  refine AR.loopS (σ := Nat) (fun i => ⟨mk [(0, .c (c32 sum)), (1, S t), (5, .c (c32 ((t.data.toList.take i).foldl byte8 (~~~sum)))), (6, I .i64 i)], mk [], H⟩) (fun i => i ≤ t.size) (fun i => t.size - i) (0) ?_ ?_ ?_
  refine Wk.lists0 _ ?_ ?_
  all_goals try (first | exact trivial | (simp (maxSteps := 2000000) (disch := first | assumption | omega | (simp only [bool_to_prop]; first | done | omega)) only [List.take_zero, List.foldl_nil, List.nil_append, List.append_nil, List.replicate_zero, Nat.sub_zero, Nat.sub_self, Nat.mul_zero, le_0, it_0, sub_0, keeps_cons, keeps_nil, keepl_cons, keepl_nil, scopes_c, scopes_g, scopes_u, scopes_ep, scopes_lp, scopes_lw, scopes_nil, mk_cons, mk_nil, upd, Nat.reduceEqDiff, ↓reduceIte, and_self, and_true, true_and, ne_eq, reduceCtorEq, not_false_eq_true, Int.natCast_add, Int.natCast_one, Int.cast_ofNat_Int, Option.some.injEq, AV.c.injEq, AV.g.injEq, map_inj_b8, c64_inj, c32_inj, c16_inj, b8_inj, CV.p.injEq, Value.int.injEq, Value.string.injEq, AV.lp.injEq, AV.lw.injEq, List.cons.injEq]; done) | omega)
  all_goals try (simp (maxSteps := 2000000) (disch := first | assumption | omega | (simp only [bool_to_prop]; first | done | omega)) only [List.take_zero, List.foldl_nil, List.nil_append, List.append_nil, List.replicate_zero, Nat.sub_zero, Nat.sub_self, Nat.mul_zero, le_0, it_0, sub_0, keeps_cons, keeps_nil, keepl_cons, keepl_nil, scopes_c, scopes_g, scopes_u, scopes_ep, scopes_lp, scopes_lw, scopes_nil, mk_cons, mk_nil, upd, Nat.reduceEqDiff, ↓reduceIte, and_self, and_true, true_and, ne_eq, reduceCtorEq, not_false_eq_true, Int.natCast_add, Int.natCast_one, Int.cast_ofNat_Int, Option.some.injEq, AV.c.injEq, AV.g.injEq, map_inj_b8, c64_inj, c32_inj, c16_inj, b8_inj, CV.p.injEq, Value.int.injEq, Value.string.injEq, AV.lp.injEq, AV.lw.injEq, List.cons.injEq])
  all_goals try omega
  all_goals try with_reducible (first | rfl | exact ⟨rfl, rfl⟩ | exact ⟨rfl, rfl, rfl⟩)
  rintro i hi
  by_cases hlt : i < t.size
  · repeat' first
      | with_reducible refine AR.seq ?_
      | ((first | with_reducible refine AR.reg ?_ | with_reducible refine AR.skip ?_ | with_reducible refine AR.exit ?_ | ((with_reducible show pcall _ 159 _ _ _ _); refine pcall_of (ref_turned _ _) rfl f159_fn (by first | rfl | exact getS_ok _ _ _) ?_)); try simp (maxSteps := 2000000) (disch := first | assumption | omega | (simp only [bool_to_prop]; first | done | omega)) only [go_sem])
      | ((with_reducible refine AR.ret ?_); try simp only [thn_r, blk_r])
      | with_reducible refine AR.block ?_
      | ((with_reducible refine And.intro ?_ ?_); · (first | omega | (simp only [bool_to_prop]; first | done | omega) | (simp (maxSteps := 2000000) (disch := first | assumption | omega | (simp only [bool_to_prop]; first | done | omega)) only [go_sem]; first | done | omega)))
      | ((with_reducible refine AR.cond_t ?_ ?_); · simp (maxSteps := 2000000) (disch := first | assumption | omega | (simp only [bool_to_prop]; first | done | omega)) only [go_sem])
      | ((with_reducible refine AR.cond_f ?_ ?_); · simp (maxSteps := 2000000) (disch := first | assumption | omega | (simp only [bool_to_prop]; first | done | omega)) only [go_sem])
    refine AR.loopS (σ := Nat) (fun k => ⟨mk [(0, .c (c32 sum)), (1, S t), (5, .c (c32 (it k ((t.data.toList.take i).foldl byte8 (~~~sum) ^^^ BitVec.ofNat 32 (t.data.toList.getD i 0).toNat)))), (6, I .i64 i), (7, I .i64 k)], mk [], H⟩) (fun k => k ≤ 8) (fun k => 8 - k) (0) ?_ ?_ ?_
    refine Wk.lists0 _ ?_ ?_
    all_goals try (first | exact trivial | (simp (maxSteps := 2000000) (disch := first | assumption | omega | (simp only [bool_to_prop]; first | done | omega)) only [List.take_zero, List.foldl_nil, List.nil_append, List.append_nil, List.replicate_zero, Nat.sub_zero, Nat.sub_self, Nat.mul_zero, le_0, it_0, sub_0, keeps_cons, keeps_nil, keepl_cons, keepl_nil, scopes_c, scopes_g, scopes_u, scopes_ep, scopes_lp, scopes_lw, scopes_nil, mk_cons, mk_nil, upd, Nat.reduceEqDiff, ↓reduceIte, and_self, and_true, true_and, ne_eq, reduceCtorEq, not_false_eq_true, Int.natCast_add, Int.natCast_one, Int.cast_ofNat_Int, Option.some.injEq, AV.c.injEq, AV.g.injEq, map_inj_b8, c64_inj, c32_inj, c16_inj, b8_inj, CV.p.injEq, Value.int.injEq, Value.string.injEq, AV.lp.injEq, AV.lw.injEq, List.cons.injEq]; done) | omega)
    all_goals try (simp (maxSteps := 2000000) (disch := first | assumption | omega | (simp only [bool_to_prop]; first | done | omega)) only [List.take_zero, List.foldl_nil, List.nil_append, List.append_nil, List.replicate_zero, Nat.sub_zero, Nat.sub_self, Nat.mul_zero, le_0, it_0, sub_0, keeps_cons, keeps_nil, keepl_cons, keepl_nil, scopes_c, scopes_g, scopes_u, scopes_ep, scopes_lp, scopes_lw, scopes_nil, mk_cons, mk_nil, upd, Nat.reduceEqDiff, ↓reduceIte, and_self, and_true, true_and, ne_eq, reduceCtorEq, not_false_eq_true, Int.natCast_add, Int.natCast_one, Int.cast_ofNat_Int, Option.some.injEq, AV.c.injEq, AV.g.injEq, map_inj_b8, c64_inj, c32_inj, c16_inj, b8_inj, CV.p.injEq, Value.int.injEq, Value.string.injEq, AV.lp.injEq, AV.lw.injEq, List.cons.injEq])
    all_goals try omega
    all_goals try with_reducible (first | rfl | exact ⟨rfl, rfl⟩ | exact ⟨rfl, rfl, rfl⟩)
    rintro k hk
    by_cases hk8 : k < 8
    · repeat' first
        | with_reducible refine AR.seq ?_
        | ((first | with_reducible refine AR.reg ?_ | with_reducible refine AR.skip ?_ | with_reducible refine AR.exit ?_ | ((with_reducible show pcall _ 159 _ _ _ _); refine pcall_of (ref_turned _ _) rfl f159_fn (by first | rfl | exact getS_ok _ _ _) ?_)); try simp (maxSteps := 2000000) (disch := first | assumption | omega | (simp only [bool_to_prop]; first | done | omega)) only [go_sem])
        | ((with_reducible refine AR.ret ?_); try simp only [thn_r, blk_r])
        | with_reducible refine AR.block ?_
        | ((with_reducible refine And.intro ?_ ?_); · (first | omega | (simp only [bool_to_prop]; first | done | omega) | (simp (maxSteps := 2000000) (disch := first | assumption | omega | (simp only [bool_to_prop]; first | done | omega)) only [go_sem]; first | done | omega)))
        | ((with_reducible refine AR.cond_t ?_ ?_); · simp (maxSteps := 2000000) (disch := first | assumption | omega | (simp only [bool_to_prop]; first | done | omega)) only [go_sem])
        | ((with_reducible refine AR.cond_f ?_ ?_); · simp (maxSteps := 2000000) (disch := first | assumption | omega | (simp only [bool_to_prop]; first | done | omega)) only [go_sem])
      refine ⟨k + 1, Wk.lists0 _ ?_ ?_, ?_, ?_⟩
      all_goals try (first | exact trivial | (simp (maxSteps := 2000000) (disch := first | assumption | omega | (simp only [bool_to_prop]; first | done | omega)) only [List.take_zero, List.foldl_nil, List.nil_append, List.append_nil, List.replicate_zero, Nat.sub_zero, Nat.sub_self, Nat.mul_zero, le_0, it_0, sub_0, keeps_cons, keeps_nil, keepl_cons, keepl_nil, scopes_c, scopes_g, scopes_u, scopes_ep, scopes_lp, scopes_lw, scopes_nil, mk_cons, mk_nil, upd, Nat.reduceEqDiff, ↓reduceIte, and_self, and_true, true_and, ne_eq, reduceCtorEq, not_false_eq_true, Int.natCast_add, Int.natCast_one, Int.cast_ofNat_Int, Option.some.injEq, AV.c.injEq, AV.g.injEq, map_inj_b8, c64_inj, c32_inj, c16_inj, b8_inj, CV.p.injEq, Value.int.injEq, Value.string.injEq, AV.lp.injEq, AV.lw.injEq, List.cons.injEq]; done) | omega)
      all_goals try (simp (maxSteps := 2000000) (disch := first | assumption | omega | (simp only [bool_to_prop]; first | done | omega)) only [List.take_zero, List.foldl_nil, List.nil_append, List.append_nil, List.replicate_zero, Nat.sub_zero, Nat.sub_self, Nat.mul_zero, le_0, it_0, sub_0, keeps_cons, keeps_nil, keepl_cons, keepl_nil, scopes_c, scopes_g, scopes_u, scopes_ep, scopes_lp, scopes_lw, scopes_nil, mk_cons, mk_nil, upd, Nat.reduceEqDiff, ↓reduceIte, and_self, and_true, true_and, ne_eq, reduceCtorEq, not_false_eq_true, Int.natCast_add, Int.natCast_one, Int.cast_ofNat_Int, Option.some.injEq, AV.c.injEq, AV.g.injEq, map_inj_b8, c64_inj, c32_inj, c16_inj, b8_inj, CV.p.injEq, Value.int.injEq, Value.string.injEq, AV.lp.injEq, AV.lw.injEq, List.cons.injEq])
      all_goals try omega
      all_goals try with_reducible (first | rfl | exact ⟨rfl, rfl⟩ | exact ⟨rfl, rfl, rfl⟩)
      rfl
    · obtain rfl : k = 8 := by omega
      repeat' first
        | with_reducible refine AR.seq ?_
        | ((first | with_reducible refine AR.reg ?_ | with_reducible refine AR.skip ?_ | with_reducible refine AR.exit ?_ | ((with_reducible show pcall _ 159 _ _ _ _); refine pcall_of (ref_turned _ _) rfl f159_fn (by first | rfl | exact getS_ok _ _ _) ?_)); try simp (maxSteps := 2000000) (disch := first | assumption | omega | (simp only [bool_to_prop]; first | done | omega)) only [go_sem])
        | ((with_reducible refine AR.ret ?_); try simp only [thn_r, blk_r])
        | with_reducible refine AR.block ?_
        | ((with_reducible refine And.intro ?_ ?_); · (first | omega | (simp only [bool_to_prop]; first | done | omega) | (simp (maxSteps := 2000000) (disch := first | assumption | omega | (simp only [bool_to_prop]; first | done | omega)) only [go_sem]; first | done | omega)))
        | ((with_reducible refine AR.cond_t ?_ ?_); · simp (maxSteps := 2000000) (disch := first | assumption | omega | (simp only [bool_to_prop]; first | done | omega)) only [go_sem])
        | ((with_reducible refine AR.cond_f ?_ ?_); · simp (maxSteps := 2000000) (disch := first | assumption | omega | (simp only [bool_to_prop]; first | done | omega)) only [go_sem])
      refine ⟨i + 1, Wk.lists0 _ ?_ ?_, ?_, ?_⟩
      all_goals try (first | exact trivial | (simp (maxSteps := 2000000) (disch := first | assumption | omega | (simp only [bool_to_prop]; first | done | omega)) only [List.take_zero, List.foldl_nil, List.nil_append, List.append_nil, List.replicate_zero, Nat.sub_zero, Nat.sub_self, Nat.mul_zero, le_0, it_0, sub_0, keeps_cons, keeps_nil, keepl_cons, keepl_nil, scopes_c, scopes_g, scopes_u, scopes_ep, scopes_lp, scopes_lw, scopes_nil, mk_cons, mk_nil, upd, Nat.reduceEqDiff, ↓reduceIte, and_self, and_true, true_and, ne_eq, reduceCtorEq, not_false_eq_true, Int.natCast_add, Int.natCast_one, Int.cast_ofNat_Int, Option.some.injEq, AV.c.injEq, AV.g.injEq, map_inj_b8, c64_inj, c32_inj, c16_inj, b8_inj, CV.p.injEq, Value.int.injEq, Value.string.injEq, AV.lp.injEq, AV.lw.injEq, List.cons.injEq]; done) | omega)
      all_goals try (simp (maxSteps := 2000000) (disch := first | assumption | omega | (simp only [bool_to_prop]; first | done | omega)) only [List.take_zero, List.foldl_nil, List.nil_append, List.append_nil, List.replicate_zero, Nat.sub_zero, Nat.sub_self, Nat.mul_zero, le_0, it_0, sub_0, keeps_cons, keeps_nil, keepl_cons, keepl_nil, scopes_c, scopes_g, scopes_u, scopes_ep, scopes_lp, scopes_lw, scopes_nil, mk_cons, mk_nil, upd, Nat.reduceEqDiff, ↓reduceIte, and_self, and_true, true_and, ne_eq, reduceCtorEq, not_false_eq_true, Int.natCast_add, Int.natCast_one, Int.cast_ofNat_Int, Option.some.injEq, AV.c.injEq, AV.g.injEq, map_inj_b8, c64_inj, c32_inj, c16_inj, b8_inj, CV.p.injEq, Value.int.injEq, Value.string.injEq, AV.lp.injEq, AV.lw.injEq, List.cons.injEq])
      all_goals try omega
      all_goals try with_reducible (first | rfl | exact ⟨rfl, rfl⟩ | exact ⟨rfl, rfl, rfl⟩)
      rw [fold_take _ _ _ (by omega)]
  · obtain rfl : i = t.size := by omega
    repeat' first
      | with_reducible refine AR.seq ?_
      | ((first | with_reducible refine AR.reg ?_ | with_reducible refine AR.skip ?_ | with_reducible refine AR.exit ?_ | ((with_reducible show pcall _ 159 _ _ _ _); refine pcall_of (ref_turned _ _) rfl f159_fn (by first | rfl | exact getS_ok _ _ _) ?_)); try simp (maxSteps := 2000000) (disch := first | assumption | omega | (simp only [bool_to_prop]; first | done | omega)) only [go_sem, sub_all1])
      | ((with_reducible refine AR.ret ?_); try simp only [thn_r, blk_r])
      | with_reducible refine AR.block ?_
      | ((with_reducible refine And.intro ?_ ?_); · (first | omega | (simp only [bool_to_prop]; first | done | omega) | (simp (maxSteps := 2000000) (disch := first | assumption | omega | (simp only [bool_to_prop]; first | done | omega)) only [go_sem, sub_all1]; first | done | omega)))
      | ((with_reducible refine AR.cond_t ?_ ?_); · simp (maxSteps := 2000000) (disch := first | assumption | omega | (simp only [bool_to_prop]; first | done | omega)) only [go_sem, sub_all1])
      | ((with_reducible refine AR.cond_f ?_ ?_); · simp (maxSteps := 2000000) (disch := first | assumption | omega | (simp only [bool_to_prop]; first | done | omega)) only [go_sem, sub_all1])
    refine fin_r _ (by simp (maxSteps := 2000000) (disch := first | assumption | omega | (simp only [bool_to_prop]; first | done | omega)) only [resV, rvs, rv1, go_sem]; rfl) rfl ⟨?_, rfl⟩
    rfl

theorem ref_sum (t : ByteArray) (ht : (t.size : Int) < 9223372036854775807) (H : Heap) : ACalls Try.prog 124 [S t] H (fun v H' => v = .c (c32 (more 0 t.data.toList)) ∧ H' = H) := by
  refine fn_sound' mixed f124_at F124_ok ⟨rfl, by decide, rfl⟩ ?_
  dsimp only [F124, k124, num]
  repeat' first
    | with_reducible refine AR.seq ?_
    | ((first | with_reducible refine AR.reg ?_ | with_reducible refine AR.skip ?_ | with_reducible refine AR.exit ?_ | ((with_reducible show pcall _ 149 _ _ _ _); refine pcall_of (ref_more _ _ (by omega) _) rfl f149_fn (by first | rfl | exact getS_ok _ _ _) ?_)); try simp (maxSteps := 2000000) (disch := first | assumption | omega | (simp only [bool_to_prop]; first | done | omega)) only [go_sem])
    | ((with_reducible refine AR.ret ?_); try simp only [thn_r, blk_r])
    | with_reducible refine AR.block ?_
    | ((with_reducible refine And.intro ?_ ?_); · (first | omega | (simp only [bool_to_prop]; first | done | omega) | (simp (maxSteps := 2000000) (disch := first | assumption | omega | (simp only [bool_to_prop]; first | done | omega)) only [go_sem]; first | done | omega)))
    | ((with_reducible refine AR.cond_t ?_ ?_); · simp (maxSteps := 2000000) (disch := first | assumption | omega | (simp only [bool_to_prop]; first | done | omega)) only [go_sem])
    | ((with_reducible refine AR.cond_f ?_ ?_); · simp (maxSteps := 2000000) (disch := first | assumption | omega | (simp only [bool_to_prop]; first | done | omega)) only [go_sem])
  refine fin_r _ (by simp (maxSteps := 2000000) (disch := first | assumption | omega | (simp only [bool_to_prop]; first | done | omega)) only [resV, rvs, rv1, go_sem]; rfl) rfl ⟨?_, rfl⟩
  rfl
end Go.Eng
