import Derived.Test.YtmnmbpcbfmhceaaPA
import Derived.Test.YtmnmbpcbfmhceaaM3
import Derived.Test.YtmnmbpcbfmhceaaEng29
set_option linter.unusedSimpArgs false
set_option linter.unusedVariables false
set_option maxRecDepth 100000
-- LEN: sealL, putD, restD, pg_len, gd_len, PD.cells_len
namespace Go.Eng
open Go.Proofs

theorem page_size (a : BitVec 64) (l : List Old) (hl : l.length ≤ 1000) (hd : ∀ o ∈ l, o.dl.length ≤ 140737488355328) (H : Heap) : ACalls Try.prog 66 [.g [c64 a, .s 6 (l.map Old.cells) none]] H (fun v H' => v = I .i64 (usize l) ∧ H' = H) := by
  refine fn_sound' mixed f66_at F66_ok ⟨rfl, by decide, rfl⟩ ?_
  dsimp only [F66, k66, num]
  repeat' first
    | with_reducible refine AR.seq ?_
    | ((first | with_reducible refine AR.reg ?_ | with_reducible refine AR.skip ?_ | with_reducible refine AR.exit ?_); try simp (maxSteps := 2000000) (disch := first | assumption | omega | (simp only [bool_to_prop]; first | done | omega)) only [go_sem])
    | ((with_reducible refine AR.ret ?_); try simp only [thn_r, blk_r])
    | with_reducible refine AR.block ?_
    | ((with_reducible refine And.intro ?_ ?_); · (first | omega | (simp only [bool_to_prop]; first | done | omega) | (simp (maxSteps := 2000000) (disch := first | assumption | omega | (simp only [bool_to_prop]; first | done | omega)) only [go_sem]; first | done | omega)))
    | ((with_reducible refine AR.cond_t ?_ ?_); · simp (maxSteps := 2000000) (disch := first | assumption | omega | (simp only [bool_to_prop]; first | done | omega)) only [go_sem])
    | ((with_reducible refine AR.cond_f ?_ ?_); · simp (maxSteps := 2000000) (disch := first | assumption | omega | (simp only [bool_to_prop]; first | done | omega)) only [go_sem])
  refine AR.loopS (σ := Nat) (fun i => ⟨mk [(3, I .i64 (usize (l.take i))), (7, .c (.s 6 (l.map Old.cells) none)), (8, I .i64 l.length), (9, I .i64 i)], mk [], H⟩) (fun i => i ≤ l.length) (fun i => l.length - i) (0) ?_ ?_ ?_
  refine Wk.lists0 _ ?_ ?_
  all_goals try (first | exact trivial | (simp (maxSteps := 2000000) (disch := first | assumption | omega | (simp only [bool_to_prop]; first | done | omega)) only [List.take_zero, List.foldl_nil, List.nil_append, List.append_nil, List.replicate_zero, Nat.sub_zero, Nat.sub_self, Nat.mul_zero, le_0, it_0, sub_0, keeps_cons, keeps_nil, keepl_cons, keepl_nil, scopes_c, scopes_g, scopes_u, scopes_ep, scopes_lp, scopes_lw, scopes_nil, mk_cons, mk_nil, upd, Nat.reduceEqDiff, ↓reduceIte, and_self, and_true, true_and, ne_eq, reduceCtorEq, not_false_eq_true, Int.natCast_add, Int.natCast_one, Int.cast_ofNat_Int, Option.some.injEq, AV.c.injEq, AV.g.injEq, map_inj_b8, c64_inj, c32_inj, c16_inj, b8_inj, CV.p.injEq, Value.int.injEq, Value.string.injEq, AV.lp.injEq, AV.lw.injEq, List.cons.injEq]; done) | omega)
  all_goals try (simp (maxSteps := 2000000) (disch := first | assumption | omega | (simp only [bool_to_prop]; first | done | omega)) only [List.take_zero, List.foldl_nil, List.nil_append, List.append_nil, List.replicate_zero, Nat.sub_zero, Nat.sub_self, Nat.mul_zero, le_0, it_0, sub_0, keeps_cons, keeps_nil, keepl_cons, keepl_nil, scopes_c, scopes_g, scopes_u, scopes_ep, scopes_lp, scopes_lw, scopes_nil, mk_cons, mk_nil, upd, Nat.reduceEqDiff, ↓reduceIte, and_self, and_true, true_and, ne_eq, reduceCtorEq, not_false_eq_true, Int.natCast_add, Int.natCast_one, Int.cast_ofNat_Int, Option.some.injEq, AV.c.injEq, AV.g.injEq, map_inj_b8, c64_inj, c32_inj, c16_inj, b8_inj, CV.p.injEq, Value.int.injEq, Value.string.injEq, AV.lp.injEq, AV.lw.injEq, List.cons.injEq])
  all_goals try omega
  all_goals try with_reducible (first | rfl | exact ⟨rfl, rfl⟩ | exact ⟨rfl, rfl, rfl⟩)
  · rfl
  rintro i hi
  have hb : usize (l.take i) ≤ 16 + i * 140737488355339 := by
    have := usize_le (l.take i) (fun o ho => hd o (List.mem_of_mem_take ho))
    rwa [List.length_take, Nat.min_eq_left hi] at this
  by_cases hlt : i < l.length
  · obtain ⟨o, ho⟩ : ∃ o, l[i]? = some o := ⟨_, List.getElem?_eq_getElem hlt⟩
    have hs := usize_take l i o ho
    have hdl := hd o (List.mem_of_getElem? ho)
    obtain ⟨lv, pn, ts, np, ns, dl⟩ := o
    simp only at hdl
    cases lv with
    | true =>
      repeat' first
        | with_reducible refine AR.seq ?_
        | ((first | with_reducible refine AR.reg ?_ | with_reducible refine AR.skip ?_ | with_reducible refine AR.exit ?_); try simp (maxSteps := 2000000) (disch := first | assumption | omega | (simp only [bool_to_prop]; first | done | omega)) only [go_sem, ho, List.getElem?_map])
        | ((with_reducible refine AR.ret ?_); try simp only [thn_r, blk_r])
        | with_reducible refine AR.block ?_
        | ((with_reducible refine And.intro ?_ ?_); · (first | omega | (simp only [bool_to_prop]; first | done | omega) | (simp (maxSteps := 2000000) (disch := first | assumption | omega | (simp only [bool_to_prop]; first | done | omega)) only [go_sem, ho, List.getElem?_map]; first | done | omega)))
        | ((with_reducible refine AR.cond_t ?_ ?_); · simp (maxSteps := 2000000) (disch := first | assumption | omega | (simp only [bool_to_prop]; first | done | omega)) only [go_sem, ho, List.getElem?_map])
        | ((with_reducible refine AR.cond_f ?_ ?_); · simp (maxSteps := 2000000) (disch := first | assumption | omega | (simp only [bool_to_prop]; first | done | omega)) only [go_sem, ho, List.getElem?_map])
      refine ⟨i + 1, Wk.lists0 _ ?_ ?_, ?_, ?_⟩
      all_goals try (first | exact trivial | (simp (maxSteps := 2000000) (disch := first | assumption | omega | (simp only [bool_to_prop]; first | done | omega)) only [List.take_zero, List.foldl_nil, List.nil_append, List.append_nil, List.replicate_zero, Nat.sub_zero, Nat.sub_self, Nat.mul_zero, le_0, it_0, sub_0, keeps_cons, keeps_nil, keepl_cons, keepl_nil, scopes_c, scopes_g, scopes_u, scopes_ep, scopes_lp, scopes_lw, scopes_nil, mk_cons, mk_nil, upd, Nat.reduceEqDiff, ↓reduceIte, and_self, and_true, true_and, ne_eq, reduceCtorEq, not_false_eq_true, Int.natCast_add, Int.natCast_one, Int.cast_ofNat_Int, Option.some.injEq, AV.c.injEq, AV.g.injEq, map_inj_b8, c64_inj, c32_inj, c16_inj, b8_inj, CV.p.injEq, Value.int.injEq, Value.string.injEq, AV.lp.injEq, AV.lw.injEq, List.cons.injEq,  hs, osize_t, osize_f]; done) | omega)
      all_goals try (simp (maxSteps := 2000000) (disch := first | assumption | omega | (simp only [bool_to_prop]; first | done | omega)) only [List.take_zero, List.foldl_nil, List.nil_append, List.append_nil, List.replicate_zero, Nat.sub_zero, Nat.sub_self, Nat.mul_zero, le_0, it_0, sub_0, keeps_cons, keeps_nil, keepl_cons, keepl_nil, scopes_c, scopes_g, scopes_u, scopes_ep, scopes_lp, scopes_lw, scopes_nil, mk_cons, mk_nil, upd, Nat.reduceEqDiff, ↓reduceIte, and_self, and_true, true_and, ne_eq, reduceCtorEq, not_false_eq_true, Int.natCast_add, Int.natCast_one, Int.cast_ofNat_Int, Option.some.injEq, AV.c.injEq, AV.g.injEq, map_inj_b8, c64_inj, c32_inj, c16_inj, b8_inj, CV.p.injEq, Value.int.injEq, Value.string.injEq, AV.lp.injEq, AV.lw.injEq, List.cons.injEq,  hs, osize_t, osize_f])
      all_goals try omega
      all_goals try with_reducible (first | rfl | exact ⟨rfl, rfl⟩ | exact ⟨rfl, rfl, rfl⟩)
    | false =>
      repeat' first
        | with_reducible refine AR.seq ?_
        | ((first | with_reducible refine AR.reg ?_ | with_reducible refine AR.skip ?_ | with_reducible refine AR.exit ?_); try simp (maxSteps := 2000000) (disch := first | assumption | omega | (simp only [bool_to_prop]; first | done | omega)) only [go_sem, ho, List.getElem?_map])
        | ((with_reducible refine AR.ret ?_); try simp only [thn_r, blk_r])
        | with_reducible refine AR.block ?_
        | ((with_reducible refine And.intro ?_ ?_); · (first | omega | (simp only [bool_to_prop]; first | done | omega) | (simp (maxSteps := 2000000) (disch := first | assumption | omega | (simp only [bool_to_prop]; first | done | omega)) only [go_sem, ho, List.getElem?_map]; first | done | omega)))
        | ((with_reducible refine AR.cond_t ?_ ?_); · simp (maxSteps := 2000000) (disch := first | assumption | omega | (simp only [bool_to_prop]; first | done | omega)) only [go_sem, ho, List.getElem?_map])
        | ((with_reducible refine AR.cond_f ?_ ?_); · simp (maxSteps := 2000000) (disch := first | assumption | omega | (simp only [bool_to_prop]; first | done | omega)) only [go_sem, ho, List.getElem?_map])
      refine ⟨i + 1, Wk.lists0 _ ?_ ?_, ?_, ?_⟩
      all_goals try (first | exact trivial | (simp (maxSteps := 2000000) (disch := first | assumption | omega | (simp only [bool_to_prop]; first | done | omega)) only [List.take_zero, List.foldl_nil, List.nil_append, List.append_nil, List.replicate_zero, Nat.sub_zero, Nat.sub_self, Nat.mul_zero, le_0, it_0, sub_0, keeps_cons, keeps_nil, keepl_cons, keepl_nil, scopes_c, scopes_g, scopes_u, scopes_ep, scopes_lp, scopes_lw, scopes_nil, mk_cons, mk_nil, upd, Nat.reduceEqDiff, ↓reduceIte, and_self, and_true, true_and, ne_eq, reduceCtorEq, not_false_eq_true, Int.natCast_add, Int.natCast_one, Int.cast_ofNat_Int, Option.some.injEq, AV.c.injEq, AV.g.injEq, map_inj_b8, c64_inj, c32_inj, c16_inj, b8_inj, CV.p.injEq, Value.int.injEq, Value.string.injEq, AV.lp.injEq, AV.lw.injEq, List.cons.injEq,  hs, osize_t, osize_f]; done) | omega)
      all_goals try (simp (maxSteps := 2000000) (disch := first | assumption | omega | (simp only [bool_to_prop]; first | done | omega)) only [List.take_zero, List.foldl_nil, List.nil_append, List.append_nil, List.replicate_zero, Nat.sub_zero, Nat.sub_self, Nat.mul_zero, le_0, it_0, sub_0, keeps_cons, keeps_nil, keepl_cons, keepl_nil, scopes_c, scopes_g, scopes_u, scopes_ep, scopes_lp, scopes_lw, scopes_nil, mk_cons, mk_nil, upd, Nat.reduceEqDiff, ↓reduceIte, and_self, and_true, true_and, ne_eq, reduceCtorEq, not_false_eq_true, Int.natCast_add, Int.natCast_one, Int.cast_ofNat_Int, Option.some.injEq, AV.c.injEq, AV.g.injEq, map_inj_b8, c64_inj, c32_inj, c16_inj, b8_inj, CV.p.injEq, Value.int.injEq, Value.string.injEq, AV.lp.injEq, AV.lw.injEq, List.cons.injEq,  hs, osize_t, osize_f])
      all_goals try omega
      all_goals try with_reducible (first | rfl | exact ⟨rfl, rfl⟩ | exact ⟨rfl, rfl, rfl⟩)
  · obtain rfl : i = l.length := by omega
    repeat' first
      | with_reducible refine AR.seq ?_
      | ((first | with_reducible refine AR.reg ?_ | with_reducible refine AR.skip ?_ | with_reducible refine AR.exit ?_); try simp (maxSteps := 2000000) (disch := first | assumption | omega | (simp only [bool_to_prop]; first | done | omega)) only [go_sem])
      | ((with_reducible refine AR.ret ?_); try simp only [thn_r, blk_r])
      | with_reducible refine AR.block ?_
      | ((with_reducible refine And.intro ?_ ?_); · (first | omega | (simp only [bool_to_prop]; first | done | omega) | (simp (maxSteps := 2000000) (disch := first | assumption | omega | (simp only [bool_to_prop]; first | done | omega)) only [go_sem]; first | done | omega)))
      | ((with_reducible refine AR.cond_t ?_ ?_); · simp (maxSteps := 2000000) (disch := first | assumption | omega | (simp only [bool_to_prop]; first | done | omega)) only [go_sem])
      | ((with_reducible refine AR.cond_f ?_ ?_); · simp (maxSteps := 2000000) (disch := first | assumption | omega | (simp only [bool_to_prop]; first | done | omega)) only [go_sem])
    refine fin_r _ (by simp (maxSteps := 2000000) (disch := first | assumption | omega | (simp only [bool_to_prop]; first | done | omega)) only [resV, rvs, rv1, go_sem]; rfl) rfl ⟨?_, rfl⟩
    rfl

theorem page_may (a : BitVec 64) (l : List Old) (hm : l.length ≤ maxLen) (H : Heap) : ACalls Try.prog 65 [.g [c64 a, .s 6 (l.map Old.cells) none]] H (fun v H' => v = B (decide (mayU l)) ∧ H' = H) := by
  have hm' : l.length ≤ 9223372036854775807 := hm
  refine fn_sound' mixed f65_at F65_ok ⟨rfl, by decide, rfl⟩ ?_
  dsimp only [F65, k65, num]
  by_cases h15 : 15 < l.length
  · repeat' first
      | with_reducible refine AR.seq ?_
      | ((first | with_reducible refine AR.reg ?_ | with_reducible refine AR.skip ?_ | with_reducible refine AR.exit ?_ | ((with_reducible show pcall _ 66 _ _ _ _); refine pcall_of (page_size _ _ (by first | assumption | omega | (simp only [bool_to_prop]; first | done | omega)) (by assumption) _) rfl f66_fn (by first | rfl | exact getS_ok _ _ _) ?_)); try simp (maxSteps := 2000000) (disch := first | assumption | omega | (simp only [bool_to_prop]; first | done | omega)) only [go_sem])
      | ((with_reducible refine AR.ret ?_); try simp only [thn_r, blk_r])
      | with_reducible refine AR.block ?_
      | ((with_reducible refine And.intro ?_ ?_); · (first | omega | (simp only [bool_to_prop]; first | done | omega) | (simp (maxSteps := 2000000) (disch := first | assumption | omega | (simp only [bool_to_prop]; first | done | omega)) only [go_sem]; first | done | omega)))
      | ((with_reducible refine AR.cond_t ?_ ?_); · simp (maxSteps := 2000000) (disch := first | assumption | omega | (simp only [bool_to_prop]; first | done | omega)) only [go_sem])
      | ((with_reducible refine AR.cond_f ?_ ?_); · simp (maxSteps := 2000000) (disch := first | assumption | omega | (simp only [bool_to_prop]; first | done | omega)) only [go_sem])
    refine fin_r _ (by simp (maxSteps := 2000000) (disch := first | assumption | omega | (simp only [bool_to_prop]; first | done | omega)) only [resV, rvs, rv1, go_sem]; rfl) rfl ⟨?_, rfl⟩
    rw [decide_eq_false (may_no15 h15)]
  have hidx : ((l.length : Int) - 1).toNat = l.length - 1 := by omega
  by_cases hnl : ∃ o, 0 < l.length ∧ l[l.length - 1]? = some o ∧ o.live = false
  · obtain ⟨⟨lv, pn, ts, np, ns, dl⟩, h0, ho, hv⟩ := hnl
    simp only at hv
    subst hv
    repeat' first
      | with_reducible refine AR.seq ?_
      | ((first | with_reducible refine AR.reg ?_ | with_reducible refine AR.skip ?_ | with_reducible refine AR.exit ?_ | ((with_reducible show pcall _ 66 _ _ _ _); refine pcall_of (page_size _ _ (by first | assumption | omega | (simp only [bool_to_prop]; first | done | omega)) (by assumption) _) rfl f66_fn (by first | rfl | exact getS_ok _ _ _) ?_)); try simp (maxSteps := 2000000) (disch := first | assumption | omega | (simp only [bool_to_prop]; first | done | omega)) only [go_sem, hidx, ho, List.getElem?_map])
      | ((with_reducible refine AR.ret ?_); try simp only [thn_r, blk_r])
      | with_reducible refine AR.block ?_
      | ((with_reducible refine And.intro ?_ ?_); · (first | omega | (simp only [bool_to_prop]; first | done | omega) | (simp (maxSteps := 2000000) (disch := first | assumption | omega | (simp only [bool_to_prop]; first | done | omega)) only [go_sem, hidx, ho, List.getElem?_map]; first | done | omega)))
      | ((with_reducible refine AR.cond_t ?_ ?_); · simp (maxSteps := 2000000) (disch := first | assumption | omega | (simp only [bool_to_prop]; first | done | omega)) only [go_sem, hidx, ho, List.getElem?_map])
      | ((with_reducible refine AR.cond_f ?_ ?_); · simp (maxSteps := 2000000) (disch := first | assumption | omega | (simp only [bool_to_prop]; first | done | omega)) only [go_sem, hidx, ho, List.getElem?_map])
    refine fin_r _ (by simp (maxSteps := 2000000) (disch := first | assumption | omega | (simp only [bool_to_prop]; first | done | omega)) only [resV, rvs, rv1, go_sem]; rfl) rfl ⟨?_, rfl⟩
    rw [decide_eq_false (may_nolast ho rfl)]
  have hc : l.length = 0 ∨ ∃ o, l[l.length - 1]? = some o ∧ o.live = true := by
    rcases Nat.eq_zero_or_pos l.length with h | h
    · exact .inl h
    · refine .inr ⟨_, List.getElem?_eq_getElem (by omega), ?_⟩
      cases hv : (l[l.length - 1]'(by omega)).live with
      | true => rfl
      | false => exact absurd ⟨_, h, List.getElem?_eq_getElem (by omega), hv⟩ hnl
  by_cases h0 : l.length = 0
  · repeat' first
      | with_reducible refine AR.seq ?_
      | ((first | with_reducible refine AR.reg ?_ | with_reducible refine AR.skip ?_ | with_reducible refine AR.exit ?_ | ((with_reducible show pcall _ 66 _ _ _ _); refine pcall_of (page_size _ _ (by first | assumption | omega | (simp only [bool_to_prop]; first | done | omega)) (by assumption) _) rfl f66_fn (by first | rfl | exact getS_ok _ _ _) ?_)); try simp (maxSteps := 2000000) (disch := first | assumption | omega | (simp only [bool_to_prop]; first | done | omega)) only [go_sem])
      | ((with_reducible refine AR.ret ?_); try simp only [thn_r, blk_r])
      | with_reducible refine AR.block ?_
      | ((with_reducible refine And.intro ?_ ?_); · (first | omega | (simp only [bool_to_prop]; first | done | omega) | (simp (maxSteps := 2000000) (disch := first | assumption | omega | (simp only [bool_to_prop]; first | done | omega)) only [go_sem]; first | done | omega)))
      | ((with_reducible refine AR.cond_t ?_ ?_); · simp (maxSteps := 2000000) (disch := first | assumption | omega | (simp only [bool_to_prop]; first | done | omega)) only [go_sem])
      | ((with_reducible refine AR.cond_f ?_ ?_); · simp (maxSteps := 2000000) (disch := first | assumption | omega | (simp only [bool_to_prop]; first | done | omega)) only [go_sem])
    clear h0
    refine AR.loopS (σ := Nat) (fun i => ⟨mk [(1, .lp 1 0), (28, .c (.s 6 (l.map Old.cells) none)), (29, I .i64 l.length), (30, I .i64 i)], mk [(1, [c64 a, .s 6 (l.map Old.cells) none])], H⟩) (fun i => i ≤ l.length ∧ ∀ o ∈ l.take i, wfO o) (fun i => l.length - i) (0) ?_ ?_ ?_
    refine Wk.lists _ _ ?_ ?_ ?_
    all_goals try (first | exact trivial | (simp (maxSteps := 2000000) (disch := first | assumption | omega | (simp only [bool_to_prop]; first | done | omega)) only [List.take_zero, List.foldl_nil, List.nil_append, List.append_nil, List.replicate_zero, Nat.sub_zero, Nat.sub_self, Nat.mul_zero, le_0, it_0, sub_0, keeps_cons, keeps_nil, keepl_cons, keepl_nil, scopes_c, scopes_g, scopes_u, scopes_ep, scopes_lp, scopes_lw, scopes_nil, mk_cons, mk_nil, upd, Nat.reduceEqDiff, ↓reduceIte, and_self, and_true, true_and, ne_eq, reduceCtorEq, not_false_eq_true, Int.natCast_add, Int.natCast_one, Int.cast_ofNat_Int, Option.some.injEq, AV.c.injEq, AV.g.injEq, map_inj_b8, c64_inj, c32_inj, c16_inj, b8_inj, CV.p.injEq, Value.int.injEq, Value.string.injEq, AV.lp.injEq, AV.lw.injEq, List.cons.injEq]; done) | omega)
    all_goals try (simp (maxSteps := 2000000) (disch := first | assumption | omega | (simp only [bool_to_prop]; first | done | omega)) only [List.take_zero, List.foldl_nil, List.nil_append, List.append_nil, List.replicate_zero, Nat.sub_zero, Nat.sub_self, Nat.mul_zero, le_0, it_0, sub_0, keeps_cons, keeps_nil, keepl_cons, keepl_nil, scopes_c, scopes_g, scopes_u, scopes_ep, scopes_lp, scopes_lw, scopes_nil, mk_cons, mk_nil, upd, Nat.reduceEqDiff, ↓reduceIte, and_self, and_true, true_and, ne_eq, reduceCtorEq, not_false_eq_true, Int.natCast_add, Int.natCast_one, Int.cast_ofNat_Int, Option.some.injEq, AV.c.injEq, AV.g.injEq, map_inj_b8, c64_inj, c32_inj, c16_inj, b8_inj, CV.p.injEq, Value.int.injEq, Value.string.injEq, AV.lp.injEq, AV.lw.injEq, List.cons.injEq])
    all_goals try omega
    all_goals try with_reducible (first | rfl | exact ⟨rfl, rfl⟩ | exact ⟨rfl, rfl, rfl⟩)
    · exact ⟨by omega, by simp⟩
    rintro i ⟨hi, hw⟩
    by_cases hlt : i < l.length
    · obtain ⟨o, hio⟩ : ∃ o, l[i]? = some o := ⟨_, List.getElem?_eq_getElem hlt⟩
      have hn := fun h => may_no (o := o) i hio h
      have hw' := fun h => wf_take (o := o) i hio hw h
      clear hw
      obtain ⟨lv, pn, ts, np, ns, dl⟩ := o
      cases lv with
      | true =>
        by_cases hd : 66 < dl.length
        · repeat' first
            | with_reducible refine AR.seq ?_
            | ((first | with_reducible refine AR.reg ?_ | with_reducible refine AR.skip ?_ | with_reducible refine AR.exit ?_ | ((with_reducible show pcall _ 66 _ _ _ _); refine pcall_of (page_size _ _ (by first | assumption | omega | (simp only [bool_to_prop]; first | done | omega)) (by assumption) _) rfl f66_fn (by first | rfl | exact getS_ok _ _ _) ?_)); try simp (maxSteps := 2000000) (disch := first | assumption | omega | (simp only [bool_to_prop]; first | done | omega)) only [go_sem, hio, List.getElem?_map])
            | ((with_reducible refine AR.ret ?_); try simp only [thn_r, blk_r])
            | with_reducible refine AR.block ?_
            | ((with_reducible refine And.intro ?_ ?_); · (first | omega | (simp only [bool_to_prop]; first | done | omega) | (simp (maxSteps := 2000000) (disch := first | assumption | omega | (simp only [bool_to_prop]; first | done | omega)) only [go_sem, hio, List.getElem?_map]; first | done | omega)))
            | ((with_reducible refine AR.cond_t ?_ ?_); · simp (maxSteps := 2000000) (disch := first | assumption | omega | (simp only [bool_to_prop]; first | done | omega)) only [go_sem, hio, List.getElem?_map])
            | ((with_reducible refine AR.cond_f ?_ ?_); · simp (maxSteps := 2000000) (disch := first | assumption | omega | (simp only [bool_to_prop]; first | done | omega)) only [go_sem, hio, List.getElem?_map])
          refine fin_r _ (by simp (maxSteps := 2000000) (disch := first | assumption | omega | (simp only [bool_to_prop]; first | done | omega)) only [resV, rvs, rv1, go_sem]; rfl) rfl ⟨?_, rfl⟩
          rw [decide_eq_false (hn fun h => by have : dl.length ≤ 66 := h.2; omega)]
        · repeat' first
            | with_reducible refine AR.seq ?_
            | ((first | with_reducible refine AR.reg ?_ | with_reducible refine AR.skip ?_ | with_reducible refine AR.exit ?_ | ((with_reducible show pcall _ 66 _ _ _ _); refine pcall_of (page_size _ _ (by first | assumption | omega | (simp only [bool_to_prop]; first | done | omega)) (by assumption) _) rfl f66_fn (by first | rfl | exact getS_ok _ _ _) ?_)); try simp (maxSteps := 2000000) (disch := first | assumption | omega | (simp only [bool_to_prop]; first | done | omega)) only [go_sem, hio, List.getElem?_map])
            | ((with_reducible refine AR.ret ?_); try simp only [thn_r, blk_r])
            | with_reducible refine AR.block ?_
            | ((with_reducible refine And.intro ?_ ?_); · (first | omega | (simp only [bool_to_prop]; first | done | omega) | (simp (maxSteps := 2000000) (disch := first | assumption | omega | (simp only [bool_to_prop]; first | done | omega)) only [go_sem, hio, List.getElem?_map]; first | done | omega)))
            | ((with_reducible refine AR.cond_t ?_ ?_); · simp (maxSteps := 2000000) (disch := first | assumption | omega | (simp only [bool_to_prop]; first | done | omega)) only [go_sem, hio, List.getElem?_map])
            | ((with_reducible refine AR.cond_f ?_ ?_); · simp (maxSteps := 2000000) (disch := first | assumption | omega | (simp only [bool_to_prop]; first | done | omega)) only [go_sem, hio, List.getElem?_map])
          refine ⟨i + 1, Wk.lists _ _ ?_ ?_ ?_, ?_, ?_⟩
          all_goals try (first | exact trivial | (simp (maxSteps := 2000000) (disch := first | assumption | omega | (simp only [bool_to_prop]; first | done | omega)) only [List.take_zero, List.foldl_nil, List.nil_append, List.append_nil, List.replicate_zero, Nat.sub_zero, Nat.sub_self, Nat.mul_zero, le_0, it_0, sub_0, keeps_cons, keeps_nil, keepl_cons, keepl_nil, scopes_c, scopes_g, scopes_u, scopes_ep, scopes_lp, scopes_lw, scopes_nil, mk_cons, mk_nil, upd, Nat.reduceEqDiff, ↓reduceIte, and_self, and_true, true_and, ne_eq, reduceCtorEq, not_false_eq_true, Int.natCast_add, Int.natCast_one, Int.cast_ofNat_Int, Option.some.injEq, AV.c.injEq, AV.g.injEq, map_inj_b8, c64_inj, c32_inj, c16_inj, b8_inj, CV.p.injEq, Value.int.injEq, Value.string.injEq, AV.lp.injEq, AV.lw.injEq, List.cons.injEq]; done) | omega)
          all_goals try (simp (maxSteps := 2000000) (disch := first | assumption | omega | (simp only [bool_to_prop]; first | done | omega)) only [List.take_zero, List.foldl_nil, List.nil_append, List.append_nil, List.replicate_zero, Nat.sub_zero, Nat.sub_self, Nat.mul_zero, le_0, it_0, sub_0, keeps_cons, keeps_nil, keepl_cons, keepl_nil, scopes_c, scopes_g, scopes_u, scopes_ep, scopes_lp, scopes_lw, scopes_nil, mk_cons, mk_nil, upd, Nat.reduceEqDiff, ↓reduceIte, and_self, and_true, true_and, ne_eq, reduceCtorEq, not_false_eq_true, Int.natCast_add, Int.natCast_one, Int.cast_ofNat_Int, Option.some.injEq, AV.c.injEq, AV.g.injEq, map_inj_b8, c64_inj, c32_inj, c16_inj, b8_inj, CV.p.injEq, Value.int.injEq, Value.string.injEq, AV.lp.injEq, AV.lw.injEq, List.cons.injEq])
          all_goals try omega
          all_goals try with_reducible (first | rfl | exact ⟨rfl, rfl⟩ | exact ⟨rfl, rfl, rfl⟩)
          exact ⟨by omega, hw' ⟨fun h => Bool.noConfusion h, show dl.length ≤ 66 by omega⟩⟩
      | false =>
        by_cases hz : (⟨false, pn, ts, np, ns, dl⟩ : Old) = ⟨false, 0, 0, 0, 0, []⟩
        · have hdl : dl = [] := congrArg Old.dl hz
          have hdz : dl.length = 0 := by rw [hdl]; rfl
          repeat' first
            | with_reducible refine AR.seq ?_
            | ((first | with_reducible refine AR.reg ?_ | with_reducible refine AR.skip ?_ | with_reducible refine AR.exit ?_ | ((with_reducible show pcall _ 66 _ _ _ _); refine pcall_of (page_size _ _ (by first | assumption | omega | (simp only [bool_to_prop]; first | done | omega)) (by assumption) _) rfl f66_fn (by first | rfl | exact getS_ok _ _ _) ?_)); try simp (maxSteps := 2000000) (disch := first | assumption | omega | (simp only [bool_to_prop]; first | done | omega)) only [go_sem, hio, List.getElem?_map, hz])
            | ((with_reducible refine AR.ret ?_); try simp only [thn_r, blk_r])
            | with_reducible refine AR.block ?_
            | ((with_reducible refine And.intro ?_ ?_); · (first | omega | (simp only [bool_to_prop]; first | done | omega) | (simp (maxSteps := 2000000) (disch := first | assumption | omega | (simp only [bool_to_prop]; first | done | omega)) only [go_sem, hio, List.getElem?_map, hz]; first | done | omega)))
            | ((with_reducible refine AR.cond_t ?_ ?_); · simp (maxSteps := 2000000) (disch := first | assumption | omega | (simp only [bool_to_prop]; first | done | omega)) only [go_sem, hio, List.getElem?_map, hz])
            | ((with_reducible refine AR.cond_f ?_ ?_); · simp (maxSteps := 2000000) (disch := first | assumption | omega | (simp only [bool_to_prop]; first | done | omega)) only [go_sem, hio, List.getElem?_map, hz])
          refine ⟨i + 1, Wk.lists _ _ ?_ ?_ ?_, ?_, ?_⟩
          all_goals try (first | exact trivial | (simp (maxSteps := 2000000) (disch := first | assumption | omega | (simp only [bool_to_prop]; first | done | omega)) only [List.take_zero, List.foldl_nil, List.nil_append, List.append_nil, List.replicate_zero, Nat.sub_zero, Nat.sub_self, Nat.mul_zero, le_0, it_0, sub_0, keeps_cons, keeps_nil, keepl_cons, keepl_nil, scopes_c, scopes_g, scopes_u, scopes_ep, scopes_lp, scopes_lw, scopes_nil, mk_cons, mk_nil, upd, Nat.reduceEqDiff, ↓reduceIte, and_self, and_true, true_and, ne_eq, reduceCtorEq, not_false_eq_true, Int.natCast_add, Int.natCast_one, Int.cast_ofNat_Int, Option.some.injEq, AV.c.injEq, AV.g.injEq, map_inj_b8, c64_inj, c32_inj, c16_inj, b8_inj, CV.p.injEq, Value.int.injEq, Value.string.injEq, AV.lp.injEq, AV.lw.injEq, List.cons.injEq]; done) | omega)
          all_goals try (simp (maxSteps := 2000000) (disch := first | assumption | omega | (simp only [bool_to_prop]; first | done | omega)) only [List.take_zero, List.foldl_nil, List.nil_append, List.append_nil, List.replicate_zero, Nat.sub_zero, Nat.sub_self, Nat.mul_zero, le_0, it_0, sub_0, keeps_cons, keeps_nil, keepl_cons, keepl_nil, scopes_c, scopes_g, scopes_u, scopes_ep, scopes_lp, scopes_lw, scopes_nil, mk_cons, mk_nil, upd, Nat.reduceEqDiff, ↓reduceIte, and_self, and_true, true_and, ne_eq, reduceCtorEq, not_false_eq_true, Int.natCast_add, Int.natCast_one, Int.cast_ofNat_Int, Option.some.injEq, AV.c.injEq, AV.g.injEq, map_inj_b8, c64_inj, c32_inj, c16_inj, b8_inj, CV.p.injEq, Value.int.injEq, Value.string.injEq, AV.lp.injEq, AV.lw.injEq, List.cons.injEq])
          all_goals try omega
          all_goals try with_reducible (first | rfl | exact ⟨rfl, rfl⟩ | exact ⟨rfl, rfl, rfl⟩)
          exact ⟨by omega, hw' ⟨fun _ => hz, show dl.length ≤ 66 by omega⟩⟩
        · repeat' first
            | with_reducible refine AR.seq ?_
            | ((first | with_reducible refine AR.reg ?_ | with_reducible refine AR.skip ?_ | with_reducible refine AR.exit ?_ | ((with_reducible show pcall _ 66 _ _ _ _); refine pcall_of (page_size _ _ (by first | assumption | omega | (simp only [bool_to_prop]; first | done | omega)) (by assumption) _) rfl f66_fn (by first | rfl | exact getS_ok _ _ _) ?_)); try simp (maxSteps := 2000000) (disch := first | assumption | omega | (simp only [bool_to_prop]; first | done | omega)) only [go_sem, hio, List.getElem?_map, hz])
            | ((with_reducible refine AR.ret ?_); try simp only [thn_r, blk_r])
            | with_reducible refine AR.block ?_
            | ((with_reducible refine And.intro ?_ ?_); · (first | omega | (simp only [bool_to_prop]; first | done | omega) | (simp (maxSteps := 2000000) (disch := first | assumption | omega | (simp only [bool_to_prop]; first | done | omega)) only [go_sem, hio, List.getElem?_map, hz]; first | done | omega)))
            | ((with_reducible refine AR.cond_t ?_ ?_); · simp (maxSteps := 2000000) (disch := first | assumption | omega | (simp only [bool_to_prop]; first | done | omega)) only [go_sem, hio, List.getElem?_map, hz])
            | ((with_reducible refine AR.cond_f ?_ ?_); · simp (maxSteps := 2000000) (disch := first | assumption | omega | (simp only [bool_to_prop]; first | done | omega)) only [go_sem, hio, List.getElem?_map, hz])
          refine fin_r _ (by simp (maxSteps := 2000000) (disch := first | assumption | omega | (simp only [bool_to_prop]; first | done | omega)) only [resV, rvs, rv1, go_sem]; rfl) rfl ⟨?_, rfl⟩
          rw [decide_eq_false (hn fun h => hz (h.1 rfl))]
    · obtain rfl : i = l.length := by omega
      rw [List.take_length] at hw
      have hyes := may_yes h15 hc hw
      have hdd : ∀ o ∈ l, o.dl.length ≤ 140737488355328 := fun o ho => by have := (hw o ho).2; omega
      repeat' first
        | with_reducible refine AR.seq ?_
        | ((first | with_reducible refine AR.reg ?_ | with_reducible refine AR.skip ?_ | with_reducible refine AR.exit ?_ | ((with_reducible show pcall _ 66 _ _ _ _); refine pcall_of (page_size _ _ (by first | assumption | omega | (simp only [bool_to_prop]; first | done | omega)) (by assumption) _) rfl f66_fn (by first | rfl | exact getS_ok _ _ _) ?_)); try simp (maxSteps := 2000000) (disch := first | assumption | omega | (simp only [bool_to_prop]; first | done | omega)) only [go_sem])
        | ((with_reducible refine AR.ret ?_); try simp only [thn_r, blk_r])
        | with_reducible refine AR.block ?_
        | ((with_reducible refine And.intro ?_ ?_); · (first | omega | (simp only [bool_to_prop]; first | done | omega) | (simp (maxSteps := 2000000) (disch := first | assumption | omega | (simp only [bool_to_prop]; first | done | omega)) only [go_sem]; first | done | omega)))
        | ((with_reducible refine AR.cond_t ?_ ?_); · simp (maxSteps := 2000000) (disch := first | assumption | omega | (simp only [bool_to_prop]; first | done | omega)) only [go_sem])
        | ((with_reducible refine AR.cond_f ?_ ?_); · simp (maxSteps := 2000000) (disch := first | assumption | omega | (simp only [bool_to_prop]; first | done | omega)) only [go_sem])
      refine fin_r _ (by simp (maxSteps := 2000000) (disch := first | assumption | omega | (simp only [bool_to_prop]; first | done | omega)) only [resV, rvs, rv1, go_sem]; rfl) rfl ⟨?_, rfl⟩
      have e : decide ((usize l : Int) ≤ 224) = decide (mayU l) := decide_eq_decide.2 ⟨fun h => hyes.2 (by omega), fun h => by have := hyes.1 h; omega⟩
      first | exact congrArg B e | (rw [e])
  · have hc' := hc
    rcases hc' with hc' | ⟨⟨lv, pn, ts, np, ns, dl⟩, ho, hv⟩
    · exact absurd hc' h0
    simp only at hv
    subst hv
    repeat' first
      | with_reducible refine AR.seq ?_
      | ((first | with_reducible refine AR.reg ?_ | with_reducible refine AR.skip ?_ | with_reducible refine AR.exit ?_ | ((with_reducible show pcall _ 66 _ _ _ _); refine pcall_of (page_size _ _ (by first | assumption | omega | (simp only [bool_to_prop]; first | done | omega)) (by assumption) _) rfl f66_fn (by first | rfl | exact getS_ok _ _ _) ?_)); try simp (maxSteps := 2000000) (disch := first | assumption | omega | (simp only [bool_to_prop]; first | done | omega)) only [go_sem, hidx, ho, List.getElem?_map])
      | ((with_reducible refine AR.ret ?_); try simp only [thn_r, blk_r])
      | with_reducible refine AR.block ?_
      | ((with_reducible refine And.intro ?_ ?_); · (first | omega | (simp only [bool_to_prop]; first | done | omega) | (simp (maxSteps := 2000000) (disch := first | assumption | omega | (simp only [bool_to_prop]; first | done | omega)) only [go_sem, hidx, ho, List.getElem?_map]; first | done | omega)))
      | ((with_reducible refine AR.cond_t ?_ ?_); · simp (maxSteps := 2000000) (disch := first | assumption | omega | (simp only [bool_to_prop]; first | done | omega)) only [go_sem, hidx, ho, List.getElem?_map])
      | ((with_reducible refine AR.cond_f ?_ ?_); · simp (maxSteps := 2000000) (disch := first | assumption | omega | (simp only [bool_to_prop]; first | done | omega)) only [go_sem, hidx, ho, List.getElem?_map])
    clear ho
    refine AR.loopS (σ := Nat) (fun i => ⟨mk [(1, .lp 1 0), (28, .c (.s 6 (l.map Old.cells) none)), (29, I .i64 l.length), (30, I .i64 i)], mk [(1, [c64 a, .s 6 (l.map Old.cells) none])], H⟩) (fun i => i ≤ l.length ∧ ∀ o ∈ l.take i, wfO o) (fun i => l.length - i) (0) ?_ ?_ ?_
    refine Wk.lists _ _ ?_ ?_ ?_
    all_goals try (first | exact trivial | (simp (maxSteps := 2000000) (disch := first | assumption | omega | (simp only [bool_to_prop]; first | done | omega)) only [List.take_zero, List.foldl_nil, List.nil_append, List.append_nil, List.replicate_zero, Nat.sub_zero, Nat.sub_self, Nat.mul_zero, le_0, it_0, sub_0, keeps_cons, keeps_nil, keepl_cons, keepl_nil, scopes_c, scopes_g, scopes_u, scopes_ep, scopes_lp, scopes_lw, scopes_nil, mk_cons, mk_nil, upd, Nat.reduceEqDiff, ↓reduceIte, and_self, and_true, true_and, ne_eq, reduceCtorEq, not_false_eq_true, Int.natCast_add, Int.natCast_one, Int.cast_ofNat_Int, Option.some.injEq, AV.c.injEq, AV.g.injEq, map_inj_b8, c64_inj, c32_inj, c16_inj, b8_inj, CV.p.injEq, Value.int.injEq, Value.string.injEq, AV.lp.injEq, AV.lw.injEq, List.cons.injEq]; done) | omega)
    all_goals try (simp (maxSteps := 2000000) (disch := first | assumption | omega | (simp only [bool_to_prop]; first | done | omega)) only [List.take_zero, List.foldl_nil, List.nil_append, List.append_nil, List.replicate_zero, Nat.sub_zero, Nat.sub_self, Nat.mul_zero, le_0, it_0, sub_0, keeps_cons, keeps_nil, keepl_cons, keepl_nil, scopes_c, scopes_g, scopes_u, scopes_ep, scopes_lp, scopes_lw, scopes_nil, mk_cons, mk_nil, upd, Nat.reduceEqDiff, ↓reduceIte, and_self, and_true, true_and, ne_eq, reduceCtorEq, not_false_eq_true, Int.natCast_add, Int.natCast_one, Int.cast_ofNat_Int, Option.some.injEq, AV.c.injEq, AV.g.injEq, map_inj_b8, c64_inj, c32_inj, c16_inj, b8_inj, CV.p.injEq, Value.int.injEq, Value.string.injEq, AV.lp.injEq, AV.lw.injEq, List.cons.injEq])
    all_goals try omega
    all_goals try with_reducible (first | rfl | exact ⟨rfl, rfl⟩ | exact ⟨rfl, rfl, rfl⟩)
    · exact ⟨by omega, by simp⟩
    rintro i ⟨hi, hw⟩
    by_cases hlt : i < l.length
    · obtain ⟨o, hio⟩ : ∃ o, l[i]? = some o := ⟨_, List.getElem?_eq_getElem hlt⟩
      have hn := fun h => may_no (o := o) i hio h
      have hw' := fun h => wf_take (o := o) i hio hw h
      clear hw
      obtain ⟨lv, pn, ts, np, ns, dl⟩ := o
      cases lv with
      | true =>
        by_cases hd : 66 < dl.length
        · repeat' first
            | with_reducible refine AR.seq ?_
            | ((first | with_reducible refine AR.reg ?_ | with_reducible refine AR.skip ?_ | with_reducible refine AR.exit ?_ | ((with_reducible show pcall _ 66 _ _ _ _); refine pcall_of (page_size _ _ (by first | assumption | omega | (simp only [bool_to_prop]; first | done | omega)) (by assumption) _) rfl f66_fn (by first | rfl | exact getS_ok _ _ _) ?_)); try simp (maxSteps := 2000000) (disch := first | assumption | omega | (simp only [bool_to_prop]; first | done | omega)) only [go_sem, hio, List.getElem?_map])
            | ((with_reducible refine AR.ret ?_); try simp only [thn_r, blk_r])
            | with_reducible refine AR.block ?_
            | ((with_reducible refine And.intro ?_ ?_); · (first | omega | (simp only [bool_to_prop]; first | done | omega) | (simp (maxSteps := 2000000) (disch := first | assumption | omega | (simp only [bool_to_prop]; first | done | omega)) only [go_sem, hio, List.getElem?_map]; first | done | omega)))
            | ((with_reducible refine AR.cond_t ?_ ?_); · simp (maxSteps := 2000000) (disch := first | assumption | omega | (simp only [bool_to_prop]; first | done | omega)) only [go_sem, hio, List.getElem?_map])
            | ((with_reducible refine AR.cond_f ?_ ?_); · simp (maxSteps := 2000000) (disch := first | assumption | omega | (simp only [bool_to_prop]; first | done | omega)) only [go_sem, hio, List.getElem?_map])
          refine fin_r _ (by simp (maxSteps := 2000000) (disch := first | assumption | omega | (simp only [bool_to_prop]; first | done | omega)) only [resV, rvs, rv1, go_sem]; rfl) rfl ⟨?_, rfl⟩
          rw [decide_eq_false (hn fun h => by have : dl.length ≤ 66 := h.2; omega)]
        · repeat' first
            | with_reducible refine AR.seq ?_
            | ((first | with_reducible refine AR.reg ?_ | with_reducible refine AR.skip ?_ | with_reducible refine AR.exit ?_ | ((with_reducible show pcall _ 66 _ _ _ _); refine pcall_of (page_size _ _ (by first | assumption | omega | (simp only [bool_to_prop]; first | done | omega)) (by assumption) _) rfl f66_fn (by first | rfl | exact getS_ok _ _ _) ?_)); try simp (maxSteps := 2000000) (disch := first | assumption | omega | (simp only [bool_to_prop]; first | done | omega)) only [go_sem, hio, List.getElem?_map])
            | ((with_reducible refine AR.ret ?_); try simp only [thn_r, blk_r])
            | with_reducible refine AR.block ?_
            | ((with_reducible refine And.intro ?_ ?_); · (first | omega | (simp only [bool_to_prop]; first | done | omega) | (simp (maxSteps := 2000000) (disch := first | assumption | omega | (simp only [bool_to_prop]; first | done | omega)) only [go_sem, hio, List.getElem?_map]; first | done | omega)))
            | ((with_reducible refine AR.cond_t ?_ ?_); · simp (maxSteps := 2000000) (disch := first | assumption | omega | (simp only [bool_to_prop]; first | done | omega)) only [go_sem, hio, List.getElem?_map])
            | ((with_reducible refine AR.cond_f ?_ ?_); · simp (maxSteps := 2000000) (disch := first | assumption | omega | (simp only [bool_to_prop]; first | done | omega)) only [go_sem, hio, List.getElem?_map])
          refine ⟨i + 1, Wk.lists _ _ ?_ ?_ ?_, ?_, ?_⟩
          all_goals try (first | exact trivial | (simp (maxSteps := 2000000) (disch := first | assumption | omega | (simp only [bool_to_prop]; first | done | omega)) only [List.take_zero, List.foldl_nil, List.nil_append, List.append_nil, List.replicate_zero, Nat.sub_zero, Nat.sub_self, Nat.mul_zero, le_0, it_0, sub_0, keeps_cons, keeps_nil, keepl_cons, keepl_nil, scopes_c, scopes_g, scopes_u, scopes_ep, scopes_lp, scopes_lw, scopes_nil, mk_cons, mk_nil, upd, Nat.reduceEqDiff, ↓reduceIte, and_self, and_true, true_and, ne_eq, reduceCtorEq, not_false_eq_true, Int.natCast_add, Int.natCast_one, Int.cast_ofNat_Int, Option.some.injEq, AV.c.injEq, AV.g.injEq, map_inj_b8, c64_inj, c32_inj, c16_inj, b8_inj, CV.p.injEq, Value.int.injEq, Value.string.injEq, AV.lp.injEq, AV.lw.injEq, List.cons.injEq]; done) | omega)
          all_goals try (simp (maxSteps := 2000000) (disch := first | assumption | omega | (simp only [bool_to_prop]; first | done | omega)) only [List.take_zero, List.foldl_nil, List.nil_append, List.append_nil, List.replicate_zero, Nat.sub_zero, Nat.sub_self, Nat.mul_zero, le_0, it_0, sub_0, keeps_cons, keeps_nil, keepl_cons, keepl_nil, scopes_c, scopes_g, scopes_u, scopes_ep, scopes_lp, scopes_lw, scopes_nil, mk_cons, mk_nil, upd, Nat.reduceEqDiff, ↓reduceIte, and_self, and_true, true_and, ne_eq, reduceCtorEq, not_false_eq_true, Int.natCast_add, Int.natCast_one, Int.cast_ofNat_Int, Option.some.injEq, AV.c.injEq, AV.g.injEq, map_inj_b8, c64_inj, c32_inj, c16_inj, b8_inj, CV.p.injEq, Value.int.injEq, Value.string.injEq, AV.lp.injEq, AV.lw.injEq, List.cons.injEq])
          all_goals try omega
          all_goals try with_reducible (first | rfl | exact ⟨rfl, rfl⟩ | exact ⟨rfl, rfl, rfl⟩)
          exact ⟨by omega, hw' ⟨fun h => Bool.noConfusion h, show dl.length ≤ 66 by omega⟩⟩
      | false =>
        by_cases hz : (⟨false, pn, ts, np, ns, dl⟩ : Old) = ⟨false, 0, 0, 0, 0, []⟩
        · have hdl : dl = [] := congrArg Old.dl hz
          have hdz : dl.length = 0 := by rw [hdl]; rfl
          repeat' first
            | with_reducible refine AR.seq ?_
            | ((first | with_reducible refine AR.reg ?_ | with_reducible refine AR.skip ?_ | with_reducible refine AR.exit ?_ | ((with_reducible show pcall _ 66 _ _ _ _); refine pcall_of (page_size _ _ (by first | assumption | omega | (simp only [bool_to_prop]; first | done | omega)) (by assumption) _) rfl f66_fn (by first | rfl | exact getS_ok _ _ _) ?_)); try simp (maxSteps := 2000000) (disch := first | assumption | omega | (simp only [bool_to_prop]; first | done | omega)) only [go_sem, hio, List.getElem?_map, hz])
            | ((with_reducible refine AR.ret ?_); try simp only [thn_r, blk_r])
            | with_reducible refine AR.block ?_
            | ((with_reducible refine And.intro ?_ ?_); · (first | omega | (simp only [bool_to_prop]; first | done | omega) | (simp (maxSteps := 2000000) (disch := first | assumption | omega | (simp only [bool_to_prop]; first | done | omega)) only [go_sem, hio, List.getElem?_map, hz]; first | done | omega)))
            | ((with_reducible refine AR.cond_t ?_ ?_); · simp (maxSteps := 2000000) (disch := first | assumption | omega | (simp only [bool_to_prop]; first | done | omega)) only [go_sem, hio, List.getElem?_map, hz])
            | ((with_reducible refine AR.cond_f ?_ ?_); · simp (maxSteps := 2000000) (disch := first | assumption | omega | (simp only [bool_to_prop]; first | done | omega)) only [go_sem, hio, List.getElem?_map, hz])
          refine ⟨i + 1, Wk.lists _ _ ?_ ?_ ?_, ?_, ?_⟩
          all_goals try (first | exact trivial | (simp (maxSteps := 2000000) (disch := first | assumption | omega | (simp only [bool_to_prop]; first | done | omega)) only [List.take_zero, List.foldl_nil, List.nil_append, List.append_nil, List.replicate_zero, Nat.sub_zero, Nat.sub_self, Nat.mul_zero, le_0, it_0, sub_0, keeps_cons, keeps_nil, keepl_cons, keepl_nil, scopes_c, scopes_g, scopes_u, scopes_ep, scopes_lp, scopes_lw, scopes_nil, mk_cons, mk_nil, upd, Nat.reduceEqDiff, ↓reduceIte, and_self, and_true, true_and, ne_eq, reduceCtorEq, not_false_eq_true, Int.natCast_add, Int.natCast_one, Int.cast_ofNat_Int, Option.some.injEq, AV.c.injEq, AV.g.injEq, map_inj_b8, c64_inj, c32_inj, c16_inj, b8_inj, CV.p.injEq, Value.int.injEq, Value.string.injEq, AV.lp.injEq, AV.lw.injEq, List.cons.injEq]; done) | omega)
          all_goals try (simp (maxSteps := 2000000) (disch := first | assumption | omega | (simp only [bool_to_prop]; first | done | omega)) only [List.take_zero, List.foldl_nil, List.nil_append, List.append_nil, List.replicate_zero, Nat.sub_zero, Nat.sub_self, Nat.mul_zero, le_0, it_0, sub_0, keeps_cons, keeps_nil, keepl_cons, keepl_nil, scopes_c, scopes_g, scopes_u, scopes_ep, scopes_lp, scopes_lw, scopes_nil, mk_cons, mk_nil, upd, Nat.reduceEqDiff, ↓reduceIte, and_self, and_true, true_and, ne_eq, reduceCtorEq, not_false_eq_true, Int.natCast_add, Int.natCast_one, Int.cast_ofNat_Int, Option.some.injEq, AV.c.injEq, AV.g.injEq, map_inj_b8, c64_inj, c32_inj, c16_inj, b8_inj, CV.p.injEq, Value.int.injEq, Value.string.injEq, AV.lp.injEq, AV.lw.injEq, List.cons.injEq])
          all_goals try omega
          all_goals try with_reducible (first | rfl | exact ⟨rfl, rfl⟩ | exact ⟨rfl, rfl, rfl⟩)
          exact ⟨by omega, hw' ⟨fun _ => hz, show dl.length ≤ 66 by omega⟩⟩
        · repeat' first
            | with_reducible refine AR.seq ?_
            | ((first | with_reducible refine AR.reg ?_ | with_reducible refine AR.skip ?_ | with_reducible refine AR.exit ?_ | ((with_reducible show pcall _ 66 _ _ _ _); refine pcall_of (page_size _ _ (by first | assumption | omega | (simp only [bool_to_prop]; first | done | omega)) (by assumption) _) rfl f66_fn (by first | rfl | exact getS_ok _ _ _) ?_)); try simp (maxSteps := 2000000) (disch := first | assumption | omega | (simp only [bool_to_prop]; first | done | omega)) only [go_sem, hio, List.getElem?_map, hz])
            | ((with_reducible refine AR.ret ?_); try simp only [thn_r, blk_r])
            | with_reducible refine AR.block ?_
            | ((with_reducible refine And.intro ?_ ?_); · (first | omega | (simp only [bool_to_prop]; first | done | omega) | (simp (maxSteps := 2000000) (disch := first | assumption | omega | (simp only [bool_to_prop]; first | done | omega)) only [go_sem, hio, List.getElem?_map, hz]; first | done | omega)))
            | ((with_reducible refine AR.cond_t ?_ ?_); · simp (maxSteps := 2000000) (disch := first | assumption | omega | (simp only [bool_to_prop]; first | done | omega)) only [go_sem, hio, List.getElem?_map, hz])
            | ((with_reducible refine AR.cond_f ?_ ?_); · simp (maxSteps := 2000000) (disch := first | assumption | omega | (simp only [bool_to_prop]; first | done | omega)) only [go_sem, hio, List.getElem?_map, hz])
          refine fin_r _ (by simp (maxSteps := 2000000) (disch := first | assumption | omega | (simp only [bool_to_prop]; first | done | omega)) only [resV, rvs, rv1, go_sem]; rfl) rfl ⟨?_, rfl⟩
          rw [decide_eq_false (hn fun h => hz (h.1 rfl))]
    · obtain rfl : i = l.length := by omega
      rw [List.take_length] at hw
      have hyes := may_yes h15 hc hw
      have hdd : ∀ o ∈ l, o.dl.length ≤ 140737488355328 := fun o ho => by have := (hw o ho).2; omega
      repeat' first
        | with_reducible refine AR.seq ?_
        | ((first | with_reducible refine AR.reg ?_ | with_reducible refine AR.skip ?_ | with_reducible refine AR.exit ?_ | ((with_reducible show pcall _ 66 _ _ _ _); refine pcall_of (page_size _ _ (by first | assumption | omega | (simp only [bool_to_prop]; first | done | omega)) (by assumption) _) rfl f66_fn (by first | rfl | exact getS_ok _ _ _) ?_)); try simp (maxSteps := 2000000) (disch := first | assumption | omega | (simp only [bool_to_prop]; first | done | omega)) only [go_sem])
        | ((with_reducible refine AR.ret ?_); try simp only [thn_r, blk_r])
        | with_reducible refine AR.block ?_
        | ((with_reducible refine And.intro ?_ ?_); · (first | omega | (simp only [bool_to_prop]; first | done | omega) | (simp (maxSteps := 2000000) (disch := first | assumption | omega | (simp only [bool_to_prop]; first | done | omega)) only [go_sem]; first | done | omega)))
        | ((with_reducible refine AR.cond_t ?_ ?_); · simp (maxSteps := 2000000) (disch := first | assumption | omega | (simp only [bool_to_prop]; first | done | omega)) only [go_sem])
        | ((with_reducible refine AR.cond_f ?_ ?_); · simp (maxSteps := 2000000) (disch := first | assumption | omega | (simp only [bool_to_prop]; first | done | omega)) only [go_sem])
      refine fin_r _ (by simp (maxSteps := 2000000) (disch := first | assumption | omega | (simp only [bool_to_prop]; first | done | omega)) only [resV, rvs, rv1, go_sem]; rfl) rfl ⟨?_, rfl⟩
      have e : decide ((usize l : Int) ≤ 224) = decide (mayU l) := decide_eq_decide.2 ⟨fun h => hyes.2 (by omega), fun h => by have := hyes.1 h; omega⟩
      first | exact congrArg B e | (rw [e])
end Go.Eng
set_option linter.unusedSimpArgs false
set_option linter.unusedVariables false
set_option maxRecDepth 100000
-- LEN: sealL, putD, restD, pg_len, gd_len, PD.cells_len
namespace Go.Eng
open Go.Proofs

theorem u8_nat (n : Nat) : UInt8.ofBitVec (BitVec.ofInt 8 (n : Int)) = UInt8.ofNat n := by rw [BitVec.ofInt_natCast]; rfl
theorem bytes_2 (x y : UInt8) : bytesOf [b8 x, b8 y] = some [x, y] := bytes_b8 [x, y]
attribute [go_sem] u8_nat bytes_2 List.set_cons_succ

theorem recs_le (l : List Old) (h : ∀ o ∈ l, o.dl.length ≤ 140737488355328) : (recs l).length ≤ l.length * 140737488355339 := by
  have := usize_le l h
  rw [recs_len]; unfold usize at this; omega

theorem ref_text (a : BitVec 64) (l : List Old) (hl : l.length ≤ 1000) (hd : ∀ o ∈ l, o.dl.length ≤ 140737488355328) (H : Heap) : ACalls Try.prog 121 [.g [c64 a, .s 6 (l.map Old.cells) none]] H (fun v H' => v = S (str (textU l)) ∧ H' = H) := by
  refine fn_sound' mixed f121_at F121_ok ⟨rfl, by decide, rfl⟩ ?_
  dsimp only [F121, k121, num]
  repeat' first
    | with_reducible refine AR.seq ?_
    | ((first | with_reducible refine AR.reg ?_ | with_reducible refine AR.skip ?_ | with_reducible refine AR.exit ?_ | ((with_reducible show pcall _ 119 _ _ _ _); refine pcall_of (ref_put _ _ _) rfl f119_fn (by first | rfl | exact getS_ok _ _ _) ?_)); try simp (maxSteps := 2000000) (disch := first | assumption | omega | (simp only [bool_to_prop]; first | done | omega)) only [go_sem])
    | ((with_reducible refine AR.ret ?_); try simp only [thn_r, blk_r])
    | with_reducible refine AR.block ?_
    | ((with_reducible refine And.intro ?_ ?_); · (first | omega | (simp only [bool_to_prop]; first | done | omega) | (simp (maxSteps := 2000000) (disch := first | assumption | omega | (simp only [bool_to_prop]; first | done | omega)) only [go_sem]; first | done | omega)))
    | ((with_reducible refine AR.cond_t ?_ ?_); · simp (maxSteps := 2000000) (disch := first | assumption | omega | (simp only [bool_to_prop]; first | done | omega)) only [go_sem])
    | ((with_reducible refine AR.cond_f ?_ ?_); · simp (maxSteps := 2000000) (disch := first | assumption | omega | (simp only [bool_to_prop]; first | done | omega)) only [go_sem])
  refine AR.loopS (σ := Nat) (fun i => ⟨mk [(3, S (str (UInt8.ofNat l.length :: recs (l.take i)))), (13, .c (.s 6 (l.map Old.cells) none)), (14, I .i64 l.length), (15, I .i64 i)], mk [], H⟩) (fun i => i ≤ l.length) (fun i => l.length - i) (0) ?_ ?_ ?_
  refine Wk.lists0 _ ?_ ?_
  all_goals try (first | exact trivial | (simp (maxSteps := 2000000) (disch := first | assumption | omega | (simp only [bool_to_prop]; first | done | omega)) only [List.take_zero, List.foldl_nil, List.nil_append, List.append_nil, List.replicate_zero, Nat.sub_zero, Nat.sub_self, Nat.mul_zero, le_0, it_0, sub_0, keeps_cons, keeps_nil, keepl_cons, keepl_nil, scopes_c, scopes_g, scopes_u, scopes_ep, scopes_lp, scopes_lw, scopes_nil, mk_cons, mk_nil, upd, Nat.reduceEqDiff, ↓reduceIte, and_self, and_true, true_and, ne_eq, reduceCtorEq, not_false_eq_true, Int.natCast_add, Int.natCast_one, Int.cast_ofNat_Int, Option.some.injEq, AV.c.injEq, AV.g.injEq, map_inj_b8, c64_inj, c32_inj, c16_inj, b8_inj, CV.p.injEq, Value.int.injEq, Value.string.injEq, AV.lp.injEq, AV.lw.injEq, List.cons.injEq]; done) | omega)
  all_goals try (simp (maxSteps := 2000000) (disch := first | assumption | omega | (simp only [bool_to_prop]; first | done | omega)) only [List.take_zero, List.foldl_nil, List.nil_append, List.append_nil, List.replicate_zero, Nat.sub_zero, Nat.sub_self, Nat.mul_zero, le_0, it_0, sub_0, keeps_cons, keeps_nil, keepl_cons, keepl_nil, scopes_c, scopes_g, scopes_u, scopes_ep, scopes_lp, scopes_lw, scopes_nil, mk_cons, mk_nil, upd, Nat.reduceEqDiff, ↓reduceIte, and_self, and_true, true_and, ne_eq, reduceCtorEq, not_false_eq_true, Int.natCast_add, Int.natCast_one, Int.cast_ofNat_Int, Option.some.injEq, AV.c.injEq, AV.g.injEq, map_inj_b8, c64_inj, c32_inj, c16_inj, b8_inj, CV.p.injEq, Value.int.injEq, Value.string.injEq, AV.lp.injEq, AV.lw.injEq, List.cons.injEq])
  all_goals try omega
  all_goals try with_reducible (first | rfl | exact ⟨rfl, rfl⟩ | exact ⟨rfl, rfl, rfl⟩)
  · rfl
  rintro i hi
  have hb : (recs (l.take i)).length ≤ i * 140737488355339 := by
    have := recs_le (l.take i) (fun o ho => hd o (List.mem_of_mem_take ho))
    rwa [List.length_take, Nat.min_eq_left hi] at this
  by_cases hlt : i < l.length
  · obtain ⟨o, ho⟩ : ∃ o, l[i]? = some o := ⟨_, List.getElem?_eq_getElem hlt⟩
    have hs := recs_take l i o ho
    have hdl := hd o (List.mem_of_getElem? ho)
    obtain ⟨lv, pn, ts, np, ns, dl⟩ := o
    simp only at hdl
    cases lv with
    | true =>
      repeat' first
        | with_reducible refine AR.seq ?_
        | ((first | with_reducible refine AR.reg ?_ | with_reducible refine AR.skip ?_ | with_reducible refine AR.exit ?_ | ((with_reducible show pcall _ 119 _ _ _ _); refine pcall_of (ref_put _ _ _) rfl f119_fn (by first | rfl | exact getS_ok _ _ _) ?_)); try simp (maxSteps := 2000000) (disch := first | assumption | omega | (simp only [bool_to_prop]; first | done | omega)) only [go_sem, ho, List.getElem?_map])
        | ((with_reducible refine AR.ret ?_); try simp only [thn_r, blk_r])
        | with_reducible refine AR.block ?_
        | ((with_reducible refine And.intro ?_ ?_); · (first | omega | (simp only [bool_to_prop]; first | done | omega) | (simp (maxSteps := 2000000) (disch := first | assumption | omega | (simp only [bool_to_prop]; first | done | omega)) only [go_sem, ho, List.getElem?_map]; first | done | omega)))
        | ((with_reducible refine AR.cond_t ?_ ?_); · simp (maxSteps := 2000000) (disch := first | assumption | omega | (simp only [bool_to_prop]; first | done | omega)) only [go_sem, ho, List.getElem?_map])
        | ((with_reducible refine AR.cond_f ?_ ?_); · simp (maxSteps := 2000000) (disch := first | assumption | omega | (simp only [bool_to_prop]; first | done | omega)) only [go_sem, ho, List.getElem?_map])
      refine ⟨i + 1, Wk.lists0 _ ?_ ?_, ?_, ?_⟩
      all_goals try (first | exact trivial | (simp (maxSteps := 2000000) (disch := first | assumption | omega | (simp only [bool_to_prop]; first | done | omega)) only [List.take_zero, List.foldl_nil, List.nil_append, List.append_nil, List.replicate_zero, Nat.sub_zero, Nat.sub_self, Nat.mul_zero, le_0, it_0, sub_0, keeps_cons, keeps_nil, keepl_cons, keepl_nil, scopes_c, scopes_g, scopes_u, scopes_ep, scopes_lp, scopes_lw, scopes_nil, mk_cons, mk_nil, upd, Nat.reduceEqDiff, ↓reduceIte, and_self, and_true, true_and, ne_eq, reduceCtorEq, not_false_eq_true, Int.natCast_add, Int.natCast_one, Int.cast_ofNat_Int, Option.some.injEq, AV.c.injEq, AV.g.injEq, map_inj_b8, c64_inj, c32_inj, c16_inj, b8_inj, CV.p.injEq, Value.int.injEq, Value.string.injEq, AV.lp.injEq, AV.lw.injEq, List.cons.injEq,  hs]; done) | omega)
      all_goals try (simp (maxSteps := 2000000) (disch := first | assumption | omega | (simp only [bool_to_prop]; first | done | omega)) only [List.take_zero, List.foldl_nil, List.nil_append, List.append_nil, List.replicate_zero, Nat.sub_zero, Nat.sub_self, Nat.mul_zero, le_0, it_0, sub_0, keeps_cons, keeps_nil, keepl_cons, keepl_nil, scopes_c, scopes_g, scopes_u, scopes_ep, scopes_lp, scopes_lw, scopes_nil, mk_cons, mk_nil, upd, Nat.reduceEqDiff, ↓reduceIte, and_self, and_true, true_and, ne_eq, reduceCtorEq, not_false_eq_true, Int.natCast_add, Int.natCast_one, Int.cast_ofNat_Int, Option.some.injEq, AV.c.injEq, AV.g.injEq, map_inj_b8, c64_inj, c32_inj, c16_inj, b8_inj, CV.p.injEq, Value.int.injEq, Value.string.injEq, AV.lp.injEq, AV.lw.injEq, List.cons.injEq,  hs])
      all_goals try omega
      all_goals try with_reducible (first | rfl | exact ⟨rfl, rfl⟩ | exact ⟨rfl, rfl, rfl⟩)
      simp only [recO, if_true, List.append_assoc, List.cons_append, List.nil_append]
    | false =>
      repeat' first
        | with_reducible refine AR.seq ?_
        | ((first | with_reducible refine AR.reg ?_ | with_reducible refine AR.skip ?_ | with_reducible refine AR.exit ?_ | ((with_reducible show pcall _ 119 _ _ _ _); refine pcall_of (ref_put _ _ _) rfl f119_fn (by first | rfl | exact getS_ok _ _ _) ?_)); try simp (maxSteps := 2000000) (disch := first | assumption | omega | (simp only [bool_to_prop]; first | done | omega)) only [go_sem, ho, List.getElem?_map])
        | ((with_reducible refine AR.ret ?_); try simp only [thn_r, blk_r])
        | with_reducible refine AR.block ?_
        | ((with_reducible refine And.intro ?_ ?_); · (first | omega | (simp only [bool_to_prop]; first | done | omega) | (simp (maxSteps := 2000000) (disch := first | assumption | omega | (simp only [bool_to_prop]; first | done | omega)) only [go_sem, ho, List.getElem?_map]; first | done | omega)))
        | ((with_reducible refine AR.cond_t ?_ ?_); · simp (maxSteps := 2000000) (disch := first | assumption | omega | (simp only [bool_to_prop]; first | done | omega)) only [go_sem, ho, List.getElem?_map])
        | ((with_reducible refine AR.cond_f ?_ ?_); · simp (maxSteps := 2000000) (disch := first | assumption | omega | (simp only [bool_to_prop]; first | done | omega)) only [go_sem, ho, List.getElem?_map])
      refine ⟨i + 1, Wk.lists0 _ ?_ ?_, ?_, ?_⟩
      all_goals try (first | exact trivial | (simp (maxSteps := 2000000) (disch := first | assumption | omega | (simp only [bool_to_prop]; first | done | omega)) only [List.take_zero, List.foldl_nil, List.nil_append, List.append_nil, List.replicate_zero, Nat.sub_zero, Nat.sub_self, Nat.mul_zero, le_0, it_0, sub_0, keeps_cons, keeps_nil, keepl_cons, keepl_nil, scopes_c, scopes_g, scopes_u, scopes_ep, scopes_lp, scopes_lw, scopes_nil, mk_cons, mk_nil, upd, Nat.reduceEqDiff, ↓reduceIte, and_self, and_true, true_and, ne_eq, reduceCtorEq, not_false_eq_true, Int.natCast_add, Int.natCast_one, Int.cast_ofNat_Int, Option.some.injEq, AV.c.injEq, AV.g.injEq, map_inj_b8, c64_inj, c32_inj, c16_inj, b8_inj, CV.p.injEq, Value.int.injEq, Value.string.injEq, AV.lp.injEq, AV.lw.injEq, List.cons.injEq,  hs]; done) | omega)
      all_goals try (simp (maxSteps := 2000000) (disch := first | assumption | omega | (simp only [bool_to_prop]; first | done | omega)) only [List.take_zero, List.foldl_nil, List.nil_append, List.append_nil, List.replicate_zero, Nat.sub_zero, Nat.sub_self, Nat.mul_zero, le_0, it_0, sub_0, keeps_cons, keeps_nil, keepl_cons, keepl_nil, scopes_c, scopes_g, scopes_u, scopes_ep, scopes_lp, scopes_lw, scopes_nil, mk_cons, mk_nil, upd, Nat.reduceEqDiff, ↓reduceIte, and_self, and_true, true_and, ne_eq, reduceCtorEq, not_false_eq_true, Int.natCast_add, Int.natCast_one, Int.cast_ofNat_Int, Option.some.injEq, AV.c.injEq, AV.g.injEq, map_inj_b8, c64_inj, c32_inj, c16_inj, b8_inj, CV.p.injEq, Value.int.injEq, Value.string.injEq, AV.lp.injEq, AV.lw.injEq, List.cons.injEq,  hs])
      all_goals try omega
      all_goals try with_reducible (first | rfl | exact ⟨rfl, rfl⟩ | exact ⟨rfl, rfl, rfl⟩)
      try simp only [recO, Bool.false_eq_true, if_false, List.append_assoc, List.cons_append, List.nil_append]
  · obtain rfl : i = l.length := by omega
    repeat' first
      | with_reducible refine AR.seq ?_
      | ((first | with_reducible refine AR.reg ?_ | with_reducible refine AR.skip ?_ | with_reducible refine AR.exit ?_ | ((with_reducible show pcall _ 119 _ _ _ _); refine pcall_of (ref_put _ _ _) rfl f119_fn (by first | rfl | exact getS_ok _ _ _) ?_)); try simp (maxSteps := 2000000) (disch := first | assumption | omega | (simp only [bool_to_prop]; first | done | omega)) only [go_sem])
      | ((with_reducible refine AR.ret ?_); try simp only [thn_r, blk_r])
      | with_reducible refine AR.block ?_
      | ((with_reducible refine And.intro ?_ ?_); · (first | omega | (simp only [bool_to_prop]; first | done | omega) | (simp (maxSteps := 2000000) (disch := first | assumption | omega | (simp only [bool_to_prop]; first | done | omega)) only [go_sem]; first | done | omega)))
      | ((with_reducible refine AR.cond_t ?_ ?_); · simp (maxSteps := 2000000) (disch := first | assumption | omega | (simp only [bool_to_prop]; first | done | omega)) only [go_sem])
      | ((with_reducible refine AR.cond_f ?_ ?_); · simp (maxSteps := 2000000) (disch := first | assumption | omega | (simp only [bool_to_prop]; first | done | omega)) only [go_sem])
    refine fin_r _ (by simp (maxSteps := 2000000) (disch := first | assumption | omega | (simp only [bool_to_prop]; first | done | omega)) only [resV, rvs, rv1, go_sem]; rfl) rfl ⟨?_, rfl⟩
    rfl

theorem ref_size (a : BitVec 64) (l : List Old) (hl : l.length ≤ 1000) (hd : ∀ o ∈ l, o.dl.length ≤ 140737488355328) (H : Heap) : ACalls Try.prog 67 [.g [c64 a, .s 6 (l.map Old.cells) none]] H (fun v H' => v = I .i64 (usize l) ∧ H' = H) := by
  have hu := usize_le l hd
  have ht := textU_len l
  refine fn_sound' mixed f67_at F67_ok ⟨rfl, by decide, rfl⟩ ?_
  dsimp only [F67, k67, num]
  repeat' first
    | with_reducible refine AR.seq ?_
    | ((first | with_reducible refine AR.reg ?_ | with_reducible refine AR.skip ?_ | with_reducible refine AR.exit ?_ | ((with_reducible show pcall _ 121 _ _ _ _); refine pcall_of (ref_text _ _ (by first | assumption | omega | (simp only [bool_to_prop]; first | done | omega)) (by assumption) _) rfl f121_fn (by first | rfl | exact getS_ok _ _ _) ?_)); try simp (maxSteps := 2000000) (disch := first | assumption | omega | (simp only [bool_to_prop]; first | done | omega)) only [go_sem])
    | ((with_reducible refine AR.ret ?_); try simp only [thn_r, blk_r])
    | with_reducible refine AR.block ?_
    | ((with_reducible refine And.intro ?_ ?_); · (first | omega | (simp only [bool_to_prop]; first | done | omega) | (simp (maxSteps := 2000000) (disch := first | assumption | omega | (simp only [bool_to_prop]; first | done | omega)) only [go_sem]; first | done | omega)))
    | ((with_reducible refine AR.cond_t ?_ ?_); · simp (maxSteps := 2000000) (disch := first | assumption | omega | (simp only [bool_to_prop]; first | done | omega)) only [go_sem])
    | ((with_reducible refine AR.cond_f ?_ ?_); · simp (maxSteps := 2000000) (disch := first | assumption | omega | (simp only [bool_to_prop]; first | done | omega)) only [go_sem])
  refine fin_r _ (by simp (maxSteps := 2000000) (disch := first | assumption | omega | (simp only [bool_to_prop]; first | done | omega)) only [resV, rvs, rv1, go_sem]; rfl) rfl ⟨?_, rfl⟩
  have e : (15 : Int) + ((textU l).length : Int) = (usize l : Int) := by omega
  first | (rw [e]) | exact congrArg (I .i64) e

theorem ref_may (a : BitVec 64) (l : List Old) (hm : l.length ≤ maxLen) (H : Heap) : ACalls Try.prog 120 [.g [c64 a, .s 6 (l.map Old.cells) none]] H (fun v H' => v = B (decide (mayU l)) ∧ H' = H) := by
  have hm' : l.length ≤ 9223372036854775807 := hm
  refine fn_sound' mixed f120_at F120_ok ⟨rfl, by decide, rfl⟩ ?_
  dsimp only [F120, k120, num]
  by_cases h15 : 15 < l.length
  · repeat' first
      | with_reducible refine AR.seq ?_
      | ((first | with_reducible refine AR.reg ?_ | with_reducible refine AR.skip ?_ | with_reducible refine AR.exit ?_ | ((with_reducible show pcall _ 67 _ _ _ _); refine pcall_of (ref_size _ _ (by first | assumption | omega | (simp only [bool_to_prop]; first | done | omega)) (by assumption) _) rfl f67_fn (by first | rfl | exact getS_ok _ _ _) ?_)); try simp (maxSteps := 2000000) (disch := first | assumption | omega | (simp only [bool_to_prop]; first | done | omega)) only [go_sem])
      | ((with_reducible refine AR.ret ?_); try simp only [thn_r, blk_r])
      | with_reducible refine AR.block ?_
      | ((with_reducible refine And.intro ?_ ?_); · (first | omega | (simp only [bool_to_prop]; first | done | omega) | (simp (maxSteps := 2000000) (disch := first | assumption | omega | (simp only [bool_to_prop]; first | done | omega)) only [go_sem]; first | done | omega)))
      | ((with_reducible refine AR.cond_t ?_ ?_); · simp (maxSteps := 2000000) (disch := first | assumption | omega | (simp only [bool_to_prop]; first | done | omega)) only [go_sem])
      | ((with_reducible refine AR.cond_f ?_ ?_); · simp (maxSteps := 2000000) (disch := first | assumption | omega | (simp only [bool_to_prop]; first | done | omega)) only [go_sem])
    refine fin_r _ (by simp (maxSteps := 2000000) (disch := first | assumption | omega | (simp only [bool_to_prop]; first | done | omega)) only [resV, rvs, rv1, go_sem]; rfl) rfl ⟨?_, rfl⟩
    rw [decide_eq_false (may_no15 h15)]
  repeat' first
    | with_reducible refine AR.seq ?_
    | ((first | with_reducible refine AR.reg ?_ | with_reducible refine AR.skip ?_ | with_reducible refine AR.exit ?_ | ((with_reducible show pcall _ 67 _ _ _ _); refine pcall_of (ref_size _ _ (by first | assumption | omega | (simp only [bool_to_prop]; first | done | omega)) (by assumption) _) rfl f67_fn (by first | rfl | exact getS_ok _ _ _) ?_)); try simp (maxSteps := 2000000) (disch := first | assumption | omega | (simp only [bool_to_prop]; first | done | omega)) only [go_sem])
    | ((with_reducible refine AR.ret ?_); try simp only [thn_r, blk_r])
    | with_reducible refine AR.block ?_
    | ((with_reducible refine And.intro ?_ ?_); · (first | omega | (simp only [bool_to_prop]; first | done | omega) | (simp (maxSteps := 2000000) (disch := first | assumption | omega | (simp only [bool_to_prop]; first | done | omega)) only [go_sem]; first | done | omega)))
    | ((with_reducible refine AR.cond_t ?_ ?_); · simp (maxSteps := 2000000) (disch := first | assumption | omega | (simp only [bool_to_prop]; first | done | omega)) only [go_sem])
    | ((with_reducible refine AR.cond_f ?_ ?_); · simp (maxSteps := 2000000) (disch := first | assumption | omega | (simp only [bool_to_prop]; first | done | omega)) only [go_sem])
  refine AR.loopS (σ := Nat) (fun i => ⟨mk [(1, .lp 1 0), (3, I .i64 l.length), (4, I .i64 i)], mk [(1, [c64 a, .s 6 (l.map Old.cells) none])], H⟩) (fun i => i ≤ l.length ∧ (∀ o ∈ l.take i, wfO o) ∧ (i = l.length → l.length = 0 ∨ ∃ o, l[l.length - 1]? = some o ∧ o.live = true)) (fun i => l.length - i) (0) ?_ ?_ ?_
  refine Wk.lists _ _ ?_ ?_ ?_
  all_goals try (first | exact trivial | (simp (maxSteps := 2000000) (disch := first | assumption | omega | (simp only [bool_to_prop]; first | done | omega)) only [List.take_zero, List.foldl_nil, List.nil_append, List.append_nil, List.replicate_zero, Nat.sub_zero, Nat.sub_self, Nat.mul_zero, le_0, it_0, sub_0, keeps_cons, keeps_nil, keepl_cons, keepl_nil, scopes_c, scopes_g, scopes_u, scopes_ep, scopes_lp, scopes_lw, scopes_nil, mk_cons, mk_nil, upd, Nat.reduceEqDiff, ↓reduceIte, and_self, and_true, true_and, ne_eq, reduceCtorEq, not_false_eq_true, Int.natCast_add, Int.natCast_one, Int.cast_ofNat_Int, Option.some.injEq, AV.c.injEq, AV.g.injEq, map_inj_b8, c64_inj, c32_inj, c16_inj, b8_inj, CV.p.injEq, Value.int.injEq, Value.string.injEq, AV.lp.injEq, AV.lw.injEq, List.cons.injEq]; done) | omega)
  all_goals try (simp (maxSteps := 2000000) (disch := first | assumption | omega | (simp only [bool_to_prop]; first | done | omega)) only [List.take_zero, List.foldl_nil, List.nil_append, List.append_nil, List.replicate_zero, Nat.sub_zero, Nat.sub_self, Nat.mul_zero, le_0, it_0, sub_0, keeps_cons, keeps_nil, keepl_cons, keepl_nil, scopes_c, scopes_g, scopes_u, scopes_ep, scopes_lp, scopes_lw, scopes_nil, mk_cons, mk_nil, upd, Nat.reduceEqDiff, ↓reduceIte, and_self, and_true, true_and, ne_eq, reduceCtorEq, not_false_eq_true, Int.natCast_add, Int.natCast_one, Int.cast_ofNat_Int, Option.some.injEq, AV.c.injEq, AV.g.injEq, map_inj_b8, c64_inj, c32_inj, c16_inj, b8_inj, CV.p.injEq, Value.int.injEq, Value.string.injEq, AV.lp.injEq, AV.lw.injEq, List.cons.injEq])
  all_goals try omega
  all_goals try with_reducible (first | rfl | exact ⟨rfl, rfl⟩ | exact ⟨rfl, rfl, rfl⟩)
  · exact ⟨by omega, by simp, fun h => .inl h.symm⟩
  rintro i ⟨hi, hw, hlv⟩
  by_cases hlt : i < l.length
  · obtain ⟨o, hio⟩ : ∃ o, l[i]? = some o := ⟨_, List.getElem?_eq_getElem hlt⟩
    have hn := fun h => may_no (o := o) i hio h
    have hw' := fun h => wf_take (o := o) i hio hw h
    clear hw hlv
    obtain ⟨lv, pn, ts, np, ns, dl⟩ := o
    cases lv with
    | true =>
      by_cases hd : 66 < dl.length
      · repeat' first
          | with_reducible refine AR.seq ?_
          | ((first | with_reducible refine AR.reg ?_ | with_reducible refine AR.skip ?_ | with_reducible refine AR.exit ?_ | ((with_reducible show pcall _ 67 _ _ _ _); refine pcall_of (ref_size _ _ (by first | assumption | omega | (simp only [bool_to_prop]; first | done | omega)) (by assumption) _) rfl f67_fn (by first | rfl | exact getS_ok _ _ _) ?_)); try simp (maxSteps := 2000000) (disch := first | assumption | omega | (simp only [bool_to_prop]; first | done | omega)) only [go_sem, hio, List.getElem?_map])
          | ((with_reducible refine AR.ret ?_); try simp only [thn_r, blk_r])
          | with_reducible refine AR.block ?_
          | ((with_reducible refine And.intro ?_ ?_); · (first | omega | (simp only [bool_to_prop]; first | done | omega) | (simp (maxSteps := 2000000) (disch := first | assumption | omega | (simp only [bool_to_prop]; first | done | omega)) only [go_sem, hio, List.getElem?_map]; first | done | omega)))
          | ((with_reducible refine AR.cond_t ?_ ?_); · simp (maxSteps := 2000000) (disch := first | assumption | omega | (simp only [bool_to_prop]; first | done | omega)) only [go_sem, hio, List.getElem?_map])
          | ((with_reducible refine AR.cond_f ?_ ?_); · simp (maxSteps := 2000000) (disch := first | assumption | omega | (simp only [bool_to_prop]; first | done | omega)) only [go_sem, hio, List.getElem?_map])
        refine fin_r _ (by simp (maxSteps := 2000000) (disch := first | assumption | omega | (simp only [bool_to_prop]; first | done | omega)) only [resV, rvs, rv1, go_sem]; rfl) rfl ⟨?_, rfl⟩
        rw [decide_eq_false (hn fun h => by have : dl.length ≤ 66 := h.2; omega)]
      · repeat' first
          | with_reducible refine AR.seq ?_
          | ((first | with_reducible refine AR.reg ?_ | with_reducible refine AR.skip ?_ | with_reducible refine AR.exit ?_ | ((with_reducible show pcall _ 67 _ _ _ _); refine pcall_of (ref_size _ _ (by first | assumption | omega | (simp only [bool_to_prop]; first | done | omega)) (by assumption) _) rfl f67_fn (by first | rfl | exact getS_ok _ _ _) ?_)); try simp (maxSteps := 2000000) (disch := first | assumption | omega | (simp only [bool_to_prop]; first | done | omega)) only [go_sem, hio, List.getElem?_map])
          | ((with_reducible refine AR.ret ?_); try simp only [thn_r, blk_r])
          | with_reducible refine AR.block ?_
          | ((with_reducible refine And.intro ?_ ?_); · (first | omega | (simp only [bool_to_prop]; first | done | omega) | (simp (maxSteps := 2000000) (disch := first | assumption | omega | (simp only [bool_to_prop]; first | done | omega)) only [go_sem, hio, List.getElem?_map]; first | done | omega)))
          | ((with_reducible refine AR.cond_t ?_ ?_); · simp (maxSteps := 2000000) (disch := first | assumption | omega | (simp only [bool_to_prop]; first | done | omega)) only [go_sem, hio, List.getElem?_map])
          | ((with_reducible refine AR.cond_f ?_ ?_); · simp (maxSteps := 2000000) (disch := first | assumption | omega | (simp only [bool_to_prop]; first | done | omega)) only [go_sem, hio, List.getElem?_map])
        refine ⟨i + 1, Wk.lists _ _ ?_ ?_ ?_, ?_, ?_⟩
        all_goals try (first | exact trivial | (simp (maxSteps := 2000000) (disch := first | assumption | omega | (simp only [bool_to_prop]; first | done | omega)) only [List.take_zero, List.foldl_nil, List.nil_append, List.append_nil, List.replicate_zero, Nat.sub_zero, Nat.sub_self, Nat.mul_zero, le_0, it_0, sub_0, keeps_cons, keeps_nil, keepl_cons, keepl_nil, scopes_c, scopes_g, scopes_u, scopes_ep, scopes_lp, scopes_lw, scopes_nil, mk_cons, mk_nil, upd, Nat.reduceEqDiff, ↓reduceIte, and_self, and_true, true_and, ne_eq, reduceCtorEq, not_false_eq_true, Int.natCast_add, Int.natCast_one, Int.cast_ofNat_Int, Option.some.injEq, AV.c.injEq, AV.g.injEq, map_inj_b8, c64_inj, c32_inj, c16_inj, b8_inj, CV.p.injEq, Value.int.injEq, Value.string.injEq, AV.lp.injEq, AV.lw.injEq, List.cons.injEq]; done) | omega)
        all_goals try (simp (maxSteps := 2000000) (disch := first | assumption | omega | (simp only [bool_to_prop]; first | done | omega)) only [List.take_zero, List.foldl_nil, List.nil_append, List.append_nil, List.replicate_zero, Nat.sub_zero, Nat.sub_self, Nat.mul_zero, le_0, it_0, sub_0, keeps_cons, keeps_nil, keepl_cons, keepl_nil, scopes_c, scopes_g, scopes_u, scopes_ep, scopes_lp, scopes_lw, scopes_nil, mk_cons, mk_nil, upd, Nat.reduceEqDiff, ↓reduceIte, and_self, and_true, true_and, ne_eq, reduceCtorEq, not_false_eq_true, Int.natCast_add, Int.natCast_one, Int.cast_ofNat_Int, Option.some.injEq, AV.c.injEq, AV.g.injEq, map_inj_b8, c64_inj, c32_inj, c16_inj, b8_inj, CV.p.injEq, Value.int.injEq, Value.string.injEq, AV.lp.injEq, AV.lw.injEq, List.cons.injEq])
        all_goals try omega
        all_goals try with_reducible (first | rfl | exact ⟨rfl, rfl⟩ | exact ⟨rfl, rfl, rfl⟩)
        exact ⟨by omega, hw' ⟨fun h => Bool.noConfusion h, show dl.length ≤ 66 by omega⟩, fun h => .inr ⟨_, by rw [show l.length - 1 = i by omega]; exact hio, rfl⟩⟩
    | false =>
      by_cases hz : (⟨false, pn, ts, np, ns, dl⟩ : Old) = ⟨false, 0, 0, 0, 0, []⟩
      · by_cases hil : i = l.length - 1
        · have hnl := may_nolast (l := l) (by rw [← hil]; exact hio) rfl
          have hil' : (i : Int) = (l.length : Int) - 1 := by omega
          repeat' first
            | with_reducible refine AR.seq ?_
            | ((first | with_reducible refine AR.reg ?_ | with_reducible refine AR.skip ?_ | with_reducible refine AR.exit ?_ | ((with_reducible show pcall _ 67 _ _ _ _); refine pcall_of (ref_size _ _ (by first | assumption | omega | (simp only [bool_to_prop]; first | done | omega)) (by assumption) _) rfl f67_fn (by first | rfl | exact getS_ok _ _ _) ?_)); try simp (maxSteps := 2000000) (disch := first | assumption | omega | (simp only [bool_to_prop]; first | done | omega)) only [go_sem, hio, List.getElem?_map])
            | ((with_reducible refine AR.ret ?_); try simp only [thn_r, blk_r])
            | with_reducible refine AR.block ?_
            | ((with_reducible refine And.intro ?_ ?_); · (first | omega | (simp only [bool_to_prop]; first | done | omega) | (simp (maxSteps := 2000000) (disch := first | assumption | omega | (simp only [bool_to_prop]; first | done | omega)) only [go_sem, hio, List.getElem?_map]; first | done | omega)))
            | ((with_reducible refine AR.cond_t ?_ ?_); · simp (maxSteps := 2000000) (disch := first | assumption | omega | (simp only [bool_to_prop]; first | done | omega)) only [go_sem, hio, List.getElem?_map])
            | ((with_reducible refine AR.cond_f ?_ ?_); · simp (maxSteps := 2000000) (disch := first | assumption | omega | (simp only [bool_to_prop]; first | done | omega)) only [go_sem, hio, List.getElem?_map])
          refine fin_r _ (by simp (maxSteps := 2000000) (disch := first | assumption | omega | (simp only [bool_to_prop]; first | done | omega)) only [resV, rvs, rv1, go_sem]; rfl) rfl ⟨?_, rfl⟩
          first | rfl | (rw [decide_eq_false hnl])
        · have hdl : dl = [] := congrArg Old.dl hz
          have hdz : dl.length = 0 := by rw [hdl]; rfl
          have hil' : ¬ (i : Int) = (l.length : Int) - 1 := by omega
          repeat' first
            | with_reducible refine AR.seq ?_
            | ((first | with_reducible refine AR.reg ?_ | with_reducible refine AR.skip ?_ | with_reducible refine AR.exit ?_ | ((with_reducible show pcall _ 67 _ _ _ _); refine pcall_of (ref_size _ _ (by first | assumption | omega | (simp only [bool_to_prop]; first | done | omega)) (by assumption) _) rfl f67_fn (by first | rfl | exact getS_ok _ _ _) ?_)); try simp (maxSteps := 2000000) (disch := first | assumption | omega | (simp only [bool_to_prop]; first | done | omega)) only [go_sem, hio, List.getElem?_map, hz])
            | ((with_reducible refine AR.ret ?_); try simp only [thn_r, blk_r])
            | with_reducible refine AR.block ?_
            | ((with_reducible refine And.intro ?_ ?_); · (first | omega | (simp only [bool_to_prop]; first | done | omega) | (simp (maxSteps := 2000000) (disch := first | assumption | omega | (simp only [bool_to_prop]; first | done | omega)) only [go_sem, hio, List.getElem?_map, hz]; first | done | omega)))
            | ((with_reducible refine AR.cond_t ?_ ?_); · simp (maxSteps := 2000000) (disch := first | assumption | omega | (simp only [bool_to_prop]; first | done | omega)) only [go_sem, hio, List.getElem?_map, hz])
            | ((with_reducible refine AR.cond_f ?_ ?_); · simp (maxSteps := 2000000) (disch := first | assumption | omega | (simp only [bool_to_prop]; first | done | omega)) only [go_sem, hio, List.getElem?_map, hz])
          refine ⟨i + 1, Wk.lists _ _ ?_ ?_ ?_, ?_, ?_⟩
          all_goals try (first | exact trivial | (simp (maxSteps := 2000000) (disch := first | assumption | omega | (simp only [bool_to_prop]; first | done | omega)) only [List.take_zero, List.foldl_nil, List.nil_append, List.append_nil, List.replicate_zero, Nat.sub_zero, Nat.sub_self, Nat.mul_zero, le_0, it_0, sub_0, keeps_cons, keeps_nil, keepl_cons, keepl_nil, scopes_c, scopes_g, scopes_u, scopes_ep, scopes_lp, scopes_lw, scopes_nil, mk_cons, mk_nil, upd, Nat.reduceEqDiff, ↓reduceIte, and_self, and_true, true_and, ne_eq, reduceCtorEq, not_false_eq_true, Int.natCast_add, Int.natCast_one, Int.cast_ofNat_Int, Option.some.injEq, AV.c.injEq, AV.g.injEq, map_inj_b8, c64_inj, c32_inj, c16_inj, b8_inj, CV.p.injEq, Value.int.injEq, Value.string.injEq, AV.lp.injEq, AV.lw.injEq, List.cons.injEq]; done) | omega)
          all_goals try (simp (maxSteps := 2000000) (disch := first | assumption | omega | (simp only [bool_to_prop]; first | done | omega)) only [List.take_zero, List.foldl_nil, List.nil_append, List.append_nil, List.replicate_zero, Nat.sub_zero, Nat.sub_self, Nat.mul_zero, le_0, it_0, sub_0, keeps_cons, keeps_nil, keepl_cons, keepl_nil, scopes_c, scopes_g, scopes_u, scopes_ep, scopes_lp, scopes_lw, scopes_nil, mk_cons, mk_nil, upd, Nat.reduceEqDiff, ↓reduceIte, and_self, and_true, true_and, ne_eq, reduceCtorEq, not_false_eq_true, Int.natCast_add, Int.natCast_one, Int.cast_ofNat_Int, Option.some.injEq, AV.c.injEq, AV.g.injEq, map_inj_b8, c64_inj, c32_inj, c16_inj, b8_inj, CV.p.injEq, Value.int.injEq, Value.string.injEq, AV.lp.injEq, AV.lw.injEq, List.cons.injEq])
          all_goals try omega
          all_goals try with_reducible (first | rfl | exact ⟨rfl, rfl⟩ | exact ⟨rfl, rfl, rfl⟩)
          exact ⟨by omega, hw' ⟨fun _ => hz, show dl.length ≤ 66 by omega⟩, fun h => absurd (show i = l.length - 1 by omega) hil⟩
      · by_cases hil : i = l.length - 1
        · have hnl := may_nolast (l := l) (by rw [← hil]; exact hio) rfl
          have hil' : (i : Int) = (l.length : Int) - 1 := by omega
          repeat' first
            | with_reducible refine AR.seq ?_
            | ((first | with_reducible refine AR.reg ?_ | with_reducible refine AR.skip ?_ | with_reducible refine AR.exit ?_ | ((with_reducible show pcall _ 67 _ _ _ _); refine pcall_of (ref_size _ _ (by first | assumption | omega | (simp only [bool_to_prop]; first | done | omega)) (by assumption) _) rfl f67_fn (by first | rfl | exact getS_ok _ _ _) ?_)); try simp (maxSteps := 2000000) (disch := first | assumption | omega | (simp only [bool_to_prop]; first | done | omega)) only [go_sem, hio, List.getElem?_map])
            | ((with_reducible refine AR.ret ?_); try simp only [thn_r, blk_r])
            | with_reducible refine AR.block ?_
            | ((with_reducible refine And.intro ?_ ?_); · (first | omega | (simp only [bool_to_prop]; first | done | omega) | (simp (maxSteps := 2000000) (disch := first | assumption | omega | (simp only [bool_to_prop]; first | done | omega)) only [go_sem, hio, List.getElem?_map]; first | done | omega)))
            | ((with_reducible refine AR.cond_t ?_ ?_); · simp (maxSteps := 2000000) (disch := first | assumption | omega | (simp only [bool_to_prop]; first | done | omega)) only [go_sem, hio, List.getElem?_map])
            | ((with_reducible refine AR.cond_f ?_ ?_); · simp (maxSteps := 2000000) (disch := first | assumption | omega | (simp only [bool_to_prop]; first | done | omega)) only [go_sem, hio, List.getElem?_map])
          refine fin_r _ (by simp (maxSteps := 2000000) (disch := first | assumption | omega | (simp only [bool_to_prop]; first | done | omega)) only [resV, rvs, rv1, go_sem]; rfl) rfl ⟨?_, rfl⟩
          first | rfl | (rw [decide_eq_false hnl])
        · have hil' : ¬ (i : Int) = (l.length : Int) - 1 := by omega
          repeat' first
            | with_reducible refine AR.seq ?_
            | ((first | with_reducible refine AR.reg ?_ | with_reducible refine AR.skip ?_ | with_reducible refine AR.exit ?_ | ((with_reducible show pcall _ 67 _ _ _ _); refine pcall_of (ref_size _ _ (by first | assumption | omega | (simp only [bool_to_prop]; first | done | omega)) (by assumption) _) rfl f67_fn (by first | rfl | exact getS_ok _ _ _) ?_)); try simp (maxSteps := 2000000) (disch := first | assumption | omega | (simp only [bool_to_prop]; first | done | omega)) only [go_sem, hio, List.getElem?_map, hz])
            | ((with_reducible refine AR.ret ?_); try simp only [thn_r, blk_r])
            | with_reducible refine AR.block ?_
            | ((with_reducible refine And.intro ?_ ?_); · (first | omega | (simp only [bool_to_prop]; first | done | omega) | (simp (maxSteps := 2000000) (disch := first | assumption | omega | (simp only [bool_to_prop]; first | done | omega)) only [go_sem, hio, List.getElem?_map, hz]; first | done | omega)))
            | ((with_reducible refine AR.cond_t ?_ ?_); · simp (maxSteps := 2000000) (disch := first | assumption | omega | (simp only [bool_to_prop]; first | done | omega)) only [go_sem, hio, List.getElem?_map, hz])
            | ((with_reducible refine AR.cond_f ?_ ?_); · simp (maxSteps := 2000000) (disch := first | assumption | omega | (simp only [bool_to_prop]; first | done | omega)) only [go_sem, hio, List.getElem?_map, hz])
          refine fin_r _ (by simp (maxSteps := 2000000) (disch := first | assumption | omega | (simp only [bool_to_prop]; first | done | omega)) only [resV, rvs, rv1, go_sem]; rfl) rfl ⟨?_, rfl⟩
          rw [decide_eq_false (hn fun h => hz (h.1 rfl))]
  · obtain rfl : i = l.length := by omega
    rw [List.take_length] at hw
    have hyes := may_yes h15 (hlv rfl) hw
    have hdd : ∀ o ∈ l, o.dl.length ≤ 140737488355328 := fun o ho => by have := (hw o ho).2; omega
    clear hlv
    repeat' first
      | with_reducible refine AR.seq ?_
      | ((first | with_reducible refine AR.reg ?_ | with_reducible refine AR.skip ?_ | with_reducible refine AR.exit ?_ | ((with_reducible show pcall _ 67 _ _ _ _); refine pcall_of (ref_size _ _ (by first | assumption | omega | (simp only [bool_to_prop]; first | done | omega)) (by assumption) _) rfl f67_fn (by first | rfl | exact getS_ok _ _ _) ?_)); try simp (maxSteps := 2000000) (disch := first | assumption | omega | (simp only [bool_to_prop]; first | done | omega)) only [go_sem])
      | ((with_reducible refine AR.ret ?_); try simp only [thn_r, blk_r])
      | with_reducible refine AR.block ?_
      | ((with_reducible refine And.intro ?_ ?_); · (first | omega | (simp only [bool_to_prop]; first | done | omega) | (simp (maxSteps := 2000000) (disch := first | assumption | omega | (simp only [bool_to_prop]; first | done | omega)) only [go_sem]; first | done | omega)))
      | ((with_reducible refine AR.cond_t ?_ ?_); · simp (maxSteps := 2000000) (disch := first | assumption | omega | (simp only [bool_to_prop]; first | done | omega)) only [go_sem])
      | ((with_reducible refine AR.cond_f ?_ ?_); · simp (maxSteps := 2000000) (disch := first | assumption | omega | (simp only [bool_to_prop]; first | done | omega)) only [go_sem])
    refine fin_r _ (by simp (maxSteps := 2000000) (disch := first | assumption | omega | (simp only [bool_to_prop]; first | done | omega)) only [resV, rvs, rv1, go_sem]; rfl) rfl ⟨?_, rfl⟩
    have e : decide ((usize l : Int) ≤ 224) = decide (mayU l) := decide_eq_decide.2 ⟨fun h => hyes.2 (by omega), fun h => by have := hyes.1 h; omega⟩
    first | exact congrArg B e | (rw [e])
end Go.Eng
set_option linter.unusedSimpArgs false
set_option linter.unusedVariables false
set_option maxRecDepth 100000
-- LEN: sealL, putD, restD, pg_len, gd_len, PD.cells_len, recO_len, recs_len
namespace Go.Eng
open Go.Proofs
attribute [bool_to_prop] recO_len recs_len

theorem over_grow (A m : List UInt8) (at_ k : Nat) (h : A.length = at_) (hm : m.length ≤ k) : over (A ++ List.replicate k 0) at_ m = (A ++ m) ++ List.replicate (k - m.length) 0 := by
  rw [over_r _ _ _ _ (by omega), show at_ - A.length = 0 by omega, over_rep _ _ _ _ (by omega)]
  simp

theorem usize_mono (l : List Old) (i : Nat) : usize (l.take i) ≤ usize l := by
  have h1 : l = l.take i ++ l.drop i := (List.take_append_drop i l).symm
  have h2 : usize l = usize (l.take i) + ((l.drop i).map osize).sum := by
    conv => lhs; rw [h1]
    simp only [usize, List.map_append, List.sum_append]; omega
  omega

/-- What stands in a payload when some records are written. -/
def wr (l : List Old) (i : Nat) : List UInt8 := (List.replicate 15 0 ++ (UInt8.ofNat l.length :: recs (l.take i))) ++ List.replicate (224 - usize (l.take i)) 0
theorem wr_len (l : List Old) (i : Nat) (h : usize l ≤ 224) : (wr l i).length = 224 := by
  have := usize_mono l i
  have h2 : usize (l.take i) = 16 + (recs (l.take i)).length := by rw [recs_len]; rfl
  simp only [wr, List.length_append, List.length_replicate, List.length_cons]; omega
theorem wr_step (l : List Old) (i : Nat) (o : Old) (ho : l[i]? = some o) (h : usize l ≤ 224) : over (wr l i) (usize (l.take i)) (recO o) = wr l (i + 1) := by
  have h1 := usize_take l i o ho
  have h2 := usize_mono l (i + 1)
  have h3 : usize (l.take i) = 16 + (recs (l.take i)).length := by rw [recs_len]; rfl
  have h4 := recO_len o
  unfold wr
  rw [over_grow _ _ _ _ (by simp only [List.length_append, List.length_replicate, List.length_cons]; omega) (by omega), recs_take l i o ho, h1, h4]
  simp only [List.append_assoc, List.cons_append]
  congr 5
  omega
theorem wr_end (no : BitVec 16) (a : BitVec 64) (l : List Old) (h : usize l ≤ 224) : sealL 2 no a (wr l l.length) = putU no ⟨a, l⟩ := by
  have h3 : usize l = 16 + (recs l).length := by rw [recs_len]; rfl
  rw [seal_pg _ _ _ _ (by rw [wr_len _ _ h]; decide)]
  simp only [putU, wr, List.take_length]
  congr 1
  rw [List.append_assoc, List.drop_left' (by simp)]
  simp only [restU, textU, List.cons_append, List.length_cons]
  congr 3
  omega

theorem page_putUndo (no : BitVec 16) (a : BitVec 64) (l : List Old) (hm : l.length ≤ maxLen) (H : Heap) : ACalls Try.prog 60 [.c (c16 no), .g [c64 a, .s 6 (l.map Old.cells) none]] H (fun v H' => v = .t [.g ((if mayU l then putU no ⟨a, l⟩ else List.replicate 224 0).map b8), I .i64 (if mayU l then 0 else 1)] ∧ H' = H) := by
  have hm' : l.length ≤ 9223372036854775807 := hm
  refine fn_sound' mixed f60_at F60_ok ⟨rfl, by decide, rfl⟩ ?_
  dsimp only [F60, k60, num]
  by_cases h : mayU l
  · have hu := h.2.2.2
    have h15 := h.1
    have hwf := h.2.2.1
    repeat' first
      | with_reducible refine AR.seq ?_
      | ((first | with_reducible refine AR.reg ?_ | with_reducible refine AR.skip ?_ | with_reducible refine AR.exit ?_ | ((with_reducible show pcall _ 104 _ _ _ _); refine pcall_of (word_put _ _ _) rfl f104_fn (by first | rfl | exact getS_ok _ _ _) ?_) | ((with_reducible show pcall _ 117 _ _ _ _); refine pcall_of (page_seal _ _ _ _ (by first | assumption | omega | (simp only [bool_to_prop]; first | done | omega)) _) rfl f117_fn (by first | rfl | exact getS_ok _ _ _) ?_) | ((with_reducible show pcall _ 65 _ _ _ _); refine pcall_of (page_may _ _ (by first | assumption | omega | (simp only [bool_to_prop]; first | done | omega)) _) rfl f65_fn (by first | rfl | exact getS_ok _ _ _) ?_)); try simp (maxSteps := 2000000) (disch := first | assumption | omega | (simp only [bool_to_prop]; first | done | omega)) only [go_sem])
      | ((with_reducible refine AR.ret ?_); try simp only [thn_r, blk_r])
      | with_reducible refine AR.block ?_
      | ((with_reducible refine And.intro ?_ ?_); · (first | omega | (simp only [bool_to_prop]; first | done | omega) | (simp (maxSteps := 2000000) (disch := first | assumption | omega | (simp only [bool_to_prop]; first | done | omega)) only [go_sem]; first | done | omega)))
      | ((with_reducible refine AR.cond_t ?_ ?_); · simp (maxSteps := 2000000) (disch := first | assumption | omega | (simp only [bool_to_prop]; first | done | omega)) only [go_sem])
      | ((with_reducible refine AR.cond_f ?_ ?_); · simp (maxSteps := 2000000) (disch := first | assumption | omega | (simp only [bool_to_prop]; first | done | omega)) only [go_sem])
    refine AR.loopS (σ := Nat) (fun i => ⟨mk [(0, .c (c16 no)), (3, .lp 3 0), (4, .lp 4 0), (6, .lp 6 0), (7, I .i64 (usize (l.take i))), (21, .c (.s 6 (l.map Old.cells) none)), (22, I .i64 l.length), (23, I .i64 i)], mk [(3, [c64 a, .s 6 (l.map Old.cells) none]), (4, (List.replicate 224 (0 : UInt8)).map b8), (6, (wr l i).map b8)], H⟩) (fun i => i ≤ l.length) (fun i => l.length - i) (0) ?_ ?_ ?_
    refine Wk.lists _ _ ?_ ?_ ?_
    all_goals try (first | exact trivial | (simp (maxSteps := 2000000) (disch := first | assumption | omega | (simp only [bool_to_prop]; first | done | omega)) only [List.take_zero, List.foldl_nil, List.nil_append, List.append_nil, List.replicate_zero, Nat.sub_zero, Nat.sub_self, Nat.mul_zero, le_0, it_0, sub_0, keeps_cons, keeps_nil, keepl_cons, keepl_nil, scopes_c, scopes_g, scopes_u, scopes_ep, scopes_lp, scopes_lw, scopes_nil, mk_cons, mk_nil, upd, Nat.reduceEqDiff, ↓reduceIte, and_self, and_true, true_and, ne_eq, reduceCtorEq, not_false_eq_true, Int.natCast_add, Int.natCast_one, Int.cast_ofNat_Int, Option.some.injEq, AV.c.injEq, AV.g.injEq, map_inj_b8, c64_inj, c32_inj, c16_inj, b8_inj, CV.p.injEq, Value.int.injEq, Value.string.injEq, AV.lp.injEq, AV.lw.injEq, List.cons.injEq]; done) | omega)
    all_goals try (simp (maxSteps := 2000000) (disch := first | assumption | omega | (simp only [bool_to_prop]; first | done | omega)) only [List.take_zero, List.foldl_nil, List.nil_append, List.append_nil, List.replicate_zero, Nat.sub_zero, Nat.sub_self, Nat.mul_zero, le_0, it_0, sub_0, keeps_cons, keeps_nil, keepl_cons, keepl_nil, scopes_c, scopes_g, scopes_u, scopes_ep, scopes_lp, scopes_lw, scopes_nil, mk_cons, mk_nil, upd, Nat.reduceEqDiff, ↓reduceIte, and_self, and_true, true_and, ne_eq, reduceCtorEq, not_false_eq_true, Int.natCast_add, Int.natCast_one, Int.cast_ofNat_Int, Option.some.injEq, AV.c.injEq, AV.g.injEq, map_inj_b8, c64_inj, c32_inj, c16_inj, b8_inj, CV.p.injEq, Value.int.injEq, Value.string.injEq, AV.lp.injEq, AV.lw.injEq, List.cons.injEq])
    all_goals try omega
    all_goals try with_reducible (first | rfl | exact ⟨rfl, rfl⟩ | exact ⟨rfl, rfl, rfl⟩)
    · rfl
    · rw [over_rep _ _ _ _ (by simp)]
      rfl
    rintro i hi
    have hwl := wr_len l i hu
    have hmo := usize_mono l i
    by_cases hlt : i < l.length
    · obtain ⟨o, ho⟩ : ∃ o, l[i]? = some o := ⟨_, List.getElem?_eq_getElem hlt⟩
      have hs := usize_take l i o ho
      have hmo1 := usize_mono l (i + 1)
      have hst := wr_step l i o ho hu
      have hwfo := hwf o (List.mem_of_getElem? ho)
      have hdl := hwfo.2
      have hrl := recO_len o
      obtain ⟨lv, pn, ts, np, ns, dl⟩ := o
      simp only at hdl
      cases lv with
      | true =>
        rw [osize_t] at hs hrl
        repeat' first
          | with_reducible refine AR.seq ?_
          | ((first | with_reducible refine AR.reg ?_ | with_reducible refine AR.skip ?_ | with_reducible refine AR.exit ?_ | ((with_reducible show pcall _ 104 _ _ _ _); refine pcall_of (word_put _ _ _) rfl f104_fn (by first | rfl | exact getS_ok _ _ _) ?_) | ((with_reducible show pcall _ 117 _ _ _ _); refine pcall_of (page_seal _ _ _ _ (by first | assumption | omega | (simp only [bool_to_prop]; first | done | omega)) _) rfl f117_fn (by first | rfl | exact getS_ok _ _ _) ?_) | ((with_reducible show pcall _ 65 _ _ _ _); refine pcall_of (page_may _ _ (by first | assumption | omega | (simp only [bool_to_prop]; first | done | omega)) _) rfl f65_fn (by first | rfl | exact getS_ok _ _ _) ?_)); try simp (maxSteps := 2000000) (disch := first | assumption | omega | (simp only [bool_to_prop]; first | done | omega)) only [go_sem, ho, List.getElem?_map])
          | ((with_reducible refine AR.ret ?_); try simp only [thn_r, blk_r])
          | with_reducible refine AR.block ?_
          | ((with_reducible refine And.intro ?_ ?_); · (first | omega | (simp only [bool_to_prop]; first | done | omega) | (simp (maxSteps := 2000000) (disch := first | assumption | omega | (simp only [bool_to_prop]; first | done | omega)) only [go_sem, ho, List.getElem?_map]; first | done | omega)))
          | ((with_reducible refine AR.cond_t ?_ ?_); · simp (maxSteps := 2000000) (disch := first | assumption | omega | (simp only [bool_to_prop]; first | done | omega)) only [go_sem, ho, List.getElem?_map])
          | ((with_reducible refine AR.cond_f ?_ ?_); · simp (maxSteps := 2000000) (disch := first | assumption | omega | (simp only [bool_to_prop]; first | done | omega)) only [go_sem, ho, List.getElem?_map])
        refine ⟨i + 1, Wk.lists _ _ ?_ ?_ ?_, ?_, ?_⟩
        all_goals try (first | exact trivial | (simp (maxSteps := 2000000) (disch := first | assumption | omega | (simp only [bool_to_prop]; first | done | omega)) only [List.take_zero, List.foldl_nil, List.nil_append, List.append_nil, List.replicate_zero, Nat.sub_zero, Nat.sub_self, Nat.mul_zero, le_0, it_0, sub_0, keeps_cons, keeps_nil, keepl_cons, keepl_nil, scopes_c, scopes_g, scopes_u, scopes_ep, scopes_lp, scopes_lw, scopes_nil, mk_cons, mk_nil, upd, Nat.reduceEqDiff, ↓reduceIte, and_self, and_true, true_and, ne_eq, reduceCtorEq, not_false_eq_true, Int.natCast_add, Int.natCast_one, Int.cast_ofNat_Int, Option.some.injEq, AV.c.injEq, AV.g.injEq, map_inj_b8, c64_inj, c32_inj, c16_inj, b8_inj, CV.p.injEq, Value.int.injEq, Value.string.injEq, AV.lp.injEq, AV.lw.injEq, List.cons.injEq,  hs]; done) | omega)
        all_goals try (simp (maxSteps := 2000000) (disch := first | assumption | omega | (simp only [bool_to_prop]; first | done | omega)) only [List.take_zero, List.foldl_nil, List.nil_append, List.append_nil, List.replicate_zero, Nat.sub_zero, Nat.sub_self, Nat.mul_zero, le_0, it_0, sub_0, keeps_cons, keeps_nil, keepl_cons, keepl_nil, scopes_c, scopes_g, scopes_u, scopes_ep, scopes_lp, scopes_lw, scopes_nil, mk_cons, mk_nil, upd, Nat.reduceEqDiff, ↓reduceIte, and_self, and_true, true_and, ne_eq, reduceCtorEq, not_false_eq_true, Int.natCast_add, Int.natCast_one, Int.cast_ofNat_Int, Option.some.injEq, AV.c.injEq, AV.g.injEq, map_inj_b8, c64_inj, c32_inj, c16_inj, b8_inj, CV.p.injEq, Value.int.injEq, Value.string.injEq, AV.lp.injEq, AV.lw.injEq, List.cons.injEq,  hs])
        all_goals try omega
        all_goals try with_reducible (first | rfl | exact ⟨rfl, rfl⟩ | exact ⟨rfl, rfl, rfl⟩)
        rw [← hst]
        simp only [recO, if_true, List.append_assoc, List.cons_append, List.nil_append]
      | false =>
        rw [osize_f] at hs hrl
        repeat' first
          | with_reducible refine AR.seq ?_
          | ((first | with_reducible refine AR.reg ?_ | with_reducible refine AR.skip ?_ | with_reducible refine AR.exit ?_ | ((with_reducible show pcall _ 104 _ _ _ _); refine pcall_of (word_put _ _ _) rfl f104_fn (by first | rfl | exact getS_ok _ _ _) ?_) | ((with_reducible show pcall _ 117 _ _ _ _); refine pcall_of (page_seal _ _ _ _ (by first | assumption | omega | (simp only [bool_to_prop]; first | done | omega)) _) rfl f117_fn (by first | rfl | exact getS_ok _ _ _) ?_) | ((with_reducible show pcall _ 65 _ _ _ _); refine pcall_of (page_may _ _ (by first | assumption | omega | (simp only [bool_to_prop]; first | done | omega)) _) rfl f65_fn (by first | rfl | exact getS_ok _ _ _) ?_)); try simp (maxSteps := 2000000) (disch := first | assumption | omega | (simp only [bool_to_prop]; first | done | omega)) only [go_sem, ho, List.getElem?_map])
          | ((with_reducible refine AR.ret ?_); try simp only [thn_r, blk_r])
          | with_reducible refine AR.block ?_
          | ((with_reducible refine And.intro ?_ ?_); · (first | omega | (simp only [bool_to_prop]; first | done | omega) | (simp (maxSteps := 2000000) (disch := first | assumption | omega | (simp only [bool_to_prop]; first | done | omega)) only [go_sem, ho, List.getElem?_map]; first | done | omega)))
          | ((with_reducible refine AR.cond_t ?_ ?_); · simp (maxSteps := 2000000) (disch := first | assumption | omega | (simp only [bool_to_prop]; first | done | omega)) only [go_sem, ho, List.getElem?_map])
          | ((with_reducible refine AR.cond_f ?_ ?_); · simp (maxSteps := 2000000) (disch := first | assumption | omega | (simp only [bool_to_prop]; first | done | omega)) only [go_sem, ho, List.getElem?_map])
        refine ⟨i + 1, Wk.lists _ _ ?_ ?_ ?_, ?_, ?_⟩
        all_goals try (first | exact trivial | (simp (maxSteps := 2000000) (disch := first | assumption | omega | (simp only [bool_to_prop]; first | done | omega)) only [List.take_zero, List.foldl_nil, List.nil_append, List.append_nil, List.replicate_zero, Nat.sub_zero, Nat.sub_self, Nat.mul_zero, le_0, it_0, sub_0, keeps_cons, keeps_nil, keepl_cons, keepl_nil, scopes_c, scopes_g, scopes_u, scopes_ep, scopes_lp, scopes_lw, scopes_nil, mk_cons, mk_nil, upd, Nat.reduceEqDiff, ↓reduceIte, and_self, and_true, true_and, ne_eq, reduceCtorEq, not_false_eq_true, Int.natCast_add, Int.natCast_one, Int.cast_ofNat_Int, Option.some.injEq, AV.c.injEq, AV.g.injEq, map_inj_b8, c64_inj, c32_inj, c16_inj, b8_inj, CV.p.injEq, Value.int.injEq, Value.string.injEq, AV.lp.injEq, AV.lw.injEq, List.cons.injEq,  hs]; done) | omega)
        all_goals try (simp (maxSteps := 2000000) (disch := first | assumption | omega | (simp only [bool_to_prop]; first | done | omega)) only [List.take_zero, List.foldl_nil, List.nil_append, List.append_nil, List.replicate_zero, Nat.sub_zero, Nat.sub_self, Nat.mul_zero, le_0, it_0, sub_0, keeps_cons, keeps_nil, keepl_cons, keepl_nil, scopes_c, scopes_g, scopes_u, scopes_ep, scopes_lp, scopes_lw, scopes_nil, mk_cons, mk_nil, upd, Nat.reduceEqDiff, ↓reduceIte, and_self, and_true, true_and, ne_eq, reduceCtorEq, not_false_eq_true, Int.natCast_add, Int.natCast_one, Int.cast_ofNat_Int, Option.some.injEq, AV.c.injEq, AV.g.injEq, map_inj_b8, c64_inj, c32_inj, c16_inj, b8_inj, CV.p.injEq, Value.int.injEq, Value.string.injEq, AV.lp.injEq, AV.lw.injEq, List.cons.injEq,  hs])
        all_goals try omega
        all_goals try with_reducible (first | rfl | exact ⟨rfl, rfl⟩ | exact ⟨rfl, rfl, rfl⟩)
        rw [← hst]
        rfl
    · obtain rfl : i = l.length := by omega
      repeat' first
        | with_reducible refine AR.seq ?_
        | ((first | with_reducible refine AR.reg ?_ | with_reducible refine AR.skip ?_ | with_reducible refine AR.exit ?_ | ((with_reducible show pcall _ 104 _ _ _ _); refine pcall_of (word_put _ _ _) rfl f104_fn (by first | rfl | exact getS_ok _ _ _) ?_) | ((with_reducible show pcall _ 117 _ _ _ _); refine pcall_of (page_seal _ _ _ _ (by first | assumption | omega | (simp only [bool_to_prop]; first | done | omega)) _) rfl f117_fn (by first | rfl | exact getS_ok _ _ _) ?_) | ((with_reducible show pcall _ 65 _ _ _ _); refine pcall_of (page_may _ _ (by first | assumption | omega | (simp only [bool_to_prop]; first | done | omega)) _) rfl f65_fn (by first | rfl | exact getS_ok _ _ _) ?_)); try simp (maxSteps := 2000000) (disch := first | assumption | omega | (simp only [bool_to_prop]; first | done | omega)) only [go_sem])
        | ((with_reducible refine AR.ret ?_); try simp only [thn_r, blk_r])
        | with_reducible refine AR.block ?_
        | ((with_reducible refine And.intro ?_ ?_); · (first | omega | (simp only [bool_to_prop]; first | done | omega) | (simp (maxSteps := 2000000) (disch := first | assumption | omega | (simp only [bool_to_prop]; first | done | omega)) only [go_sem]; first | done | omega)))
        | ((with_reducible refine AR.cond_t ?_ ?_); · simp (maxSteps := 2000000) (disch := first | assumption | omega | (simp only [bool_to_prop]; first | done | omega)) only [go_sem])
        | ((with_reducible refine AR.cond_f ?_ ?_); · simp (maxSteps := 2000000) (disch := first | assumption | omega | (simp only [bool_to_prop]; first | done | omega)) only [go_sem])
      refine fin_r _ (by simp (maxSteps := 2000000) (disch := first | assumption | omega | (simp only [bool_to_prop]; first | done | omega)) only [resV, rvs, rv1, go_sem]; rfl) rfl ⟨?_, rfl⟩
      rw [wr_end no a l hu]
  · repeat' first
      | with_reducible refine AR.seq ?_
      | ((first | with_reducible refine AR.reg ?_ | with_reducible refine AR.skip ?_ | with_reducible refine AR.exit ?_ | ((with_reducible show pcall _ 104 _ _ _ _); refine pcall_of (word_put _ _ _) rfl f104_fn (by first | rfl | exact getS_ok _ _ _) ?_) | ((with_reducible show pcall _ 117 _ _ _ _); refine pcall_of (page_seal _ _ _ _ (by first | assumption | omega | (simp only [bool_to_prop]; first | done | omega)) _) rfl f117_fn (by first | rfl | exact getS_ok _ _ _) ?_) | ((with_reducible show pcall _ 65 _ _ _ _); refine pcall_of (page_may _ _ (by first | assumption | omega | (simp only [bool_to_prop]; first | done | omega)) _) rfl f65_fn (by first | rfl | exact getS_ok _ _ _) ?_)); try simp (maxSteps := 2000000) (disch := first | assumption | omega | (simp only [bool_to_prop]; first | done | omega)) only [go_sem])
      | ((with_reducible refine AR.ret ?_); try simp only [thn_r, blk_r])
      | with_reducible refine AR.block ?_
      | ((with_reducible refine And.intro ?_ ?_); · (first | omega | (simp only [bool_to_prop]; first | done | omega) | (simp (maxSteps := 2000000) (disch := first | assumption | omega | (simp only [bool_to_prop]; first | done | omega)) only [go_sem]; first | done | omega)))
      | ((with_reducible refine AR.cond_t ?_ ?_); · simp (maxSteps := 2000000) (disch := first | assumption | omega | (simp only [bool_to_prop]; first | done | omega)) only [go_sem])
      | ((with_reducible refine AR.cond_f ?_ ?_); · simp (maxSteps := 2000000) (disch := first | assumption | omega | (simp only [bool_to_prop]; first | done | omega)) only [go_sem])
    refine fin_r _ (by simp (maxSteps := 2000000) (disch := first | assumption | omega | (simp only [bool_to_prop]; first | done | omega)) only [resV, rvs, rv1, go_sem]; rfl) rfl ⟨?_, rfl⟩
    rfl

theorem ref_putUndo (no : BitVec 16) (a : BitVec 64) (l : List Old) (hm : l.length ≤ maxLen) (H : Heap) : ACalls Try.prog 62 [.c (c16 no), .g [c64 a, .s 6 (l.map Old.cells) none]] H (fun v H' => v = .t [.g ((if mayU l then putU no ⟨a, l⟩ else List.replicate 224 0).map b8), B (decide (mayU l))] ∧ H' = H) := by
  have hm' : l.length ≤ 9223372036854775807 := hm
  refine fn_sound' mixed f62_at F62_ok ⟨rfl, by decide, rfl⟩ ?_
  dsimp only [F62, k62, num]
  by_cases h : mayU l
  · have hu := h.2.2.2
    have h15 := h.1
    have hwf := h.2.2.1
    have hdd : ∀ o ∈ l, o.dl.length ≤ 140737488355328 := fun o ho => by have := (hwf o ho).2; omega
    have ht := textU_len l
    repeat' first
      | with_reducible refine AR.seq ?_
      | ((first | with_reducible refine AR.reg ?_ | with_reducible refine AR.skip ?_ | with_reducible refine AR.exit ?_ | ((with_reducible show pcall _ 118 _ _ _ _); refine pcall_of (ref_laid _ _ _ _ (by first | assumption | omega | (simp only [bool_to_prop]; first | done | omega)) _) rfl f118_fn (by first | rfl | exact getS_ok _ _ _) ?_) | ((with_reducible show pcall _ 120 _ _ _ _); refine pcall_of (ref_may _ _ (by first | assumption | omega | (simp only [bool_to_prop]; first | done | omega)) _) rfl f120_fn (by first | rfl | exact getS_ok _ _ _) ?_) | ((with_reducible show pcall _ 121 _ _ _ _); refine pcall_of (ref_text _ _ (by first | assumption | omega | (simp only [bool_to_prop]; first | done | omega)) (by assumption) _) rfl f121_fn (by first | rfl | exact getS_ok _ _ _) ?_)); try simp (maxSteps := 2000000) (disch := first | assumption | omega | (simp only [bool_to_prop]; first | done | omega)) only [go_sem])
      | ((with_reducible refine AR.ret ?_); try simp only [thn_r, blk_r])
      | with_reducible refine AR.block ?_
      | ((with_reducible refine And.intro ?_ ?_); · (first | omega | (simp only [bool_to_prop]; first | done | omega) | (simp (maxSteps := 2000000) (disch := first | assumption | omega | (simp only [bool_to_prop]; first | done | omega)) only [go_sem]; first | done | omega)))
      | ((with_reducible refine AR.cond_t ?_ ?_); · simp (maxSteps := 2000000) (disch := first | assumption | omega | (simp only [bool_to_prop]; first | done | omega)) only [go_sem])
      | ((with_reducible refine AR.cond_f ?_ ?_); · simp (maxSteps := 2000000) (disch := first | assumption | omega | (simp only [bool_to_prop]; first | done | omega)) only [go_sem])
    refine fin_r _ (by simp (maxSteps := 2000000) (disch := first | assumption | omega | (simp only [bool_to_prop]; first | done | omega)) only [resV, rvs, rv1, go_sem]; rfl) rfl ⟨?_, rfl⟩
    rfl
  · repeat' first
      | with_reducible refine AR.seq ?_
      | ((first | with_reducible refine AR.reg ?_ | with_reducible refine AR.skip ?_ | with_reducible refine AR.exit ?_ | ((with_reducible show pcall _ 118 _ _ _ _); refine pcall_of (ref_laid _ _ _ _ (by first | assumption | omega | (simp only [bool_to_prop]; first | done | omega)) _) rfl f118_fn (by first | rfl | exact getS_ok _ _ _) ?_) | ((with_reducible show pcall _ 120 _ _ _ _); refine pcall_of (ref_may _ _ (by first | assumption | omega | (simp only [bool_to_prop]; first | done | omega)) _) rfl f120_fn (by first | rfl | exact getS_ok _ _ _) ?_) | ((with_reducible show pcall _ 121 _ _ _ _); refine pcall_of (ref_text _ _ (by first | assumption | omega | (simp only [bool_to_prop]; first | done | omega)) (by assumption) _) rfl f121_fn (by first | rfl | exact getS_ok _ _ _) ?_)); try simp (maxSteps := 2000000) (disch := first | assumption | omega | (simp only [bool_to_prop]; first | done | omega)) only [go_sem])
      | ((with_reducible refine AR.ret ?_); try simp only [thn_r, blk_r])
      | with_reducible refine AR.block ?_
      | ((with_reducible refine And.intro ?_ ?_); · (first | omega | (simp only [bool_to_prop]; first | done | omega) | (simp (maxSteps := 2000000) (disch := first | assumption | omega | (simp only [bool_to_prop]; first | done | omega)) only [go_sem]; first | done | omega)))
      | ((with_reducible refine AR.cond_t ?_ ?_); · simp (maxSteps := 2000000) (disch := first | assumption | omega | (simp only [bool_to_prop]; first | done | omega)) only [go_sem])
      | ((with_reducible refine AR.cond_f ?_ ?_); · simp (maxSteps := 2000000) (disch := first | assumption | omega | (simp only [bool_to_prop]; first | done | omega)) only [go_sem])
    refine fin_r _ (by simp (maxSteps := 2000000) (disch := first | assumption | omega | (simp only [bool_to_prop]; first | done | omega)) only [resV, rvs, rv1, go_sem]; rfl) rfl ⟨?_, rfl⟩
    rfl

theorem ref_same (a b : BitVec 64) (l m : List Old) (hl : l.length ≤ maxLen) (hm : m.length ≤ maxLen) (H : Heap) : ACalls Try.prog 68 [.g [c64 a, .s 6 (l.map Old.cells) none], .g [c64 b, .s 6 (m.map Old.cells) none]] H (fun v H' => v = B (decide (a = b ∧ l = m)) ∧ H' = H) := by
  have hl' : l.length ≤ 9223372036854775807 := hl
  have hm' : m.length ≤ 9223372036854775807 := hm
  refine fn_sound' mixed f68_at F68_ok ⟨rfl, by decide, rfl⟩ ?_
  dsimp only [F68, k68, num]
  by_cases h1 : a = b
  · subst h1
    by_cases h2 : l.length = m.length
    · have h2' : (l.length : Int) = (m.length : Int) := by omega
      repeat' first
        | with_reducible refine AR.seq ?_
        | ((first | with_reducible refine AR.reg ?_ | with_reducible refine AR.skip ?_ | with_reducible refine AR.exit ?_); try simp (maxSteps := 2000000) (disch := first | assumption | omega | (simp only [bool_to_prop]; first | done | omega)) only [go_sem])
        | ((with_reducible refine AR.ret ?_); try simp only [thn_r, blk_r])
        | with_reducible refine AR.block ?_
        | ((with_reducible refine And.intro ?_ ?_); · (first | omega | (simp only [bool_to_prop]; first | done | omega) | (simp (maxSteps := 2000000) (disch := first | assumption | omega | (simp only [bool_to_prop]; first | done | omega)) only [go_sem]; first | done | omega)))
        | ((with_reducible refine AR.cond_t ?_ ?_); · simp (maxSteps := 2000000) (disch := first | assumption | omega | (simp only [bool_to_prop]; first | done | omega)) only [go_sem])
        | ((with_reducible refine AR.cond_f ?_ ?_); · simp (maxSteps := 2000000) (disch := first | assumption | omega | (simp only [bool_to_prop]; first | done | omega)) only [go_sem])
      refine AR.loopS (σ := Nat) (fun i => ⟨mk [(2, .lp 2 0), (3, .lp 3 0), (22, I .i64 l.length), (23, I .i64 i)], mk [(2, [c64 a, .s 6 (l.map Old.cells) none]), (3, [c64 a, .s 6 (m.map Old.cells) none])], H⟩) (fun i => i ≤ l.length ∧ l.take i = m.take i) (fun i => l.length - i) (0) ?_ ?_ ?_
      refine Wk.lists _ _ ?_ ?_ ?_
      all_goals try (first | exact trivial | (simp (maxSteps := 2000000) (disch := first | assumption | omega | (simp only [bool_to_prop]; first | done | omega)) only [List.take_zero, List.foldl_nil, List.nil_append, List.append_nil, List.replicate_zero, Nat.sub_zero, Nat.sub_self, Nat.mul_zero, le_0, it_0, sub_0, keeps_cons, keeps_nil, keepl_cons, keepl_nil, scopes_c, scopes_g, scopes_u, scopes_ep, scopes_lp, scopes_lw, scopes_nil, mk_cons, mk_nil, upd, Nat.reduceEqDiff, ↓reduceIte, and_self, and_true, true_and, ne_eq, reduceCtorEq, not_false_eq_true, Int.natCast_add, Int.natCast_one, Int.cast_ofNat_Int, Option.some.injEq, AV.c.injEq, AV.g.injEq, map_inj_b8, c64_inj, c32_inj, c16_inj, b8_inj, CV.p.injEq, Value.int.injEq, Value.string.injEq, AV.lp.injEq, AV.lw.injEq, List.cons.injEq]; done) | omega)
      all_goals try (simp (maxSteps := 2000000) (disch := first | assumption | omega | (simp only [bool_to_prop]; first | done | omega)) only [List.take_zero, List.foldl_nil, List.nil_append, List.append_nil, List.replicate_zero, Nat.sub_zero, Nat.sub_self, Nat.mul_zero, le_0, it_0, sub_0, keeps_cons, keeps_nil, keepl_cons, keepl_nil, scopes_c, scopes_g, scopes_u, scopes_ep, scopes_lp, scopes_lw, scopes_nil, mk_cons, mk_nil, upd, Nat.reduceEqDiff, ↓reduceIte, and_self, and_true, true_and, ne_eq, reduceCtorEq, not_false_eq_true, Int.natCast_add, Int.natCast_one, Int.cast_ofNat_Int, Option.some.injEq, AV.c.injEq, AV.g.injEq, map_inj_b8, c64_inj, c32_inj, c16_inj, b8_inj, CV.p.injEq, Value.int.injEq, Value.string.injEq, AV.lp.injEq, AV.lw.injEq, List.cons.injEq])
      all_goals try omega
      all_goals try with_reducible (first | rfl | exact ⟨rfl, rfl⟩ | exact ⟨rfl, rfl, rfl⟩)
      rintro i ⟨hi, he⟩
      by_cases hlt : i < l.length
      · obtain ⟨o, ho⟩ : ∃ o, l[i]? = some o := ⟨_, List.getElem?_eq_getElem hlt⟩
        obtain ⟨q, hq⟩ : ∃ q, m[i]? = some q := ⟨_, List.getElem?_eq_getElem (by omega)⟩
        have hn : o ≠ q → ¬ l = m := fun h e => h (by rw [e, hq] at ho; exact (Option.some.inj ho).symm)
        have hy : o = q → l.take (i + 1) = m.take (i + 1) := fun h => by rw [List.take_add_one, List.take_add_one, ho, hq, he, h]
        obtain ⟨lv, pn, ts, np, ns, dl⟩ := o
        obtain ⟨lv', pn', ts', np', ns', dl'⟩ := q
        by_cases hoq : (⟨lv, pn, ts, np, ns, dl⟩ : Old) = ⟨lv', pn', ts', np', ns', dl'⟩
        · have hy' := hy hoq
          clear he
          repeat' first
            | with_reducible refine AR.seq ?_
            | ((first | with_reducible refine AR.reg ?_ | with_reducible refine AR.skip ?_ | with_reducible refine AR.exit ?_); try simp (maxSteps := 2000000) (disch := first | assumption | omega | (simp only [bool_to_prop]; first | done | omega)) only [go_sem, ho, hq, List.getElem?_map, hoq])
            | ((with_reducible refine AR.ret ?_); try simp only [thn_r, blk_r])
            | with_reducible refine AR.block ?_
            | ((with_reducible refine And.intro ?_ ?_); · (first | omega | (simp only [bool_to_prop]; first | done | omega) | (simp (maxSteps := 2000000) (disch := first | assumption | omega | (simp only [bool_to_prop]; first | done | omega)) only [go_sem, ho, hq, List.getElem?_map, hoq]; first | done | omega)))
            | ((with_reducible refine AR.cond_t ?_ ?_); · simp (maxSteps := 2000000) (disch := first | assumption | omega | (simp only [bool_to_prop]; first | done | omega)) only [go_sem, ho, hq, List.getElem?_map, hoq])
            | ((with_reducible refine AR.cond_f ?_ ?_); · simp (maxSteps := 2000000) (disch := first | assumption | omega | (simp only [bool_to_prop]; first | done | omega)) only [go_sem, ho, hq, List.getElem?_map, hoq])
          refine ⟨i + 1, Wk.lists _ _ ?_ ?_ ?_, ?_, ?_⟩
          all_goals try (first | exact trivial | (simp (maxSteps := 2000000) (disch := first | assumption | omega | (simp only [bool_to_prop]; first | done | omega)) only [List.take_zero, List.foldl_nil, List.nil_append, List.append_nil, List.replicate_zero, Nat.sub_zero, Nat.sub_self, Nat.mul_zero, le_0, it_0, sub_0, keeps_cons, keeps_nil, keepl_cons, keepl_nil, scopes_c, scopes_g, scopes_u, scopes_ep, scopes_lp, scopes_lw, scopes_nil, mk_cons, mk_nil, upd, Nat.reduceEqDiff, ↓reduceIte, and_self, and_true, true_and, ne_eq, reduceCtorEq, not_false_eq_true, Int.natCast_add, Int.natCast_one, Int.cast_ofNat_Int, Option.some.injEq, AV.c.injEq, AV.g.injEq, map_inj_b8, c64_inj, c32_inj, c16_inj, b8_inj, CV.p.injEq, Value.int.injEq, Value.string.injEq, AV.lp.injEq, AV.lw.injEq, List.cons.injEq]; done) | omega)
          all_goals try (simp (maxSteps := 2000000) (disch := first | assumption | omega | (simp only [bool_to_prop]; first | done | omega)) only [List.take_zero, List.foldl_nil, List.nil_append, List.append_nil, List.replicate_zero, Nat.sub_zero, Nat.sub_self, Nat.mul_zero, le_0, it_0, sub_0, keeps_cons, keeps_nil, keepl_cons, keepl_nil, scopes_c, scopes_g, scopes_u, scopes_ep, scopes_lp, scopes_lw, scopes_nil, mk_cons, mk_nil, upd, Nat.reduceEqDiff, ↓reduceIte, and_self, and_true, true_and, ne_eq, reduceCtorEq, not_false_eq_true, Int.natCast_add, Int.natCast_one, Int.cast_ofNat_Int, Option.some.injEq, AV.c.injEq, AV.g.injEq, map_inj_b8, c64_inj, c32_inj, c16_inj, b8_inj, CV.p.injEq, Value.int.injEq, Value.string.injEq, AV.lp.injEq, AV.lw.injEq, List.cons.injEq])
          all_goals try omega
          all_goals try with_reducible (first | rfl | exact ⟨rfl, rfl⟩ | exact ⟨rfl, rfl, rfl⟩)
          exact ⟨by omega, hy'⟩
        · have hn' := hn hoq
          clear he
          repeat' first
            | with_reducible refine AR.seq ?_
            | ((first | with_reducible refine AR.reg ?_ | with_reducible refine AR.skip ?_ | with_reducible refine AR.exit ?_); try simp (maxSteps := 2000000) (disch := first | assumption | omega | (simp only [bool_to_prop]; first | done | omega)) only [go_sem, ho, hq, List.getElem?_map, hoq])
            | ((with_reducible refine AR.ret ?_); try simp only [thn_r, blk_r])
            | with_reducible refine AR.block ?_
            | ((with_reducible refine And.intro ?_ ?_); · (first | omega | (simp only [bool_to_prop]; first | done | omega) | (simp (maxSteps := 2000000) (disch := first | assumption | omega | (simp only [bool_to_prop]; first | done | omega)) only [go_sem, ho, hq, List.getElem?_map, hoq]; first | done | omega)))
            | ((with_reducible refine AR.cond_t ?_ ?_); · simp (maxSteps := 2000000) (disch := first | assumption | omega | (simp only [bool_to_prop]; first | done | omega)) only [go_sem, ho, hq, List.getElem?_map, hoq])
            | ((with_reducible refine AR.cond_f ?_ ?_); · simp (maxSteps := 2000000) (disch := first | assumption | omega | (simp only [bool_to_prop]; first | done | omega)) only [go_sem, ho, hq, List.getElem?_map, hoq])
          refine fin_r _ (by simp (maxSteps := 2000000) (disch := first | assumption | omega | (simp only [bool_to_prop]; first | done | omega)) only [resV, rvs, rv1, go_sem]; rfl) rfl ⟨?_, rfl⟩
          first | rfl | (rw [decide_eq_false (fun h => hn' h)])
      · obtain rfl : i = l.length := by omega
        have he' : l = m := by
          rw [List.take_length, h2, List.take_length] at he; exact he
        clear he
        repeat' first
          | with_reducible refine AR.seq ?_
          | ((first | with_reducible refine AR.reg ?_ | with_reducible refine AR.skip ?_ | with_reducible refine AR.exit ?_); try simp (maxSteps := 2000000) (disch := first | assumption | omega | (simp only [bool_to_prop]; first | done | omega)) only [go_sem])
          | ((with_reducible refine AR.ret ?_); try simp only [thn_r, blk_r])
          | with_reducible refine AR.block ?_
          | ((with_reducible refine And.intro ?_ ?_); · (first | omega | (simp only [bool_to_prop]; first | done | omega) | (simp (maxSteps := 2000000) (disch := first | assumption | omega | (simp only [bool_to_prop]; first | done | omega)) only [go_sem]; first | done | omega)))
          | ((with_reducible refine AR.cond_t ?_ ?_); · simp (maxSteps := 2000000) (disch := first | assumption | omega | (simp only [bool_to_prop]; first | done | omega)) only [go_sem])
          | ((with_reducible refine AR.cond_f ?_ ?_); · simp (maxSteps := 2000000) (disch := first | assumption | omega | (simp only [bool_to_prop]; first | done | omega)) only [go_sem])
        refine fin_r _ (by simp (maxSteps := 2000000) (disch := first | assumption | omega | (simp only [bool_to_prop]; first | done | omega)) only [resV, rvs, rv1, go_sem]; rfl) rfl ⟨?_, rfl⟩
        first | rfl | (rw [decide_eq_true he'])
    · have h2' : ¬ (l.length : Int) = (m.length : Int) := by omega
      repeat' first
        | with_reducible refine AR.seq ?_
        | ((first | with_reducible refine AR.reg ?_ | with_reducible refine AR.skip ?_ | with_reducible refine AR.exit ?_); try simp (maxSteps := 2000000) (disch := first | assumption | omega | (simp only [bool_to_prop]; first | done | omega)) only [go_sem])
        | ((with_reducible refine AR.ret ?_); try simp only [thn_r, blk_r])
        | with_reducible refine AR.block ?_
        | ((with_reducible refine And.intro ?_ ?_); · (first | omega | (simp only [bool_to_prop]; first | done | omega) | (simp (maxSteps := 2000000) (disch := first | assumption | omega | (simp only [bool_to_prop]; first | done | omega)) only [go_sem]; first | done | omega)))
        | ((with_reducible refine AR.cond_t ?_ ?_); · simp (maxSteps := 2000000) (disch := first | assumption | omega | (simp only [bool_to_prop]; first | done | omega)) only [go_sem])
        | ((with_reducible refine AR.cond_f ?_ ?_); · simp (maxSteps := 2000000) (disch := first | assumption | omega | (simp only [bool_to_prop]; first | done | omega)) only [go_sem])
      refine fin_r _ (by simp (maxSteps := 2000000) (disch := first | assumption | omega | (simp only [bool_to_prop]; first | done | omega)) only [resV, rvs, rv1, go_sem]; rfl) rfl ⟨?_, rfl⟩
      first | rfl | (rw [decide_eq_false (fun h => h2 (congrArg List.length h))])
  · repeat' first
      | with_reducible refine AR.seq ?_
      | ((first | with_reducible refine AR.reg ?_ | with_reducible refine AR.skip ?_ | with_reducible refine AR.exit ?_); try simp (maxSteps := 2000000) (disch := first | assumption | omega | (simp only [bool_to_prop]; first | done | omega)) only [go_sem, h1])
      | ((with_reducible refine AR.ret ?_); try simp only [thn_r, blk_r])
      | with_reducible refine AR.block ?_
      | ((with_reducible refine And.intro ?_ ?_); · (first | omega | (simp only [bool_to_prop]; first | done | omega) | (simp (maxSteps := 2000000) (disch := first | assumption | omega | (simp only [bool_to_prop]; first | done | omega)) only [go_sem, h1]; first | done | omega)))
      | ((with_reducible refine AR.cond_t ?_ ?_); · simp (maxSteps := 2000000) (disch := first | assumption | omega | (simp only [bool_to_prop]; first | done | omega)) only [go_sem, h1])
      | ((with_reducible refine AR.cond_f ?_ ?_); · simp (maxSteps := 2000000) (disch := first | assumption | omega | (simp only [bool_to_prop]; first | done | omega)) only [go_sem, h1])
    refine fin_r _ (by simp (maxSteps := 2000000) (disch := first | assumption | omega | (simp only [bool_to_prop]; first | done | omega)) only [resV, rvs, rv1, go_sem]; rfl) rfl ⟨?_, rfl⟩
    first | rfl | simp
end Go.Eng
set_option linter.unusedSimpArgs false
set_option linter.unusedVariables false
set_option maxRecDepth 100000
-- LEN: sealL, putD, restD, pg_len, gd_len, PD.cells_len, recO_len, recs_len
namespace Go.Eng
open Go.Proofs

theorem cells_flat (l : List Old) : chunks 6 l.length (l.map Old.cells).flatten = l.map Old.cells := by
  induction l with
  | nil => rfl
  | cons o l ih =>
    simp only [List.length_cons, chunks, List.map_cons, List.flatten_cons]
    rw [List.take_left' (by rfl), List.drop_left' (by rfl), ih]
theorem cells_flat_len (l : List Old) : (l.map Old.cells).flatten.length = l.length * 6 := by
  induction l with
  | nil => rfl
  | cons o l ih => simp only [List.map_cons, List.flatten_cons, List.length_append, List.length_cons, ih, Nat.succ_mul]; show 6 + _ = _; omega

theorem ref_kept (a : BitVec 64) (l : List Old) (hl : l.length * 32 ≤ 140737488355328) (H : Heap) : ACalls Try.prog 61 [.g [c64 a, .s 6 (l.map Old.cells) none]] H (fun v H' => v = .g [c64 a, .s 6 (l.map Old.cells) none] ∧ H' = H) := by
  refine fn_sound' mixed f61_at F61_ok ⟨rfl, by decide, rfl⟩ ?_
  dsimp only [F61, k61, num]
  repeat' first
    | with_reducible refine AR.seq ?_
    | ((first | with_reducible refine AR.reg ?_ | with_reducible refine AR.skip ?_ | with_reducible refine AR.exit ?_); try simp (maxSteps := 2000000) (disch := first | assumption | omega | (simp only [bool_to_prop]; first | done | omega)) only [go_sem])
    | ((with_reducible refine AR.ret ?_); try simp only [thn_r, blk_r])
    | with_reducible refine AR.block ?_
    | ((with_reducible refine And.intro ?_ ?_); · (first | omega | (simp only [bool_to_prop]; first | done | omega) | (simp (maxSteps := 2000000) (disch := first | assumption | omega | (simp only [bool_to_prop]; first | done | omega)) only [go_sem]; first | done | omega)))
    | ((with_reducible refine AR.cond_t ?_ ?_); · simp (maxSteps := 2000000) (disch := first | assumption | omega | (simp only [bool_to_prop]; first | done | omega)) only [go_sem])
    | ((with_reducible refine AR.cond_f ?_ ?_); · simp (maxSteps := 2000000) (disch := first | assumption | omega | (simp only [bool_to_prop]; first | done | omega)) only [go_sem])
  by_cases h0 : l = []
  · subst h0
    simp (maxSteps := 2000000) (disch := first | assumption | omega | (simp only [bool_to_prop]; first | done | omega)) only [go_sem, srcE, act_ap, List.map_nil]
    refine ⟨by unfold maxLen; omega, ?_⟩
    refine AR.wk (Wk.weakL [(2, .lp 2 0, .lp 2 0)] [(2, [c64 a, .z 143], [c64 a, .s 6 [] none])] (H) ?_ ?_ ?_ (fun _ _ h => h)) ?_
    · simp only [keepsW_cons, keepsW_nil, keeplW_cons, keeplW_nil, weaks_cons, weaks_nil, WCs_cons, WCs_nil, WCs_self, WV_self, WC_self, WC_z, WC_s, WC_gl', scopes_c, scopes_g, scopes_u, scopes_ep, scopes_lp, scopes_lw, scopes_nil, mk_cons, mk_nil, upd, Nat.reduceEqDiff, ↓reduceIte, and_self, and_true, true_and, ne_eq, reduceCtorEq, not_false_eq_true]
    · simp only [keepsW_cons, keepsW_nil, keeplW_cons, keeplW_nil, weaks_cons, weaks_nil, WCs_cons, WCs_nil, WCs_self, WV_self, WC_self, WC_z, WC_s, WC_gl', scopes_c, scopes_g, scopes_u, scopes_ep, scopes_lp, scopes_lw, scopes_nil, mk_cons, mk_nil, upd, Nat.reduceEqDiff, ↓reduceIte, and_self, and_true, true_and, ne_eq, reduceCtorEq, not_false_eq_true]
    · simp only [keepsW_cons, keepsW_nil, keeplW_cons, keeplW_nil, weaks_cons, weaks_nil, WCs_cons, WCs_nil, WCs_self, WV_self, WC_self, WC_z, WC_s, WC_gl', scopes_c, scopes_g, scopes_u, scopes_ep, scopes_lp, scopes_lw, scopes_nil, mk_cons, mk_nil, upd, Nat.reduceEqDiff, ↓reduceIte, and_self, and_true, true_and, ne_eq, reduceCtorEq, not_false_eq_true]
    simp only [weaks_cons, weaks_nil]
    repeat' first
      | with_reducible refine AR.seq ?_
      | ((first | with_reducible refine AR.reg ?_ | with_reducible refine AR.skip ?_ | with_reducible refine AR.exit ?_); try simp (maxSteps := 2000000) (disch := first | assumption | omega | (simp only [bool_to_prop]; first | done | omega)) only [go_sem])
      | ((with_reducible refine AR.ret ?_); try simp only [thn_r, blk_r])
      | with_reducible refine AR.block ?_
      | ((with_reducible refine And.intro ?_ ?_); · (first | omega | (simp only [bool_to_prop]; first | done | omega) | (simp (maxSteps := 2000000) (disch := first | assumption | omega | (simp only [bool_to_prop]; first | done | omega)) only [go_sem]; first | done | omega)))
      | ((with_reducible refine AR.cond_t ?_ ?_); · simp (maxSteps := 2000000) (disch := first | assumption | omega | (simp only [bool_to_prop]; first | done | omega)) only [go_sem])
      | ((with_reducible refine AR.cond_f ?_ ?_); · simp (maxSteps := 2000000) (disch := first | assumption | omega | (simp only [bool_to_prop]; first | done | omega)) only [go_sem])
    refine fin_r _ (by simp (maxSteps := 2000000) (disch := first | assumption | omega | (simp only [bool_to_prop]; first | done | omega)) only [resV, rvs, rv1, go_sem]; rfl) rfl ⟨?_, rfl⟩
    rfl
  · have hpos : 0 < l.length := List.length_pos_iff.2 h0
    refine act_ap_gl (H := H) [] 0 l.length (l.map Old.cells).flatten (by simp (maxSteps := 2000000) (disch := first | assumption | omega | (simp only [bool_to_prop]; first | done | omega)) only [go_sem] <;> rfl) (by simp (maxSteps := 2000000) (disch := first | assumption | omega | (simp only [bool_to_prop]; first | done | omega)) only [go_sem, srcE] <;> rfl) (fun h => absurd rfl h) (cells_flat_len l) hpos (by simp only [List.length_nil]; omega) (by simp only [List.length_nil]; unfold maxLen; omega) ?_
    intro b hb
    rw [cells_flat, List.nil_append]
    simp (maxSteps := 2000000) (disch := first | assumption | omega | (simp only [bool_to_prop]; first | done | omega)) only [go_sem]
    repeat' first
      | with_reducible refine AR.seq ?_
      | ((first | with_reducible refine AR.reg ?_ | with_reducible refine AR.skip ?_ | with_reducible refine AR.exit ?_); try simp (maxSteps := 2000000) (disch := first | assumption | omega | (simp only [bool_to_prop]; first | done | omega)) only [go_sem])
      | with_reducible refine AR.block ?_
      | ((with_reducible refine And.intro ?_ ?_); · (first | omega | (simp only [bool_to_prop]; first | done | omega) | (simp (maxSteps := 2000000) (disch := first | assumption | omega | (simp only [bool_to_prop]; first | done | omega)) only [go_sem]; first | done | omega)))
      | ((with_reducible refine AR.cond_t ?_ ?_); · simp (maxSteps := 2000000) (disch := first | assumption | omega | (simp only [bool_to_prop]; first | done | omega)) only [go_sem])
      | ((with_reducible refine AR.cond_f ?_ ?_); · simp (maxSteps := 2000000) (disch := first | assumption | omega | (simp only [bool_to_prop]; first | done | omega)) only [go_sem])
    refine AR.wk (Wk.weakL [(2, .lp 2 0, .lp 2 0)] [(2, [c64 a, glc 143 6 (l.map Old.cells) b], [c64 a, .s 6 (l.map Old.cells) none])] (H) ?_ ?_ ?_ (glH_sub H 143 6 (l.map Old.cells) b (fun _ => hb))) ?_
    · simp only [keepsW_cons, keepsW_nil, keeplW_cons, keeplW_nil, weaks_cons, weaks_nil, WCs_cons, WCs_nil, WCs_self, WV_self, WC_self, WC_z, WC_s, WC_gl', scopes_c, scopes_g, scopes_u, scopes_ep, scopes_lp, scopes_lw, scopes_nil, mk_cons, mk_nil, upd, Nat.reduceEqDiff, ↓reduceIte, and_self, and_true, true_and, ne_eq, reduceCtorEq, not_false_eq_true]
    · simp only [keepsW_cons, keepsW_nil, keeplW_cons, keeplW_nil, weaks_cons, weaks_nil, WCs_cons, WCs_nil, WCs_self, WV_self, WC_self, WC_z, WC_s, WC_gl', scopes_c, scopes_g, scopes_u, scopes_ep, scopes_lp, scopes_lw, scopes_nil, mk_cons, mk_nil, upd, Nat.reduceEqDiff, ↓reduceIte, and_self, and_true, true_and, ne_eq, reduceCtorEq, not_false_eq_true]
    · simp only [keepsW_cons, keepsW_nil, keeplW_cons, keeplW_nil, weaks_cons, weaks_nil, WCs_cons, WCs_nil, WCs_self, WV_self, WC_self, WC_z, WC_s, WC_gl', scopes_c, scopes_g, scopes_u, scopes_ep, scopes_lp, scopes_lw, scopes_nil, mk_cons, mk_nil, upd, Nat.reduceEqDiff, ↓reduceIte, and_self, and_true, true_and, ne_eq, reduceCtorEq, not_false_eq_true]
    simp only [weaks_cons, weaks_nil]
    repeat' first
      | with_reducible refine AR.seq ?_
      | ((first | with_reducible refine AR.reg ?_ | with_reducible refine AR.skip ?_ | with_reducible refine AR.exit ?_); try simp (maxSteps := 2000000) (disch := first | assumption | omega | (simp only [bool_to_prop]; first | done | omega)) only [go_sem])
      | ((with_reducible refine AR.ret ?_); try simp only [thn_r, blk_r])
      | with_reducible refine AR.block ?_
      | ((with_reducible refine And.intro ?_ ?_); · (first | omega | (simp only [bool_to_prop]; first | done | omega) | (simp (maxSteps := 2000000) (disch := first | assumption | omega | (simp only [bool_to_prop]; first | done | omega)) only [go_sem]; first | done | omega)))
      | ((with_reducible refine AR.cond_t ?_ ?_); · simp (maxSteps := 2000000) (disch := first | assumption | omega | (simp only [bool_to_prop]; first | done | omega)) only [go_sem])
      | ((with_reducible refine AR.cond_f ?_ ?_); · simp (maxSteps := 2000000) (disch := first | assumption | omega | (simp only [bool_to_prop]; first | done | omega)) only [go_sem])
    refine fin_r _ (by simp (maxSteps := 2000000) (disch := first | assumption | omega | (simp only [bool_to_prop]; first | done | omega)) only [resV, rvs, rv1, go_sem]; rfl) rfl ⟨?_, rfl⟩
    rfl
end Go.Eng
set_option linter.unusedSimpArgs false
set_option linter.unusedVariables false
set_option maxRecDepth 100000
-- LEN: sealL, putD, restD, pg_len, gd_len, PD.cells_len, recO_len, recs_len
namespace Go.Eng
open Go.Proofs

theorem cells_chunk (o : Old) : chunks 6 1 (Old.cells o) = [Old.cells o] := chunks_one 6 _ rfl
theorem map_cells_snoc (l : List Old) (o : Old) : l.map Old.cells ++ [Old.cells o] = (l ++ [o]).map Old.cells := by simp

noncomputable def guV (no : BitVec 16) (p : List UInt8) : PU := (gu no p).getD PU.zero
theorem guV_none {no : BitVec 16} {p : List UInt8} (h : gu no p = none) : guV no p = PU.zero := by unfold guV; rw [h]; rfl
theorem guV_some {no : BitVec 16} {p : List UInt8} {u : PU} (h : gu no p = some u) : guV no p = u := by unfold guV; rw [h]; rfl

set_option maxHeartbeats 2000000 in
theorem page_getUndo (no : BitVec 16) (p : List UInt8) (hp : p.length = 224) (H : Heap) : ACalls Try.prog 63 [.c (c16 no), .g (p.map b8)] H (fun v H' => v = .t [.g (PU.cells (guV no p)), I .i64 (if (gu no p).isSome then 0 else 2)] ∧ H' = H) := by
  refine fn_sound' mixed f63_at F63_ok ⟨rfl, by decide, rfl⟩ ?_
  dsimp only [F63, k63, num]
  by_cases h1 : opensP 2 no p
  · repeat' first
      | with_reducible refine AR.seq ?_
      | ((first | with_reducible refine AR.reg ?_ | with_reducible refine AR.skip ?_ | with_reducible refine AR.exit ?_ | ((with_reducible show pcall _ 114 _ _ _ _); refine pcall_of (page_opens _ _ _ (by first | assumption | omega | (simp only [bool_to_prop]; first | done | omega)) _) rfl f114_fn (by first | rfl | exact getS_ok _ _ _) ?_) | ((with_reducible show pcall _ 115 _ _ _ _); refine pcall_of (word_get _ _ _ (by first | assumption | omega | (simp only [bool_to_prop]; first | done | omega)) _) rfl f115_fn (by first | rfl | exact getS_ok _ _ _) ?_) | ((with_reducible show pcall _ 57 _ _ _ _); refine pcall_of (page_lsn _ (by first | assumption | omega | (simp only [bool_to_prop]; first | done | omega)) _) rfl f57_fn (by first | rfl | exact getS_ok _ _ _) ?_) | ((with_reducible show pcall _ 65 _ _ _ _); refine pcall_of (page_may _ _ (by first | assumption | omega | (simp only [bool_to_prop]; first | done | omega)) _) rfl f65_fn (by first | rfl | exact getS_ok _ _ _) ?_)); try simp (maxSteps := 2000000) (disch := first | assumption | omega | (simp only [bool_to_prop]; first | done | omega)) only [go_sem, h1])
      | ((with_reducible refine AR.ret ?_); try simp only [thn_r, blk_r])
      | with_reducible refine AR.block ?_
      | ((with_reducible refine And.intro ?_ ?_); · (first | omega | (simp only [bool_to_prop]; first | done | omega) | (simp (maxSteps := 2000000) (disch := first | assumption | omega | (simp only [bool_to_prop]; first | done | omega)) only [go_sem, h1]; first | done | omega)))
      | ((with_reducible refine AR.cond_t ?_ ?_); · simp (maxSteps := 2000000) (disch := first | assumption | omega | (simp only [bool_to_prop]; first | done | omega)) only [go_sem, h1])
      | ((with_reducible refine AR.cond_f ?_ ?_); · simp (maxSteps := 2000000) (disch := first | assumption | omega | (simp only [bool_to_prop]; first | done | omega)) only [go_sem, h1])
    have hcnt := (p.getD 15 0).toNat_lt
    refine AR.loopS (σ := (Nat × Nat × List Old × Nat)) (fun y => ⟨mk [(3, .lp 3 0), (4, .lp 4 0), (6, S (str p)), (7, .lp 7 0), (8, I .i64 y.2.1), (29, I .i64 (p.getD 15 0).toNat), (30, I .i64 y.1)], mk [(3, p.map b8), (4, [c64 0, .z 143]), (7, [c64 (lsnOf p), glc 143 6 (y.2.2.1.map Old.cells) y.2.2.2])], glH H 143 6 (y.2.2.1.map Old.cells) y.2.2.2⟩) (fun y => y.1 ≤ (p.getD 15 0).toNat ∧ parse p y.1 16 = some (y.2.2.1, y.2.1) ∧ y.2.1 ≤ 224 ∧ (y.2.2.1.map Old.cells ≠ [] → H y.2.2.2 = none)) (fun y => (p.getD 15 0).toNat - y.1) ((0, 16, [], 0)) ?_ ?_ ?_
    refine Wk.lists _ _ ?_ ?_ ?_
    all_goals try (first | exact trivial | (simp (maxSteps := 2000000) (disch := first | assumption | omega | (simp only [bool_to_prop]; first | done | omega)) only [List.take_zero, List.foldl_nil, List.nil_append, List.append_nil, List.replicate_zero, Nat.sub_zero, Nat.sub_self, Nat.mul_zero, le_0, it_0, sub_0, keeps_cons, keeps_nil, keepl_cons, keepl_nil, scopes_c, scopes_g, scopes_u, scopes_ep, scopes_lp, scopes_lw, scopes_nil, mk_cons, mk_nil, upd, Nat.reduceEqDiff, ↓reduceIte, and_self, and_true, true_and, ne_eq, reduceCtorEq, not_false_eq_true, Int.natCast_add, Int.natCast_one, Int.cast_ofNat_Int, Option.some.injEq, AV.c.injEq, AV.g.injEq, map_inj_b8, c64_inj, c32_inj, c16_inj, b8_inj, CV.p.injEq, Value.int.injEq, Value.string.injEq, AV.lp.injEq, AV.lw.injEq, List.cons.injEq]; done) | omega)
    all_goals try (simp (maxSteps := 2000000) (disch := first | assumption | omega | (simp only [bool_to_prop]; first | done | omega)) only [List.take_zero, List.foldl_nil, List.nil_append, List.append_nil, List.replicate_zero, Nat.sub_zero, Nat.sub_self, Nat.mul_zero, le_0, it_0, sub_0, keeps_cons, keeps_nil, keepl_cons, keepl_nil, scopes_c, scopes_g, scopes_u, scopes_ep, scopes_lp, scopes_lw, scopes_nil, mk_cons, mk_nil, upd, Nat.reduceEqDiff, ↓reduceIte, and_self, and_true, true_and, ne_eq, reduceCtorEq, not_false_eq_true, Int.natCast_add, Int.natCast_one, Int.cast_ofNat_Int, Option.some.injEq, AV.c.injEq, AV.g.injEq, map_inj_b8, c64_inj, c32_inj, c16_inj, b8_inj, CV.p.injEq, Value.int.injEq, Value.string.injEq, AV.lp.injEq, AV.lw.injEq, List.cons.injEq])
    all_goals try omega
    all_goals try with_reducible (first | rfl | exact ⟨rfl, rfl⟩ | exact ⟨rfl, rfl, rfl⟩)
    · rfl
    · exact ⟨by omega, rfl, by omega, fun h => absurd rfl h⟩
    rintro ⟨i, e, l, b⟩ ⟨hi, hpa, he, hb⟩
    dsimp only at hi hpa he hb ⊢
    have hll := (parse_len p i 16 l e hpa).1
    by_cases hlt : i < (p.getD 15 0).toNat
    · have hno := fun h => gu_no2 (no := no) hpa h hlt
      have hsn := parse_snoc p i 16 l e hpa
      clear hpa
      by_cases h224 : 224 ≤ e
      · repeat' first
          | with_reducible refine AR.seq ?_
          | ((first | with_reducible refine AR.reg ?_ | with_reducible refine AR.skip ?_ | with_reducible refine AR.exit ?_ | ((with_reducible show pcall _ 114 _ _ _ _); refine pcall_of (page_opens _ _ _ (by first | assumption | omega | (simp only [bool_to_prop]; first | done | omega)) _) rfl f114_fn (by first | rfl | exact getS_ok _ _ _) ?_) | ((with_reducible show pcall _ 115 _ _ _ _); refine pcall_of (word_get _ _ _ (by first | assumption | omega | (simp only [bool_to_prop]; first | done | omega)) _) rfl f115_fn (by first | rfl | exact getS_ok _ _ _) ?_) | ((with_reducible show pcall _ 57 _ _ _ _); refine pcall_of (page_lsn _ (by first | assumption | omega | (simp only [bool_to_prop]; first | done | omega)) _) rfl f57_fn (by first | rfl | exact getS_ok _ _ _) ?_) | ((with_reducible show pcall _ 65 _ _ _ _); refine pcall_of (page_may _ _ (by first | assumption | omega | (simp only [bool_to_prop]; first | done | omega)) _) rfl f65_fn (by first | rfl | exact getS_ok _ _ _) ?_)); try simp (maxSteps := 2000000) (disch := first | assumption | omega | (simp only [bool_to_prop]; first | done | omega)) only [go_sem])
          | with_reducible refine AR.block ?_
          | ((with_reducible refine And.intro ?_ ?_); · (first | omega | (simp only [bool_to_prop]; first | done | omega) | (simp (maxSteps := 2000000) (disch := first | assumption | omega | (simp only [bool_to_prop]; first | done | omega)) only [go_sem]; first | done | omega)))
          | ((with_reducible refine AR.cond_t ?_ ?_); · simp (maxSteps := 2000000) (disch := first | assumption | omega | (simp only [bool_to_prop]; first | done | omega)) only [go_sem])
          | ((with_reducible refine AR.cond_f ?_ ?_); · simp (maxSteps := 2000000) (disch := first | assumption | omega | (simp only [bool_to_prop]; first | done | omega)) only [go_sem])
        refine AR.wk (Wk.weakL [(4, .lp 4 0, .lp 4 0), (5, I .i64 2, I .i64 2)] [(4, [c64 0, .z 143], [c64 0, .s 6 [] none])] (H) ?_ ?_ ?_ (glH_sub H 143 6 (l.map Old.cells) b hb)) ?_
        · simp only [keepsW_cons, keepsW_nil, keeplW_cons, keeplW_nil, weaks_cons, weaks_nil, WCs_cons, WCs_nil, WCs_self, WV_self, WC_self, WC_z, WC_s, WC_gl', scopes_c, scopes_g, scopes_u, scopes_ep, scopes_lp, scopes_lw, scopes_nil, mk_cons, mk_nil, upd, Nat.reduceEqDiff, ↓reduceIte, and_self, and_true, true_and, ne_eq, reduceCtorEq, not_false_eq_true]
        · simp only [keepsW_cons, keepsW_nil, keeplW_cons, keeplW_nil, weaks_cons, weaks_nil, WCs_cons, WCs_nil, WCs_self, WV_self, WC_self, WC_z, WC_s, WC_gl', scopes_c, scopes_g, scopes_u, scopes_ep, scopes_lp, scopes_lw, scopes_nil, mk_cons, mk_nil, upd, Nat.reduceEqDiff, ↓reduceIte, and_self, and_true, true_and, ne_eq, reduceCtorEq, not_false_eq_true]
        · simp only [keepsW_cons, keepsW_nil, keeplW_cons, keeplW_nil, weaks_cons, weaks_nil, WCs_cons, WCs_nil, WCs_self, WV_self, WC_self, WC_z, WC_s, WC_gl', scopes_c, scopes_g, scopes_u, scopes_ep, scopes_lp, scopes_lw, scopes_nil, mk_cons, mk_nil, upd, Nat.reduceEqDiff, ↓reduceIte, and_self, and_true, true_and, ne_eq, reduceCtorEq, not_false_eq_true]
        simp only [weaks_cons, weaks_nil]
        repeat' first
          | with_reducible refine AR.seq ?_
          | ((first | with_reducible refine AR.reg ?_ | with_reducible refine AR.skip ?_ | with_reducible refine AR.exit ?_ | ((with_reducible show pcall _ 114 _ _ _ _); refine pcall_of (page_opens _ _ _ (by first | assumption | omega | (simp only [bool_to_prop]; first | done | omega)) _) rfl f114_fn (by first | rfl | exact getS_ok _ _ _) ?_) | ((with_reducible show pcall _ 115 _ _ _ _); refine pcall_of (word_get _ _ _ (by first | assumption | omega | (simp only [bool_to_prop]; first | done | omega)) _) rfl f115_fn (by first | rfl | exact getS_ok _ _ _) ?_) | ((with_reducible show pcall _ 57 _ _ _ _); refine pcall_of (page_lsn _ (by first | assumption | omega | (simp only [bool_to_prop]; first | done | omega)) _) rfl f57_fn (by first | rfl | exact getS_ok _ _ _) ?_) | ((with_reducible show pcall _ 65 _ _ _ _); refine pcall_of (page_may _ _ (by first | assumption | omega | (simp only [bool_to_prop]; first | done | omega)) _) rfl f65_fn (by first | rfl | exact getS_ok _ _ _) ?_)); try simp (maxSteps := 2000000) (disch := first | assumption | omega | (simp only [bool_to_prop]; first | done | omega)) only [go_sem])
          | ((with_reducible refine AR.ret ?_); try simp only [thn_r, blk_r])
          | with_reducible refine AR.block ?_
          | ((with_reducible refine And.intro ?_ ?_); · (first | omega | (simp only [bool_to_prop]; first | done | omega) | (simp (maxSteps := 2000000) (disch := first | assumption | omega | (simp only [bool_to_prop]; first | done | omega)) only [go_sem]; first | done | omega)))
          | ((with_reducible refine AR.cond_t ?_ ?_); · simp (maxSteps := 2000000) (disch := first | assumption | omega | (simp only [bool_to_prop]; first | done | omega)) only [go_sem])
          | ((with_reducible refine AR.cond_f ?_ ?_); · simp (maxSteps := 2000000) (disch := first | assumption | omega | (simp only [bool_to_prop]; first | done | omega)) only [go_sem])
        refine fin_r _ (by simp (maxSteps := 2000000) (disch := first | assumption | omega | (simp only [bool_to_prop]; first | done | omega)) only [resV, rvs, rv1, go_sem]; rfl) rfl ⟨?_, rfl⟩
        rw [guV_none (hno (one_no1 hp h224)), hno (one_no1 hp h224)]
        rfl
      have h1n : (1 : UInt8).toNat = 1 := rfl
      by_cases hx1 : 1 < (p.getD e 0).toNat
      · repeat' first
          | with_reducible refine AR.seq ?_
          | ((first | with_reducible refine AR.reg ?_ | with_reducible refine AR.skip ?_ | with_reducible refine AR.exit ?_ | ((with_reducible show pcall _ 114 _ _ _ _); refine pcall_of (page_opens _ _ _ (by first | assumption | omega | (simp only [bool_to_prop]; first | done | omega)) _) rfl f114_fn (by first | rfl | exact getS_ok _ _ _) ?_) | ((with_reducible show pcall _ 115 _ _ _ _); refine pcall_of (word_get _ _ _ (by first | assumption | omega | (simp only [bool_to_prop]; first | done | omega)) _) rfl f115_fn (by first | rfl | exact getS_ok _ _ _) ?_) | ((with_reducible show pcall _ 57 _ _ _ _); refine pcall_of (page_lsn _ (by first | assumption | omega | (simp only [bool_to_prop]; first | done | omega)) _) rfl f57_fn (by first | rfl | exact getS_ok _ _ _) ?_) | ((with_reducible show pcall _ 65 _ _ _ _); refine pcall_of (page_may _ _ (by first | assumption | omega | (simp only [bool_to_prop]; first | done | omega)) _) rfl f65_fn (by first | rfl | exact getS_ok _ _ _) ?_)); try simp (maxSteps := 2000000) (disch := first | assumption | omega | (simp only [bool_to_prop]; first | done | omega)) only [go_sem, h1n])
          | with_reducible refine AR.block ?_
          | ((with_reducible refine And.intro ?_ ?_); · (first | omega | (simp only [bool_to_prop]; first | done | omega) | (simp (maxSteps := 2000000) (disch := first | assumption | omega | (simp only [bool_to_prop]; first | done | omega)) only [go_sem, h1n]; first | done | omega)))
          | ((with_reducible refine AR.cond_t ?_ ?_); · simp (maxSteps := 2000000) (disch := first | assumption | omega | (simp only [bool_to_prop]; first | done | omega)) only [go_sem, h1n])
          | ((with_reducible refine AR.cond_f ?_ ?_); · simp (maxSteps := 2000000) (disch := first | assumption | omega | (simp only [bool_to_prop]; first | done | omega)) only [go_sem, h1n])
        refine AR.wk (Wk.weakL [(4, .lp 4 0, .lp 4 0), (5, I .i64 2, I .i64 2)] [(4, [c64 0, .z 143], [c64 0, .s 6 [] none])] (H) ?_ ?_ ?_ (glH_sub H 143 6 (l.map Old.cells) b hb)) ?_
        · simp only [keepsW_cons, keepsW_nil, keeplW_cons, keeplW_nil, weaks_cons, weaks_nil, WCs_cons, WCs_nil, WCs_self, WV_self, WC_self, WC_z, WC_s, WC_gl', scopes_c, scopes_g, scopes_u, scopes_ep, scopes_lp, scopes_lw, scopes_nil, mk_cons, mk_nil, upd, Nat.reduceEqDiff, ↓reduceIte, and_self, and_true, true_and, ne_eq, reduceCtorEq, not_false_eq_true]
        · simp only [keepsW_cons, keepsW_nil, keeplW_cons, keeplW_nil, weaks_cons, weaks_nil, WCs_cons, WCs_nil, WCs_self, WV_self, WC_self, WC_z, WC_s, WC_gl', scopes_c, scopes_g, scopes_u, scopes_ep, scopes_lp, scopes_lw, scopes_nil, mk_cons, mk_nil, upd, Nat.reduceEqDiff, ↓reduceIte, and_self, and_true, true_and, ne_eq, reduceCtorEq, not_false_eq_true]
        · simp only [keepsW_cons, keepsW_nil, keeplW_cons, keeplW_nil, weaks_cons, weaks_nil, WCs_cons, WCs_nil, WCs_self, WV_self, WC_self, WC_z, WC_s, WC_gl', scopes_c, scopes_g, scopes_u, scopes_ep, scopes_lp, scopes_lw, scopes_nil, mk_cons, mk_nil, upd, Nat.reduceEqDiff, ↓reduceIte, and_self, and_true, true_and, ne_eq, reduceCtorEq, not_false_eq_true]
        simp only [weaks_cons, weaks_nil]
        repeat' first
          | with_reducible refine AR.seq ?_
          | ((first | with_reducible refine AR.reg ?_ | with_reducible refine AR.skip ?_ | with_reducible refine AR.exit ?_ | ((with_reducible show pcall _ 114 _ _ _ _); refine pcall_of (page_opens _ _ _ (by first | assumption | omega | (simp only [bool_to_prop]; first | done | omega)) _) rfl f114_fn (by first | rfl | exact getS_ok _ _ _) ?_) | ((with_reducible show pcall _ 115 _ _ _ _); refine pcall_of (word_get _ _ _ (by first | assumption | omega | (simp only [bool_to_prop]; first | done | omega)) _) rfl f115_fn (by first | rfl | exact getS_ok _ _ _) ?_) | ((with_reducible show pcall _ 57 _ _ _ _); refine pcall_of (page_lsn _ (by first | assumption | omega | (simp only [bool_to_prop]; first | done | omega)) _) rfl f57_fn (by first | rfl | exact getS_ok _ _ _) ?_) | ((with_reducible show pcall _ 65 _ _ _ _); refine pcall_of (page_may _ _ (by first | assumption | omega | (simp only [bool_to_prop]; first | done | omega)) _) rfl f65_fn (by first | rfl | exact getS_ok _ _ _) ?_)); try simp (maxSteps := 2000000) (disch := first | assumption | omega | (simp only [bool_to_prop]; first | done | omega)) only [go_sem])
          | ((with_reducible refine AR.ret ?_); try simp only [thn_r, blk_r])
          | with_reducible refine AR.block ?_
          | ((with_reducible refine And.intro ?_ ?_); · (first | omega | (simp only [bool_to_prop]; first | done | omega) | (simp (maxSteps := 2000000) (disch := first | assumption | omega | (simp only [bool_to_prop]; first | done | omega)) only [go_sem]; first | done | omega)))
          | ((with_reducible refine AR.cond_t ?_ ?_); · simp (maxSteps := 2000000) (disch := first | assumption | omega | (simp only [bool_to_prop]; first | done | omega)) only [go_sem])
          | ((with_reducible refine AR.cond_f ?_ ?_); · simp (maxSteps := 2000000) (disch := first | assumption | omega | (simp only [bool_to_prop]; first | done | omega)) only [go_sem])
        refine fin_r _ (by simp (maxSteps := 2000000) (disch := first | assumption | omega | (simp only [bool_to_prop]; first | done | omega)) only [resV, rvs, rv1, go_sem]; rfl) rfl ⟨?_, rfl⟩
        rw [guV_none (hno (one_no2 hx1)), hno (one_no2 hx1)]
        rfl
      by_cases hx : p.getD e 0 = 1
      · have hxt := eq_true hx
        have hxn : (p.getD e 0).toNat = 1 := by rw [hx]; rfl
        have t1 : Hd (((e : Int) + 1).toNat = e + 1) := ⟨by omega⟩
        have t10 : Hd (((e : Int) + 1 + 9).toNat = e + 10) := ⟨by omega⟩
        by_cases hn1 : 224 < e + 11
        · repeat' first
            | with_reducible refine AR.seq ?_
            | ((first | with_reducible refine AR.reg ?_ | with_reducible refine AR.skip ?_ | with_reducible refine AR.exit ?_ | ((with_reducible show pcall _ 114 _ _ _ _); refine pcall_of (page_opens _ _ _ (by first | assumption | omega | (simp only [bool_to_prop]; first | done | omega)) _) rfl f114_fn (by first | rfl | exact getS_ok _ _ _) ?_) | ((with_reducible show pcall _ 115 _ _ _ _); refine pcall_of (word_get _ _ _ (by first | assumption | omega | (simp only [bool_to_prop]; first | done | omega)) _) rfl f115_fn (by first | rfl | exact getS_ok _ _ _) ?_) | ((with_reducible show pcall _ 57 _ _ _ _); refine pcall_of (page_lsn _ (by first | assumption | omega | (simp only [bool_to_prop]; first | done | omega)) _) rfl f57_fn (by first | rfl | exact getS_ok _ _ _) ?_) | ((with_reducible show pcall _ 65 _ _ _ _); refine pcall_of (page_may _ _ (by first | assumption | omega | (simp only [bool_to_prop]; first | done | omega)) _) rfl f65_fn (by first | rfl | exact getS_ok _ _ _) ?_)); try simp (maxSteps := 2000000) (disch := first | assumption | omega | (simp only [bool_to_prop]; first | done | omega)) only [go_sem, h1n, hxt, t1.out, t10.out])
            | with_reducible refine AR.block ?_
            | ((with_reducible refine And.intro ?_ ?_); · (first | omega | (simp only [bool_to_prop]; first | done | omega) | (simp (maxSteps := 2000000) (disch := first | assumption | omega | (simp only [bool_to_prop]; first | done | omega)) only [go_sem, h1n, hxt, t1.out, t10.out]; first | done | omega)))
            | ((with_reducible refine AR.cond_t ?_ ?_); · simp (maxSteps := 2000000) (disch := first | assumption | omega | (simp only [bool_to_prop]; first | done | omega)) only [go_sem, h1n, hxt, t1.out, t10.out])
            | ((with_reducible refine AR.cond_f ?_ ?_); · simp (maxSteps := 2000000) (disch := first | assumption | omega | (simp only [bool_to_prop]; first | done | omega)) only [go_sem, h1n, hxt, t1.out, t10.out])
          refine AR.wk (Wk.weakL [(4, .lp 4 0, .lp 4 0), (5, I .i64 2, I .i64 2)] [(4, [c64 0, .z 143], [c64 0, .s 6 [] none])] (H) ?_ ?_ ?_ (glH_sub H 143 6 (l.map Old.cells) b hb)) ?_
          · simp only [keepsW_cons, keepsW_nil, keeplW_cons, keeplW_nil, weaks_cons, weaks_nil, WCs_cons, WCs_nil, WCs_self, WV_self, WC_self, WC_z, WC_s, WC_gl', scopes_c, scopes_g, scopes_u, scopes_ep, scopes_lp, scopes_lw, scopes_nil, mk_cons, mk_nil, upd, Nat.reduceEqDiff, ↓reduceIte, and_self, and_true, true_and, ne_eq, reduceCtorEq, not_false_eq_true]
          · simp only [keepsW_cons, keepsW_nil, keeplW_cons, keeplW_nil, weaks_cons, weaks_nil, WCs_cons, WCs_nil, WCs_self, WV_self, WC_self, WC_z, WC_s, WC_gl', scopes_c, scopes_g, scopes_u, scopes_ep, scopes_lp, scopes_lw, scopes_nil, mk_cons, mk_nil, upd, Nat.reduceEqDiff, ↓reduceIte, and_self, and_true, true_and, ne_eq, reduceCtorEq, not_false_eq_true]
          · simp only [keepsW_cons, keepsW_nil, keeplW_cons, keeplW_nil, weaks_cons, weaks_nil, WCs_cons, WCs_nil, WCs_self, WV_self, WC_self, WC_z, WC_s, WC_gl', scopes_c, scopes_g, scopes_u, scopes_ep, scopes_lp, scopes_lw, scopes_nil, mk_cons, mk_nil, upd, Nat.reduceEqDiff, ↓reduceIte, and_self, and_true, true_and, ne_eq, reduceCtorEq, not_false_eq_true]
          simp only [weaks_cons, weaks_nil]
          repeat' first
            | with_reducible refine AR.seq ?_
            | ((first | with_reducible refine AR.reg ?_ | with_reducible refine AR.skip ?_ | with_reducible refine AR.exit ?_ | ((with_reducible show pcall _ 114 _ _ _ _); refine pcall_of (page_opens _ _ _ (by first | assumption | omega | (simp only [bool_to_prop]; first | done | omega)) _) rfl f114_fn (by first | rfl | exact getS_ok _ _ _) ?_) | ((with_reducible show pcall _ 115 _ _ _ _); refine pcall_of (word_get _ _ _ (by first | assumption | omega | (simp only [bool_to_prop]; first | done | omega)) _) rfl f115_fn (by first | rfl | exact getS_ok _ _ _) ?_) | ((with_reducible show pcall _ 57 _ _ _ _); refine pcall_of (page_lsn _ (by first | assumption | omega | (simp only [bool_to_prop]; first | done | omega)) _) rfl f57_fn (by first | rfl | exact getS_ok _ _ _) ?_) | ((with_reducible show pcall _ 65 _ _ _ _); refine pcall_of (page_may _ _ (by first | assumption | omega | (simp only [bool_to_prop]; first | done | omega)) _) rfl f65_fn (by first | rfl | exact getS_ok _ _ _) ?_)); try simp (maxSteps := 2000000) (disch := first | assumption | omega | (simp only [bool_to_prop]; first | done | omega)) only [go_sem])
            | ((with_reducible refine AR.ret ?_); try simp only [thn_r, blk_r])
            | with_reducible refine AR.block ?_
            | ((with_reducible refine And.intro ?_ ?_); · (first | omega | (simp only [bool_to_prop]; first | done | omega) | (simp (maxSteps := 2000000) (disch := first | assumption | omega | (simp only [bool_to_prop]; first | done | omega)) only [go_sem]; first | done | omega)))
            | ((with_reducible refine AR.cond_t ?_ ?_); · simp (maxSteps := 2000000) (disch := first | assumption | omega | (simp only [bool_to_prop]; first | done | omega)) only [go_sem])
            | ((with_reducible refine AR.cond_f ?_ ?_); · simp (maxSteps := 2000000) (disch := first | assumption | omega | (simp only [bool_to_prop]; first | done | omega)) only [go_sem])
          refine fin_r _ (by simp (maxSteps := 2000000) (disch := first | assumption | omega | (simp only [bool_to_prop]; first | done | omega)) only [resV, rvs, rv1, go_sem]; rfl) rfl ⟨?_, rfl⟩
          rw [guV_none (hno (one_no3 hp hx (.inl hn1))), hno (one_no3 hp hx (.inl hn1))]
          rfl
        have hby := (p.getD (e + 10) 0).toNat_lt
        by_cases hn2 : 224 < e + 11 + (p.getD (e + 10) 0).toNat
        · repeat' first
            | with_reducible refine AR.seq ?_
            | ((first | with_reducible refine AR.reg ?_ | with_reducible refine AR.skip ?_ | with_reducible refine AR.exit ?_ | ((with_reducible show pcall _ 114 _ _ _ _); refine pcall_of (page_opens _ _ _ (by first | assumption | omega | (simp only [bool_to_prop]; first | done | omega)) _) rfl f114_fn (by first | rfl | exact getS_ok _ _ _) ?_) | ((with_reducible show pcall _ 115 _ _ _ _); refine pcall_of (word_get _ _ _ (by first | assumption | omega | (simp only [bool_to_prop]; first | done | omega)) _) rfl f115_fn (by first | rfl | exact getS_ok _ _ _) ?_) | ((with_reducible show pcall _ 57 _ _ _ _); refine pcall_of (page_lsn _ (by first | assumption | omega | (simp only [bool_to_prop]; first | done | omega)) _) rfl f57_fn (by first | rfl | exact getS_ok _ _ _) ?_) | ((with_reducible show pcall _ 65 _ _ _ _); refine pcall_of (page_may _ _ (by first | assumption | omega | (simp only [bool_to_prop]; first | done | omega)) _) rfl f65_fn (by first | rfl | exact getS_ok _ _ _) ?_)); try simp (maxSteps := 2000000) (disch := first | assumption | omega | (simp only [bool_to_prop]; first | done | omega)) only [go_sem, h1n, hxt, t1.out, t10.out])
            | with_reducible refine AR.block ?_
            | ((with_reducible refine And.intro ?_ ?_); · (first | omega | (simp only [bool_to_prop]; first | done | omega) | (simp (maxSteps := 2000000) (disch := first | assumption | omega | (simp only [bool_to_prop]; first | done | omega)) only [go_sem, h1n, hxt, t1.out, t10.out]; first | done | omega)))
            | ((with_reducible refine AR.cond_t ?_ ?_); · simp (maxSteps := 2000000) (disch := first | assumption | omega | (simp only [bool_to_prop]; first | done | omega)) only [go_sem, h1n, hxt, t1.out, t10.out])
            | ((with_reducible refine AR.cond_f ?_ ?_); · simp (maxSteps := 2000000) (disch := first | assumption | omega | (simp only [bool_to_prop]; first | done | omega)) only [go_sem, h1n, hxt, t1.out, t10.out])
          refine AR.wk (Wk.weakL [(4, .lp 4 0, .lp 4 0), (5, I .i64 2, I .i64 2)] [(4, [c64 0, .z 143], [c64 0, .s 6 [] none])] (H) ?_ ?_ ?_ (glH_sub H 143 6 (l.map Old.cells) b hb)) ?_
          · simp only [keepsW_cons, keepsW_nil, keeplW_cons, keeplW_nil, weaks_cons, weaks_nil, WCs_cons, WCs_nil, WCs_self, WV_self, WC_self, WC_z, WC_s, WC_gl', scopes_c, scopes_g, scopes_u, scopes_ep, scopes_lp, scopes_lw, scopes_nil, mk_cons, mk_nil, upd, Nat.reduceEqDiff, ↓reduceIte, and_self, and_true, true_and, ne_eq, reduceCtorEq, not_false_eq_true]
          · simp only [keepsW_cons, keepsW_nil, keeplW_cons, keeplW_nil, weaks_cons, weaks_nil, WCs_cons, WCs_nil, WCs_self, WV_self, WC_self, WC_z, WC_s, WC_gl', scopes_c, scopes_g, scopes_u, scopes_ep, scopes_lp, scopes_lw, scopes_nil, mk_cons, mk_nil, upd, Nat.reduceEqDiff, ↓reduceIte, and_self, and_true, true_and, ne_eq, reduceCtorEq, not_false_eq_true]
          · simp only [keepsW_cons, keepsW_nil, keeplW_cons, keeplW_nil, weaks_cons, weaks_nil, WCs_cons, WCs_nil, WCs_self, WV_self, WC_self, WC_z, WC_s, WC_gl', scopes_c, scopes_g, scopes_u, scopes_ep, scopes_lp, scopes_lw, scopes_nil, mk_cons, mk_nil, upd, Nat.reduceEqDiff, ↓reduceIte, and_self, and_true, true_and, ne_eq, reduceCtorEq, not_false_eq_true]
          simp only [weaks_cons, weaks_nil]
          repeat' first
            | with_reducible refine AR.seq ?_
            | ((first | with_reducible refine AR.reg ?_ | with_reducible refine AR.skip ?_ | with_reducible refine AR.exit ?_ | ((with_reducible show pcall _ 114 _ _ _ _); refine pcall_of (page_opens _ _ _ (by first | assumption | omega | (simp only [bool_to_prop]; first | done | omega)) _) rfl f114_fn (by first | rfl | exact getS_ok _ _ _) ?_) | ((with_reducible show pcall _ 115 _ _ _ _); refine pcall_of (word_get _ _ _ (by first | assumption | omega | (simp only [bool_to_prop]; first | done | omega)) _) rfl f115_fn (by first | rfl | exact getS_ok _ _ _) ?_) | ((with_reducible show pcall _ 57 _ _ _ _); refine pcall_of (page_lsn _ (by first | assumption | omega | (simp only [bool_to_prop]; first | done | omega)) _) rfl f57_fn (by first | rfl | exact getS_ok _ _ _) ?_) | ((with_reducible show pcall _ 65 _ _ _ _); refine pcall_of (page_may _ _ (by first | assumption | omega | (simp only [bool_to_prop]; first | done | omega)) _) rfl f65_fn (by first | rfl | exact getS_ok _ _ _) ?_)); try simp (maxSteps := 2000000) (disch := first | assumption | omega | (simp only [bool_to_prop]; first | done | omega)) only [go_sem])
            | ((with_reducible refine AR.ret ?_); try simp only [thn_r, blk_r])
            | with_reducible refine AR.block ?_
            | ((with_reducible refine And.intro ?_ ?_); · (first | omega | (simp only [bool_to_prop]; first | done | omega) | (simp (maxSteps := 2000000) (disch := first | assumption | omega | (simp only [bool_to_prop]; first | done | omega)) only [go_sem]; first | done | omega)))
            | ((with_reducible refine AR.cond_t ?_ ?_); · simp (maxSteps := 2000000) (disch := first | assumption | omega | (simp only [bool_to_prop]; first | done | omega)) only [go_sem])
            | ((with_reducible refine AR.cond_f ?_ ?_); · simp (maxSteps := 2000000) (disch := first | assumption | omega | (simp only [bool_to_prop]; first | done | omega)) only [go_sem])
          refine fin_r _ (by simp (maxSteps := 2000000) (disch := first | assumption | omega | (simp only [bool_to_prop]; first | done | omega)) only [resV, rvs, rv1, go_sem]; rfl) rfl ⟨?_, rfl⟩
          rw [guV_none (hno (one_no3 hp hx (.inr hn2))), hno (one_no3 hp hx (.inr hn2))]
          rfl
        have t3 : Hd (((e : Int) + 1 + 2).toNat = e + 3) := ⟨by omega⟩
        have t7 : Hd (((e : Int) + 1 + 6).toNat = e + 7) := ⟨by omega⟩
        have t9 : Hd (((e : Int) + 1 + 8).toNat = e + 9) := ⟨by omega⟩
        have t11 : Hd (((e : Int) + 1 + 10).toNat = e + 11) := ⟨by omega⟩
        have te : Hd (((e : Int) + 1 + 10 + ((p.getD (e + 10) 0).toNat : Int)).toNat = e + 11 + (p.getD (e + 10) 0).toNat) := ⟨by omega⟩
        have tl : Hd (e + 11 + (p.getD (e + 10) 0).toNat - (e + 11) = (p.getD (e + 10) 0).toNat) := ⟨by omega⟩
        have hone := one_1 hp hx (by omega)
        have hps : parse p (i + 1) 16 = some (l ++ [decO p e], e + 11 + (p.getD (e + 10) 0).toNat) := by rw [hsn, hone]
        clear hsn hone hno
        repeat' first
          | with_reducible refine AR.seq ?_
          | ((first | with_reducible refine AR.reg ?_ | with_reducible refine AR.skip ?_ | with_reducible refine AR.exit ?_ | ((with_reducible show pcall _ 114 _ _ _ _); refine pcall_of (page_opens _ _ _ (by first | assumption | omega | (simp only [bool_to_prop]; first | done | omega)) _) rfl f114_fn (by first | rfl | exact getS_ok _ _ _) ?_) | ((with_reducible show pcall _ 115 _ _ _ _); refine pcall_of (word_get _ _ _ (by first | assumption | omega | (simp only [bool_to_prop]; first | done | omega)) _) rfl f115_fn (by first | rfl | exact getS_ok _ _ _) ?_) | ((with_reducible show pcall _ 57 _ _ _ _); refine pcall_of (page_lsn _ (by first | assumption | omega | (simp only [bool_to_prop]; first | done | omega)) _) rfl f57_fn (by first | rfl | exact getS_ok _ _ _) ?_) | ((with_reducible show pcall _ 65 _ _ _ _); refine pcall_of (page_may _ _ (by first | assumption | omega | (simp only [bool_to_prop]; first | done | omega)) _) rfl f65_fn (by first | rfl | exact getS_ok _ _ _) ?_)); try simp (maxSteps := 2000000) (disch := first | assumption | omega | (simp only [bool_to_prop]; first | done | omega)) only [go_sem, h1n, hxt, t1.out, t10.out, t3.out, t7.out, t9.out, t11.out, te.out, tl.out])
          | ((with_reducible refine AR.ret ?_); try simp only [thn_r, blk_r])
          | with_reducible refine AR.block ?_
          | ((with_reducible refine And.intro ?_ ?_); · (first | omega | (simp only [bool_to_prop]; first | done | omega) | (simp (maxSteps := 2000000) (disch := first | assumption | omega | (simp only [bool_to_prop]; first | done | omega)) only [go_sem, h1n, hxt, t1.out, t10.out, t3.out, t7.out, t9.out, t11.out, te.out, tl.out]; first | done | omega)))
          | ((with_reducible refine AR.cond_t ?_ ?_); · simp (maxSteps := 2000000) (disch := first | assumption | omega | (simp only [bool_to_prop]; first | done | omega)) only [go_sem, h1n, hxt, t1.out, t10.out, t3.out, t7.out, t9.out, t11.out, te.out, tl.out])
          | ((with_reducible refine AR.cond_f ?_ ?_); · simp (maxSteps := 2000000) (disch := first | assumption | omega | (simp only [bool_to_prop]; first | done | omega)) only [go_sem, h1n, hxt, t1.out, t10.out, t3.out, t7.out, t9.out, t11.out, te.out, tl.out])
        refine act_ap_gl (H := H) (l.map Old.cells) b 1 (Old.cells (decO p e)) (by simp (maxSteps := 2000000) (disch := first | assumption | omega | (simp only [bool_to_prop]; first | done | omega)) only [go_sem] <;> rfl) (by simp (maxSteps := 2000000) (disch := first | assumption | omega | (simp only [bool_to_prop]; first | done | omega)) only [go_sem, srcE] <;> rfl) hb rfl (by omega) (by simp only [List.length_map]; omega) (by simp only [List.length_map]; unfold maxLen; omega) ?_
        intro b' hb'
        rw [cells_chunk, map_cells_snoc]
        simp (maxSteps := 2000000) (disch := first | assumption | omega | (simp only [bool_to_prop]; first | done | omega)) only [go_sem]
        repeat' first
          | with_reducible refine AR.seq ?_
          | ((first | with_reducible refine AR.reg ?_ | with_reducible refine AR.skip ?_ | with_reducible refine AR.exit ?_ | ((with_reducible show pcall _ 114 _ _ _ _); refine pcall_of (page_opens _ _ _ (by first | assumption | omega | (simp only [bool_to_prop]; first | done | omega)) _) rfl f114_fn (by first | rfl | exact getS_ok _ _ _) ?_) | ((with_reducible show pcall _ 115 _ _ _ _); refine pcall_of (word_get _ _ _ (by first | assumption | omega | (simp only [bool_to_prop]; first | done | omega)) _) rfl f115_fn (by first | rfl | exact getS_ok _ _ _) ?_) | ((with_reducible show pcall _ 57 _ _ _ _); refine pcall_of (page_lsn _ (by first | assumption | omega | (simp only [bool_to_prop]; first | done | omega)) _) rfl f57_fn (by first | rfl | exact getS_ok _ _ _) ?_) | ((with_reducible show pcall _ 65 _ _ _ _); refine pcall_of (page_may _ _ (by first | assumption | omega | (simp only [bool_to_prop]; first | done | omega)) _) rfl f65_fn (by first | rfl | exact getS_ok _ _ _) ?_)); try simp (maxSteps := 2000000) (disch := first | assumption | omega | (simp only [bool_to_prop]; first | done | omega)) only [go_sem])
          | ((with_reducible refine AR.ret ?_); try simp only [thn_r, blk_r])
          | with_reducible refine AR.block ?_
          | ((with_reducible refine And.intro ?_ ?_); · (first | omega | (simp only [bool_to_prop]; first | done | omega) | (simp (maxSteps := 2000000) (disch := first | assumption | omega | (simp only [bool_to_prop]; first | done | omega)) only [go_sem]; first | done | omega)))
          | ((with_reducible refine AR.cond_t ?_ ?_); · simp (maxSteps := 2000000) (disch := first | assumption | omega | (simp only [bool_to_prop]; first | done | omega)) only [go_sem])
          | ((with_reducible refine AR.cond_f ?_ ?_); · simp (maxSteps := 2000000) (disch := first | assumption | omega | (simp only [bool_to_prop]; first | done | omega)) only [go_sem])
        refine ⟨(i + 1, e + 11 + (p.getD (e + 10) 0).toNat, l ++ [decO p e], b'), Wk.lists _ _ ?_ ?_ ?_, ?_, ?_⟩
        all_goals try (first | exact trivial | (simp (maxSteps := 2000000) (disch := first | assumption | omega | (simp only [bool_to_prop]; first | done | omega)) only [List.take_zero, List.foldl_nil, List.nil_append, List.append_nil, List.replicate_zero, Nat.sub_zero, Nat.sub_self, Nat.mul_zero, le_0, it_0, sub_0, keeps_cons, keeps_nil, keepl_cons, keepl_nil, scopes_c, scopes_g, scopes_u, scopes_ep, scopes_lp, scopes_lw, scopes_nil, mk_cons, mk_nil, upd, Nat.reduceEqDiff, ↓reduceIte, and_self, and_true, true_and, ne_eq, reduceCtorEq, not_false_eq_true, Int.natCast_add, Int.natCast_one, Int.cast_ofNat_Int, Option.some.injEq, AV.c.injEq, AV.g.injEq, map_inj_b8, c64_inj, c32_inj, c16_inj, b8_inj, CV.p.injEq, Value.int.injEq, Value.string.injEq, AV.lp.injEq, AV.lw.injEq, List.cons.injEq]; done) | omega)
        all_goals try (simp (maxSteps := 2000000) (disch := first | assumption | omega | (simp only [bool_to_prop]; first | done | omega)) only [List.take_zero, List.foldl_nil, List.nil_append, List.append_nil, List.replicate_zero, Nat.sub_zero, Nat.sub_self, Nat.mul_zero, le_0, it_0, sub_0, keeps_cons, keeps_nil, keepl_cons, keepl_nil, scopes_c, scopes_g, scopes_u, scopes_ep, scopes_lp, scopes_lw, scopes_nil, mk_cons, mk_nil, upd, Nat.reduceEqDiff, ↓reduceIte, and_self, and_true, true_and, ne_eq, reduceCtorEq, not_false_eq_true, Int.natCast_add, Int.natCast_one, Int.cast_ofNat_Int, Option.some.injEq, AV.c.injEq, AV.g.injEq, map_inj_b8, c64_inj, c32_inj, c16_inj, b8_inj, CV.p.injEq, Value.int.injEq, Value.string.injEq, AV.lp.injEq, AV.lw.injEq, List.cons.injEq])
        all_goals try omega
        all_goals try with_reducible (first | rfl | exact ⟨rfl, rfl⟩ | exact ⟨rfl, rfl, rfl⟩)
        · exact ⟨by omega, hps, by omega, fun _ => hb'⟩
      · have hxt := eq_false hx
        have hx0 : p.getD e 0 = 0 := by
          apply UInt8.toNat_inj.1
          have : (p.getD e 0).toNat ≠ 1 := fun k => hx (UInt8.toNat_inj.1 k)
          show _ = 0
          omega
        have hone := one_0 hp (by omega) hx0
        have hps : parse p (i + 1) 16 = some (l ++ [Old.zero], e + 1) := by rw [hsn, hone]
        clear hsn hone hno
        repeat' first
          | with_reducible refine AR.seq ?_
          | ((first | with_reducible refine AR.reg ?_ | with_reducible refine AR.skip ?_ | with_reducible refine AR.exit ?_ | ((with_reducible show pcall _ 114 _ _ _ _); refine pcall_of (page_opens _ _ _ (by first | assumption | omega | (simp only [bool_to_prop]; first | done | omega)) _) rfl f114_fn (by first | rfl | exact getS_ok _ _ _) ?_) | ((with_reducible show pcall _ 115 _ _ _ _); refine pcall_of (word_get _ _ _ (by first | assumption | omega | (simp only [bool_to_prop]; first | done | omega)) _) rfl f115_fn (by first | rfl | exact getS_ok _ _ _) ?_) | ((with_reducible show pcall _ 57 _ _ _ _); refine pcall_of (page_lsn _ (by first | assumption | omega | (simp only [bool_to_prop]; first | done | omega)) _) rfl f57_fn (by first | rfl | exact getS_ok _ _ _) ?_) | ((with_reducible show pcall _ 65 _ _ _ _); refine pcall_of (page_may _ _ (by first | assumption | omega | (simp only [bool_to_prop]; first | done | omega)) _) rfl f65_fn (by first | rfl | exact getS_ok _ _ _) ?_)); try simp (maxSteps := 2000000) (disch := first | assumption | omega | (simp only [bool_to_prop]; first | done | omega)) only [go_sem, h1n, hxt])
          | ((with_reducible refine AR.ret ?_); try simp only [thn_r, blk_r])
          | with_reducible refine AR.block ?_
          | ((with_reducible refine And.intro ?_ ?_); · (first | omega | (simp only [bool_to_prop]; first | done | omega) | (simp (maxSteps := 2000000) (disch := first | assumption | omega | (simp only [bool_to_prop]; first | done | omega)) only [go_sem, h1n, hxt]; first | done | omega)))
          | ((with_reducible refine AR.cond_t ?_ ?_); · simp (maxSteps := 2000000) (disch := first | assumption | omega | (simp only [bool_to_prop]; first | done | omega)) only [go_sem, h1n, hxt])
          | ((with_reducible refine AR.cond_f ?_ ?_); · simp (maxSteps := 2000000) (disch := first | assumption | omega | (simp only [bool_to_prop]; first | done | omega)) only [go_sem, h1n, hxt])
        refine act_ap_gl (H := H) (l.map Old.cells) b 1 (Old.cells Old.zero) (by simp (maxSteps := 2000000) (disch := first | assumption | omega | (simp only [bool_to_prop]; first | done | omega)) only [go_sem] <;> rfl) (by simp (maxSteps := 2000000) (disch := first | assumption | omega | (simp only [bool_to_prop]; first | done | omega)) only [go_sem, srcE] <;> rfl) hb rfl (by omega) (by simp only [List.length_map]; omega) (by simp only [List.length_map]; unfold maxLen; omega) ?_
        intro b' hb'
        rw [cells_chunk, map_cells_snoc]
        simp (maxSteps := 2000000) (disch := first | assumption | omega | (simp only [bool_to_prop]; first | done | omega)) only [go_sem]
        repeat' first
          | with_reducible refine AR.seq ?_
          | ((first | with_reducible refine AR.reg ?_ | with_reducible refine AR.skip ?_ | with_reducible refine AR.exit ?_ | ((with_reducible show pcall _ 114 _ _ _ _); refine pcall_of (page_opens _ _ _ (by first | assumption | omega | (simp only [bool_to_prop]; first | done | omega)) _) rfl f114_fn (by first | rfl | exact getS_ok _ _ _) ?_) | ((with_reducible show pcall _ 115 _ _ _ _); refine pcall_of (word_get _ _ _ (by first | assumption | omega | (simp only [bool_to_prop]; first | done | omega)) _) rfl f115_fn (by first | rfl | exact getS_ok _ _ _) ?_) | ((with_reducible show pcall _ 57 _ _ _ _); refine pcall_of (page_lsn _ (by first | assumption | omega | (simp only [bool_to_prop]; first | done | omega)) _) rfl f57_fn (by first | rfl | exact getS_ok _ _ _) ?_) | ((with_reducible show pcall _ 65 _ _ _ _); refine pcall_of (page_may _ _ (by first | assumption | omega | (simp only [bool_to_prop]; first | done | omega)) _) rfl f65_fn (by first | rfl | exact getS_ok _ _ _) ?_)); try simp (maxSteps := 2000000) (disch := first | assumption | omega | (simp only [bool_to_prop]; first | done | omega)) only [go_sem])
          | ((with_reducible refine AR.ret ?_); try simp only [thn_r, blk_r])
          | with_reducible refine AR.block ?_
          | ((with_reducible refine And.intro ?_ ?_); · (first | omega | (simp only [bool_to_prop]; first | done | omega) | (simp (maxSteps := 2000000) (disch := first | assumption | omega | (simp only [bool_to_prop]; first | done | omega)) only [go_sem]; first | done | omega)))
          | ((with_reducible refine AR.cond_t ?_ ?_); · simp (maxSteps := 2000000) (disch := first | assumption | omega | (simp only [bool_to_prop]; first | done | omega)) only [go_sem])
          | ((with_reducible refine AR.cond_f ?_ ?_); · simp (maxSteps := 2000000) (disch := first | assumption | omega | (simp only [bool_to_prop]; first | done | omega)) only [go_sem])
        refine ⟨(i + 1, e + 1, l ++ [Old.zero], b'), Wk.lists _ _ ?_ ?_ ?_, ?_, ?_⟩
        all_goals try (first | exact trivial | (simp (maxSteps := 2000000) (disch := first | assumption | omega | (simp only [bool_to_prop]; first | done | omega)) only [List.take_zero, List.foldl_nil, List.nil_append, List.append_nil, List.replicate_zero, Nat.sub_zero, Nat.sub_self, Nat.mul_zero, le_0, it_0, sub_0, keeps_cons, keeps_nil, keepl_cons, keepl_nil, scopes_c, scopes_g, scopes_u, scopes_ep, scopes_lp, scopes_lw, scopes_nil, mk_cons, mk_nil, upd, Nat.reduceEqDiff, ↓reduceIte, and_self, and_true, true_and, ne_eq, reduceCtorEq, not_false_eq_true, Int.natCast_add, Int.natCast_one, Int.cast_ofNat_Int, Option.some.injEq, AV.c.injEq, AV.g.injEq, map_inj_b8, c64_inj, c32_inj, c16_inj, b8_inj, CV.p.injEq, Value.int.injEq, Value.string.injEq, AV.lp.injEq, AV.lw.injEq, List.cons.injEq]; done) | omega)
        all_goals try (simp (maxSteps := 2000000) (disch := first | assumption | omega | (simp only [bool_to_prop]; first | done | omega)) only [List.take_zero, List.foldl_nil, List.nil_append, List.append_nil, List.replicate_zero, Nat.sub_zero, Nat.sub_self, Nat.mul_zero, le_0, it_0, sub_0, keeps_cons, keeps_nil, keepl_cons, keepl_nil, scopes_c, scopes_g, scopes_u, scopes_ep, scopes_lp, scopes_lw, scopes_nil, mk_cons, mk_nil, upd, Nat.reduceEqDiff, ↓reduceIte, and_self, and_true, true_and, ne_eq, reduceCtorEq, not_false_eq_true, Int.natCast_add, Int.natCast_one, Int.cast_ofNat_Int, Option.some.injEq, AV.c.injEq, AV.g.injEq, map_inj_b8, c64_inj, c32_inj, c16_inj, b8_inj, CV.p.injEq, Value.int.injEq, Value.string.injEq, AV.lp.injEq, AV.lw.injEq, List.cons.injEq])
        all_goals try omega
        all_goals try with_reducible (first | rfl | exact ⟨rfl, rfl⟩ | exact ⟨rfl, rfl, rfl⟩)
        · exact ⟨by omega, hps, by omega, fun _ => hb'⟩
    · obtain rfl : i = (p.getD 15 0).toNat := by omega
      repeat' first
        | with_reducible refine AR.seq ?_
        | ((first | with_reducible refine AR.reg ?_ | with_reducible refine AR.skip ?_ | with_reducible refine AR.exit ?_ | ((with_reducible show pcall _ 114 _ _ _ _); refine pcall_of (page_opens _ _ _ (by first | assumption | omega | (simp only [bool_to_prop]; first | done | omega)) _) rfl f114_fn (by first | rfl | exact getS_ok _ _ _) ?_) | ((with_reducible show pcall _ 115 _ _ _ _); refine pcall_of (word_get _ _ _ (by first | assumption | omega | (simp only [bool_to_prop]; first | done | omega)) _) rfl f115_fn (by first | rfl | exact getS_ok _ _ _) ?_) | ((with_reducible show pcall _ 57 _ _ _ _); refine pcall_of (page_lsn _ (by first | assumption | omega | (simp only [bool_to_prop]; first | done | omega)) _) rfl f57_fn (by first | rfl | exact getS_ok _ _ _) ?_) | ((with_reducible show pcall _ 65 _ _ _ _); refine pcall_of (page_may _ _ (by first | assumption | omega | (simp only [bool_to_prop]; first | done | omega)) _) rfl f65_fn (by first | rfl | exact getS_ok _ _ _) ?_)); try simp (maxSteps := 2000000) (disch := first | assumption | omega | (simp only [bool_to_prop]; first | done | omega)) only [go_sem])
        | ((with_reducible refine AR.ret ?_); try simp only [thn_r, blk_r])
        | with_reducible refine AR.block ?_
        | ((with_reducible refine And.intro ?_ ?_); · (first | omega | (simp only [bool_to_prop]; first | done | omega) | (simp (maxSteps := 2000000) (disch := first | assumption | omega | (simp only [bool_to_prop]; first | done | omega)) only [go_sem]; first | done | omega)))
        | ((with_reducible refine AR.cond_t ?_ ?_); · simp (maxSteps := 2000000) (disch := first | assumption | omega | (simp only [bool_to_prop]; first | done | omega)) only [go_sem])
        | ((with_reducible refine AR.cond_f ?_ ?_); · simp (maxSteps := 2000000) (disch := first | assumption | omega | (simp only [bool_to_prop]; first | done | omega)) only [go_sem])
      refine AR.wk (Wk.weakL [(3, .lp 3 0, .lp 3 0), (4, .lp 4 0, .lp 4 0), (6, S (str p), S (str p)), (7, .lp 7 0, .lp 7 0), (8, I .i64 e, I .i64 e)] [(3, p.map b8, p.map b8), (4, [c64 0, .z 143], [c64 0, .s 6 [] none]), (7, [c64 (lsnOf p), glc 143 6 (l.map Old.cells) b], [c64 (lsnOf p), .s 6 (l.map Old.cells) none])] (H) ?_ ?_ ?_ (glH_sub H 143 6 (l.map Old.cells) b hb)) ?_
      · simp only [keepsW_cons, keepsW_nil, keeplW_cons, keeplW_nil, weaks_cons, weaks_nil, WCs_cons, WCs_nil, WCs_self, WV_self, WC_self, WC_z, WC_s, WC_gl', scopes_c, scopes_g, scopes_u, scopes_ep, scopes_lp, scopes_lw, scopes_nil, mk_cons, mk_nil, upd, Nat.reduceEqDiff, ↓reduceIte, and_self, and_true, true_and, ne_eq, reduceCtorEq, not_false_eq_true]
      · simp only [keepsW_cons, keepsW_nil, keeplW_cons, keeplW_nil, weaks_cons, weaks_nil, WCs_cons, WCs_nil, WCs_self, WV_self, WC_self, WC_z, WC_s, WC_gl', scopes_c, scopes_g, scopes_u, scopes_ep, scopes_lp, scopes_lw, scopes_nil, mk_cons, mk_nil, upd, Nat.reduceEqDiff, ↓reduceIte, and_self, and_true, true_and, ne_eq, reduceCtorEq, not_false_eq_true]
      · simp only [keepsW_cons, keepsW_nil, keeplW_cons, keeplW_nil, weaks_cons, weaks_nil, WCs_cons, WCs_nil, WCs_self, WV_self, WC_self, WC_z, WC_s, WC_gl', scopes_c, scopes_g, scopes_u, scopes_ep, scopes_lp, scopes_lw, scopes_nil, mk_cons, mk_nil, upd, Nat.reduceEqDiff, ↓reduceIte, and_self, and_true, true_and, ne_eq, reduceCtorEq, not_false_eq_true]
      simp only [weaks_cons, weaks_nil]
      repeat' first
        | with_reducible refine AR.seq ?_
        | ((first | with_reducible refine AR.reg ?_ | with_reducible refine AR.skip ?_ | with_reducible refine AR.exit ?_ | ((with_reducible show pcall _ 114 _ _ _ _); refine pcall_of (page_opens _ _ _ (by first | assumption | omega | (simp only [bool_to_prop]; first | done | omega)) _) rfl f114_fn (by first | rfl | exact getS_ok _ _ _) ?_) | ((with_reducible show pcall _ 115 _ _ _ _); refine pcall_of (word_get _ _ _ (by first | assumption | omega | (simp only [bool_to_prop]; first | done | omega)) _) rfl f115_fn (by first | rfl | exact getS_ok _ _ _) ?_) | ((with_reducible show pcall _ 57 _ _ _ _); refine pcall_of (page_lsn _ (by first | assumption | omega | (simp only [bool_to_prop]; first | done | omega)) _) rfl f57_fn (by first | rfl | exact getS_ok _ _ _) ?_) | ((with_reducible show pcall _ 65 _ _ _ _); refine pcall_of (page_may _ _ (by first | assumption | omega | (simp only [bool_to_prop]; first | done | omega)) _) rfl f65_fn (by first | rfl | exact getS_ok _ _ _) ?_)); try simp (maxSteps := 2000000) (disch := first | assumption | omega | (simp only [bool_to_prop]; first | done | omega)) only [go_sem])
        | ((with_reducible refine AR.ret ?_); try simp only [thn_r, blk_r])
        | with_reducible refine AR.block ?_
        | ((with_reducible refine And.intro ?_ ?_); · (first | omega | (simp only [bool_to_prop]; first | done | omega) | (simp (maxSteps := 2000000) (disch := first | assumption | omega | (simp only [bool_to_prop]; first | done | omega)) only [go_sem]; first | done | omega)))
        | ((with_reducible refine AR.cond_t ?_ ?_); · simp (maxSteps := 2000000) (disch := first | assumption | omega | (simp only [bool_to_prop]; first | done | omega)) only [go_sem])
        | ((with_reducible refine AR.cond_f ?_ ?_); · simp (maxSteps := 2000000) (disch := first | assumption | omega | (simp only [bool_to_prop]; first | done | omega)) only [go_sem])
      refine AR.loopS (σ := Nat) (fun k => ⟨mk [(4, .lp 4 0), (6, S (str p)), (7, .lp 7 0), (8, I .i64 (e + k : Nat))], mk [(4, [c64 0, .s 6 [] none]), (7, [c64 (lsnOf p), .s 6 (l.map Old.cells) none])], H⟩) (fun k => e + k ≤ 224 ∧ (p.drop e).take k = List.replicate k 0) (fun k => 224 - k) (0) ?_ ?_ ?_
      refine Wk.lists _ _ ?_ ?_ ?_
      all_goals try (first | exact trivial | (simp (maxSteps := 2000000) (disch := first | assumption | omega | (simp only [bool_to_prop]; first | done | omega)) only [List.take_zero, List.foldl_nil, List.nil_append, List.append_nil, List.replicate_zero, Nat.sub_zero, Nat.sub_self, Nat.mul_zero, le_0, it_0, sub_0, keeps_cons, keeps_nil, keepl_cons, keepl_nil, scopes_c, scopes_g, scopes_u, scopes_ep, scopes_lp, scopes_lw, scopes_nil, mk_cons, mk_nil, upd, Nat.reduceEqDiff, ↓reduceIte, and_self, and_true, true_and, ne_eq, reduceCtorEq, not_false_eq_true, Int.natCast_add, Int.natCast_one, Int.cast_ofNat_Int, Option.some.injEq, AV.c.injEq, AV.g.injEq, map_inj_b8, c64_inj, c32_inj, c16_inj, b8_inj, CV.p.injEq, Value.int.injEq, Value.string.injEq, AV.lp.injEq, AV.lw.injEq, List.cons.injEq]; done) | omega)
      all_goals try (simp (maxSteps := 2000000) (disch := first | assumption | omega | (simp only [bool_to_prop]; first | done | omega)) only [List.take_zero, List.foldl_nil, List.nil_append, List.append_nil, List.replicate_zero, Nat.sub_zero, Nat.sub_self, Nat.mul_zero, le_0, it_0, sub_0, keeps_cons, keeps_nil, keepl_cons, keepl_nil, scopes_c, scopes_g, scopes_u, scopes_ep, scopes_lp, scopes_lw, scopes_nil, mk_cons, mk_nil, upd, Nat.reduceEqDiff, ↓reduceIte, and_self, and_true, true_and, ne_eq, reduceCtorEq, not_false_eq_true, Int.natCast_add, Int.natCast_one, Int.cast_ofNat_Int, Option.some.injEq, AV.c.injEq, AV.g.injEq, map_inj_b8, c64_inj, c32_inj, c16_inj, b8_inj, CV.p.injEq, Value.int.injEq, Value.string.injEq, AV.lp.injEq, AV.lw.injEq, List.cons.injEq])
      all_goals try omega
      all_goals try with_reducible (first | rfl | exact ⟨rfl, rfl⟩ | exact ⟨rfl, rfl, rfl⟩)
      rintro k ⟨hk, hz⟩
      by_cases hke : e + k < 224
      · have tk : Hd (((e : Int) + (k : Int)).toNat = e + k) := ⟨by omega⟩
        by_cases h0 : p.getD (e + k) 0 = 0
        · have h0t := eq_true h0
          have hz' := zero_step p e k (by omega) hz h0
          clear hz
          repeat' first
            | with_reducible refine AR.seq ?_
            | ((first | with_reducible refine AR.reg ?_ | with_reducible refine AR.skip ?_ | with_reducible refine AR.exit ?_ | ((with_reducible show pcall _ 114 _ _ _ _); refine pcall_of (page_opens _ _ _ (by first | assumption | omega | (simp only [bool_to_prop]; first | done | omega)) _) rfl f114_fn (by first | rfl | exact getS_ok _ _ _) ?_) | ((with_reducible show pcall _ 115 _ _ _ _); refine pcall_of (word_get _ _ _ (by first | assumption | omega | (simp only [bool_to_prop]; first | done | omega)) _) rfl f115_fn (by first | rfl | exact getS_ok _ _ _) ?_) | ((with_reducible show pcall _ 57 _ _ _ _); refine pcall_of (page_lsn _ (by first | assumption | omega | (simp only [bool_to_prop]; first | done | omega)) _) rfl f57_fn (by first | rfl | exact getS_ok _ _ _) ?_) | ((with_reducible show pcall _ 65 _ _ _ _); refine pcall_of (page_may _ _ (by first | assumption | omega | (simp only [bool_to_prop]; first | done | omega)) _) rfl f65_fn (by first | rfl | exact getS_ok _ _ _) ?_)); try simp (maxSteps := 2000000) (disch := first | assumption | omega | (simp only [bool_to_prop]; first | done | omega)) only [go_sem, h0t, tk.out])
            | ((with_reducible refine AR.ret ?_); try simp only [thn_r, blk_r])
            | with_reducible refine AR.block ?_
            | ((with_reducible refine And.intro ?_ ?_); · (first | omega | (simp only [bool_to_prop]; first | done | omega) | (simp (maxSteps := 2000000) (disch := first | assumption | omega | (simp only [bool_to_prop]; first | done | omega)) only [go_sem, h0t, tk.out]; first | done | omega)))
            | ((with_reducible refine AR.cond_t ?_ ?_); · simp (maxSteps := 2000000) (disch := first | assumption | omega | (simp only [bool_to_prop]; first | done | omega)) only [go_sem, h0t, tk.out])
            | ((with_reducible refine AR.cond_f ?_ ?_); · simp (maxSteps := 2000000) (disch := first | assumption | omega | (simp only [bool_to_prop]; first | done | omega)) only [go_sem, h0t, tk.out])
          refine ⟨k + 1, Wk.lists _ _ ?_ ?_ ?_, ?_, ?_⟩
          all_goals try (first | exact trivial | (simp (maxSteps := 2000000) (disch := first | assumption | omega | (simp only [bool_to_prop]; first | done | omega)) only [List.take_zero, List.foldl_nil, List.nil_append, List.append_nil, List.replicate_zero, Nat.sub_zero, Nat.sub_self, Nat.mul_zero, le_0, it_0, sub_0, keeps_cons, keeps_nil, keepl_cons, keepl_nil, scopes_c, scopes_g, scopes_u, scopes_ep, scopes_lp, scopes_lw, scopes_nil, mk_cons, mk_nil, upd, Nat.reduceEqDiff, ↓reduceIte, and_self, and_true, true_and, ne_eq, reduceCtorEq, not_false_eq_true, Int.natCast_add, Int.natCast_one, Int.cast_ofNat_Int, Option.some.injEq, AV.c.injEq, AV.g.injEq, map_inj_b8, c64_inj, c32_inj, c16_inj, b8_inj, CV.p.injEq, Value.int.injEq, Value.string.injEq, AV.lp.injEq, AV.lw.injEq, List.cons.injEq]; done) | omega)
          all_goals try (simp (maxSteps := 2000000) (disch := first | assumption | omega | (simp only [bool_to_prop]; first | done | omega)) only [List.take_zero, List.foldl_nil, List.nil_append, List.append_nil, List.replicate_zero, Nat.sub_zero, Nat.sub_self, Nat.mul_zero, le_0, it_0, sub_0, keeps_cons, keeps_nil, keepl_cons, keepl_nil, scopes_c, scopes_g, scopes_u, scopes_ep, scopes_lp, scopes_lw, scopes_nil, mk_cons, mk_nil, upd, Nat.reduceEqDiff, ↓reduceIte, and_self, and_true, true_and, ne_eq, reduceCtorEq, not_false_eq_true, Int.natCast_add, Int.natCast_one, Int.cast_ofNat_Int, Option.some.injEq, AV.c.injEq, AV.g.injEq, map_inj_b8, c64_inj, c32_inj, c16_inj, b8_inj, CV.p.injEq, Value.int.injEq, Value.string.injEq, AV.lp.injEq, AV.lw.injEq, List.cons.injEq])
          all_goals try omega
          all_goals try with_reducible (first | rfl | exact ⟨rfl, rfl⟩ | exact ⟨rfl, rfl, rfl⟩)
          exact ⟨by omega, hz'⟩
        · have h0t := eq_false h0
          have hno := gu_no3 (no := no) hpa (zero_no p e k (224 - e) (by omega) h0)
          clear hz hpa
          repeat' first
            | with_reducible refine AR.seq ?_
            | ((first | with_reducible refine AR.reg ?_ | with_reducible refine AR.skip ?_ | with_reducible refine AR.exit ?_ | ((with_reducible show pcall _ 114 _ _ _ _); refine pcall_of (page_opens _ _ _ (by first | assumption | omega | (simp only [bool_to_prop]; first | done | omega)) _) rfl f114_fn (by first | rfl | exact getS_ok _ _ _) ?_) | ((with_reducible show pcall _ 115 _ _ _ _); refine pcall_of (word_get _ _ _ (by first | assumption | omega | (simp only [bool_to_prop]; first | done | omega)) _) rfl f115_fn (by first | rfl | exact getS_ok _ _ _) ?_) | ((with_reducible show pcall _ 57 _ _ _ _); refine pcall_of (page_lsn _ (by first | assumption | omega | (simp only [bool_to_prop]; first | done | omega)) _) rfl f57_fn (by first | rfl | exact getS_ok _ _ _) ?_) | ((with_reducible show pcall _ 65 _ _ _ _); refine pcall_of (page_may _ _ (by first | assumption | omega | (simp only [bool_to_prop]; first | done | omega)) _) rfl f65_fn (by first | rfl | exact getS_ok _ _ _) ?_)); try simp (maxSteps := 2000000) (disch := first | assumption | omega | (simp only [bool_to_prop]; first | done | omega)) only [go_sem, h0t, tk.out])
            | with_reducible refine AR.block ?_
            | ((with_reducible refine And.intro ?_ ?_); · (first | omega | (simp only [bool_to_prop]; first | done | omega) | (simp (maxSteps := 2000000) (disch := first | assumption | omega | (simp only [bool_to_prop]; first | done | omega)) only [go_sem, h0t, tk.out]; first | done | omega)))
            | ((with_reducible refine AR.cond_t ?_ ?_); · simp (maxSteps := 2000000) (disch := first | assumption | omega | (simp only [bool_to_prop]; first | done | omega)) only [go_sem, h0t, tk.out])
            | ((with_reducible refine AR.cond_f ?_ ?_); · simp (maxSteps := 2000000) (disch := first | assumption | omega | (simp only [bool_to_prop]; first | done | omega)) only [go_sem, h0t, tk.out])
          refine AR.wk (Wk.weakL [(4, .lp 4 0, .lp 4 0), (5, I .i64 2, I .i64 2)] [(4, [c64 0, .z 143], [c64 0, .s 6 [] none])] (H) ?_ ?_ ?_ (fun _ _ h => h)) ?_
          · simp only [keepsW_cons, keepsW_nil, keeplW_cons, keeplW_nil, weaks_cons, weaks_nil, WCs_cons, WCs_nil, WCs_self, WV_self, WC_self, WC_z, WC_s, WC_gl', scopes_c, scopes_g, scopes_u, scopes_ep, scopes_lp, scopes_lw, scopes_nil, mk_cons, mk_nil, upd, Nat.reduceEqDiff, ↓reduceIte, and_self, and_true, true_and, ne_eq, reduceCtorEq, not_false_eq_true]
          · simp only [keepsW_cons, keepsW_nil, keeplW_cons, keeplW_nil, weaks_cons, weaks_nil, WCs_cons, WCs_nil, WCs_self, WV_self, WC_self, WC_z, WC_s, WC_gl', scopes_c, scopes_g, scopes_u, scopes_ep, scopes_lp, scopes_lw, scopes_nil, mk_cons, mk_nil, upd, Nat.reduceEqDiff, ↓reduceIte, and_self, and_true, true_and, ne_eq, reduceCtorEq, not_false_eq_true]
          · simp only [keepsW_cons, keepsW_nil, keeplW_cons, keeplW_nil, weaks_cons, weaks_nil, WCs_cons, WCs_nil, WCs_self, WV_self, WC_self, WC_z, WC_s, WC_gl', scopes_c, scopes_g, scopes_u, scopes_ep, scopes_lp, scopes_lw, scopes_nil, mk_cons, mk_nil, upd, Nat.reduceEqDiff, ↓reduceIte, and_self, and_true, true_and, ne_eq, reduceCtorEq, not_false_eq_true]
          simp only [weaks_cons, weaks_nil]
          repeat' first
            | with_reducible refine AR.seq ?_
            | ((first | with_reducible refine AR.reg ?_ | with_reducible refine AR.skip ?_ | with_reducible refine AR.exit ?_ | ((with_reducible show pcall _ 114 _ _ _ _); refine pcall_of (page_opens _ _ _ (by first | assumption | omega | (simp only [bool_to_prop]; first | done | omega)) _) rfl f114_fn (by first | rfl | exact getS_ok _ _ _) ?_) | ((with_reducible show pcall _ 115 _ _ _ _); refine pcall_of (word_get _ _ _ (by first | assumption | omega | (simp only [bool_to_prop]; first | done | omega)) _) rfl f115_fn (by first | rfl | exact getS_ok _ _ _) ?_) | ((with_reducible show pcall _ 57 _ _ _ _); refine pcall_of (page_lsn _ (by first | assumption | omega | (simp only [bool_to_prop]; first | done | omega)) _) rfl f57_fn (by first | rfl | exact getS_ok _ _ _) ?_) | ((with_reducible show pcall _ 65 _ _ _ _); refine pcall_of (page_may _ _ (by first | assumption | omega | (simp only [bool_to_prop]; first | done | omega)) _) rfl f65_fn (by first | rfl | exact getS_ok _ _ _) ?_)); try simp (maxSteps := 2000000) (disch := first | assumption | omega | (simp only [bool_to_prop]; first | done | omega)) only [go_sem])
            | ((with_reducible refine AR.ret ?_); try simp only [thn_r, blk_r])
            | with_reducible refine AR.block ?_
            | ((with_reducible refine And.intro ?_ ?_); · (first | omega | (simp only [bool_to_prop]; first | done | omega) | (simp (maxSteps := 2000000) (disch := first | assumption | omega | (simp only [bool_to_prop]; first | done | omega)) only [go_sem]; first | done | omega)))
            | ((with_reducible refine AR.cond_t ?_ ?_); · simp (maxSteps := 2000000) (disch := first | assumption | omega | (simp only [bool_to_prop]; first | done | omega)) only [go_sem])
            | ((with_reducible refine AR.cond_f ?_ ?_); · simp (maxSteps := 2000000) (disch := first | assumption | omega | (simp only [bool_to_prop]; first | done | omega)) only [go_sem])
          refine fin_r _ (by simp (maxSteps := 2000000) (disch := first | assumption | omega | (simp only [bool_to_prop]; first | done | omega)) only [resV, rvs, rv1, go_sem]; rfl) rfl ⟨?_, rfl⟩
          rw [guV_none hno, hno]
          rfl
      · have hze : p.drop e = List.replicate (224 - e) 0 := by
          rw [show k = 224 - e by omega] at hz
          rw [← hz, List.take_of_length_le (by rw [List.length_drop]; omega)]
        have hmx : l.length ≤ maxLen := by unfold maxLen; omega
        by_cases hm : mayU l
        · have hg := gu_yes h1 hpa hze hm
          clear hz hpa hze
          repeat' first
            | with_reducible refine AR.seq ?_
            | ((first | with_reducible refine AR.reg ?_ | with_reducible refine AR.skip ?_ | with_reducible refine AR.exit ?_ | ((with_reducible show pcall _ 114 _ _ _ _); refine pcall_of (page_opens _ _ _ (by first | assumption | omega | (simp only [bool_to_prop]; first | done | omega)) _) rfl f114_fn (by first | rfl | exact getS_ok _ _ _) ?_) | ((with_reducible show pcall _ 115 _ _ _ _); refine pcall_of (word_get _ _ _ (by first | assumption | omega | (simp only [bool_to_prop]; first | done | omega)) _) rfl f115_fn (by first | rfl | exact getS_ok _ _ _) ?_) | ((with_reducible show pcall _ 57 _ _ _ _); refine pcall_of (page_lsn _ (by first | assumption | omega | (simp only [bool_to_prop]; first | done | omega)) _) rfl f57_fn (by first | rfl | exact getS_ok _ _ _) ?_) | ((with_reducible show pcall _ 65 _ _ _ _); refine pcall_of (page_may _ _ (by first | assumption | omega | (simp only [bool_to_prop]; first | done | omega)) _) rfl f65_fn (by first | rfl | exact getS_ok _ _ _) ?_)); try simp (maxSteps := 2000000) (disch := first | assumption | omega | (simp only [bool_to_prop]; first | done | omega)) only [go_sem])
            | ((with_reducible refine AR.ret ?_); try simp only [thn_r, blk_r])
            | with_reducible refine AR.block ?_
            | ((with_reducible refine And.intro ?_ ?_); · (first | omega | (simp only [bool_to_prop]; first | done | omega) | (simp (maxSteps := 2000000) (disch := first | assumption | omega | (simp only [bool_to_prop]; first | done | omega)) only [go_sem]; first | done | omega)))
            | ((with_reducible refine AR.cond_t ?_ ?_); · simp (maxSteps := 2000000) (disch := first | assumption | omega | (simp only [bool_to_prop]; first | done | omega)) only [go_sem])
            | ((with_reducible refine AR.cond_f ?_ ?_); · simp (maxSteps := 2000000) (disch := first | assumption | omega | (simp only [bool_to_prop]; first | done | omega)) only [go_sem])
          refine fin_r _ (by simp (maxSteps := 2000000) (disch := first | assumption | omega | (simp only [bool_to_prop]; first | done | omega)) only [resV, rvs, rv1, go_sem]; rfl) rfl ⟨?_, rfl⟩
          rw [guV_some hg, hg]
          rfl
        · have hno := gu_no4 (no := no) hpa hm
          clear hz hpa hze
          repeat' first
            | with_reducible refine AR.seq ?_
            | ((first | with_reducible refine AR.reg ?_ | with_reducible refine AR.skip ?_ | with_reducible refine AR.exit ?_ | ((with_reducible show pcall _ 114 _ _ _ _); refine pcall_of (page_opens _ _ _ (by first | assumption | omega | (simp only [bool_to_prop]; first | done | omega)) _) rfl f114_fn (by first | rfl | exact getS_ok _ _ _) ?_) | ((with_reducible show pcall _ 115 _ _ _ _); refine pcall_of (word_get _ _ _ (by first | assumption | omega | (simp only [bool_to_prop]; first | done | omega)) _) rfl f115_fn (by first | rfl | exact getS_ok _ _ _) ?_) | ((with_reducible show pcall _ 57 _ _ _ _); refine pcall_of (page_lsn _ (by first | assumption | omega | (simp only [bool_to_prop]; first | done | omega)) _) rfl f57_fn (by first | rfl | exact getS_ok _ _ _) ?_) | ((with_reducible show pcall _ 65 _ _ _ _); refine pcall_of (page_may _ _ (by first | assumption | omega | (simp only [bool_to_prop]; first | done | omega)) _) rfl f65_fn (by first | rfl | exact getS_ok _ _ _) ?_)); try simp (maxSteps := 2000000) (disch := first | assumption | omega | (simp only [bool_to_prop]; first | done | omega)) only [go_sem])
            | with_reducible refine AR.block ?_
            | ((with_reducible refine And.intro ?_ ?_); · (first | omega | (simp only [bool_to_prop]; first | done | omega) | (simp (maxSteps := 2000000) (disch := first | assumption | omega | (simp only [bool_to_prop]; first | done | omega)) only [go_sem]; first | done | omega)))
            | ((with_reducible refine AR.cond_t ?_ ?_); · simp (maxSteps := 2000000) (disch := first | assumption | omega | (simp only [bool_to_prop]; first | done | omega)) only [go_sem])
            | ((with_reducible refine AR.cond_f ?_ ?_); · simp (maxSteps := 2000000) (disch := first | assumption | omega | (simp only [bool_to_prop]; first | done | omega)) only [go_sem])
          refine AR.wk (Wk.weakL [(4, .lp 4 0, .lp 4 0), (5, I .i64 2, I .i64 2)] [(4, [c64 0, .z 143], [c64 0, .s 6 [] none])] (H) ?_ ?_ ?_ (fun _ _ h => h)) ?_
          · simp only [keepsW_cons, keepsW_nil, keeplW_cons, keeplW_nil, weaks_cons, weaks_nil, WCs_cons, WCs_nil, WCs_self, WV_self, WC_self, WC_z, WC_s, WC_gl', scopes_c, scopes_g, scopes_u, scopes_ep, scopes_lp, scopes_lw, scopes_nil, mk_cons, mk_nil, upd, Nat.reduceEqDiff, ↓reduceIte, and_self, and_true, true_and, ne_eq, reduceCtorEq, not_false_eq_true]
          · simp only [keepsW_cons, keepsW_nil, keeplW_cons, keeplW_nil, weaks_cons, weaks_nil, WCs_cons, WCs_nil, WCs_self, WV_self, WC_self, WC_z, WC_s, WC_gl', scopes_c, scopes_g, scopes_u, scopes_ep, scopes_lp, scopes_lw, scopes_nil, mk_cons, mk_nil, upd, Nat.reduceEqDiff, ↓reduceIte, and_self, and_true, true_and, ne_eq, reduceCtorEq, not_false_eq_true]
          · simp only [keepsW_cons, keepsW_nil, keeplW_cons, keeplW_nil, weaks_cons, weaks_nil, WCs_cons, WCs_nil, WCs_self, WV_self, WC_self, WC_z, WC_s, WC_gl', scopes_c, scopes_g, scopes_u, scopes_ep, scopes_lp, scopes_lw, scopes_nil, mk_cons, mk_nil, upd, Nat.reduceEqDiff, ↓reduceIte, and_self, and_true, true_and, ne_eq, reduceCtorEq, not_false_eq_true]
          simp only [weaks_cons, weaks_nil]
          repeat' first
            | with_reducible refine AR.seq ?_
            | ((first | with_reducible refine AR.reg ?_ | with_reducible refine AR.skip ?_ | with_reducible refine AR.exit ?_ | ((with_reducible show pcall _ 114 _ _ _ _); refine pcall_of (page_opens _ _ _ (by first | assumption | omega | (simp only [bool_to_prop]; first | done | omega)) _) rfl f114_fn (by first | rfl | exact getS_ok _ _ _) ?_) | ((with_reducible show pcall _ 115 _ _ _ _); refine pcall_of (word_get _ _ _ (by first | assumption | omega | (simp only [bool_to_prop]; first | done | omega)) _) rfl f115_fn (by first | rfl | exact getS_ok _ _ _) ?_) | ((with_reducible show pcall _ 57 _ _ _ _); refine pcall_of (page_lsn _ (by first | assumption | omega | (simp only [bool_to_prop]; first | done | omega)) _) rfl f57_fn (by first | rfl | exact getS_ok _ _ _) ?_) | ((with_reducible show pcall _ 65 _ _ _ _); refine pcall_of (page_may _ _ (by first | assumption | omega | (simp only [bool_to_prop]; first | done | omega)) _) rfl f65_fn (by first | rfl | exact getS_ok _ _ _) ?_)); try simp (maxSteps := 2000000) (disch := first | assumption | omega | (simp only [bool_to_prop]; first | done | omega)) only [go_sem])
            | ((with_reducible refine AR.ret ?_); try simp only [thn_r, blk_r])
            | with_reducible refine AR.block ?_
            | ((with_reducible refine And.intro ?_ ?_); · (first | omega | (simp only [bool_to_prop]; first | done | omega) | (simp (maxSteps := 2000000) (disch := first | assumption | omega | (simp only [bool_to_prop]; first | done | omega)) only [go_sem]; first | done | omega)))
            | ((with_reducible refine AR.cond_t ?_ ?_); · simp (maxSteps := 2000000) (disch := first | assumption | omega | (simp only [bool_to_prop]; first | done | omega)) only [go_sem])
            | ((with_reducible refine AR.cond_f ?_ ?_); · simp (maxSteps := 2000000) (disch := first | assumption | omega | (simp only [bool_to_prop]; first | done | omega)) only [go_sem])
          refine fin_r _ (by simp (maxSteps := 2000000) (disch := first | assumption | omega | (simp only [bool_to_prop]; first | done | omega)) only [resV, rvs, rv1, go_sem]; rfl) rfl ⟨?_, rfl⟩
          rw [guV_none hno, hno]
          rfl
  · repeat' first
      | with_reducible refine AR.seq ?_
      | ((first | with_reducible refine AR.reg ?_ | with_reducible refine AR.skip ?_ | with_reducible refine AR.exit ?_ | ((with_reducible show pcall _ 114 _ _ _ _); refine pcall_of (page_opens _ _ _ (by first | assumption | omega | (simp only [bool_to_prop]; first | done | omega)) _) rfl f114_fn (by first | rfl | exact getS_ok _ _ _) ?_) | ((with_reducible show pcall _ 115 _ _ _ _); refine pcall_of (word_get _ _ _ (by first | assumption | omega | (simp only [bool_to_prop]; first | done | omega)) _) rfl f115_fn (by first | rfl | exact getS_ok _ _ _) ?_) | ((with_reducible show pcall _ 57 _ _ _ _); refine pcall_of (page_lsn _ (by first | assumption | omega | (simp only [bool_to_prop]; first | done | omega)) _) rfl f57_fn (by first | rfl | exact getS_ok _ _ _) ?_) | ((with_reducible show pcall _ 65 _ _ _ _); refine pcall_of (page_may _ _ (by first | assumption | omega | (simp only [bool_to_prop]; first | done | omega)) _) rfl f65_fn (by first | rfl | exact getS_ok _ _ _) ?_)); try simp (maxSteps := 2000000) (disch := first | assumption | omega | (simp only [bool_to_prop]; first | done | omega)) only [go_sem, h1])
      | with_reducible refine AR.block ?_
      | ((with_reducible refine And.intro ?_ ?_); · (first | omega | (simp only [bool_to_prop]; first | done | omega) | (simp (maxSteps := 2000000) (disch := first | assumption | omega | (simp only [bool_to_prop]; first | done | omega)) only [go_sem, h1]; first | done | omega)))
      | ((with_reducible refine AR.cond_t ?_ ?_); · simp (maxSteps := 2000000) (disch := first | assumption | omega | (simp only [bool_to_prop]; first | done | omega)) only [go_sem, h1])
      | ((with_reducible refine AR.cond_f ?_ ?_); · simp (maxSteps := 2000000) (disch := first | assumption | omega | (simp only [bool_to_prop]; first | done | omega)) only [go_sem, h1])
    refine AR.wk (Wk.weakL [(4, .lp 4 0, .lp 4 0), (5, I .i64 2, I .i64 2)] [(4, [c64 0, .z 143], [c64 0, .s 6 [] none])] (H) ?_ ?_ ?_ (fun _ _ h => h)) ?_
    · simp only [keepsW_cons, keepsW_nil, keeplW_cons, keeplW_nil, weaks_cons, weaks_nil, WCs_cons, WCs_nil, WCs_self, WV_self, WC_self, WC_z, WC_s, WC_gl', scopes_c, scopes_g, scopes_u, scopes_ep, scopes_lp, scopes_lw, scopes_nil, mk_cons, mk_nil, upd, Nat.reduceEqDiff, ↓reduceIte, and_self, and_true, true_and, ne_eq, reduceCtorEq, not_false_eq_true]
    · simp only [keepsW_cons, keepsW_nil, keeplW_cons, keeplW_nil, weaks_cons, weaks_nil, WCs_cons, WCs_nil, WCs_self, WV_self, WC_self, WC_z, WC_s, WC_gl', scopes_c, scopes_g, scopes_u, scopes_ep, scopes_lp, scopes_lw, scopes_nil, mk_cons, mk_nil, upd, Nat.reduceEqDiff, ↓reduceIte, and_self, and_true, true_and, ne_eq, reduceCtorEq, not_false_eq_true]
    · simp only [keepsW_cons, keepsW_nil, keeplW_cons, keeplW_nil, weaks_cons, weaks_nil, WCs_cons, WCs_nil, WCs_self, WV_self, WC_self, WC_z, WC_s, WC_gl', scopes_c, scopes_g, scopes_u, scopes_ep, scopes_lp, scopes_lw, scopes_nil, mk_cons, mk_nil, upd, Nat.reduceEqDiff, ↓reduceIte, and_self, and_true, true_and, ne_eq, reduceCtorEq, not_false_eq_true]
    simp only [weaks_cons, weaks_nil]
    repeat' first
      | with_reducible refine AR.seq ?_
      | ((first | with_reducible refine AR.reg ?_ | with_reducible refine AR.skip ?_ | with_reducible refine AR.exit ?_ | ((with_reducible show pcall _ 114 _ _ _ _); refine pcall_of (page_opens _ _ _ (by first | assumption | omega | (simp only [bool_to_prop]; first | done | omega)) _) rfl f114_fn (by first | rfl | exact getS_ok _ _ _) ?_) | ((with_reducible show pcall _ 115 _ _ _ _); refine pcall_of (word_get _ _ _ (by first | assumption | omega | (simp only [bool_to_prop]; first | done | omega)) _) rfl f115_fn (by first | rfl | exact getS_ok _ _ _) ?_) | ((with_reducible show pcall _ 57 _ _ _ _); refine pcall_of (page_lsn _ (by first | assumption | omega | (simp only [bool_to_prop]; first | done | omega)) _) rfl f57_fn (by first | rfl | exact getS_ok _ _ _) ?_) | ((with_reducible show pcall _ 65 _ _ _ _); refine pcall_of (page_may _ _ (by first | assumption | omega | (simp only [bool_to_prop]; first | done | omega)) _) rfl f65_fn (by first | rfl | exact getS_ok _ _ _) ?_)); try simp (maxSteps := 2000000) (disch := first | assumption | omega | (simp only [bool_to_prop]; first | done | omega)) only [go_sem])
      | ((with_reducible refine AR.ret ?_); try simp only [thn_r, blk_r])
      | with_reducible refine AR.block ?_
      | ((with_reducible refine And.intro ?_ ?_); · (first | omega | (simp only [bool_to_prop]; first | done | omega) | (simp (maxSteps := 2000000) (disch := first | assumption | omega | (simp only [bool_to_prop]; first | done | omega)) only [go_sem]; first | done | omega)))
      | ((with_reducible refine AR.cond_t ?_ ?_); · simp (maxSteps := 2000000) (disch := first | assumption | omega | (simp only [bool_to_prop]; first | done | omega)) only [go_sem])
      | ((with_reducible refine AR.cond_f ?_ ?_); · simp (maxSteps := 2000000) (disch := first | assumption | omega | (simp only [bool_to_prop]; first | done | omega)) only [go_sem])
    refine fin_r _ (by simp (maxSteps := 2000000) (disch := first | assumption | omega | (simp only [bool_to_prop]; first | done | omega)) only [resV, rvs, rv1, go_sem]; rfl) rfl ⟨?_, rfl⟩
    rw [guV_none (gu_no1 h1), gu_no1 h1]
    rfl
end Go.Eng
