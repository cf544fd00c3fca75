import Derived.Test.YtmnmbpcbfmhceaaWA
import Derived.Test.YtmnmbpcbfmhceaaAA
import Derived.Test.YtmnmbpcbfmhceaaM2
set_option linter.unusedSimpArgs false
set_option linter.unusedVariables false
-- LEN: sealL
namespace Go.Eng
open Go.Proofs
attribute [bool_to_prop] sealL putD restD pg_len gd_len PD.cells_len

theorem page_sum (p : List UInt8) (hp : p.length = 224) (H : Heap) : ACalls Try.prog 148 [.g (p.map b8)] H (fun v H' => v = .c (c32 (psum p)) ∧ H' = H) := by
  refine fn_sound' mixed f148_at F148_ok ⟨rfl, by decide, rfl⟩ ?_
  dsimp only [F148, k148, num]
  repeat' first
    | with_reducible refine AR.seq ?_
    | ((first | with_reducible refine AR.reg ?_ | with_reducible refine AR.skip ?_ | with_reducible refine AR.exit ?_ | ((with_reducible show pcall _ 105 _ _ _ _); refine pcall_of (crc_sum _ (by first | assumption | omega | (simp only [bool_to_prop]; first | done | omega)) _) rfl f105_fn (by first | rfl | exact getS_ok _ _ _) ?_)); try simp (maxSteps := 2000000) (disch := first | assumption | omega | (simp only [bool_to_prop]; first | done | omega)) only [go_sem])
    | ((with_reducible refine AR.ret ?_); try simp only [thn_r, blk_r])
    | with_reducible refine AR.block ?_
    | ((with_reducible refine And.intro ?_ ?_); · (first | omega | (simp only [bool_to_prop]; first | done | omega) | (simp (maxSteps := 2000000) (disch := first | assumption | omega | (simp only [bool_to_prop]; first | done | omega)) only [go_sem]; first | done | omega)))
    | ((with_reducible refine AR.cond_t ?_ ?_); · simp (maxSteps := 2000000) (disch := first | assumption | omega | (simp only [bool_to_prop]; first | done | omega)) only [go_sem])
    | ((with_reducible refine AR.cond_f ?_ ?_); · simp (maxSteps := 2000000) (disch := first | assumption | omega | (simp only [bool_to_prop]; first | done | omega)) only [go_sem])
  refine fin_r _ (by simp (maxSteps := 2000000) (disch := first | assumption | omega | (simp only [bool_to_prop]; first | done | omega)) only [resV, rvs, rv1, go_sem]; rfl) rfl ⟨?_, rfl⟩
  rfl

theorem page_seal (kind : UInt8) (no : BitVec 16) (lsn : BitVec 64) (p : List UInt8) (hp : p.length = 224) (H : Heap) : ACalls Try.prog 117 [.c (b8 kind), .c (c16 no), .c (c64 lsn), .g (p.map b8)] H (fun v H' => v = .g ((sealL kind no lsn p).map b8) ∧ H' = H) := by
  refine fn_sound' mixed f117_at F117_ok ⟨rfl, by decide, rfl⟩ ?_
  dsimp only [F117, k117, num]
  repeat' first
    | with_reducible refine AR.seq ?_
    | ((first | with_reducible refine AR.reg ?_ | with_reducible refine AR.skip ?_ | with_reducible refine AR.exit ?_ | ((with_reducible show pcall _ 104 _ _ _ _); refine pcall_of (word_put _ _ _) rfl f104_fn (by first | rfl | exact getS_ok _ _ _) ?_) | ((with_reducible show pcall _ 148 _ _ _ _); refine pcall_of (page_sum _ (by first | assumption | omega | (simp only [bool_to_prop]; first | done | omega)) _) rfl f148_fn (by first | rfl | exact getS_ok _ _ _) ?_)); try simp (maxSteps := 2000000) (disch := first | assumption | omega | (simp only [bool_to_prop]; first | done | omega)) only [go_sem])
    | ((with_reducible refine AR.ret ?_); try simp only [thn_r, blk_r])
    | with_reducible refine AR.block ?_
    | ((with_reducible refine And.intro ?_ ?_); · (first | omega | (simp only [bool_to_prop]; first | done | omega) | (simp (maxSteps := 2000000) (disch := first | assumption | omega | (simp only [bool_to_prop]; first | done | omega)) only [go_sem]; first | done | omega)))
    | ((with_reducible refine AR.cond_t ?_ ?_); · simp (maxSteps := 2000000) (disch := first | assumption | omega | (simp only [bool_to_prop]; first | done | omega)) only [go_sem])
    | ((with_reducible refine AR.cond_f ?_ ?_); · simp (maxSteps := 2000000) (disch := first | assumption | omega | (simp only [bool_to_prop]; first | done | omega)) only [go_sem])
  refine fin_r _ (by simp (maxSteps := 2000000) (disch := first | assumption | omega | (simp only [bool_to_prop]; first | done | omega)) only [resV, rvs, rv1, go_sem]; rfl) rfl ⟨?_, rfl⟩
  rfl

theorem page_lsn (p : List UInt8) (hp : p.length = 224) (H : Heap) : ACalls Try.prog 57 [.g (p.map b8)] H (fun v H' => v = .c (c64 (lsnOf p)) ∧ H' = H) := by
  refine fn_sound' mixed f57_at F57_ok ⟨rfl, by decide, rfl⟩ ?_
  dsimp only [F57, k57, num]
  repeat' first
    | with_reducible refine AR.seq ?_
    | ((first | with_reducible refine AR.reg ?_ | with_reducible refine AR.skip ?_ | with_reducible refine AR.exit ?_ | ((with_reducible show pcall _ 115 _ _ _ _); refine pcall_of (word_get _ _ _ (by first | assumption | omega | (simp only [bool_to_prop]; first | done | omega)) _) rfl f115_fn (by first | rfl | exact getS_ok _ _ _) ?_)); try simp (maxSteps := 2000000) (disch := first | assumption | omega | (simp only [bool_to_prop]; first | done | omega)) only [go_sem])
    | ((with_reducible refine AR.ret ?_); try simp only [thn_r, blk_r])
    | with_reducible refine AR.block ?_
    | ((with_reducible refine And.intro ?_ ?_); · (first | omega | (simp only [bool_to_prop]; first | done | omega) | (simp (maxSteps := 2000000) (disch := first | assumption | omega | (simp only [bool_to_prop]; first | done | omega)) only [go_sem]; first | done | omega)))
    | ((with_reducible refine AR.cond_t ?_ ?_); · simp (maxSteps := 2000000) (disch := first | assumption | omega | (simp only [bool_to_prop]; first | done | omega)) only [go_sem])
    | ((with_reducible refine AR.cond_f ?_ ?_); · simp (maxSteps := 2000000) (disch := first | assumption | omega | (simp only [bool_to_prop]; first | done | omega)) only [go_sem])
  refine fin_r _ (by simp (maxSteps := 2000000) (disch := first | assumption | omega | (simp only [bool_to_prop]; first | done | omega)) only [resV, rvs, rv1, go_sem]; rfl) rfl ⟨?_, rfl⟩
  rfl

theorem page_opens (kind : UInt8) (no : BitVec 16) (p : List UInt8) (hp : p.length = 224) (H : Heap) : ACalls Try.prog 114 [.c (b8 kind), .c (c16 no), .g (p.map b8)] H (fun v H' => v = B (decide (opensP kind no p)) ∧ H' = H) := by
  refine fn_sound' mixed f114_at F114_ok ⟨rfl, by decide, rfl⟩ ?_
  dsimp only [F114, k114, num]
  by_cases h1 : p.getD 0 0 = kind
  · by_cases h2 : dle (sub p 1 2) = no.setWidth 64
    · repeat' first
        | with_reducible refine AR.seq ?_
        | ((first | with_reducible refine AR.reg ?_ | with_reducible refine AR.skip ?_ | with_reducible refine AR.exit ?_ | ((with_reducible show pcall _ 115 _ _ _ _); refine pcall_of (word_get _ _ _ (by first | assumption | omega | (simp only [bool_to_prop]; first | done | omega)) _) rfl f115_fn (by first | rfl | exact getS_ok _ _ _) ?_) | ((with_reducible show pcall _ 148 _ _ _ _); refine pcall_of (page_sum _ (by first | assumption | omega | (simp only [bool_to_prop]; first | done | omega)) _) rfl f148_fn (by first | rfl | exact getS_ok _ _ _) ?_)); try simp (maxSteps := 2000000) (disch := first | assumption | omega | (simp only [bool_to_prop]; first | done | omega)) only [go_sem, h1, h2])
        | ((with_reducible refine AR.ret ?_); try simp only [thn_r, blk_r])
        | with_reducible refine AR.block ?_
        | ((with_reducible refine And.intro ?_ ?_); · (first | omega | (simp only [bool_to_prop]; first | done | omega) | (simp (maxSteps := 2000000) (disch := first | assumption | omega | (simp only [bool_to_prop]; first | done | omega)) only [go_sem, h1, h2]; first | done | omega)))
        | ((with_reducible refine AR.cond_t ?_ ?_); · simp (maxSteps := 2000000) (disch := first | assumption | omega | (simp only [bool_to_prop]; first | done | omega)) only [go_sem, h1, h2])
        | ((with_reducible refine AR.cond_f ?_ ?_); · simp (maxSteps := 2000000) (disch := first | assumption | omega | (simp only [bool_to_prop]; first | done | omega)) only [go_sem, h1, h2])
      refine fin_r _ (by simp (maxSteps := 2000000) (disch := first | assumption | omega | (simp only [bool_to_prop]; first | done | omega)) only [resV, rvs, rv1, go_sem]; rfl) rfl ⟨?_, rfl⟩
      simp only [opensP, h1, h2, true_and]
    · repeat' first
        | with_reducible refine AR.seq ?_
        | ((first | with_reducible refine AR.reg ?_ | with_reducible refine AR.skip ?_ | with_reducible refine AR.exit ?_ | ((with_reducible show pcall _ 115 _ _ _ _); refine pcall_of (word_get _ _ _ (by first | assumption | omega | (simp only [bool_to_prop]; first | done | omega)) _) rfl f115_fn (by first | rfl | exact getS_ok _ _ _) ?_) | ((with_reducible show pcall _ 148 _ _ _ _); refine pcall_of (page_sum _ (by first | assumption | omega | (simp only [bool_to_prop]; first | done | omega)) _) rfl f148_fn (by first | rfl | exact getS_ok _ _ _) ?_)); try simp (maxSteps := 2000000) (disch := first | assumption | omega | (simp only [bool_to_prop]; first | done | omega)) only [go_sem, h1, h2])
        | ((with_reducible refine AR.ret ?_); try simp only [thn_r, blk_r])
        | with_reducible refine AR.block ?_
        | ((with_reducible refine And.intro ?_ ?_); · (first | omega | (simp only [bool_to_prop]; first | done | omega) | (simp (maxSteps := 2000000) (disch := first | assumption | omega | (simp only [bool_to_prop]; first | done | omega)) only [go_sem, h1, h2]; first | done | omega)))
        | ((with_reducible refine AR.cond_t ?_ ?_); · simp (maxSteps := 2000000) (disch := first | assumption | omega | (simp only [bool_to_prop]; first | done | omega)) only [go_sem, h1, h2])
        | ((with_reducible refine AR.cond_f ?_ ?_); · simp (maxSteps := 2000000) (disch := first | assumption | omega | (simp only [bool_to_prop]; first | done | omega)) only [go_sem, h1, h2])
      refine fin_r _ (by simp (maxSteps := 2000000) (disch := first | assumption | omega | (simp only [bool_to_prop]; first | done | omega)) only [resV, rvs, rv1, go_sem]; rfl) rfl ⟨?_, rfl⟩
      simp only [opensP, h1, h2, true_and, false_and, and_false, decide_false]
  · repeat' first
      | with_reducible refine AR.seq ?_
      | ((first | with_reducible refine AR.reg ?_ | with_reducible refine AR.skip ?_ | with_reducible refine AR.exit ?_ | ((with_reducible show pcall _ 115 _ _ _ _); refine pcall_of (word_get _ _ _ (by first | assumption | omega | (simp only [bool_to_prop]; first | done | omega)) _) rfl f115_fn (by first | rfl | exact getS_ok _ _ _) ?_) | ((with_reducible show pcall _ 148 _ _ _ _); refine pcall_of (page_sum _ (by first | assumption | omega | (simp only [bool_to_prop]; first | done | omega)) _) rfl f148_fn (by first | rfl | exact getS_ok _ _ _) ?_)); try simp (maxSteps := 2000000) (disch := first | assumption | omega | (simp only [bool_to_prop]; first | done | omega)) only [go_sem, h1])
      | ((with_reducible refine AR.ret ?_); try simp only [thn_r, blk_r])
      | with_reducible refine AR.block ?_
      | ((with_reducible refine And.intro ?_ ?_); · (first | omega | (simp only [bool_to_prop]; first | done | omega) | (simp (maxSteps := 2000000) (disch := first | assumption | omega | (simp only [bool_to_prop]; first | done | omega)) only [go_sem, h1]; first | done | omega)))
      | ((with_reducible refine AR.cond_t ?_ ?_); · simp (maxSteps := 2000000) (disch := first | assumption | omega | (simp only [bool_to_prop]; first | done | omega)) only [go_sem, h1])
      | ((with_reducible refine AR.cond_f ?_ ?_); · simp (maxSteps := 2000000) (disch := first | assumption | omega | (simp only [bool_to_prop]; first | done | omega)) only [go_sem, h1])
    refine fin_r _ (by simp (maxSteps := 2000000) (disch := first | assumption | omega | (simp only [bool_to_prop]; first | done | omega)) only [resV, rvs, rv1, go_sem]; rfl) rfl ⟨?_, rfl⟩
    simp only [opensP, h1, false_and, decide_false]

theorem putD_seal (no : BitVec 16) (d : PD) (hd : d.sb.length = 65) :
    sealL 1 no d.lsn (over (over (over (over (List.replicate 224 0) 15 (le 4 (d.ts.setWidth 64))) 19 (le 2 (d.pn.setWidth 64))) 21 [d.sb.getD 0 0]) 22 (sub d.sb 1 64)) = putD no d := by
  rw [seal_pg _ _ _ _ (by simp only [over_lenU, List.length_replicate, le_len, sub_lenU, List.length_cons, List.length_nil]; omega)]
  simp (maxSteps := 2000000) (disch := first | assumption | omega | (simp only [bool_to_prop]; first | done | omega)) only [over_rep, over_r, List.append_assoc, List.length_append, List.length_cons, List.length_nil, List.length_replicate, le_len, sub_lenU, Nat.reduceSub, Nat.reduceAdd, Nat.zero_add, Nat.sub_self, List.replicate_zero, List.nil_append, List.append_nil, min_l, hd]
  simp only [putD, restD]
  congr 1
  rw [List.drop_append_of_le_length (by simp), List.drop_eq_nil_of_le (by simp)]
  simp only [List.nil_append]
  congr 2
  obtain ⟨x, l, e⟩ : ∃ x l, d.sb = x :: l := by
    cases h : d.sb with
    | nil => rw [h] at hd; simp at hd
    | cons x l => exact ⟨x, l, rfl⟩
  rw [e] at hd ⊢
  simp only [List.getD_cons_zero, sub_s, List.cons_append, List.nil_append]
  rw [sub_all _ _ (by simp at hd; omega)]

theorem page_putData (no : BitVec 16) (d : PD) (hd : d.sb.length = 65) (H : Heap) : ACalls Try.prog 55 [.c (c16 no), .g (PD.cells d)] H (fun v H' => v = .g ((putD no d).map b8) ∧ H' = H) := by
  unfold PD.cells
  refine fn_sound' mixed f55_at F55_ok ⟨rfl, by decide, rfl⟩ ?_
  dsimp only [F55, k55, num]
  repeat' first
    | with_reducible refine AR.seq ?_
    | ((first | with_reducible refine AR.reg ?_ | with_reducible refine AR.skip ?_ | with_reducible refine AR.exit ?_ | ((with_reducible show pcall _ 104 _ _ _ _); refine pcall_of (word_put _ _ _) rfl f104_fn (by first | rfl | exact getS_ok _ _ _) ?_) | ((with_reducible show pcall _ 117 _ _ _ _); refine pcall_of (page_seal _ _ _ _ (by first | assumption | omega | (simp only [bool_to_prop]; first | done | omega)) _) rfl f117_fn (by first | rfl | exact getS_ok _ _ _) ?_)); try simp (maxSteps := 2000000) (disch := first | assumption | omega | (simp only [bool_to_prop]; first | done | omega)) only [go_sem])
    | ((with_reducible refine AR.ret ?_); try simp only [thn_r, blk_r])
    | with_reducible refine AR.block ?_
    | ((with_reducible refine And.intro ?_ ?_); · (first | omega | (simp only [bool_to_prop]; first | done | omega) | (simp (maxSteps := 2000000) (disch := first | assumption | omega | (simp only [bool_to_prop]; first | done | omega)) only [go_sem]; first | done | omega)))
    | ((with_reducible refine AR.cond_t ?_ ?_); · simp (maxSteps := 2000000) (disch := first | assumption | omega | (simp only [bool_to_prop]; first | done | omega)) only [go_sem])
    | ((with_reducible refine AR.cond_f ?_ ?_); · simp (maxSteps := 2000000) (disch := first | assumption | omega | (simp only [bool_to_prop]; first | done | omega)) only [go_sem])
  refine fin_r _ (by simp (maxSteps := 2000000) (disch := first | assumption | omega | (simp only [bool_to_prop]; first | done | omega)) only [resV, rvs, rv1, go_sem]; rfl) rfl ⟨?_, rfl⟩
  rw [putD_seal _ _ hd]

theorem page_putData' (no : BitVec 16) (lsn : BitVec 64) (ts : BitVec 32) (pn : BitVec 16) (sb : List UInt8) (hd : sb.length = 65) (H : Heap) : ACalls Try.prog 55 [.c (c16 no), .g (c64 lsn :: c32 ts :: c16 pn :: sb.map b8)] H (fun v H' => v = .g ((putD no ⟨lsn, ts, pn, sb⟩).map b8) ∧ H' = H) := page_putData no ⟨lsn, ts, pn, sb⟩ hd H

theorem zero_step (p : List UInt8) (n i : Nat) (h : n + i < p.length) (hi : (p.drop n).take i = List.replicate i 0) (hz : p.getD (n + i) 0 = 0) : (p.drop n).take (i + 1) = List.replicate (i + 1) 0 := by
  rw [List.take_add_one, hi, List.getElem?_drop, List.getElem?_eq_getElem h, List.replicate_succ', ← getD_get _ _ 0 h, hz]; rfl
theorem zero_no (p : List UInt8) (n i k : Nat) (h : n + i < p.length) (hz : ¬ p.getD (n + i) 0 = 0) : ¬ p.drop n = List.replicate k 0 := by
  intro e
  apply hz
  have h1 : (p.drop n)[i]? = some p[n + i] := by rw [List.getElem?_drop, List.getElem?_eq_getElem h]
  rw [e, List.getElem?_replicate] at h1
  rw [getD_get _ _ _ h]
  split at h1
  · exact (Option.some.inj h1).symm
  · cases h1

theorem sb_eq (p : List UInt8) (hp : p.length = 224) : over (over (List.replicate 65 0) 0 [p.getD 21 0]) 1 (sub p 22 64) = sub p 21 65 := by
  have ls : (sub p 22 64).length = 64 := sub_len _ _ _ (by omega)
  simp (maxSteps := 2000000) (disch := first | assumption | omega | (simp only [bool_to_prop]; first | done | omega)) only [over_rep, over_r, List.append_assoc, List.length_append, List.length_cons, List.length_nil, List.length_replicate, le_len, sub_lenU, Nat.reduceSub, Nat.reduceAdd, Nat.zero_add, Nat.sub_self, List.replicate_zero, List.nil_append, List.append_nil, min_l, ls]
  rw [show (65 : Nat) = 1 + 64 by rfl, sub_split p 21 1 64 (by omega), sub_one _ _ (by omega)]

theorem okD_no1 {no : BitVec 16} {p : List UInt8} (h : ¬ opensP 1 no p) : ¬ okD no p := fun k => h k.1
theorem okD_no2 {no : BitVec 16} {p : List UInt8} (i : Nat) (h : 86 + i < p.length) (hz : ¬ p.getD (86 + i) 0 = 0) : ¬ okD no p := fun k => zero_no p 86 i 138 h hz k.2
theorem okD_yes {no : BitVec 16} {p : List UInt8} (hp : p.length = 224) (h : opensP 1 no p) (hz : (p.drop 86).take 138 = List.replicate 138 0) : okD no p := ⟨h, by rw [← hz, List.take_of_length_le (by simp; omega)]⟩

theorem page_getData (no : BitVec 16) (p : List UInt8) (hp : p.length = 224) (H : Heap) : ACalls Try.prog 53 [.c (c16 no), .g (p.map b8)] H (fun v H' => v = .t [.g (PD.cells (gd no p)), I .i64 (if okD no p then 0 else 2)] ∧ H' = H) := by
  refine fn_sound' mixed f53_at F53_ok ⟨rfl, by decide, rfl⟩ ?_
  dsimp only [F53, k53, num]
  by_cases h1 : opensP 1 no p
  · repeat' first
      | with_reducible refine AR.seq ?_
      | ((first | with_reducible refine AR.reg ?_ | with_reducible refine AR.skip ?_ | with_reducible refine AR.exit ?_ | ((with_reducible show pcall _ 114 _ _ _ _); refine pcall_of (page_opens _ _ _ (by first | assumption | omega | (simp only [bool_to_prop]; first | done | omega)) _) rfl f114_fn (by first | rfl | exact getS_ok _ _ _) ?_) | ((with_reducible show pcall _ 115 _ _ _ _); refine pcall_of (word_get _ _ _ (by first | assumption | omega | (simp only [bool_to_prop]; first | done | omega)) _) rfl f115_fn (by first | rfl | exact getS_ok _ _ _) ?_) | ((with_reducible show pcall _ 57 _ _ _ _); refine pcall_of (page_lsn _ (by first | assumption | omega | (simp only [bool_to_prop]; first | done | omega)) _) rfl f57_fn (by first | rfl | exact getS_ok _ _ _) ?_)); try simp (maxSteps := 2000000) (disch := first | assumption | omega | (simp only [bool_to_prop]; first | done | omega)) only [go_sem, h1])
      | ((with_reducible refine AR.ret ?_); try simp only [thn_r, blk_r])
      | with_reducible refine AR.block ?_
      | ((with_reducible refine And.intro ?_ ?_); · (first | omega | (simp only [bool_to_prop]; first | done | omega) | (simp (maxSteps := 2000000) (disch := first | assumption | omega | (simp only [bool_to_prop]; first | done | omega)) only [go_sem, h1]; first | done | omega)))
      | ((with_reducible refine AR.cond_t ?_ ?_); · simp (maxSteps := 2000000) (disch := first | assumption | omega | (simp only [bool_to_prop]; first | done | omega)) only [go_sem, h1])
      | ((with_reducible refine AR.cond_f ?_ ?_); · simp (maxSteps := 2000000) (disch := first | assumption | omega | (simp only [bool_to_prop]; first | done | omega)) only [go_sem, h1])
    refine AR.loopS (σ := Nat) (fun i => ⟨mk [(0, .c (c16 no)), (3, .lp 3 0), (4, .lp 4 0), (19, .lw 3 86 138 138), (20, I .i64 138), (21, I .i64 i)], mk [(3, p.map b8), (4, c64 0 :: c32 0 :: c16 0 :: (List.replicate 65 (0 : UInt8)).map b8)], H⟩) (fun i => i ≤ 138 ∧ (p.drop 86).take i = List.replicate i 0) (fun i => 138 - i) (0) ?_ ?_ ?_
    refine Wk.lists _ _ ?_ ?_ ?_
    all_goals try (first | exact trivial | (simp (maxSteps := 2000000) (disch := first | assumption | omega | (simp only [bool_to_prop]; first | done | omega)) only [List.take_zero, List.foldl_nil, List.nil_append, List.append_nil, List.replicate_zero, Nat.sub_zero, Nat.sub_self, Nat.mul_zero, le_0, it_0, sub_0, keeps_cons, keeps_nil, keepl_cons, keepl_nil, scopes_c, scopes_g, scopes_u, scopes_ep, scopes_lp, scopes_lw, scopes_nil, mk_cons, mk_nil, upd, Nat.reduceEqDiff, ↓reduceIte, and_self, and_true, true_and, ne_eq, reduceCtorEq, not_false_eq_true, Int.natCast_add, Int.natCast_one, Int.cast_ofNat_Int, Option.some.injEq, AV.c.injEq, AV.g.injEq, map_inj_b8, c64_inj, c32_inj, c16_inj, b8_inj, CV.p.injEq, Value.int.injEq, Value.string.injEq, AV.lp.injEq, AV.lw.injEq, List.cons.injEq]; done) | omega)
    all_goals try (simp (maxSteps := 2000000) (disch := first | assumption | omega | (simp only [bool_to_prop]; first | done | omega)) only [List.take_zero, List.foldl_nil, List.nil_append, List.append_nil, List.replicate_zero, Nat.sub_zero, Nat.sub_self, Nat.mul_zero, le_0, it_0, sub_0, keeps_cons, keeps_nil, keepl_cons, keepl_nil, scopes_c, scopes_g, scopes_u, scopes_ep, scopes_lp, scopes_lw, scopes_nil, mk_cons, mk_nil, upd, Nat.reduceEqDiff, ↓reduceIte, and_self, and_true, true_and, ne_eq, reduceCtorEq, not_false_eq_true, Int.natCast_add, Int.natCast_one, Int.cast_ofNat_Int, Option.some.injEq, AV.c.injEq, AV.g.injEq, map_inj_b8, c64_inj, c32_inj, c16_inj, b8_inj, CV.p.injEq, Value.int.injEq, Value.string.injEq, AV.lp.injEq, AV.lw.injEq, List.cons.injEq])
    all_goals try omega
    all_goals try with_reducible (first | rfl | exact ⟨rfl, rfl⟩ | exact ⟨rfl, rfl, rfl⟩)
    rintro i ⟨hi, hz⟩
    by_cases hlt : i < 138
    · by_cases h0 : p.getD (86 + i) 0 = 0
      · repeat' first
          | with_reducible refine AR.seq ?_
          | ((first | with_reducible refine AR.reg ?_ | with_reducible refine AR.skip ?_ | with_reducible refine AR.exit ?_ | ((with_reducible show pcall _ 114 _ _ _ _); refine pcall_of (page_opens _ _ _ (by first | assumption | omega | (simp only [bool_to_prop]; first | done | omega)) _) rfl f114_fn (by first | rfl | exact getS_ok _ _ _) ?_) | ((with_reducible show pcall _ 115 _ _ _ _); refine pcall_of (word_get _ _ _ (by first | assumption | omega | (simp only [bool_to_prop]; first | done | omega)) _) rfl f115_fn (by first | rfl | exact getS_ok _ _ _) ?_) | ((with_reducible show pcall _ 57 _ _ _ _); refine pcall_of (page_lsn _ (by first | assumption | omega | (simp only [bool_to_prop]; first | done | omega)) _) rfl f57_fn (by first | rfl | exact getS_ok _ _ _) ?_)); try simp (maxSteps := 2000000) (disch := first | assumption | omega | (simp only [bool_to_prop]; first | done | omega)) only [go_sem, h0])
          | ((with_reducible refine AR.ret ?_); try simp only [thn_r, blk_r])
          | with_reducible refine AR.block ?_
          | ((with_reducible refine And.intro ?_ ?_); · (first | omega | (simp only [bool_to_prop]; first | done | omega) | (simp (maxSteps := 2000000) (disch := first | assumption | omega | (simp only [bool_to_prop]; first | done | omega)) only [go_sem, h0]; first | done | omega)))
          | ((with_reducible refine AR.cond_t ?_ ?_); · simp (maxSteps := 2000000) (disch := first | assumption | omega | (simp only [bool_to_prop]; first | done | omega)) only [go_sem, h0])
          | ((with_reducible refine AR.cond_f ?_ ?_); · simp (maxSteps := 2000000) (disch := first | assumption | omega | (simp only [bool_to_prop]; first | done | omega)) only [go_sem, h0])
        refine ⟨i + 1, Wk.lists _ _ ?_ ?_ ?_, ?_, ?_⟩
        all_goals try (first | exact trivial | (simp (maxSteps := 2000000) (disch := first | assumption | omega | (simp only [bool_to_prop]; first | done | omega)) only [List.take_zero, List.foldl_nil, List.nil_append, List.append_nil, List.replicate_zero, Nat.sub_zero, Nat.sub_self, Nat.mul_zero, le_0, it_0, sub_0, keeps_cons, keeps_nil, keepl_cons, keepl_nil, scopes_c, scopes_g, scopes_u, scopes_ep, scopes_lp, scopes_lw, scopes_nil, mk_cons, mk_nil, upd, Nat.reduceEqDiff, ↓reduceIte, and_self, and_true, true_and, ne_eq, reduceCtorEq, not_false_eq_true, Int.natCast_add, Int.natCast_one, Int.cast_ofNat_Int, Option.some.injEq, AV.c.injEq, AV.g.injEq, map_inj_b8, c64_inj, c32_inj, c16_inj, b8_inj, CV.p.injEq, Value.int.injEq, Value.string.injEq, AV.lp.injEq, AV.lw.injEq, List.cons.injEq]; done) | omega)
        all_goals try (simp (maxSteps := 2000000) (disch := first | assumption | omega | (simp only [bool_to_prop]; first | done | omega)) only [List.take_zero, List.foldl_nil, List.nil_append, List.append_nil, List.replicate_zero, Nat.sub_zero, Nat.sub_self, Nat.mul_zero, le_0, it_0, sub_0, keeps_cons, keeps_nil, keepl_cons, keepl_nil, scopes_c, scopes_g, scopes_u, scopes_ep, scopes_lp, scopes_lw, scopes_nil, mk_cons, mk_nil, upd, Nat.reduceEqDiff, ↓reduceIte, and_self, and_true, true_and, ne_eq, reduceCtorEq, not_false_eq_true, Int.natCast_add, Int.natCast_one, Int.cast_ofNat_Int, Option.some.injEq, AV.c.injEq, AV.g.injEq, map_inj_b8, c64_inj, c32_inj, c16_inj, b8_inj, CV.p.injEq, Value.int.injEq, Value.string.injEq, AV.lp.injEq, AV.lw.injEq, List.cons.injEq])
        all_goals try omega
        all_goals try with_reducible (first | rfl | exact ⟨rfl, rfl⟩ | exact ⟨rfl, rfl, rfl⟩)
        exact ⟨by omega, zero_step p 86 i (by omega) hz h0⟩
      · repeat' first
          | with_reducible refine AR.seq ?_
          | ((first | with_reducible refine AR.reg ?_ | with_reducible refine AR.skip ?_ | with_reducible refine AR.exit ?_ | ((with_reducible show pcall _ 114 _ _ _ _); refine pcall_of (page_opens _ _ _ (by first | assumption | omega | (simp only [bool_to_prop]; first | done | omega)) _) rfl f114_fn (by first | rfl | exact getS_ok _ _ _) ?_) | ((with_reducible show pcall _ 115 _ _ _ _); refine pcall_of (word_get _ _ _ (by first | assumption | omega | (simp only [bool_to_prop]; first | done | omega)) _) rfl f115_fn (by first | rfl | exact getS_ok _ _ _) ?_) | ((with_reducible show pcall _ 57 _ _ _ _); refine pcall_of (page_lsn _ (by first | assumption | omega | (simp only [bool_to_prop]; first | done | omega)) _) rfl f57_fn (by first | rfl | exact getS_ok _ _ _) ?_)); try simp (maxSteps := 2000000) (disch := first | assumption | omega | (simp only [bool_to_prop]; first | done | omega)) only [go_sem, h0])
          | ((with_reducible refine AR.ret ?_); try simp only [thn_r, blk_r])
          | with_reducible refine AR.block ?_
          | ((with_reducible refine And.intro ?_ ?_); · (first | omega | (simp only [bool_to_prop]; first | done | omega) | (simp (maxSteps := 2000000) (disch := first | assumption | omega | (simp only [bool_to_prop]; first | done | omega)) only [go_sem, h0]; first | done | omega)))
          | ((with_reducible refine AR.cond_t ?_ ?_); · simp (maxSteps := 2000000) (disch := first | assumption | omega | (simp only [bool_to_prop]; first | done | omega)) only [go_sem, h0])
          | ((with_reducible refine AR.cond_f ?_ ?_); · simp (maxSteps := 2000000) (disch := first | assumption | omega | (simp only [bool_to_prop]; first | done | omega)) only [go_sem, h0])
        refine fin_r _ (by simp (maxSteps := 2000000) (disch := first | assumption | omega | (simp only [bool_to_prop]; first | done | omega)) only [resV, rvs, rv1, go_sem]; rfl) rfl ⟨?_, rfl⟩
        rw [gd, if_neg (okD_no2 i (by omega) h0), if_neg (okD_no2 i (by omega) h0)]
        rfl
    · obtain rfl : i = 138 := by omega
      repeat' first
        | with_reducible refine AR.seq ?_
        | ((first | with_reducible refine AR.reg ?_ | with_reducible refine AR.skip ?_ | with_reducible refine AR.exit ?_ | ((with_reducible show pcall _ 114 _ _ _ _); refine pcall_of (page_opens _ _ _ (by first | assumption | omega | (simp only [bool_to_prop]; first | done | omega)) _) rfl f114_fn (by first | rfl | exact getS_ok _ _ _) ?_) | ((with_reducible show pcall _ 115 _ _ _ _); refine pcall_of (word_get _ _ _ (by first | assumption | omega | (simp only [bool_to_prop]; first | done | omega)) _) rfl f115_fn (by first | rfl | exact getS_ok _ _ _) ?_) | ((with_reducible show pcall _ 57 _ _ _ _); refine pcall_of (page_lsn _ (by first | assumption | omega | (simp only [bool_to_prop]; first | done | omega)) _) rfl f57_fn (by first | rfl | exact getS_ok _ _ _) ?_)); try simp (maxSteps := 2000000) (disch := first | assumption | omega | (simp only [bool_to_prop]; first | done | omega)) only [go_sem])
        | ((with_reducible refine AR.ret ?_); try simp only [thn_r, blk_r])
        | with_reducible refine AR.block ?_
        | ((with_reducible refine And.intro ?_ ?_); · (first | omega | (simp only [bool_to_prop]; first | done | omega) | (simp (maxSteps := 2000000) (disch := first | assumption | omega | (simp only [bool_to_prop]; first | done | omega)) only [go_sem]; first | done | omega)))
        | ((with_reducible refine AR.cond_t ?_ ?_); · simp (maxSteps := 2000000) (disch := first | assumption | omega | (simp only [bool_to_prop]; first | done | omega)) only [go_sem])
        | ((with_reducible refine AR.cond_f ?_ ?_); · simp (maxSteps := 2000000) (disch := first | assumption | omega | (simp only [bool_to_prop]; first | done | omega)) only [go_sem])
      refine fin_r _ (by simp (maxSteps := 2000000) (disch := first | assumption | omega | (simp only [bool_to_prop]; first | done | omega)) only [resV, rvs, rv1, go_sem]; rfl) rfl ⟨?_, rfl⟩
      rw [gd, if_pos (okD_yes hp h1 hz), if_pos (okD_yes hp h1 hz)]
      rw [sb_eq p hp]
      rfl
  · repeat' first
      | with_reducible refine AR.seq ?_
      | ((first | with_reducible refine AR.reg ?_ | with_reducible refine AR.skip ?_ | with_reducible refine AR.exit ?_ | ((with_reducible show pcall _ 114 _ _ _ _); refine pcall_of (page_opens _ _ _ (by first | assumption | omega | (simp only [bool_to_prop]; first | done | omega)) _) rfl f114_fn (by first | rfl | exact getS_ok _ _ _) ?_) | ((with_reducible show pcall _ 115 _ _ _ _); refine pcall_of (word_get _ _ _ (by first | assumption | omega | (simp only [bool_to_prop]; first | done | omega)) _) rfl f115_fn (by first | rfl | exact getS_ok _ _ _) ?_) | ((with_reducible show pcall _ 57 _ _ _ _); refine pcall_of (page_lsn _ (by first | assumption | omega | (simp only [bool_to_prop]; first | done | omega)) _) rfl f57_fn (by first | rfl | exact getS_ok _ _ _) ?_)); try simp (maxSteps := 2000000) (disch := first | assumption | omega | (simp only [bool_to_prop]; first | done | omega)) only [go_sem, h1])
      | ((with_reducible refine AR.ret ?_); try simp only [thn_r, blk_r])
      | with_reducible refine AR.block ?_
      | ((with_reducible refine And.intro ?_ ?_); · (first | omega | (simp only [bool_to_prop]; first | done | omega) | (simp (maxSteps := 2000000) (disch := first | assumption | omega | (simp only [bool_to_prop]; first | done | omega)) only [go_sem, h1]; first | done | omega)))
      | ((with_reducible refine AR.cond_t ?_ ?_); · simp (maxSteps := 2000000) (disch := first | assumption | omega | (simp only [bool_to_prop]; first | done | omega)) only [go_sem, h1])
      | ((with_reducible refine AR.cond_f ?_ ?_); · simp (maxSteps := 2000000) (disch := first | assumption | omega | (simp only [bool_to_prop]; first | done | omega)) only [go_sem, h1])
    refine fin_r _ (by simp (maxSteps := 2000000) (disch := first | assumption | omega | (simp only [bool_to_prop]; first | done | omega)) only [resV, rvs, rv1, go_sem]; rfl) rfl ⟨?_, rfl⟩
    rw [gd, if_neg (okD_no1 h1), if_neg (okD_no1 h1)]
    rfl
end Go.Eng
set_option linter.unusedSimpArgs false
set_option linter.unusedVariables false
-- LEN: sealL, putD, restD, pg_len
namespace Go.Eng
open Go.Proofs

theorem app_rep (a : List UInt8) (i : Nat) : a ++ List.replicate i 0 ++ [0] = a ++ List.replicate (i + 1) 0 := by
  rw [List.replicate_succ', List.append_assoc]

theorem take_snoc (s : List UInt8) (i : Nat) (h : i < s.length) : s.take i ++ [s.getD i 0] = s.take (i + 1) := by
  rw [List.take_add_one, List.getElem?_eq_getElem h, getD_get _ _ _ h]; rfl

theorem ref_laid (kind : UInt8) (no : BitVec 16) (lsn : BitVec 64) (r : List UInt8) (hr : r.length ≤ 209) (H : Heap) : ACalls Try.prog 118 [.c (b8 kind), .c (c16 no), .c (c64 lsn), S (str r)] H (fun v H' => v = .g ((pg kind no lsn (r ++ List.replicate (209 - r.length) 0)).map b8) ∧ H' = H) := by
  refine fn_sound' mixed f118_at F118_ok ⟨rfl, by decide, rfl⟩ ?_
  dsimp only [F118, k118, num]
  repeat' first
    | with_reducible refine AR.seq ?_
    | ((first | with_reducible refine AR.reg ?_ | with_reducible refine AR.skip ?_ | with_reducible refine AR.exit ?_ | ((with_reducible show pcall _ 119 _ _ _ _); refine pcall_of (ref_put _ _ _) rfl f119_fn (by first | rfl | exact getS_ok _ _ _) ?_) | ((with_reducible show pcall _ 124 _ _ _ _); refine pcall_of (ref_sum _ (by first | assumption | omega | (simp only [bool_to_prop]; first | done | omega)) _) rfl f124_fn (by first | rfl | exact getS_ok _ _ _) ?_)); try simp (maxSteps := 2000000) (disch := first | assumption | omega | (simp only [bool_to_prop]; first | done | omega)) only [go_sem])
    | ((with_reducible refine AR.ret ?_); try simp only [thn_r, blk_r])
    | with_reducible refine AR.block ?_
    | ((with_reducible refine And.intro ?_ ?_); · (first | omega | (simp only [bool_to_prop]; first | done | omega) | (simp (maxSteps := 2000000) (disch := first | assumption | omega | (simp only [bool_to_prop]; first | done | omega)) only [go_sem]; first | done | omega)))
    | ((with_reducible refine AR.cond_t ?_ ?_); · simp (maxSteps := 2000000) (disch := first | assumption | omega | (simp only [bool_to_prop]; first | done | omega)) only [go_sem])
    | ((with_reducible refine AR.cond_f ?_ ?_); · simp (maxSteps := 2000000) (disch := first | assumption | omega | (simp only [bool_to_prop]; first | done | omega)) only [go_sem])
  refine AR.loopS (σ := Nat) (fun i => ⟨mk [(8, .lp 8 0), (9, S (str (kind :: le 2 (no.setWidth 64)))), (10, S (str (le 8 lsn ++ r ++ List.replicate i 0)))], mk [(8, (List.replicate 224 (0 : UInt8)).map b8)], H⟩) (fun i => i ≤ 209 - r.length) (fun i => 209 - r.length - i) (0) ?_ ?_ ?_
  refine Wk.lists _ _ ?_ ?_ ?_
  all_goals try (first | exact trivial | (simp (maxSteps := 2000000) (disch := first | assumption | omega | (simp only [bool_to_prop]; first | done | omega)) only [List.take_zero, List.foldl_nil, List.nil_append, List.append_nil, List.replicate_zero, Nat.sub_zero, Nat.sub_self, Nat.mul_zero, le_0, it_0, sub_0, keeps_cons, keeps_nil, keepl_cons, keepl_nil, scopes_c, scopes_g, scopes_u, scopes_ep, scopes_lp, scopes_lw, scopes_nil, mk_cons, mk_nil, upd, Nat.reduceEqDiff, ↓reduceIte, and_self, and_true, true_and, ne_eq, reduceCtorEq, not_false_eq_true, Int.natCast_add, Int.natCast_one, Int.cast_ofNat_Int, Option.some.injEq, AV.c.injEq, AV.g.injEq, map_inj_b8, c64_inj, c32_inj, c16_inj, b8_inj, CV.p.injEq, Value.int.injEq, Value.string.injEq, AV.lp.injEq, AV.lw.injEq, List.cons.injEq]; done) | omega)
  all_goals try (simp (maxSteps := 2000000) (disch := first | assumption | omega | (simp only [bool_to_prop]; first | done | omega)) only [List.take_zero, List.foldl_nil, List.nil_append, List.append_nil, List.replicate_zero, Nat.sub_zero, Nat.sub_self, Nat.mul_zero, le_0, it_0, sub_0, keeps_cons, keeps_nil, keepl_cons, keepl_nil, scopes_c, scopes_g, scopes_u, scopes_ep, scopes_lp, scopes_lw, scopes_nil, mk_cons, mk_nil, upd, Nat.reduceEqDiff, ↓reduceIte, and_self, and_true, true_and, ne_eq, reduceCtorEq, not_false_eq_true, Int.natCast_add, Int.natCast_one, Int.cast_ofNat_Int, Option.some.injEq, AV.c.injEq, AV.g.injEq, map_inj_b8, c64_inj, c32_inj, c16_inj, b8_inj, CV.p.injEq, Value.int.injEq, Value.string.injEq, AV.lp.injEq, AV.lw.injEq, List.cons.injEq])
  all_goals try omega
  all_goals try with_reducible (first | rfl | exact ⟨rfl, rfl⟩ | exact ⟨rfl, rfl, rfl⟩)
  rintro i hi
  by_cases hlt : i < 209 - r.length
  · repeat' first
      | with_reducible refine AR.seq ?_
      | ((first | with_reducible refine AR.reg ?_ | with_reducible refine AR.skip ?_ | with_reducible refine AR.exit ?_ | ((with_reducible show pcall _ 119 _ _ _ _); refine pcall_of (ref_put _ _ _) rfl f119_fn (by first | rfl | exact getS_ok _ _ _) ?_) | ((with_reducible show pcall _ 124 _ _ _ _); refine pcall_of (ref_sum _ (by first | assumption | omega | (simp only [bool_to_prop]; first | done | omega)) _) rfl f124_fn (by first | rfl | exact getS_ok _ _ _) ?_)); try simp (maxSteps := 2000000) (disch := first | assumption | omega | (simp only [bool_to_prop]; first | done | omega)) only [go_sem])
      | ((with_reducible refine AR.ret ?_); try simp only [thn_r, blk_r])
      | with_reducible refine AR.block ?_
      | ((with_reducible refine And.intro ?_ ?_); · (first | omega | (simp only [bool_to_prop]; first | done | omega) | (simp (maxSteps := 2000000) (disch := first | assumption | omega | (simp only [bool_to_prop]; first | done | omega)) only [go_sem]; first | done | omega)))
      | ((with_reducible refine AR.cond_t ?_ ?_); · simp (maxSteps := 2000000) (disch := first | assumption | omega | (simp only [bool_to_prop]; first | done | omega)) only [go_sem])
      | ((with_reducible refine AR.cond_f ?_ ?_); · simp (maxSteps := 2000000) (disch := first | assumption | omega | (simp only [bool_to_prop]; first | done | omega)) only [go_sem])
    refine ⟨i + 1, Wk.lists _ _ ?_ ?_ ?_, ?_, ?_⟩
    all_goals try (first | exact trivial | (simp (maxSteps := 2000000) (disch := first | assumption | omega | (simp only [bool_to_prop]; first | done | omega)) only [List.take_zero, List.foldl_nil, List.nil_append, List.append_nil, List.replicate_zero, Nat.sub_zero, Nat.sub_self, Nat.mul_zero, le_0, it_0, sub_0, keeps_cons, keeps_nil, keepl_cons, keepl_nil, scopes_c, scopes_g, scopes_u, scopes_ep, scopes_lp, scopes_lw, scopes_nil, mk_cons, mk_nil, upd, Nat.reduceEqDiff, ↓reduceIte, and_self, and_true, true_and, ne_eq, reduceCtorEq, not_false_eq_true, Int.natCast_add, Int.natCast_one, Int.cast_ofNat_Int, Option.some.injEq, AV.c.injEq, AV.g.injEq, map_inj_b8, c64_inj, c32_inj, c16_inj, b8_inj, CV.p.injEq, Value.int.injEq, Value.string.injEq, AV.lp.injEq, AV.lw.injEq, List.cons.injEq]; done) | omega)
    all_goals try (simp (maxSteps := 2000000) (disch := first | assumption | omega | (simp only [bool_to_prop]; first | done | omega)) only [List.take_zero, List.foldl_nil, List.nil_append, List.append_nil, List.replicate_zero, Nat.sub_zero, Nat.sub_self, Nat.mul_zero, le_0, it_0, sub_0, keeps_cons, keeps_nil, keepl_cons, keepl_nil, scopes_c, scopes_g, scopes_u, scopes_ep, scopes_lp, scopes_lw, scopes_nil, mk_cons, mk_nil, upd, Nat.reduceEqDiff, ↓reduceIte, and_self, and_true, true_and, ne_eq, reduceCtorEq, not_false_eq_true, Int.natCast_add, Int.natCast_one, Int.cast_ofNat_Int, Option.some.injEq, AV.c.injEq, AV.g.injEq, map_inj_b8, c64_inj, c32_inj, c16_inj, b8_inj, CV.p.injEq, Value.int.injEq, Value.string.injEq, AV.lp.injEq, AV.lw.injEq, List.cons.injEq])
    all_goals try omega
    all_goals try with_reducible (first | rfl | exact ⟨rfl, rfl⟩ | exact ⟨rfl, rfl, rfl⟩)
    · rw [app_rep]
  · obtain rfl : i = 209 - r.length := by omega
    repeat' first
      | with_reducible refine AR.seq ?_
      | ((first | with_reducible refine AR.reg ?_ | with_reducible refine AR.skip ?_ | with_reducible refine AR.exit ?_ | ((with_reducible show pcall _ 119 _ _ _ _); refine pcall_of (ref_put _ _ _) rfl f119_fn (by first | rfl | exact getS_ok _ _ _) ?_) | ((with_reducible show pcall _ 124 _ _ _ _); refine pcall_of (ref_sum _ (by first | assumption | omega | (simp only [bool_to_prop]; first | done | omega)) _) rfl f124_fn (by first | rfl | exact getS_ok _ _ _) ?_)); try simp (maxSteps := 2000000) (disch := first | assumption | omega | (simp only [bool_to_prop]; first | done | omega)) only [go_sem])
      | ((with_reducible refine AR.ret ?_); try simp only [thn_r, blk_r])
      | with_reducible refine AR.block ?_
      | ((with_reducible refine And.intro ?_ ?_); · (first | omega | (simp only [bool_to_prop]; first | done | omega) | (simp (maxSteps := 2000000) (disch := first | assumption | omega | (simp only [bool_to_prop]; first | done | omega)) only [go_sem]; first | done | omega)))
      | ((with_reducible refine AR.cond_t ?_ ?_); · simp (maxSteps := 2000000) (disch := first | assumption | omega | (simp only [bool_to_prop]; first | done | omega)) only [go_sem])
      | ((with_reducible refine AR.cond_f ?_ ?_); · simp (maxSteps := 2000000) (disch := first | assumption | omega | (simp only [bool_to_prop]; first | done | omega)) only [go_sem])
    generalize hs : kind :: (le 2 (no.setWidth 64) ++ le 4 ((more 0 (kind :: (le 2 (no.setWidth 64) ++ [0, 0, 0, 0] ++ (le 8 lsn ++ r ++ List.replicate (209 - r.length) 0)))).setWidth 64) ++ (le 8 lsn ++ r ++ List.replicate (209 - r.length) 0)) = s
    have hs' : s = pg kind no lsn (r ++ List.replicate (209 - r.length) 0) := by
      rw [← hs]; simp only [pg, pgHead, List.cons_append, List.append_assoc]
    have hl : s.length = 224 := by
      rw [hs', pg_len]; simp only [bool_to_prop]; omega
    refine AR.loopS (σ := Nat) (fun i => ⟨mk [(8, .lp 8 0), (11, S (str s)), (12, .lp 12 0), (13, I .i64 i)], mk [(8, (List.replicate 224 (0 : UInt8)).map b8), (12, (s.take i ++ List.replicate (224 - i) 0).map b8)], H⟩) (fun i => i ≤ 224) (fun i => 224 - i) (0) ?_ ?_ ?_
    refine Wk.lists _ _ ?_ ?_ ?_
    all_goals try (first | exact trivial | (simp (maxSteps := 2000000) (disch := first | assumption | omega | (simp only [bool_to_prop]; first | done | omega)) only [List.take_zero, List.foldl_nil, List.nil_append, List.append_nil, List.replicate_zero, Nat.sub_zero, Nat.sub_self, Nat.mul_zero, le_0, it_0, sub_0, keeps_cons, keeps_nil, keepl_cons, keepl_nil, scopes_c, scopes_g, scopes_u, scopes_ep, scopes_lp, scopes_lw, scopes_nil, mk_cons, mk_nil, upd, Nat.reduceEqDiff, ↓reduceIte, and_self, and_true, true_and, ne_eq, reduceCtorEq, not_false_eq_true, Int.natCast_add, Int.natCast_one, Int.cast_ofNat_Int, Option.some.injEq, AV.c.injEq, AV.g.injEq, map_inj_b8, c64_inj, c32_inj, c16_inj, b8_inj, CV.p.injEq, Value.int.injEq, Value.string.injEq, AV.lp.injEq, AV.lw.injEq, List.cons.injEq]; done) | omega)
    all_goals try (simp (maxSteps := 2000000) (disch := first | assumption | omega | (simp only [bool_to_prop]; first | done | omega)) only [List.take_zero, List.foldl_nil, List.nil_append, List.append_nil, List.replicate_zero, Nat.sub_zero, Nat.sub_self, Nat.mul_zero, le_0, it_0, sub_0, keeps_cons, keeps_nil, keepl_cons, keepl_nil, scopes_c, scopes_g, scopes_u, scopes_ep, scopes_lp, scopes_lw, scopes_nil, mk_cons, mk_nil, upd, Nat.reduceEqDiff, ↓reduceIte, and_self, and_true, true_and, ne_eq, reduceCtorEq, not_false_eq_true, Int.natCast_add, Int.natCast_one, Int.cast_ofNat_Int, Option.some.injEq, AV.c.injEq, AV.g.injEq, map_inj_b8, c64_inj, c32_inj, c16_inj, b8_inj, CV.p.injEq, Value.int.injEq, Value.string.injEq, AV.lp.injEq, AV.lw.injEq, List.cons.injEq])
    all_goals try omega
    all_goals try with_reducible (first | rfl | exact ⟨rfl, rfl⟩ | exact ⟨rfl, rfl, rfl⟩)
    rintro i hi
    by_cases hlt : i < 224
    · repeat' first
        | with_reducible refine AR.seq ?_
        | ((first | with_reducible refine AR.reg ?_ | with_reducible refine AR.skip ?_ | with_reducible refine AR.exit ?_ | ((with_reducible show pcall _ 119 _ _ _ _); refine pcall_of (ref_put _ _ _) rfl f119_fn (by first | rfl | exact getS_ok _ _ _) ?_) | ((with_reducible show pcall _ 124 _ _ _ _); refine pcall_of (ref_sum _ (by first | assumption | omega | (simp only [bool_to_prop]; first | done | omega)) _) rfl f124_fn (by first | rfl | exact getS_ok _ _ _) ?_)); try simp (maxSteps := 2000000) (disch := first | assumption | omega | (simp only [bool_to_prop]; first | done | omega)) only [go_sem])
        | ((with_reducible refine AR.ret ?_); try simp only [thn_r, blk_r])
        | with_reducible refine AR.block ?_
        | ((with_reducible refine And.intro ?_ ?_); · (first | omega | (simp only [bool_to_prop]; first | done | omega) | (simp (maxSteps := 2000000) (disch := first | assumption | omega | (simp only [bool_to_prop]; first | done | omega)) only [go_sem]; first | done | omega)))
        | ((with_reducible refine AR.cond_t ?_ ?_); · simp (maxSteps := 2000000) (disch := first | assumption | omega | (simp only [bool_to_prop]; first | done | omega)) only [go_sem])
        | ((with_reducible refine AR.cond_f ?_ ?_); · simp (maxSteps := 2000000) (disch := first | assumption | omega | (simp only [bool_to_prop]; first | done | omega)) only [go_sem])
      refine ⟨i + 1, Wk.lists _ _ ?_ ?_ ?_, ?_, ?_⟩
      all_goals try (first | exact trivial | (simp (maxSteps := 2000000) (disch := first | assumption | omega | (simp only [bool_to_prop]; first | done | omega)) only [List.take_zero, List.foldl_nil, List.nil_append, List.append_nil, List.replicate_zero, Nat.sub_zero, Nat.sub_self, Nat.mul_zero, le_0, it_0, sub_0, keeps_cons, keeps_nil, keepl_cons, keepl_nil, scopes_c, scopes_g, scopes_u, scopes_ep, scopes_lp, scopes_lw, scopes_nil, mk_cons, mk_nil, upd, Nat.reduceEqDiff, ↓reduceIte, and_self, and_true, true_and, ne_eq, reduceCtorEq, not_false_eq_true, Int.natCast_add, Int.natCast_one, Int.cast_ofNat_Int, Option.some.injEq, AV.c.injEq, AV.g.injEq, map_inj_b8, c64_inj, c32_inj, c16_inj, b8_inj, CV.p.injEq, Value.int.injEq, Value.string.injEq, AV.lp.injEq, AV.lw.injEq, List.cons.injEq]; done) | omega)
      all_goals try (simp (maxSteps := 2000000) (disch := first | assumption | omega | (simp only [bool_to_prop]; first | done | omega)) only [List.take_zero, List.foldl_nil, List.nil_append, List.append_nil, List.replicate_zero, Nat.sub_zero, Nat.sub_self, Nat.mul_zero, le_0, it_0, sub_0, keeps_cons, keeps_nil, keepl_cons, keepl_nil, scopes_c, scopes_g, scopes_u, scopes_ep, scopes_lp, scopes_lw, scopes_nil, mk_cons, mk_nil, upd, Nat.reduceEqDiff, ↓reduceIte, and_self, and_true, true_and, ne_eq, reduceCtorEq, not_false_eq_true, Int.natCast_add, Int.natCast_one, Int.cast_ofNat_Int, Option.some.injEq, AV.c.injEq, AV.g.injEq, map_inj_b8, c64_inj, c32_inj, c16_inj, b8_inj, CV.p.injEq, Value.int.injEq, Value.string.injEq, AV.lp.injEq, AV.lw.injEq, List.cons.injEq])
      all_goals try omega
      all_goals try with_reducible (first | rfl | exact ⟨rfl, rfl⟩ | exact ⟨rfl, rfl, rfl⟩)
      rw [over_fill _ _ _ _ _ (by simp only [bool_to_prop]; omega) (by omega), take_snoc _ _ (by omega)]; rfl
    · obtain rfl : i = 224 := by omega
      repeat' first
        | with_reducible refine AR.seq ?_
        | ((first | with_reducible refine AR.reg ?_ | with_reducible refine AR.skip ?_ | with_reducible refine AR.exit ?_ | ((with_reducible show pcall _ 119 _ _ _ _); refine pcall_of (ref_put _ _ _) rfl f119_fn (by first | rfl | exact getS_ok _ _ _) ?_) | ((with_reducible show pcall _ 124 _ _ _ _); refine pcall_of (ref_sum _ (by first | assumption | omega | (simp only [bool_to_prop]; first | done | omega)) _) rfl f124_fn (by first | rfl | exact getS_ok _ _ _) ?_)); try simp (maxSteps := 2000000) (disch := first | assumption | omega | (simp only [bool_to_prop]; first | done | omega)) only [go_sem])
        | ((with_reducible refine AR.ret ?_); try simp only [thn_r, blk_r])
        | with_reducible refine AR.block ?_
        | ((with_reducible refine And.intro ?_ ?_); · (first | omega | (simp only [bool_to_prop]; first | done | omega) | (simp (maxSteps := 2000000) (disch := first | assumption | omega | (simp only [bool_to_prop]; first | done | omega)) only [go_sem]; first | done | omega)))
        | ((with_reducible refine AR.cond_t ?_ ?_); · simp (maxSteps := 2000000) (disch := first | assumption | omega | (simp only [bool_to_prop]; first | done | omega)) only [go_sem])
        | ((with_reducible refine AR.cond_f ?_ ?_); · simp (maxSteps := 2000000) (disch := first | assumption | omega | (simp only [bool_to_prop]; first | done | omega)) only [go_sem])
      refine fin_r _ (by simp (maxSteps := 2000000) (disch := first | assumption | omega | (simp only [bool_to_prop]; first | done | omega)) only [resV, rvs, rv1, go_sem]; rfl) rfl ⟨?_, rfl⟩
      rw [hs']

theorem ref_num (p : List UInt8) (hp : p.length = 224) (a n : Int) (h : 0 ≤ n ∧ n ≤ 8 ∧ 0 ≤ a ∧ a + n ≤ 224) (H : Heap) : ACalls Try.prog 116 [.g (p.map b8), I .i64 a, I .i64 n] H (fun v H' => v = .c (c64 (dle (sub p a.toNat n.toNat))) ∧ H' = H) := by
  refine fn_sound' mixed f116_at F116_ok ⟨rfl, by decide, rfl⟩ ?_
  dsimp only [F116, k116, num]
  repeat' first
    | with_reducible refine AR.seq ?_
    | ((first | with_reducible refine AR.reg ?_ | with_reducible refine AR.skip ?_ | with_reducible refine AR.exit ?_ | ((with_reducible show pcall _ 131 _ _ _ _); refine pcall_of (ref_get _ _ _ (by first | assumption | omega | (simp only [bool_to_prop]; first | done | omega)) _) rfl f131_fn (by first | rfl | exact getS_ok _ _ _) ?_)); try simp (maxSteps := 2000000) (disch := first | assumption | omega | (simp only [bool_to_prop]; first | done | omega)) only [go_sem])
    | ((with_reducible refine AR.ret ?_); try simp only [thn_r, blk_r])
    | with_reducible refine AR.block ?_
    | ((with_reducible refine And.intro ?_ ?_); · (first | omega | (simp only [bool_to_prop]; first | done | omega) | (simp (maxSteps := 2000000) (disch := first | assumption | omega | (simp only [bool_to_prop]; first | done | omega)) only [go_sem]; first | done | omega)))
    | ((with_reducible refine AR.cond_t ?_ ?_); · simp (maxSteps := 2000000) (disch := first | assumption | omega | (simp only [bool_to_prop]; first | done | omega)) only [go_sem])
    | ((with_reducible refine AR.cond_f ?_ ?_); · simp (maxSteps := 2000000) (disch := first | assumption | omega | (simp only [bool_to_prop]; first | done | omega)) only [go_sem])
  refine fin_r _ (by simp (maxSteps := 2000000) (disch := first | assumption | omega | (simp only [bool_to_prop]; first | done | omega)) only [resV, rvs, rv1, go_sem]; rfl) rfl ⟨?_, rfl⟩
  rfl

theorem ref_lsn (p : List UInt8) (hp : p.length = 224) (H : Heap) : ACalls Try.prog 58 [.g (p.map b8)] H (fun v H' => v = .c (c64 (lsnOf p)) ∧ H' = H) := by
  refine fn_sound' mixed f58_at F58_ok ⟨rfl, by decide, rfl⟩ ?_
  dsimp only [F58, k58, num]
  repeat' first
    | with_reducible refine AR.seq ?_
    | ((first | with_reducible refine AR.reg ?_ | with_reducible refine AR.skip ?_ | with_reducible refine AR.exit ?_ | ((with_reducible show pcall _ 116 _ _ _ _); refine pcall_of (ref_num _ (by first | assumption | omega | (simp only [bool_to_prop]; first | done | omega)) _ _ (by omega) _) rfl f116_fn (by first | rfl | exact getS_ok _ _ _) ?_)); try simp (maxSteps := 2000000) (disch := first | assumption | omega | (simp only [bool_to_prop]; first | done | omega)) only [go_sem])
    | ((with_reducible refine AR.ret ?_); try simp only [thn_r, blk_r])
    | with_reducible refine AR.block ?_
    | ((with_reducible refine And.intro ?_ ?_); · (first | omega | (simp only [bool_to_prop]; first | done | omega) | (simp (maxSteps := 2000000) (disch := first | assumption | omega | (simp only [bool_to_prop]; first | done | omega)) only [go_sem]; first | done | omega)))
    | ((with_reducible refine AR.cond_t ?_ ?_); · simp (maxSteps := 2000000) (disch := first | assumption | omega | (simp only [bool_to_prop]; first | done | omega)) only [go_sem])
    | ((with_reducible refine AR.cond_f ?_ ?_); · simp (maxSteps := 2000000) (disch := first | assumption | omega | (simp only [bool_to_prop]; first | done | omega)) only [go_sem])
  refine fin_r _ (by simp (maxSteps := 2000000) (disch := first | assumption | omega | (simp only [bool_to_prop]; first | done | omega)) only [resV, rvs, rv1, go_sem]; rfl) rfl ⟨?_, rfl⟩
  rfl

theorem ref_putData (no : BitVec 16) (d : PD) (hd : d.sb.length = 65) (H : Heap) : ACalls Try.prog 56 [.c (c16 no), .g (PD.cells d)] H (fun v H' => v = .g ((putD no d).map b8) ∧ H' = H) := by
  unfold PD.cells
  refine fn_sound' mixed f56_at F56_ok ⟨rfl, by decide, rfl⟩ ?_
  dsimp only [F56, k56, num]
  repeat' first
    | with_reducible refine AR.seq ?_
    | ((first | with_reducible refine AR.reg ?_ | with_reducible refine AR.skip ?_ | with_reducible refine AR.exit ?_ | ((with_reducible show pcall _ 118 _ _ _ _); refine pcall_of (ref_laid _ _ _ _ (by first | assumption | omega | (simp only [bool_to_prop]; first | done | omega)) _) rfl f118_fn (by first | rfl | exact getS_ok _ _ _) ?_) | ((with_reducible show pcall _ 119 _ _ _ _); refine pcall_of (ref_put _ _ _) rfl f119_fn (by first | rfl | exact getS_ok _ _ _) ?_)); try simp (maxSteps := 2000000) (disch := first | assumption | omega | (simp only [bool_to_prop]; first | done | omega)) only [go_sem])
    | ((with_reducible refine AR.ret ?_); try simp only [thn_r, blk_r])
    | with_reducible refine AR.block ?_
    | ((with_reducible refine And.intro ?_ ?_); · (first | omega | (simp only [bool_to_prop]; first | done | omega) | (simp (maxSteps := 2000000) (disch := first | assumption | omega | (simp only [bool_to_prop]; first | done | omega)) only [go_sem]; first | done | omega)))
    | ((with_reducible refine AR.cond_t ?_ ?_); · simp (maxSteps := 2000000) (disch := first | assumption | omega | (simp only [bool_to_prop]; first | done | omega)) only [go_sem])
    | ((with_reducible refine AR.cond_f ?_ ?_); · simp (maxSteps := 2000000) (disch := first | assumption | omega | (simp only [bool_to_prop]; first | done | omega)) only [go_sem])
  refine fin_r _ (by simp (maxSteps := 2000000) (disch := first | assumption | omega | (simp only [bool_to_prop]; first | done | omega)) only [resV, rvs, rv1, go_sem]; rfl) rfl ⟨?_, rfl⟩
  simp only [putD, restD, List.append_assoc]
  congr 3
  obtain ⟨x, l, e⟩ : ∃ x l, d.sb = x :: l := by
    cases h : d.sb with
    | nil => rw [h] at hd; simp at hd
    | cons x l => exact ⟨x, l, rfl⟩
  rw [e] at hd ⊢
  simp only [List.getD_cons_zero, sub_s, List.cons_append, List.nil_append]
  rw [sub_all _ _ (by simp at hd; omega)]

theorem ref_putData' (no : BitVec 16) (lsn : BitVec 64) (ts : BitVec 32) (pn : BitVec 16) (sb : List UInt8) (hd : sb.length = 65) (H : Heap) : ACalls Try.prog 56 [.c (c16 no), .g (c64 lsn :: c32 ts :: c16 pn :: sb.map b8)] H (fun v H' => v = .g ((putD no ⟨lsn, ts, pn, sb⟩).map b8) ∧ H' = H) := ref_putData no ⟨lsn, ts, pn, sb⟩ hd H

theorem sb_step (p : List UInt8) (i : Nat) (hi : i < 64) (hp : p.length = 224) (x : UInt8) : over (x :: (sub p 22 i ++ List.replicate (64 - i) 0)) (4 + i - 1 - 1 - 1) [p.getD (22 + i) 0] = x :: (sub p 22 (i + 1) ++ List.replicate (64 - (i + 1)) 0) := by
  rw [show 4 + i - 1 - 1 - 1 = i + 1 by omega, over_s, over_fill _ _ _ _ _ (by simp only [bool_to_prop]; omega) (by omega)]
  congr 2
  rw [sub_split p 22 i 1 (by omega), sub_one _ _ (by omega)]

theorem ref_getData (no : BitVec 16) (p : List UInt8) (hp : p.length = 224) (H : Heap) : ACalls Try.prog 54 [.c (c16 no), .g (p.map b8)] H (fun v H' => v = .t [.g (PD.cells (gd no p)), B (decide (okD no p))] ∧ H' = H) := by
  refine fn_sound' mixed f54_at F54_ok ⟨rfl, by decide, rfl⟩ ?_
  dsimp only [F54, k54, num]
  repeat' first
    | with_reducible refine AR.seq ?_
    | ((first | with_reducible refine AR.reg ?_ | with_reducible refine AR.skip ?_ | with_reducible refine AR.exit ?_ | ((with_reducible show pcall _ 116 _ _ _ _); refine pcall_of (ref_num _ (by first | assumption | omega | (simp only [bool_to_prop]; first | done | omega)) _ _ (by omega) _) rfl f116_fn (by first | rfl | exact getS_ok _ _ _) ?_) | ((with_reducible show pcall _ 56 _ _ _ _); refine pcall_of (ref_putData _ _ (by first | assumption | omega | (simp only [bool_to_prop]; first | done | omega)) _) rfl f56_fn (by first | rfl | exact getS_ok _ _ _) ?_) | ((with_reducible show pcall _ 56 _ _ _ _); refine pcall_of (ref_putData' _ _ _ _ _ (by first | assumption | omega | (simp only [bool_to_prop]; first | done | omega)) _) rfl f56_fn (by first | rfl | exact getS_ok _ _ _) ?_) | ((with_reducible show pcall _ 58 _ _ _ _); refine pcall_of (ref_lsn _ (by first | assumption | omega | (simp only [bool_to_prop]; first | done | omega)) _) rfl f58_fn (by first | rfl | exact getS_ok _ _ _) ?_)); try simp (maxSteps := 2000000) (disch := first | assumption | omega | (simp only [bool_to_prop]; first | done | omega)) only [go_sem])
    | ((with_reducible refine AR.ret ?_); try simp only [thn_r, blk_r])
    | with_reducible refine AR.block ?_
    | ((with_reducible refine And.intro ?_ ?_); · (first | omega | (simp only [bool_to_prop]; first | done | omega) | (simp (maxSteps := 2000000) (disch := first | assumption | omega | (simp only [bool_to_prop]; first | done | omega)) only [go_sem]; first | done | omega)))
    | ((with_reducible refine AR.cond_t ?_ ?_); · simp (maxSteps := 2000000) (disch := first | assumption | omega | (simp only [bool_to_prop]; first | done | omega)) only [go_sem])
    | ((with_reducible refine AR.cond_f ?_ ?_); · simp (maxSteps := 2000000) (disch := first | assumption | omega | (simp only [bool_to_prop]; first | done | omega)) only [go_sem])
  refine AR.loopS (σ := Nat) (fun i => ⟨mk [(0, .c (c16 no)), (3, .lp 3 0), (4, .lp 4 0), (6, .lp 6 0), (7, I .i64 i)], mk [(3, p.map b8), (4, c64 0 :: c32 0 :: c16 0 :: (List.replicate 65 (0 : UInt8)).map b8), (6, c64 (lsnOf p) :: c32 ((dle (sub p 15 4)).setWidth 32) :: c16 ((dle (sub p 19 2)).setWidth 16) :: (p.getD 21 0 :: (sub p 22 i ++ List.replicate (64 - i) 0)).map b8)], H⟩) (fun i => i ≤ 64) (fun i => 64 - i) (0) ?_ ?_ ?_
  refine Wk.lists _ _ ?_ ?_ ?_
  all_goals try (first | exact trivial | (simp (maxSteps := 2000000) (disch := first | assumption | omega | (simp only [bool_to_prop]; first | done | omega)) only [List.take_zero, List.foldl_nil, List.nil_append, List.append_nil, List.replicate_zero, Nat.sub_zero, Nat.sub_self, Nat.mul_zero, le_0, it_0, sub_0, keeps_cons, keeps_nil, keepl_cons, keepl_nil, scopes_c, scopes_g, scopes_u, scopes_ep, scopes_lp, scopes_lw, scopes_nil, mk_cons, mk_nil, upd, Nat.reduceEqDiff, ↓reduceIte, and_self, and_true, true_and, ne_eq, reduceCtorEq, not_false_eq_true, Int.natCast_add, Int.natCast_one, Int.cast_ofNat_Int, Option.some.injEq, AV.c.injEq, AV.g.injEq, map_inj_b8, c64_inj, c32_inj, c16_inj, b8_inj, CV.p.injEq, Value.int.injEq, Value.string.injEq, AV.lp.injEq, AV.lw.injEq, List.cons.injEq]; done) | omega)
  all_goals try (simp (maxSteps := 2000000) (disch := first | assumption | omega | (simp only [bool_to_prop]; first | done | omega)) only [List.take_zero, List.foldl_nil, List.nil_append, List.append_nil, List.replicate_zero, Nat.sub_zero, Nat.sub_self, Nat.mul_zero, le_0, it_0, sub_0, keeps_cons, keeps_nil, keepl_cons, keepl_nil, scopes_c, scopes_g, scopes_u, scopes_ep, scopes_lp, scopes_lw, scopes_nil, mk_cons, mk_nil, upd, Nat.reduceEqDiff, ↓reduceIte, and_self, and_true, true_and, ne_eq, reduceCtorEq, not_false_eq_true, Int.natCast_add, Int.natCast_one, Int.cast_ofNat_Int, Option.some.injEq, AV.c.injEq, AV.g.injEq, map_inj_b8, c64_inj, c32_inj, c16_inj, b8_inj, CV.p.injEq, Value.int.injEq, Value.string.injEq, AV.lp.injEq, AV.lw.injEq, List.cons.injEq])
  all_goals try omega
  all_goals try with_reducible (first | rfl | exact ⟨rfl, rfl⟩ | exact ⟨rfl, rfl, rfl⟩)
  · simp (maxSteps := 2000000) (disch := first | assumption | omega | (simp only [bool_to_prop]; first | done | omega)) only [over_rep, over_r, List.append_assoc, List.length_append, List.length_cons, List.length_nil, List.length_replicate, le_len, sub_lenU, Nat.reduceSub, Nat.reduceAdd, Nat.zero_add, Nat.sub_self, List.replicate_zero, List.nil_append, List.append_nil, min_l]
    rfl
  rintro i hi
  by_cases hlt : i < 64
  · have hb : ((22 : Int) + (i : Int)).toNat = 22 + i := by omega
    repeat' first
      | with_reducible refine AR.seq ?_
      | ((first | with_reducible refine AR.reg ?_ | with_reducible refine AR.skip ?_ | with_reducible refine AR.exit ?_ | ((with_reducible show pcall _ 116 _ _ _ _); refine pcall_of (ref_num _ (by first | assumption | omega | (simp only [bool_to_prop]; first | done | omega)) _ _ (by omega) _) rfl f116_fn (by first | rfl | exact getS_ok _ _ _) ?_) | ((with_reducible show pcall _ 56 _ _ _ _); refine pcall_of (ref_putData _ _ (by first | assumption | omega | (simp only [bool_to_prop]; first | done | omega)) _) rfl f56_fn (by first | rfl | exact getS_ok _ _ _) ?_) | ((with_reducible show pcall _ 56 _ _ _ _); refine pcall_of (ref_putData' _ _ _ _ _ (by first | assumption | omega | (simp only [bool_to_prop]; first | done | omega)) _) rfl f56_fn (by first | rfl | exact getS_ok _ _ _) ?_) | ((with_reducible show pcall _ 58 _ _ _ _); refine pcall_of (ref_lsn _ (by first | assumption | omega | (simp only [bool_to_prop]; first | done | omega)) _) rfl f58_fn (by first | rfl | exact getS_ok _ _ _) ?_)); try simp (maxSteps := 2000000) (disch := first | assumption | omega | (simp only [bool_to_prop]; first | done | omega)) only [go_sem, hb])
      | ((with_reducible refine AR.ret ?_); try simp only [thn_r, blk_r])
      | with_reducible refine AR.block ?_
      | ((with_reducible refine And.intro ?_ ?_); · (first | omega | (simp only [bool_to_prop]; first | done | omega) | (simp (maxSteps := 2000000) (disch := first | assumption | omega | (simp only [bool_to_prop]; first | done | omega)) only [go_sem, hb]; first | done | omega)))
      | ((with_reducible refine AR.cond_t ?_ ?_); · simp (maxSteps := 2000000) (disch := first | assumption | omega | (simp only [bool_to_prop]; first | done | omega)) only [go_sem, hb])
      | ((with_reducible refine AR.cond_f ?_ ?_); · simp (maxSteps := 2000000) (disch := first | assumption | omega | (simp only [bool_to_prop]; first | done | omega)) only [go_sem, hb])
    refine ⟨i + 1, Wk.lists _ _ ?_ ?_ ?_, ?_, ?_⟩
    all_goals try (first | exact trivial | (simp (maxSteps := 2000000) (disch := first | assumption | omega | (simp only [bool_to_prop]; first | done | omega)) only [List.take_zero, List.foldl_nil, List.nil_append, List.append_nil, List.replicate_zero, Nat.sub_zero, Nat.sub_self, Nat.mul_zero, le_0, it_0, sub_0, keeps_cons, keeps_nil, keepl_cons, keepl_nil, scopes_c, scopes_g, scopes_u, scopes_ep, scopes_lp, scopes_lw, scopes_nil, mk_cons, mk_nil, upd, Nat.reduceEqDiff, ↓reduceIte, and_self, and_true, true_and, ne_eq, reduceCtorEq, not_false_eq_true, Int.natCast_add, Int.natCast_one, Int.cast_ofNat_Int, Option.some.injEq, AV.c.injEq, AV.g.injEq, map_inj_b8, c64_inj, c32_inj, c16_inj, b8_inj, CV.p.injEq, Value.int.injEq, Value.string.injEq, AV.lp.injEq, AV.lw.injEq, List.cons.injEq]; done) | omega)
    all_goals try (simp (maxSteps := 2000000) (disch := first | assumption | omega | (simp only [bool_to_prop]; first | done | omega)) only [List.take_zero, List.foldl_nil, List.nil_append, List.append_nil, List.replicate_zero, Nat.sub_zero, Nat.sub_self, Nat.mul_zero, le_0, it_0, sub_0, keeps_cons, keeps_nil, keepl_cons, keepl_nil, scopes_c, scopes_g, scopes_u, scopes_ep, scopes_lp, scopes_lw, scopes_nil, mk_cons, mk_nil, upd, Nat.reduceEqDiff, ↓reduceIte, and_self, and_true, true_and, ne_eq, reduceCtorEq, not_false_eq_true, Int.natCast_add, Int.natCast_one, Int.cast_ofNat_Int, Option.some.injEq, AV.c.injEq, AV.g.injEq, map_inj_b8, c64_inj, c32_inj, c16_inj, b8_inj, CV.p.injEq, Value.int.injEq, Value.string.injEq, AV.lp.injEq, AV.lw.injEq, List.cons.injEq])
    all_goals try omega
    all_goals try with_reducible (first | rfl | exact ⟨rfl, rfl⟩ | exact ⟨rfl, rfl, rfl⟩)
    · exact sb_step p i hlt hp _
  · obtain rfl : i = 64 := by omega
    have hd : (⟨lsnOf p, (dle (sub p 15 4)).setWidth 32, (dle (sub p 19 2)).setWidth 16, p.getD 21 0 :: sub p 22 64⟩ : PD) = getD p := by
      unfold getD
      rw [show (65 : Nat) = 1 + 64 by rfl, sub_split p 21 1 64 (by omega), sub_one _ _ (by omega)]; rfl
    by_cases h : okD no p
    · have he := (put_get no p hp).2 h
      rw [← hd] at he
      repeat' first
        | with_reducible refine AR.seq ?_
        | ((first | with_reducible refine AR.reg ?_ | with_reducible refine AR.skip ?_ | with_reducible refine AR.exit ?_ | ((with_reducible show pcall _ 116 _ _ _ _); refine pcall_of (ref_num _ (by first | assumption | omega | (simp only [bool_to_prop]; first | done | omega)) _ _ (by omega) _) rfl f116_fn (by first | rfl | exact getS_ok _ _ _) ?_) | ((with_reducible show pcall _ 56 _ _ _ _); refine pcall_of (ref_putData _ _ (by first | assumption | omega | (simp only [bool_to_prop]; first | done | omega)) _) rfl f56_fn (by first | rfl | exact getS_ok _ _ _) ?_) | ((with_reducible show pcall _ 56 _ _ _ _); refine pcall_of (ref_putData' _ _ _ _ _ (by first | assumption | omega | (simp only [bool_to_prop]; first | done | omega)) _) rfl f56_fn (by first | rfl | exact getS_ok _ _ _) ?_) | ((with_reducible show pcall _ 58 _ _ _ _); refine pcall_of (ref_lsn _ (by first | assumption | omega | (simp only [bool_to_prop]; first | done | omega)) _) rfl f58_fn (by first | rfl | exact getS_ok _ _ _) ?_)); try simp (maxSteps := 2000000) (disch := first | assumption | omega | (simp only [bool_to_prop]; first | done | omega)) only [go_sem, he])
        | ((with_reducible refine AR.ret ?_); try simp only [thn_r, blk_r])
        | with_reducible refine AR.block ?_
        | ((with_reducible refine And.intro ?_ ?_); · (first | omega | (simp only [bool_to_prop]; first | done | omega) | (simp (maxSteps := 2000000) (disch := first | assumption | omega | (simp only [bool_to_prop]; first | done | omega)) only [go_sem, he]; first | done | omega)))
        | ((with_reducible refine AR.cond_t ?_ ?_); · simp (maxSteps := 2000000) (disch := first | assumption | omega | (simp only [bool_to_prop]; first | done | omega)) only [go_sem, he])
        | ((with_reducible refine AR.cond_f ?_ ?_); · simp (maxSteps := 2000000) (disch := first | assumption | omega | (simp only [bool_to_prop]; first | done | omega)) only [go_sem, he])
      refine fin_r _ (by simp (maxSteps := 2000000) (disch := first | assumption | omega | (simp only [bool_to_prop]; first | done | omega)) only [resV, rvs, rv1, go_sem]; rfl) rfl ⟨?_, rfl⟩
      rw [gd, if_pos h, ← hd]; rfl
    · have he : ¬ putD no (getD p) = p := fun e => h ((put_get no p hp).1 e)
      rw [← hd] at he
      repeat' first
        | with_reducible refine AR.seq ?_
        | ((first | with_reducible refine AR.reg ?_ | with_reducible refine AR.skip ?_ | with_reducible refine AR.exit ?_ | ((with_reducible show pcall _ 116 _ _ _ _); refine pcall_of (ref_num _ (by first | assumption | omega | (simp only [bool_to_prop]; first | done | omega)) _ _ (by omega) _) rfl f116_fn (by first | rfl | exact getS_ok _ _ _) ?_) | ((with_reducible show pcall _ 56 _ _ _ _); refine pcall_of (ref_putData _ _ (by first | assumption | omega | (simp only [bool_to_prop]; first | done | omega)) _) rfl f56_fn (by first | rfl | exact getS_ok _ _ _) ?_) | ((with_reducible show pcall _ 56 _ _ _ _); refine pcall_of (ref_putData' _ _ _ _ _ (by first | assumption | omega | (simp only [bool_to_prop]; first | done | omega)) _) rfl f56_fn (by first | rfl | exact getS_ok _ _ _) ?_) | ((with_reducible show pcall _ 58 _ _ _ _); refine pcall_of (ref_lsn _ (by first | assumption | omega | (simp only [bool_to_prop]; first | done | omega)) _) rfl f58_fn (by first | rfl | exact getS_ok _ _ _) ?_)); try simp (maxSteps := 2000000) (disch := first | assumption | omega | (simp only [bool_to_prop]; first | done | omega)) only [go_sem, he])
        | ((with_reducible refine AR.ret ?_); try simp only [thn_r, blk_r])
        | with_reducible refine AR.block ?_
        | ((with_reducible refine And.intro ?_ ?_); · (first | omega | (simp only [bool_to_prop]; first | done | omega) | (simp (maxSteps := 2000000) (disch := first | assumption | omega | (simp only [bool_to_prop]; first | done | omega)) only [go_sem, he]; first | done | omega)))
        | ((with_reducible refine AR.cond_t ?_ ?_); · simp (maxSteps := 2000000) (disch := first | assumption | omega | (simp only [bool_to_prop]; first | done | omega)) only [go_sem, he])
        | ((with_reducible refine AR.cond_f ?_ ?_); · simp (maxSteps := 2000000) (disch := first | assumption | omega | (simp only [bool_to_prop]; first | done | omega)) only [go_sem, he])
      refine fin_r _ (by simp (maxSteps := 2000000) (disch := first | assumption | omega | (simp only [bool_to_prop]; first | done | omega)) only [resV, rvs, rv1, go_sem]; rfl) rfl ⟨?_, rfl⟩
      rw [gd, if_neg h]; rfl
end Go.Eng
set_option linter.unusedSimpArgs false
set_option linter.unusedVariables false
set_option maxRecDepth 100000
-- LEN: sealL, putD, restD, pg_len, gd_len, PD.cells_len
namespace Go.Eng
open Go.Proofs

theorem page_blank0 (no : BitVec 16) (H : Heap) : ACalls Try.prog 69 [.g [.p (.bool false), c16 no]] H (fun v H' => v = .g ((putD no PD.zero).map b8) ∧ H' = H) := by
  refine fn_sound' mixed f69_at F69_ok ⟨rfl, by decide, rfl⟩ ?_
  dsimp only [F69, k69, num]
  repeat' first
    | with_reducible refine AR.seq ?_
    | ((first | with_reducible refine AR.reg ?_ | with_reducible refine AR.skip ?_ | with_reducible refine AR.exit ?_ | ((with_reducible show pcall _ 55 _ _ _ _); refine pcall_of (page_putData _ _ (by first | assumption | omega | (simp only [bool_to_prop]; first | done | omega)) _) rfl f55_fn (by first | rfl | exact getS_ok _ _ _) ?_) | ((with_reducible show pcall _ 55 _ _ _ _); refine pcall_of (page_putData' _ _ _ _ _ (by first | assumption | omega | (simp only [bool_to_prop]; first | done | omega)) _) rfl f55_fn (by first | rfl | exact getS_ok _ _ _) ?_) | ((with_reducible show pcall _ 60 _ _ _ _); refine pcall_of (page_putUndo _ _ _ (by first | assumption | omega | (simp only [bool_to_prop]; first | done | omega)) _) rfl f60_fn (by first | rfl | exact getS_ok _ _ _) ?_) | ((with_reducible show pcall _ 60 _ _ _ _); refine pcall_of (page_putUndo_z _ _) rfl f60_fn (by first | rfl | exact getS_ok _ _ _) ?_)); try simp (maxSteps := 2000000) (disch := first | assumption | omega | (simp only [bool_to_prop]; first | done | omega)) only [go_sem])
    | ((with_reducible refine AR.ret ?_); try simp only [thn_r, blk_r])
    | with_reducible refine AR.block ?_
    | ((with_reducible refine And.intro ?_ ?_); · (first | omega | (simp only [bool_to_prop]; first | done | omega) | (simp (maxSteps := 2000000) (disch := first | assumption | omega | (simp only [bool_to_prop]; first | done | omega)) only [go_sem]; first | done | omega)))
    | ((with_reducible refine AR.cond_t ?_ ?_); · simp (maxSteps := 2000000) (disch := first | assumption | omega | (simp only [bool_to_prop]; first | done | omega)) only [go_sem])
    | ((with_reducible refine AR.cond_f ?_ ?_); · simp (maxSteps := 2000000) (disch := first | assumption | omega | (simp only [bool_to_prop]; first | done | omega)) only [go_sem])
  refine fin_r _ (by simp (maxSteps := 2000000) (disch := first | assumption | omega | (simp only [bool_to_prop]; first | done | omega)) only [resV, rvs, rv1, go_sem]; rfl) rfl ⟨?_, rfl⟩
  rfl

theorem page_right0 (no : BitVec 16) (p : List UInt8) (hp : p.length = 224) (H : Heap) : ACalls Try.prog 71 [.g [.p (.bool false), c16 no], .g (p.map b8)] H (fun v H' => v = B (decide (okD no p)) ∧ H' = H) := by
  have hg := gd_len no p hp
  refine fn_sound' mixed f71_at F71_ok ⟨rfl, by decide, rfl⟩ ?_
  dsimp only [F71, k71, num]
  by_cases h : okD no p
  · repeat' first
      | with_reducible refine AR.seq ?_
      | ((first | with_reducible refine AR.reg ?_ | with_reducible refine AR.skip ?_ | with_reducible refine AR.exit ?_ | ((with_reducible show pcall _ 53 _ _ _ _); refine pcall_of (page_getData _ _ (by first | assumption | omega | (simp only [bool_to_prop]; first | done | omega)) _) rfl f53_fn (by first | rfl | exact getS_ok _ _ _) ?_) | ((with_reducible show pcall _ 63 _ _ _ _); refine pcall_of (page_getUndo_no _ _ (by first | assumption | omega | (simp only [bool_to_prop]; first | done | omega)) (by assumption) _) rfl f63_fn (by first | rfl | exact getS_ok _ _ _) ?_) | ((with_reducible show pcall _ 63 _ _ _ _); refine pcall_of (page_getUndo _ _ (by first | assumption | omega | (simp only [bool_to_prop]; first | done | omega)) _) rfl f63_fn (by first | rfl | exact getS_ok _ _ _) ?_)); try simp (maxSteps := 2000000) (disch := first | assumption | omega | (simp only [bool_to_prop]; first | done | omega)) only [go_sem])
      | ((with_reducible refine AR.ret ?_); try simp only [thn_r, blk_r])
      | with_reducible refine AR.block ?_
      | ((with_reducible refine And.intro ?_ ?_); · (first | omega | (simp only [bool_to_prop]; first | done | omega) | (simp (maxSteps := 2000000) (disch := first | assumption | omega | (simp only [bool_to_prop]; first | done | omega)) only [go_sem]; first | done | omega)))
      | ((with_reducible refine AR.cond_t ?_ ?_); · simp (maxSteps := 2000000) (disch := first | assumption | omega | (simp only [bool_to_prop]; first | done | omega)) only [go_sem])
      | ((with_reducible refine AR.cond_f ?_ ?_); · simp (maxSteps := 2000000) (disch := first | assumption | omega | (simp only [bool_to_prop]; first | done | omega)) only [go_sem])
    refine fin_r _ (by simp (maxSteps := 2000000) (disch := first | assumption | omega | (simp only [bool_to_prop]; first | done | omega)) only [resV, rvs, rv1, go_sem]; rfl) rfl ⟨?_, rfl⟩
    rfl
  · repeat' first
      | with_reducible refine AR.seq ?_
      | ((first | with_reducible refine AR.reg ?_ | with_reducible refine AR.skip ?_ | with_reducible refine AR.exit ?_ | ((with_reducible show pcall _ 53 _ _ _ _); refine pcall_of (page_getData _ _ (by first | assumption | omega | (simp only [bool_to_prop]; first | done | omega)) _) rfl f53_fn (by first | rfl | exact getS_ok _ _ _) ?_) | ((with_reducible show pcall _ 63 _ _ _ _); refine pcall_of (page_getUndo_no _ _ (by first | assumption | omega | (simp only [bool_to_prop]; first | done | omega)) (by assumption) _) rfl f63_fn (by first | rfl | exact getS_ok _ _ _) ?_) | ((with_reducible show pcall _ 63 _ _ _ _); refine pcall_of (page_getUndo _ _ (by first | assumption | omega | (simp only [bool_to_prop]; first | done | omega)) _) rfl f63_fn (by first | rfl | exact getS_ok _ _ _) ?_)); try simp (maxSteps := 2000000) (disch := first | assumption | omega | (simp only [bool_to_prop]; first | done | omega)) only [go_sem])
      | ((with_reducible refine AR.ret ?_); try simp only [thn_r, blk_r])
      | with_reducible refine AR.block ?_
      | ((with_reducible refine And.intro ?_ ?_); · (first | omega | (simp only [bool_to_prop]; first | done | omega) | (simp (maxSteps := 2000000) (disch := first | assumption | omega | (simp only [bool_to_prop]; first | done | omega)) only [go_sem]; first | done | omega)))
      | ((with_reducible refine AR.cond_t ?_ ?_); · simp (maxSteps := 2000000) (disch := first | assumption | omega | (simp only [bool_to_prop]; first | done | omega)) only [go_sem])
      | ((with_reducible refine AR.cond_f ?_ ?_); · simp (maxSteps := 2000000) (disch := first | assumption | omega | (simp only [bool_to_prop]; first | done | omega)) only [go_sem])
    refine fin_r _ (by simp (maxSteps := 2000000) (disch := first | assumption | omega | (simp only [bool_to_prop]; first | done | omega)) only [resV, rvs, rv1, go_sem]; rfl) rfl ⟨?_, rfl⟩
    rfl

theorem page_awake (H : Heap) : ACalls Try.prog 59 [] H (fun v H' => v = B true ∧ H' = H) := by
  have hz : PD.zero.sb.length = 65 := rfl
  have hp := putD_len 3 PD.zero hz
  have hg := gd_put 3 PD.zero hz
  have ho := (okD_put 3 3 PD.zero hz).2 rfl
  have h0 := putD_0 3 PD.zero
  have hc : PD.cells PD.zero = c64 0 :: c32 0 :: c16 0 :: (List.replicate 65 0).map b8 := rfl
  generalize hq : putD 3 PD.zero = q at *
  refine fn_sound' mixed f59_at F59_ok ⟨rfl, by decide, rfl⟩ ?_
  dsimp only [F59, k59, num]
  repeat' first
    | with_reducible refine AR.seq ?_
    | ((first | with_reducible refine AR.reg ?_ | with_reducible refine AR.skip ?_ | with_reducible refine AR.exit ?_ | ((with_reducible show pcall _ 53 _ _ _ _); refine pcall_of (page_getData _ _ (by first | assumption | omega | (simp only [bool_to_prop]; first | done | omega)) _) rfl f53_fn (by first | rfl | exact getS_ok _ _ _) ?_) | ((with_reducible show pcall _ 69 _ _ _ _); refine pcall_of (page_blank _ _ _) rfl f69_fn (by first | rfl | exact getS_ok _ _ _) ?_) | ((with_reducible show pcall _ 69 _ _ _ _); refine pcall_of (page_blank0 _ _) rfl f69_fn (by first | rfl | exact getS_ok _ _ _) ?_) | ((with_reducible show pcall _ 71 _ _ _ _); refine pcall_of (page_right _ _ _ (by first | assumption | omega | (simp only [bool_to_prop]; first | done | omega)) _) rfl f71_fn (by first | rfl | exact getS_ok _ _ _) ?_) | ((with_reducible show pcall _ 71 _ _ _ _); refine pcall_of (page_right0 _ _ (by first | assumption | omega | (simp only [bool_to_prop]; first | done | omega)) _) rfl f71_fn (by first | rfl | exact getS_ok _ _ _) ?_)); try simp (maxSteps := 2000000) (disch := first | assumption | omega | (simp only [bool_to_prop]; first | done | omega)) only [go_sem, hq, hg, h0, hc])
    | ((with_reducible refine AR.ret ?_); try simp only [thn_r, blk_r])
    | with_reducible refine AR.block ?_
    | ((with_reducible refine And.intro ?_ ?_); · (first | omega | (simp only [bool_to_prop]; first | done | omega) | (simp (maxSteps := 2000000) (disch := first | assumption | omega | (simp only [bool_to_prop]; first | done | omega)) only [go_sem, hq, hg, h0, hc]; first | done | omega)))
    | ((with_reducible refine AR.cond_t ?_ ?_); · simp (maxSteps := 2000000) (disch := first | assumption | omega | (simp only [bool_to_prop]; first | done | omega)) only [go_sem, hq, hg, h0, hc])
    | ((with_reducible refine AR.cond_f ?_ ?_); · simp (maxSteps := 2000000) (disch := first | assumption | omega | (simp only [bool_to_prop]; first | done | omega)) only [go_sem, hq, hg, h0, hc])
  refine fin_r _ (by simp (maxSteps := 2000000) (disch := first | assumption | omega | (simp only [bool_to_prop]; first | done | omega)) only [resV, rvs, rv1, go_sem]; rfl) rfl ⟨?_, rfl⟩
  rfl

theorem law_pageData (no : BitVec 16) (d : PD) (p : List UInt8) (hd : d.sb.length = 65) (hp : p.length = 224) (H : Heap) : ACalls Try.prog 10 [.c (c16 no), .g (PD.cells d), .g (p.map b8)] H (fun v H' => v = B true ∧ H' = H) := by
  have hg := gd_len no p hp
  have hl := putD_len no d hd
  refine fn_sound' mixed f10_at F10_ok ⟨rfl, by decide, rfl⟩ ?_
  dsimp only [F10, k10, num]
  by_cases h : okD no p
  · repeat' first
      | with_reducible refine AR.seq ?_
      | ((first | with_reducible refine AR.reg ?_ | with_reducible refine AR.skip ?_ | with_reducible refine AR.exit ?_ | ((with_reducible show pcall _ 53 _ _ _ _); refine pcall_of (page_getData _ _ (by first | assumption | omega | (simp only [bool_to_prop]; first | done | omega)) _) rfl f53_fn (by first | rfl | exact getS_ok _ _ _) ?_) | ((with_reducible show pcall _ 54 _ _ _ _); refine pcall_of (ref_getData _ _ (by first | assumption | omega | (simp only [bool_to_prop]; first | done | omega)) _) rfl f54_fn (by first | rfl | exact getS_ok _ _ _) ?_) | ((with_reducible show pcall _ 55 _ _ _ _); refine pcall_of (page_putData _ _ (by first | assumption | omega | (simp only [bool_to_prop]; first | done | omega)) _) rfl f55_fn (by first | rfl | exact getS_ok _ _ _) ?_) | ((with_reducible show pcall _ 55 _ _ _ _); refine pcall_of (page_putData' _ _ _ _ _ (by first | assumption | omega | (simp only [bool_to_prop]; first | done | omega)) _) rfl f55_fn (by first | rfl | exact getS_ok _ _ _) ?_) | ((with_reducible show pcall _ 56 _ _ _ _); refine pcall_of (ref_putData _ _ (by first | assumption | omega | (simp only [bool_to_prop]; first | done | omega)) _) rfl f56_fn (by first | rfl | exact getS_ok _ _ _) ?_) | ((with_reducible show pcall _ 56 _ _ _ _); refine pcall_of (ref_putData' _ _ _ _ _ (by first | assumption | omega | (simp only [bool_to_prop]; first | done | omega)) _) rfl f56_fn (by first | rfl | exact getS_ok _ _ _) ?_) | ((with_reducible show pcall _ 57 _ _ _ _); refine pcall_of (page_lsn _ (by first | assumption | omega | (simp only [bool_to_prop]; first | done | omega)) _) rfl f57_fn (by first | rfl | exact getS_ok _ _ _) ?_) | ((with_reducible show pcall _ 58 _ _ _ _); refine pcall_of (ref_lsn _ (by first | assumption | omega | (simp only [bool_to_prop]; first | done | omega)) _) rfl f58_fn (by first | rfl | exact getS_ok _ _ _) ?_) | ((with_reducible show pcall _ 59 _ _ _ _); refine pcall_of (page_awake _) rfl f59_fn (by first | rfl | exact getS_ok _ _ _) ?_)); try simp (maxSteps := 2000000) (disch := first | assumption | omega | (simp only [bool_to_prop]; first | done | omega)) only [go_sem])
      | ((with_reducible refine AR.ret ?_); try simp only [thn_r, blk_r])
      | with_reducible refine AR.block ?_
      | ((with_reducible refine And.intro ?_ ?_); · (first | omega | (simp only [bool_to_prop]; first | done | omega) | (simp (maxSteps := 2000000) (disch := first | assumption | omega | (simp only [bool_to_prop]; first | done | omega)) only [go_sem]; first | done | omega)))
      | ((with_reducible refine AR.cond_t ?_ ?_); · simp (maxSteps := 2000000) (disch := first | assumption | omega | (simp only [bool_to_prop]; first | done | omega)) only [go_sem])
      | ((with_reducible refine AR.cond_f ?_ ?_); · simp (maxSteps := 2000000) (disch := first | assumption | omega | (simp only [bool_to_prop]; first | done | omega)) only [go_sem])
    refine fin_r _ (by simp (maxSteps := 2000000) (disch := first | assumption | omega | (simp only [bool_to_prop]; first | done | omega)) only [resV, rvs, rv1, go_sem]; rfl) rfl ⟨?_, rfl⟩
    rfl
  · repeat' first
      | with_reducible refine AR.seq ?_
      | ((first | with_reducible refine AR.reg ?_ | with_reducible refine AR.skip ?_ | with_reducible refine AR.exit ?_ | ((with_reducible show pcall _ 53 _ _ _ _); refine pcall_of (page_getData _ _ (by first | assumption | omega | (simp only [bool_to_prop]; first | done | omega)) _) rfl f53_fn (by first | rfl | exact getS_ok _ _ _) ?_) | ((with_reducible show pcall _ 54 _ _ _ _); refine pcall_of (ref_getData _ _ (by first | assumption | omega | (simp only [bool_to_prop]; first | done | omega)) _) rfl f54_fn (by first | rfl | exact getS_ok _ _ _) ?_) | ((with_reducible show pcall _ 55 _ _ _ _); refine pcall_of (page_putData _ _ (by first | assumption | omega | (simp only [bool_to_prop]; first | done | omega)) _) rfl f55_fn (by first | rfl | exact getS_ok _ _ _) ?_) | ((with_reducible show pcall _ 55 _ _ _ _); refine pcall_of (page_putData' _ _ _ _ _ (by first | assumption | omega | (simp only [bool_to_prop]; first | done | omega)) _) rfl f55_fn (by first | rfl | exact getS_ok _ _ _) ?_) | ((with_reducible show pcall _ 56 _ _ _ _); refine pcall_of (ref_putData _ _ (by first | assumption | omega | (simp only [bool_to_prop]; first | done | omega)) _) rfl f56_fn (by first | rfl | exact getS_ok _ _ _) ?_) | ((with_reducible show pcall _ 56 _ _ _ _); refine pcall_of (ref_putData' _ _ _ _ _ (by first | assumption | omega | (simp only [bool_to_prop]; first | done | omega)) _) rfl f56_fn (by first | rfl | exact getS_ok _ _ _) ?_) | ((with_reducible show pcall _ 57 _ _ _ _); refine pcall_of (page_lsn _ (by first | assumption | omega | (simp only [bool_to_prop]; first | done | omega)) _) rfl f57_fn (by first | rfl | exact getS_ok _ _ _) ?_) | ((with_reducible show pcall _ 58 _ _ _ _); refine pcall_of (ref_lsn _ (by first | assumption | omega | (simp only [bool_to_prop]; first | done | omega)) _) rfl f58_fn (by first | rfl | exact getS_ok _ _ _) ?_) | ((with_reducible show pcall _ 59 _ _ _ _); refine pcall_of (page_awake _) rfl f59_fn (by first | rfl | exact getS_ok _ _ _) ?_)); try simp (maxSteps := 2000000) (disch := first | assumption | omega | (simp only [bool_to_prop]; first | done | omega)) only [go_sem])
      | ((with_reducible refine AR.ret ?_); try simp only [thn_r, blk_r])
      | with_reducible refine AR.block ?_
      | ((with_reducible refine And.intro ?_ ?_); · (first | omega | (simp only [bool_to_prop]; first | done | omega) | (simp (maxSteps := 2000000) (disch := first | assumption | omega | (simp only [bool_to_prop]; first | done | omega)) only [go_sem]; first | done | omega)))
      | ((with_reducible refine AR.cond_t ?_ ?_); · simp (maxSteps := 2000000) (disch := first | assumption | omega | (simp only [bool_to_prop]; first | done | omega)) only [go_sem])
      | ((with_reducible refine AR.cond_f ?_ ?_); · simp (maxSteps := 2000000) (disch := first | assumption | omega | (simp only [bool_to_prop]; first | done | omega)) only [go_sem])
    refine fin_r _ (by simp (maxSteps := 2000000) (disch := first | assumption | omega | (simp only [bool_to_prop]; first | done | omega)) only [resV, rvs, rv1, go_sem]; rfl) rfl ⟨?_, rfl⟩
    rfl
end Go.Eng
set_option linter.unusedSimpArgs false
set_option linter.unusedVariables false
set_option maxRecDepth 100000
-- LEN: sealL, putD, restD, pg_len, gd_len, PD.cells_len
namespace Go.Eng
open Go.Proofs

theorem page_getUndo_no (no : BitVec 16) (p : List UInt8) (hp : p.length = 224) (h : ¬ opensP 2 no p) (H : Heap) : ACalls Try.prog 63 [.c (c16 no), .g (p.map b8)] H (fun v H' => v = .t [.g [c64 0, .z 143], I .i64 2] ∧ H' = H) := by
  refine fn_sound' mixed f63_at F63_ok ⟨rfl, by decide, rfl⟩ ?_
  dsimp only [F63, k63, num]
  repeat' first
    | with_reducible refine AR.seq ?_
    | ((first | with_reducible refine AR.reg ?_ | with_reducible refine AR.skip ?_ | with_reducible refine AR.exit ?_ | ((with_reducible show pcall _ 114 _ _ _ _); refine pcall_of (page_opens _ _ _ (by first | assumption | omega | (simp only [bool_to_prop]; first | done | omega)) _) rfl f114_fn (by first | rfl | exact getS_ok _ _ _) ?_) | ((with_reducible show pcall _ 115 _ _ _ _); refine pcall_of (word_get _ _ _ (by first | assumption | omega | (simp only [bool_to_prop]; first | done | omega)) _) rfl f115_fn (by first | rfl | exact getS_ok _ _ _) ?_) | ((with_reducible show pcall _ 57 _ _ _ _); refine pcall_of (page_lsn _ (by first | assumption | omega | (simp only [bool_to_prop]; first | done | omega)) _) rfl f57_fn (by first | rfl | exact getS_ok _ _ _) ?_) | ((with_reducible show pcall _ 65 _ _ _ _); refine pcall_of (page_may _ _ (by first | assumption | omega | (simp only [bool_to_prop]; first | done | omega)) _) rfl f65_fn (by first | rfl | exact getS_ok _ _ _) ?_)); try simp (maxSteps := 2000000) (disch := first | assumption | omega | (simp only [bool_to_prop]; first | done | omega)) only [go_sem, h])
    | ((with_reducible refine AR.ret ?_); try simp only [thn_r, blk_r])
    | with_reducible refine AR.block ?_
    | ((with_reducible refine And.intro ?_ ?_); · (first | omega | (simp only [bool_to_prop]; first | done | omega) | (simp (maxSteps := 2000000) (disch := first | assumption | omega | (simp only [bool_to_prop]; first | done | omega)) only [go_sem, h]; first | done | omega)))
    | ((with_reducible refine AR.cond_t ?_ ?_); · simp (maxSteps := 2000000) (disch := first | assumption | omega | (simp only [bool_to_prop]; first | done | omega)) only [go_sem, h])
    | ((with_reducible refine AR.cond_f ?_ ?_); · simp (maxSteps := 2000000) (disch := first | assumption | omega | (simp only [bool_to_prop]; first | done | omega)) only [go_sem, h])
  refine fin_r _ (by simp (maxSteps := 2000000) (disch := first | assumption | omega | (simp only [bool_to_prop]; first | done | omega)) only [resV, rvs, rv1, go_sem]; rfl) rfl ⟨?_, rfl⟩
  rfl

theorem putD_inj (no on : BitVec 16) (a b : PD) (ha : a.sb.length = 65) (hb : b.sb.length = 65) : putD no a = putD on b ↔ no = on ∧ a = b := by
  constructor
  · intro e
    have h1 := (okD_put on no b hb).1 (by rw [← e]; exact (okD_put no no a ha).2 rfl)
    subst h1
    refine ⟨rfl, ?_⟩
    rw [← gd_put no a ha, e, gd_put no b hb]
  · rintro ⟨rfl, rfl⟩; rfl

theorem putD_no2 (no n' : BitVec 16) (d : PD) : ¬ opensP 2 n' (putD no d) := fun h => by
  have := ((opens_pg' 1 2 no n' d.lsn (restD d)).1 h).1
  revert this; decide

theorem law_pageUnlike (no on : BitVec 16) (a b : PD) (ha : a.sb.length = 65) (hb : b.sb.length = 65) (H : Heap) : ACalls Try.prog 15 [.c (c16 no), .c (c16 on), .g (PD.cells a), .g (PD.cells b)] H (fun v H' => v = B true ∧ H' = H) := by
  have hpa := putD_len no a ha
  have hpb := putD_len on b hb
  have hn := putD_no2 no no a
  have hi := putD_inj no on a b ha hb
  have ho := okD_put no on a ha
  have hg := gd_len on (putD no a) hpa
  generalize hp : putD no a = p at *
  generalize hq : putD on b = q at *
  by_cases h1 : no = on
  · have ho' : okD on p := ho.2 h1.symm
    by_cases h2 : a = b
    · have h3 : q = p := (hi.2 ⟨h1, h2⟩).symm
      rw [h3] at hq
      subst h1; subst h2
      refine fn_sound' mixed f15_at F15_ok ⟨rfl, by decide, rfl⟩ ?_
      dsimp only [F15, k15, num]
      repeat' first
        | with_reducible refine AR.seq ?_
        | ((first | with_reducible refine AR.reg ?_ | with_reducible refine AR.skip ?_ | with_reducible refine AR.exit ?_ | ((with_reducible show pcall _ 53 _ _ _ _); refine pcall_of (page_getData _ _ (by first | assumption | omega | (simp only [bool_to_prop]; first | done | omega)) _) rfl f53_fn (by first | rfl | exact getS_ok _ _ _) ?_) | ((with_reducible show pcall _ 55 _ _ _ _); refine pcall_of (page_putData _ _ (by first | assumption | omega | (simp only [bool_to_prop]; first | done | omega)) _) rfl f55_fn (by first | rfl | exact getS_ok _ _ _) ?_) | ((with_reducible show pcall _ 55 _ _ _ _); refine pcall_of (page_putData' _ _ _ _ _ (by first | assumption | omega | (simp only [bool_to_prop]; first | done | omega)) _) rfl f55_fn (by first | rfl | exact getS_ok _ _ _) ?_) | ((with_reducible show pcall _ 59 _ _ _ _); refine pcall_of (page_awake _) rfl f59_fn (by first | rfl | exact getS_ok _ _ _) ?_) | ((with_reducible show pcall _ 63 _ _ _ _); refine pcall_of (page_getUndo_no _ _ (by first | assumption | omega | (simp only [bool_to_prop]; first | done | omega)) (by assumption) _) rfl f63_fn (by first | rfl | exact getS_ok _ _ _) ?_) | ((with_reducible show pcall _ 63 _ _ _ _); refine pcall_of (page_getUndo _ _ (by first | assumption | omega | (simp only [bool_to_prop]; first | done | omega)) _) rfl f63_fn (by first | rfl | exact getS_ok _ _ _) ?_)); try simp (maxSteps := 2000000) (disch := first | assumption | omega | (simp only [bool_to_prop]; first | done | omega)) only [go_sem, hp])
        | ((with_reducible refine AR.alt ?_); simp (maxSteps := 2000000) (disch := first | assumption | omega | (simp only [bool_to_prop]; first | done | omega)) only [go_sem, hp, List.forall_mem_cons, List.forall_mem_nil])
        | ((with_reducible refine AR.ret ?_); try simp only [thn_r, blk_r])
        | with_reducible refine AR.block ?_
        | ((with_reducible refine And.intro ?_ ?_); · (first | omega | (simp only [bool_to_prop]; first | done | omega) | (simp (maxSteps := 2000000) (disch := first | assumption | omega | (simp only [bool_to_prop]; first | done | omega)) only [go_sem, hp]; first | done | omega)))
        | ((with_reducible refine AR.cond_t ?_ ?_); · simp (maxSteps := 2000000) (disch := first | assumption | omega | (simp only [bool_to_prop]; first | done | omega)) only [go_sem, hp])
        | ((with_reducible refine AR.cond_f ?_ ?_); · simp (maxSteps := 2000000) (disch := first | assumption | omega | (simp only [bool_to_prop]; first | done | omega)) only [go_sem, hp])
        | exact List.forall_mem_nil _
        | (with_reducible refine And.intro ?_ ?_)
      all_goals
        refine fin_r _ (by simp (maxSteps := 2000000) (disch := first | assumption | omega | (simp only [bool_to_prop]; first | done | omega)) only [resV, rvs, rv1, go_sem]; rfl) rfl ⟨?_, rfl⟩
      all_goals rfl
    · have h3 : ¬ p = q := fun e => h2 (hi.1 e).2
      subst h1
      refine fn_sound' mixed f15_at F15_ok ⟨rfl, by decide, rfl⟩ ?_
      dsimp only [F15, k15, num]
      repeat' first
        | with_reducible refine AR.seq ?_
        | ((first | with_reducible refine AR.reg ?_ | with_reducible refine AR.skip ?_ | with_reducible refine AR.exit ?_ | ((with_reducible show pcall _ 53 _ _ _ _); refine pcall_of (page_getData _ _ (by first | assumption | omega | (simp only [bool_to_prop]; first | done | omega)) _) rfl f53_fn (by first | rfl | exact getS_ok _ _ _) ?_) | ((with_reducible show pcall _ 55 _ _ _ _); refine pcall_of (page_putData _ _ (by first | assumption | omega | (simp only [bool_to_prop]; first | done | omega)) _) rfl f55_fn (by first | rfl | exact getS_ok _ _ _) ?_) | ((with_reducible show pcall _ 55 _ _ _ _); refine pcall_of (page_putData' _ _ _ _ _ (by first | assumption | omega | (simp only [bool_to_prop]; first | done | omega)) _) rfl f55_fn (by first | rfl | exact getS_ok _ _ _) ?_) | ((with_reducible show pcall _ 59 _ _ _ _); refine pcall_of (page_awake _) rfl f59_fn (by first | rfl | exact getS_ok _ _ _) ?_) | ((with_reducible show pcall _ 63 _ _ _ _); refine pcall_of (page_getUndo_no _ _ (by first | assumption | omega | (simp only [bool_to_prop]; first | done | omega)) (by assumption) _) rfl f63_fn (by first | rfl | exact getS_ok _ _ _) ?_) | ((with_reducible show pcall _ 63 _ _ _ _); refine pcall_of (page_getUndo _ _ (by first | assumption | omega | (simp only [bool_to_prop]; first | done | omega)) _) rfl f63_fn (by first | rfl | exact getS_ok _ _ _) ?_)); try simp (maxSteps := 2000000) (disch := first | assumption | omega | (simp only [bool_to_prop]; first | done | omega)) only [go_sem, hp, hq, h2, h3])
        | ((with_reducible refine AR.alt ?_); simp (maxSteps := 2000000) (disch := first | assumption | omega | (simp only [bool_to_prop]; first | done | omega)) only [go_sem, hp, hq, h2, h3, List.forall_mem_cons, List.forall_mem_nil])
        | ((with_reducible refine AR.ret ?_); try simp only [thn_r, blk_r])
        | with_reducible refine AR.block ?_
        | ((with_reducible refine And.intro ?_ ?_); · (first | omega | (simp only [bool_to_prop]; first | done | omega) | (simp (maxSteps := 2000000) (disch := first | assumption | omega | (simp only [bool_to_prop]; first | done | omega)) only [go_sem, hp, hq, h2, h3]; first | done | omega)))
        | ((with_reducible refine AR.cond_t ?_ ?_); · simp (maxSteps := 2000000) (disch := first | assumption | omega | (simp only [bool_to_prop]; first | done | omega)) only [go_sem, hp, hq, h2, h3])
        | ((with_reducible refine AR.cond_f ?_ ?_); · simp (maxSteps := 2000000) (disch := first | assumption | omega | (simp only [bool_to_prop]; first | done | omega)) only [go_sem, hp, hq, h2, h3])
        | exact List.forall_mem_nil _
        | (with_reducible refine And.intro ?_ ?_)
      all_goals
        refine fin_r _ (by simp (maxSteps := 2000000) (disch := first | assumption | omega | (simp only [bool_to_prop]; first | done | omega)) only [resV, rvs, rv1, go_sem]; rfl) rfl ⟨?_, rfl⟩
      all_goals rfl
  · have h3 : ¬ p = q := fun e => h1 (hi.1 e).1
    have ho' : ¬ okD on p := fun e => h1 (ho.1 e).symm
    refine fn_sound' mixed f15_at F15_ok ⟨rfl, by decide, rfl⟩ ?_
    dsimp only [F15, k15, num]
    repeat' first
      | with_reducible refine AR.seq ?_
      | ((first | with_reducible refine AR.reg ?_ | with_reducible refine AR.skip ?_ | with_reducible refine AR.exit ?_ | ((with_reducible show pcall _ 53 _ _ _ _); refine pcall_of (page_getData _ _ (by first | assumption | omega | (simp only [bool_to_prop]; first | done | omega)) _) rfl f53_fn (by first | rfl | exact getS_ok _ _ _) ?_) | ((with_reducible show pcall _ 55 _ _ _ _); refine pcall_of (page_putData _ _ (by first | assumption | omega | (simp only [bool_to_prop]; first | done | omega)) _) rfl f55_fn (by first | rfl | exact getS_ok _ _ _) ?_) | ((with_reducible show pcall _ 55 _ _ _ _); refine pcall_of (page_putData' _ _ _ _ _ (by first | assumption | omega | (simp only [bool_to_prop]; first | done | omega)) _) rfl f55_fn (by first | rfl | exact getS_ok _ _ _) ?_) | ((with_reducible show pcall _ 59 _ _ _ _); refine pcall_of (page_awake _) rfl f59_fn (by first | rfl | exact getS_ok _ _ _) ?_) | ((with_reducible show pcall _ 63 _ _ _ _); refine pcall_of (page_getUndo_no _ _ (by first | assumption | omega | (simp only [bool_to_prop]; first | done | omega)) (by assumption) _) rfl f63_fn (by first | rfl | exact getS_ok _ _ _) ?_) | ((with_reducible show pcall _ 63 _ _ _ _); refine pcall_of (page_getUndo _ _ (by first | assumption | omega | (simp only [bool_to_prop]; first | done | omega)) _) rfl f63_fn (by first | rfl | exact getS_ok _ _ _) ?_)); try simp (maxSteps := 2000000) (disch := first | assumption | omega | (simp only [bool_to_prop]; first | done | omega)) only [go_sem, hp, hq, h1, h3])
      | ((with_reducible refine AR.alt ?_); simp (maxSteps := 2000000) (disch := first | assumption | omega | (simp only [bool_to_prop]; first | done | omega)) only [go_sem, hp, hq, h1, h3, List.forall_mem_cons, List.forall_mem_nil])
      | ((with_reducible refine AR.ret ?_); try simp only [thn_r, blk_r])
      | with_reducible refine AR.block ?_
      | ((with_reducible refine And.intro ?_ ?_); · (first | omega | (simp only [bool_to_prop]; first | done | omega) | (simp (maxSteps := 2000000) (disch := first | assumption | omega | (simp only [bool_to_prop]; first | done | omega)) only [go_sem, hp, hq, h1, h3]; first | done | omega)))
      | ((with_reducible refine AR.cond_t ?_ ?_); · simp (maxSteps := 2000000) (disch := first | assumption | omega | (simp only [bool_to_prop]; first | done | omega)) only [go_sem, hp, hq, h1, h3])
      | ((with_reducible refine AR.cond_f ?_ ?_); · simp (maxSteps := 2000000) (disch := first | assumption | omega | (simp only [bool_to_prop]; first | done | omega)) only [go_sem, hp, hq, h1, h3])
      | exact List.forall_mem_nil _
      | (with_reducible refine And.intro ?_ ?_)
    all_goals
      refine fin_r _ (by simp (maxSteps := 2000000) (disch := first | assumption | omega | (simp only [bool_to_prop]; first | done | omega)) only [resV, rvs, rv1, go_sem]; rfl) rfl ⟨?_, rfl⟩
    all_goals rfl
end Go.Eng
