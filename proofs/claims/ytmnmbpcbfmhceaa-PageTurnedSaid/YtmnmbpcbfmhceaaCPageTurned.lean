/-
  PROVED: 'PageTurned': for every input the law returns true, and its arguments read behind the call as they read before. No condition.
-/
import Derived.Test.YtmnmbpcbfmhceaaEng27
import Derived.Test.YtmnmbpcbfmhceaaEng30
import Derived.Test.YtmnmbpcbfmhceaaP13
set_option linter.unusedSimpArgs false
set_option linter.unusedVariables false
set_option maxRecDepth 100000
namespace Go.Proofs.Ytmnmbpcbfmhceaa
open Go.Eng Go.ChangeShapes Go.WideShapes Go.ChangeAt Go.RowKit

theorem arg_i64 {x : AV} (h : argOK Try.checked.prog 3 x) : ∃ n : Int, x = .c (.p (.int .i64 n)) := by
  obtain ⟨c, rfl, h1⟩ := argOK_c (sh := .i .i64) (by kernel_rfl) (by kernel_rfl) h
  obtain ⟨n, _, _, rfl⟩ := sh_int h1
  exact ⟨n, rfl⟩
theorem arg_u32 {x : AV} (h : argOK Try.checked.prog 72 x) : ∃ v : BitVec 32, x = .c (c32 v) := by
  obtain ⟨c, rfl, h1⟩ := argOK_c (sh := .i .u32) (by kernel_rfl) (by kernel_rfl) h
  obtain ⟨v, rfl⟩ := sh_32 h1
  exact ⟨v, rfl⟩

theorem pageTurned_walk (xs : List AV) (hx : argsOK Try.checked.prog Try.f14.params.toList xs) : ACalls Try.checked.prog 14 xs (fun _ => none) (fun v _ => v = B true) := by
  rw [Try.params14] at hx
  obtain ⟨x0, l0, rfl, h0, x1, l1, rfl, h1, x2, l2, rfl, h2, x3, l3, rfl, h3, x4, l4, rfl, h4, h5⟩ := hx
  simp only [argsOK] at h5
  subst h5
  obtain ⟨u, no, rfl⟩ := arg_pageid h0
  obtain ⟨d, hd, rfl⟩ := arg_data h1
  obtain ⟨a, l, hm, hb, _, rfl⟩ := arg_undo h2
  obtain ⟨n, rfl⟩ := arg_i64 h3
  obtain ⟨bits, rfl⟩ := arg_u32 h4
  exact (law_pageTurned u no d hd a l hm hb n bits _).mono fun v H' h => h.1

set_option maxRecDepth 100000 in
theorem pageTurned_lifted (os : Os) (started : os.Started) (H : Type) (enc : TypeId × Value → H) :
    ReturnsInHanded {} Try.checked os 14 .any (Rows.pageTurnedSpec.pre6 enc Try.prog Try.f14 Rows.pageTurnedRow.domain false) (Rows.pageTurnedSpec.post enc Try.prog Try.f14 false true false false) := by
  refine law_lifted (C := Try.checked) ownT started (by kernel_rfl) Try.func14
    (ChangeSpec.witness6 (enc := enc) (C := Try.checked) false ⟨#[], #[.agg #[.bool false, .int .u16 0], .agg (#[.int .u64 0, .int .u32 0, .int .u16 0] ++ Array.replicate 65 (.int .u8 0)), .agg #[.int .u64 0, .slice none 0 0], .int .i64 0, .int .u32 0], []⟩ 8 (by kernel_rfl) (by kernel_rfl) (by kernel_rfl) (by kernel_rfl))
    rfl rfl ?_ (by kernel_rfl) (tb := 4) (by kernel_rfl) laidT (by kernel_rfl) ?_
  · intro ds hds
    have : ds.length = 5 := hds
    match ds, this with
    | [a, b, c, d, e], _ => rfl
  · exact pageTurned_walk

theorem pageTurned_facts : joinedFacts Try.checked.prog 14 Try.f14 Rows.pageTurnedSpec Rows.pageTurnedRow = true :=
  joined_of (by kernel_rfl) mayEnterT liftsT makeT (by kernel_rfl) (by kernel_rfl) (by kernel_rfl) (by kernel_rfl)

theorem pageTurned_holds : Rows.PageTurnedSaid :=
  OpenClaim.holds_of_wide 14 Try.f14 rfl rfl rfl rfl rfl rfl rfl ⟨rfl, rfl, rfl, rfl, rfl⟩ rfl rfl rfl rfl rfl (by kernel_rfl) Try.func14 pageTurned_facts
    (of_decide_eq_true (by kernel_rfl)) (by unfold Func.isWrapper; first | (rw [if_pos (by decide +kernel)]; kernel_rfl) | (rw [if_neg (by decide +kernel)]; exact ⟨rfl, rfl⟩))
    (fun os started H enc _ => pageTurned_lifted os started H enc)

end Go.Proofs.Ytmnmbpcbfmhceaa
