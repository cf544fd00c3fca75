/-
  PROVED: 'PageKinds': for every input the law returns true, and its arguments read behind the call as they read before. No condition.
-/
import Derived.Test.YtmnmbpcbfmhceaaEng27
import Derived.Test.YtmnmbpcbfmhceaaEng30
import Derived.Test.YtmnmbpcbfmhceaaPC
set_option linter.unusedSimpArgs false
set_option linter.unusedVariables false
set_option maxRecDepth 100000
namespace Go.Proofs.Ytmnmbpcbfmhceaa
open Go.Eng Go.ChangeShapes Go.WideShapes Go.ChangeAt Go.RowKit

theorem pageKinds_walk (xs : List AV) (hx : argsOK Try.checked.prog Try.f12.params.toList xs) : ACalls Try.checked.prog 12 xs (fun _ => none) (fun v _ => v = B true) := by
  rw [Try.params12] at hx
  obtain ⟨x0, l0, rfl, h0, x1, l1, rfl, h1, x2, l2, rfl, h2, h3⟩ := hx
  simp only [argsOK] at h3
  subst h3
  obtain ⟨u, no, rfl⟩ := arg_pageid h0
  obtain ⟨w, on, rfl⟩ := arg_pageid h1
  obtain ⟨p, hp, rfl⟩ := arg_payload h2
  exact (law_pageKinds u w no on p hp _).mono fun v H' h => h.1

set_option maxRecDepth 100000 in
theorem pageKinds_lifted (os : Os) (started : os.Started) (H : Type) (enc : TypeId × Value → H) :
    ReturnsInHanded {} Try.checked os 12 .any (Rows.pageKindsSpec.pre6 enc Try.prog Try.f12 Rows.pageKindsRow.domain false) (Rows.pageKindsSpec.post enc Try.prog Try.f12 false true false false) := by
  refine law_lifted (C := Try.checked) ownT started (by kernel_rfl) Try.func12
    (ChangeSpec.witness6 (enc := enc) (C := Try.checked) false ⟨#[], #[.agg #[.bool false, .int .u16 0], .agg #[.bool false, .int .u16 0], .agg (Array.replicate 224 (.int .u8 0))], []⟩ 8 (by kernel_rfl) (by kernel_rfl) (by kernel_rfl) (by kernel_rfl))
    rfl rfl ?_ (by kernel_rfl) (tb := 4) (by kernel_rfl) laidT (by kernel_rfl) ?_
  · intro ds hds
    have : ds.length = 3 := hds
    match ds, this with
    | [a, b, c], _ => rfl
  · exact pageKinds_walk

theorem pageKinds_facts : joinedFacts Try.checked.prog 12 Try.f12 Rows.pageKindsSpec Rows.pageKindsRow = true :=
  joined_of (by kernel_rfl) mayEnterT liftsT makeT (by kernel_rfl) (by kernel_rfl) (by kernel_rfl) (by kernel_rfl)

theorem pageKinds_holds : Rows.PageKindsSaid :=
  OpenClaim.holds_of_wide 12 Try.f12 rfl rfl rfl rfl rfl rfl rfl ⟨rfl, rfl, rfl, rfl, rfl⟩ rfl rfl rfl rfl rfl (by kernel_rfl) Try.func12 pageKinds_facts
    (of_decide_eq_true (by kernel_rfl)) (by unfold Func.isWrapper; first | (rw [if_pos (by decide +kernel)]; kernel_rfl) | (rw [if_neg (by decide +kernel)]; exact ⟨rfl, rfl⟩))
    (fun os started H enc _ => pageKinds_lifted os started H enc)

end Go.Proofs.Ytmnmbpcbfmhceaa
