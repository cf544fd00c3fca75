/-
  PROVED: 'PageUnlike': for every input the law returns true, and its arguments read behind the call as they read before. No condition.
-/
import Derived.Test.YtmnmbpcbfmhceaaEng27
import Derived.Test.YtmnmbpcbfmhceaaEng28
import Derived.Test.YtmnmbpcbfmhceaaP4
set_option linter.unusedSimpArgs false
set_option linter.unusedVariables false
set_option maxRecDepth 100000
namespace Go.Proofs.Ytmnmbpcbfmhceaa
open Go.Eng Go.ChangeShapes Go.WideShapes Go.ChangeAt Go.RowKit

theorem pageUnlike_walk (xs : List AV) (hx : argsOK Try.checked.prog Try.f15.params.toList xs) : ACalls Try.checked.prog 15 xs (fun _ => none) (fun v _ => v = B true) := by
  rw [Try.params15] at hx
  obtain ⟨x0, l0, rfl, h0, x1, l1, rfl, h1, x2, l2, rfl, h2, x3, l3, rfl, h3, h4⟩ := hx
  simp only [argsOK] at h4
  subst h4
  obtain ⟨no, rfl⟩ := arg_u16 h0
  obtain ⟨on, rfl⟩ := arg_u16 h1
  obtain ⟨a, ha, rfl⟩ := arg_data h2
  obtain ⟨b, hb, rfl⟩ := arg_data h3
  exact (law_pageUnlike no on a b ha hb _).mono fun v H' h => h.1

set_option maxRecDepth 100000 in
theorem pageUnlike_lifted (os : Os) (started : os.Started) (H : Type) (enc : TypeId × Value → H) :
    ReturnsInHanded {} Try.checked os 15 .any (Rows.pageUnlikeSpec.pre6 enc Try.prog Try.f15 Rows.pageUnlikeRow.domain false) (Rows.pageUnlikeSpec.post enc Try.prog Try.f15 false true false false) := by
  refine law_lifted (C := Try.checked) ownT started (by kernel_rfl) Try.func15
    (ChangeSpec.witness6 (enc := enc) (C := Try.checked) false ⟨#[], #[.int .u16 0, .int .u16 0, .agg (#[.int .u64 0, .int .u32 0, .int .u16 0] ++ Array.replicate 65 (.int .u8 0)), .agg (#[.int .u64 0, .int .u32 0, .int .u16 0] ++ Array.replicate 65 (.int .u8 0))], []⟩ 8 (by kernel_rfl) (by kernel_rfl) (by kernel_rfl) (by kernel_rfl))
    rfl rfl ?_ (by kernel_rfl) (tb := 4) (by kernel_rfl) laidT (by kernel_rfl) ?_
  · intro ds hds
    have : ds.length = 4 := hds
    match ds, this with
    | [a, b, c, d], _ => rfl
  · exact pageUnlike_walk

theorem pageUnlike_facts : joinedFacts Try.checked.prog 15 Try.f15 Rows.pageUnlikeSpec Rows.pageUnlikeRow = true :=
  joined_of (by kernel_rfl) mayEnterT liftsT makeT (by kernel_rfl) (by kernel_rfl) (by kernel_rfl) (by kernel_rfl)

theorem pageUnlike_holds : Rows.PageUnlikeSaid :=
  OpenClaim.holds_of_wide 15 Try.f15 rfl rfl rfl rfl rfl rfl rfl ⟨rfl, rfl, rfl, rfl, rfl⟩ rfl rfl rfl rfl rfl (by kernel_rfl) Try.func15 pageUnlike_facts
    (of_decide_eq_true (by kernel_rfl)) (by unfold Func.isWrapper; first | (rw [if_pos (by decide +kernel)]; kernel_rfl) | (rw [if_neg (by decide +kernel)]; exact ⟨rfl, rfl⟩))
    (fun os started H enc _ => pageUnlike_lifted os started H enc)

end Go.Proofs.Ytmnmbpcbfmhceaa
