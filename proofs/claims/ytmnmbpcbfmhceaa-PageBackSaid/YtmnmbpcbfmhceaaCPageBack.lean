/-
  PROVED: 'PageBack': for every input the law returns true, and its arguments read behind the call as they read before. No condition.
-/
import Derived.Test.YtmnmbpcbfmhceaaEng27
import Derived.Test.YtmnmbpcbfmhceaaEng30
import Derived.Test.YtmnmbpcbfmhceaaPC
set_option linter.unusedSimpArgs false
set_option linter.unusedVariables false
set_option maxRecDepth 100000
namespace Go.Proofs.Ytmnmbpcbfmhceaa
open Go.Eng Go.ChangeShapes Go.WideShapes Go.ChangeAt Go.RowKit

theorem pageBack_walk (xs : List AV) (hx : argsOK Try.checked.prog Try.f13.params.toList xs) : ACalls Try.checked.prog 13 xs (fun _ => none) (fun v _ => v = B true) := by
  rw [Try.params13] at hx
  obtain ⟨x0, l0, rfl, h0, x1, l1, rfl, h1, x2, l2, rfl, h2, h3⟩ := hx
  simp only [argsOK] at h3
  subst h3
  obtain ⟨no, rfl⟩ := arg_u16 h0
  obtain ⟨d, hd, rfl⟩ := arg_data h1
  obtain ⟨a, l, hm, hb, _, rfl⟩ := arg_undo h2
  exact (law_pageBack no d hd a l hm hb _).mono fun v H' h => h.1

set_option maxRecDepth 100000 in
theorem pageBack_lifted (os : Os) (started : os.Started) (H : Type) (enc : TypeId × Value → H) :
    ReturnsInHanded {} Try.checked os 13 .any (Rows.pageBackSpec.pre6 enc Try.prog Try.f13 Rows.pageBackRow.domain false) (Rows.pageBackSpec.post enc Try.prog Try.f13 false true false false) := by
  refine law_lifted (C := Try.checked) ownT started (by kernel_rfl) Try.func13
    (ChangeSpec.witness6 (enc := enc) (C := Try.checked) false ⟨#[], #[.int .u16 0, .agg (#[.int .u64 0, .int .u32 0, .int .u16 0] ++ Array.replicate 65 (.int .u8 0)), .agg #[.int .u64 0, .slice none 0 0]], []⟩ 8 (by kernel_rfl) (by kernel_rfl) (by kernel_rfl) (by kernel_rfl))
    rfl rfl ?_ (by kernel_rfl) (tb := 4) (by kernel_rfl) laidT (by kernel_rfl) ?_
  · intro ds hds
    have : ds.length = 3 := hds
    match ds, this with
    | [a, b, c], _ => rfl
  · exact pageBack_walk

theorem pageBack_facts : joinedFacts Try.checked.prog 13 Try.f13 Rows.pageBackSpec Rows.pageBackRow = true :=
  joined_of (by kernel_rfl) mayEnterT liftsT makeT (by kernel_rfl) (by kernel_rfl) (by kernel_rfl) (by kernel_rfl)

theorem pageBack_holds : Rows.PageBackSaid :=
  OpenClaim.holds_of_wide 13 Try.f13 rfl rfl rfl rfl rfl rfl rfl ⟨rfl, rfl, rfl, rfl, rfl⟩ rfl rfl rfl rfl rfl (by kernel_rfl) Try.func13 pageBack_facts
    (of_decide_eq_true (by kernel_rfl)) (by unfold Func.isWrapper; first | (rw [if_pos (by decide +kernel)]; kernel_rfl) | (rw [if_neg (by decide +kernel)]; exact ⟨rfl, rfl⟩))
    (fun os started H enc _ => pageBack_lifted os started H enc)

end Go.Proofs.Ytmnmbpcbfmhceaa
