/-
  What the arguments of the laws are, as lists of cells.
-/
import Derived.Test.YtmnmbpcbfmhceaaEng27
import Derived.Test.YtmnmbpcbfmhceaaM2
set_option linter.unusedSimpArgs false
set_option linter.unusedVariables false
set_option maxRecDepth 100000
namespace Go.Proofs.Ytmnmbpcbfmhceaa
open Go.Eng

theorem arg_u16 {x : AV} (h : argOK Try.checked.prog 24 x) : ∃ v : BitVec 16, x = .c (c16 v) := by
  obtain ⟨c, rfl, h1⟩ := argOK_c (sh := .i .u16) (by kernel_rfl) (by kernel_rfl) h
  obtain ⟨v, rfl⟩ := sh_16 h1
  exact ⟨v, rfl⟩
theorem arg_payload {x : AV} (h : argOK Try.checked.prog 80 x) : ∃ p : List UInt8, p.length = 224 ∧ x = .g (p.map b8) := by
  obtain ⟨xs, rfl, h1⟩ := argOK_g (ss := List.replicate 224 (.i .u8)) (by kernel_rfl) (by kernel_rfl) h
  obtain ⟨p, hp, rfl⟩ := sh_bytes 224 h1
  exact ⟨p, hp, rfl⟩
theorem arg_data {x : AV} (h : argOK Try.checked.prog 78 x) : ∃ d : PD, d.sb.length = 65 ∧ x = .g (PD.cells d) := by
  obtain ⟨xs, rfl, h1⟩ := argOK_g (ss := .i .u64 :: .i .u32 :: .i .u16 :: List.replicate 65 (.i .u8)) (by kernel_rfl) (by kernel_rfl) h
  simp only [isShs] at h1
  obtain ⟨x0, l0, rfl, h0, x1, l1, rfl, h1, x2, l2, rfl, h2, h3⟩ := h1
  obtain ⟨a, rfl⟩ := sh_64 h0
  obtain ⟨b, rfl⟩ := sh_32 h1
  obtain ⟨c, rfl⟩ := sh_16 h2
  obtain ⟨sb, hs, rfl⟩ := sh_bytes 65 h3
  exact ⟨⟨a, b, c, sb⟩, hs, rfl⟩

end Go.Proofs.Ytmnmbpcbfmhceaa
