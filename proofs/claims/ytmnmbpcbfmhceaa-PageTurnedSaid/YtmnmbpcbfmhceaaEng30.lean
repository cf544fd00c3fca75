/-
  What the arguments of the laws are, as lists of cells: undo pages, numbers of pages.
-/
import Derived.Test.YtmnmbpcbfmhceaaEng28
import Derived.Test.YtmnmbpcbfmhceaaM3
set_option linter.unusedSimpArgs false
set_option linter.unusedVariables false
set_option maxRecDepth 100000
namespace Go.Proofs.Ytmnmbpcbfmhceaa
open Go.Eng

theorem sh_old {r : List CV} (h : isShs [.b, .i .u16, .i .u32, .i .u16, .i .u8, .s] r) : ∃ o : Old, r = Old.cells o ∧ o.dl.length ≤ 140737488355328 := by
  simp only [isShs] at h
  obtain ⟨x0, l0, rfl, h0, x1, l1, rfl, h1, x2, l2, rfl, h2, x3, l3, rfl, h3, x4, l4, rfl, h4, x5, l5, rfl, h5, h6⟩ := h
  subst h6
  obtain ⟨lv, rfl⟩ := h0
  obtain ⟨pn, rfl⟩ := sh_16 h1
  obtain ⟨ts, rfl⟩ := sh_32 h2
  obtain ⟨np, rfl⟩ := sh_16 h3
  obtain ⟨ns, rfl⟩ := sh_8 h4
  obtain ⟨t, ht, rfl⟩ := h5
  refine ⟨⟨lv, pn, ts, np, ns, t.data.toList⟩, ?_, ?_⟩
  · simp only [Old.cells, list_str]
  · have e : t.data.toList.length = t.size := Array.length_toList
    simp only; omega
theorem sh_olds : ∀ {rows : List (List CV)}, (∀ r ∈ rows, isShs [.b, .i .u16, .i .u32, .i .u16, .i .u8, .s] r) → ∃ l : List Old, rows = l.map Old.cells ∧ ∀ o ∈ l, o.dl.length ≤ 140737488355328
  | [], _ => ⟨[], rfl, by simp⟩
  | r :: rows, h => by
    obtain ⟨o, rfl, h1⟩ := sh_old (h r (by simp))
    obtain ⟨l, rfl, h2⟩ := sh_olds (rows := rows) fun x hx => h x (List.mem_cons_of_mem _ hx)
    exact ⟨o :: l, rfl, fun x hx => by rcases List.mem_cons.1 hx with rfl | hx; exact h1; exact h2 x hx⟩

theorem arg_undo {x : AV} (h : argOK Try.checked.prog 90 x) : ∃ (a : BitVec 64) (l : List Old), l.length ≤ maxLen ∧ l.length * 32 ≤ 140737488355328 ∧ (∀ o ∈ l, o.dl.length ≤ 140737488355328) ∧ x = .g [c64 a, .s 6 (l.map Old.cells) none] := by
  obtain ⟨xs, rfl, h1⟩ := argOK_g (ss := [.i .u64, .l 32 [.b, .i .u16, .i .u32, .i .u16, .i .u8, .s]]) (by kernel_rfl) (by kernel_rfl) h
  simp only [isShs] at h1
  obtain ⟨x0, l0, rfl, h0, x1, l1, rfl, h1, h2⟩ := h1
  subst h2
  obtain ⟨a, rfl⟩ := sh_64 h0
  obtain ⟨rows, rfl, k1, k2, k3⟩ := h1
  obtain ⟨l, rfl, k4⟩ := sh_olds k3
  rw [List.length_map] at k1 k2
  exact ⟨a, l, k1, k2, k4, rfl⟩
theorem arg_pageid {x : AV} (h : argOK Try.checked.prog 105 x) : ∃ (u : Bool) (no : BitVec 16), x = .g [.p (.bool u), c16 no] := by
  obtain ⟨xs, rfl, h1⟩ := argOK_g (ss := [.b, .i .u16]) (by kernel_rfl) (by kernel_rfl) h
  simp only [isShs] at h1
  obtain ⟨x0, l0, rfl, h0, x1, l1, rfl, h1, h2⟩ := h1
  subst h2
  obtain ⟨u, rfl⟩ := h0
  obtain ⟨no, rfl⟩ := sh_16 h1
  exact ⟨u, no, rfl⟩

end Go.Proofs.Ytmnmbpcbfmhceaa
