/-
  PLAN: the words that calls are taken for: slices.Sort, and known.
-/
import Derived.Test.YtdobnaldfmpimaaAbsPlan
import Derived.Test.YtdobnaldfmpimaaAbsSort
import Derived.Test.YtdobnaldfmpimaaAbsSortLay
set_option linter.unusedSectionVars false
set_option linter.unusedSimpArgs false
set_option linter.unusedVariables false
set_option maxRecDepth 100000
namespace Go.Proofs.Ytdobnaldfmpimaa
open Go.Abs

theorem sortOk : SortOk Try.prog 44 := ⟨enters_of Try.func44 (by kernel_rfl) rfl, Any.slices_Sort_int_none Try.laysSort, Any.slices_Sort_int Try.laysSort⟩
theorem mix12 : Try.prog.follows .mixedOrders = true := by kernel_rfl
theorem nil_ok : PrimsOk Try.prog (flatPr []) := flatPr_ok mix12 fun g hg => by simp at hg
theorem sort_ok : PrimsOk Try.prog (sortPr [] 44) := sortPr_ok nil_ok sortOk
theorem known12_true : (lvl Try.prog (sortPr [] 44) 300 (.func 16) [] []).map (·.1) = some (.bool true) := by kernel_rfl
abbrev pk12 : Prims := truePr [16] (sortPr [] 44)
theorem known12_ok : PrimsOk Try.prog pk12 := truePr_ok mix12 sort_ok fun g hg => by
  simp at hg
  subst hg
  exact ⟨300, known12_true⟩
theorem known12_is (n : Nat) (hn : 0 < n) (H : Heap) : lvl Try.prog pk12 n (.func 16) [] H = some (.bool true, H) := true_call (P := Try.prog) (ids := [16]) (g := 16) rfl hn H
theorem pk_no {k : FuncId} (h : (k == 16) = false) (h2 : (k == 44) = false) : pk12 (.func k) = none := truePr_no (by simpa using h) (sortPr_no h2 rfl)
theorem sort_is (n : Nat) (hn : 0 < n) (args : List Value) (H : Heap) : lvl Try.prog pk12 n (.func 44) args H = sortP args H := word_call ((truePr_old (ids := [16]) (pr := sortPr [] 44) rfl).trans sortPr_sort) hn args H

end Go.Proofs.Ytdobnaldfmpimaa
