import Derived.Test.YtebcibedkcjbcaaAbsPool
import Derived.Test.YtebcibedkcjbcaaAbsRow
set_option linter.unusedSimpArgs false
set_option linter.unusedVariables false
set_option maxRecDepth 100000
namespace Go.Proofs.Ytebcibedkcjbcaa
open Go.Abs

abbrev pk : Prims := flatPr [16, 27]

theorem known_ok : PrimsOk Try.prog pk := flatPr_ok (by kernel_rfl) fun g hg => by
  simp at hg
  rcases hg with rfl | rfl
  · exact ⟨30, by kernel_rfl⟩
  · exact ⟨30, by kernel_rfl⟩
theorem mix : Try.prog.follows .mixedOrders = true := by kernel_rfl

theorem poolNew_true (n : Int) : ∃ H', lvl Try.prog pk 300 (.func 3) [.int .i64 n] [] = some (.bool true, H') := by
  by_cases hn : n < 1 ∨ 200 < n
  · refine ⟨[], ?_⟩
    refine lvl_at (flatPr_no rfl) (by omega) ?_
    rw [f3_eq]
    unfold f3
    have h1 := new_no (H := []) (pr := pk) (flatPr_no rfl) n hn (m := 299) (by omega)
    have h2 := flat_call (P := Try.prog) (ids := [16, 27]) (g := 16) rfl (n := 299) (by omega) []
    by_cases e1 : n < 1
    · simp -implicitDefEqProofs [h1, h2, e22', e1]
    · have e2 : 200 < n := by omega
      simp -implicitDefEqProofs [h1, h2, e22', e1, e2]
  · obtain ⟨k, rfl⟩ : ∃ k : Nat, n = k := ⟨n.toNat, by omega⟩
    have g1 : 0 < k := by omega
    have g2 : k ≤ 200 := by omega
    have i0 := made_pool (H := []) k
    have i1 := i0.app [pkB pk0]
    have i2 := i1.app [pkB pk0]
    have h1 := new_ok (H := []) (pr := pk) (flatPr_no rfl) k g1 g2 (m := 299) (by omega)
    have h2 := fun H => flat_call (P := Try.prog) (ids := [16, 27]) (g := 16) rfl (n := 299) (by omega) H
    have h3 := get_no (pr := pk) (flatPr_no rfl) (flatPr_no rfl) i0 (m := 299) (by omega) 0 (.inr (.inr ⟨_, made_get k 0 g1⟩))
    have h4 := free_is (pr := pk) (flatPr_no rfl) i2 (m := 299) (by omega)
    have h5 := drop_no (pr := pk) (flatPr_no rfl) (flatPr_no rfl) i2 (m := 299) (by omega) 0 (.inr (.inr ⟨_, made_get k 0 g1⟩))
    have h6 := drop_no (pr := pk) (flatPr_no rfl) (flatPr_no rfl) i2 (m := 299) (by omega) (-1) (.inl (by omega))
    have h7 := drop_no (pr := pk) (flatPr_no rfl) (flatPr_no rfl) i2 (m := 299) (by omega) k (.inr (.inl (by rw [made_len]; omega)))
    have e1 : (1 : Int) ≤ k := by omega
    have e2 : (k : Int) ≤ 200 := by omega
    refine ⟨heapN [] (made k) ++ [pkB pk0] ++ [pkB pk0], ?_⟩
    refine lvl_at (flatPr_no rfl) (by omega) ?_
    rw [f3_eq]
    unfold f3
    simp only [List.length_nil, Nat.zero_add] at h1 h3 h4 h5 h6 h7
    simp -implicitDefEqProofs [-List.append_assoc, h1, h2, h3, e22, pkB_zero, st_pk, h4, h5, h6, h7, e1, e2, set_last]

end Go.Proofs.Ytebcibedkcjbcaa
