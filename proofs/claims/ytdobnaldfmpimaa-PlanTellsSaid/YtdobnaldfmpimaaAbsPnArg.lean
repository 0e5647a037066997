/-
  PLAN: what comes in.
-/
import Derived.Test.YtdobnaldfmpimaaAbsPn7
set_option linter.unusedSectionVars false
set_option linter.unusedSimpArgs false
set_option linter.unusedVariables false
set_option maxRecDepth 100000
namespace Go.Proofs.Ytdobnaldfmpimaa
open Go.Abs

theorem wf_u16 {a : Int} (h : (Lit.int .u16 a).wf = true) : 0 ≤ a ∧ a < 65536 := by
  have e : ∀ z : Int, (Lit.int .u16 z).wf = (decide (0 ≤ z) && decide (z ≤ 65535)) := fun z => rfl
  rw [e] at h
  simp only [Bool.and_eq_true, decide_eq_true_eq] at h
  exact ⟨h.1, by omega⟩
theorem nat_u8 {a : Int} (h : (Lit.int .u8 a).wf = true) : ∃ n : Nat, a = n ∧ n < 256 := by
  have := wf_u8 h
  exact ⟨a.toNat, by omega, by omega⟩
theorem nat_u16 {a : Int} (h : (Lit.int .u16 a).wf = true) : ∃ n : Nat, a = n ∧ n < 65536 := by
  have := wf_u16 h
  exact ⟨a.toNat, by omega, by omega⟩
def natOf (r : List Value) : Nat := match r with
  | [.int _ i] => i.toNat
  | _ => 0
theorem Us.of_rp {G : Heap} {n : Nat} {u : Value} (h : Rp Try.prog G n 43 [u]) : ∃ next, Us G u next ∧ (∀ x ∈ next, x < 256) ∧ next.length ≤ 72057594037927936 := by
  obtain ⟨m, u', b, rows, h1, h2, h3, h4, h5⟩ := h.slice' (e := 5) (by kernel_rfl)
  cases h1
  have hc : Try.prog.cellsOf 5 = 1 := by kernel_rfl
  have hb : Try.prog.bytesOf 5 = 1 := by kernel_rfl
  rw [hc] at h2
  rw [hb] at h3
  have hr : ∀ r ∈ rows, u8C (natOf r) = r ∧ natOf r < 256 := fun r hr => by
    obtain ⟨i, hi, hw⟩ := (h5 r hr).2.int (k := .u8) (by kernel_rfl)
    obtain ⟨k, rfl, hk⟩ := nat_u8 hw
    subst hi
    exact ⟨rfl, by simpa [natOf] using hk⟩
  have hm : (rows.map natOf).map u8C = rows := by
    rw [List.map_map]
    conv => rhs; rw [← List.map_id rows]
    exact List.map_congr_left fun r hr' => (hr r hr').1
  refine ⟨rows.map natOf, ?_, fun x hx => ?_, ?_⟩
  · rw [← hm] at h2
    rcases h4 with rfl | ⟨c, rfl⟩
    · have h0 : rows = [] := by
        have := h2.len
        have hl : lenSl (Value.slice none 0 0) = some (.int .i64 0) := rfl
        rw [hl, hm] at this
        simp at this
        exact List.length_eq_zero_iff.mp (by omega)
      subst h0
      exact .inl ⟨rfl, rfl⟩
    · exact h2.rs u8C_len (c := c) (.inr (by rw [List.length_map]))
  · obtain ⟨r, hr1, rfl⟩ := List.mem_map.mp hx
    exact (hr r hr1).2
  · have : reachBytes = 140737488351232 := rfl
    rw [List.length_map]
    omega

end Go.Proofs.Ytdobnaldfmpimaa
