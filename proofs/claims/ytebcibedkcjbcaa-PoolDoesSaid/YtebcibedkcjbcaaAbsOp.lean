/-
  WHAT A CALL OF THE LAW, AN Op, THAT COMES IN IS.
-/
import Derived.Test.YtebcibedkcjbcaaAbsKeeps
set_option linter.unusedSimpArgs false
set_option linter.unusedVariables false
set_option maxRecDepth 100000
namespace Go.Proofs.Ytebcibedkcjbcaa
open Go.Abs Go.ChangeShapes Go.WideShapes Go.ChangeAt Go.RowKit

theorem op_read {Hh : Type} {enc : TypeId × Value → Hh} {W : World} {fuel : Nat} {cs : List Value} {x : DataW Hh × List MemPlace} (h : DataW.trod enc Try.prog W 0 (fun _ => true) true fuel 41 cs = some x) : ∃ y : POp, cs = y.cells ∧ y.ok := by
  obtain ⟨n, hl, hf⟩ := trod_fields (P := Try.prog) (t := 41) (l := [(5, 0), (27, 1), (3, 5)]) (by kernel_rfl) h
  have c41 : Try.prog.cellsOf 41 = 6 := by kernel_rfl
  have c27 : Try.prog.cellsOf 27 = 4 := by kernel_rfl
  have c3 : Try.prog.cellsOf 3 = 1 := by kernel_rfl
  have c5 : Try.prog.cellsOf 5 = 1 := by kernel_rfl
  rw [c41] at hl
  match cs, hl, hf with
  | [a, b, c, d, e, f], _, hf =>
    obtain ⟨y0, h0⟩ := hf 0 _ rfl
    obtain ⟨y1, h1⟩ := hf 1 _ rfl
    obtain ⟨y2, h2⟩ := hf 2 _ rfl
    simp only [c3, c5, c27, List.drop, List.take] at h0 h1 h2
    obtain ⟨k, e0, hk⟩ := u8_read h0
    obtain ⟨p, e1, hp⟩ := pkt_read h1
    obtain ⟨n2, e2, _, w2⟩ := DataW.trod_int (P := Try.prog) (t := 3) (k := .i64) (by kernel_rfl) h2
    simp only [Pkt.cells, List.cons.injEq, and_true] at e0 e1 e2
    obtain ⟨rfl, rfl, rfl, rfl⟩ := e1
    subst e0 e2
    exact ⟨⟨k, p, n2⟩, rfl, hk, hp, wf_i64 w2⟩

theorem op_lit (y : POp) : ∀ c ∈ y.cells, litCell c = true := by
  intro c hc
  simp [POp.cells] at hc
  rcases hc with rfl | rfl | rfl | rfl | rfl | rfl <;> rfl

end Go.Proofs.Ytebcibedkcjbcaa
