/-
  WHAT A PACKET THAT COMES IN IS.
-/
import Derived.Test.YtebcibedkcjbcaaAbsPool
import Derived.Test.YtebcibedkcjbcaaAbsArg
set_option linter.unusedSimpArgs false
set_option linter.unusedVariables false
set_option maxRecDepth 100000
namespace Go.Proofs.Ytebcibedkcjbcaa
open Go.Abs Go.ChangeShapes Go.WideShapes Go.ChangeAt Go.RowKit

def u32ok (n : Int) : Prop := 0 ≤ n ∧ n < 4294967296
def i64ok (n : Int) : Prop := -9223372036854775808 ≤ n ∧ n < 9223372036854775808
structure Pkt.ok (x : Pkt) : Prop where
  src : i64ok x.src
  dst : i64ok x.dst
  lane : i64ok x.lane
  body : u32ok x.body

theorem wf_i64 {a : Int} (h : (Lit.int .i64 a).wf = true) : i64ok a := by
  have e : ∀ z : Int, (Lit.int .i64 z).wf = (decide (-9223372036854775808 ≤ z) && decide (z ≤ 9223372036854775807)) := fun z => rfl
  rw [e] at h
  simp only [Bool.and_eq_true, decide_eq_true_eq] at h
  exact ⟨h.1, by omega⟩
theorem wf_u32 {a : Int} (h : (Lit.int .u32 a).wf = true) : u32ok a := by
  have e : ∀ z : Int, (Lit.int .u32 z).wf = (decide (0 ≤ z) && decide (z ≤ 4294967295)) := fun z => rfl
  rw [e] at h
  simp only [Bool.and_eq_true, decide_eq_true_eq] at h
  exact ⟨h.1, by omega⟩

section
variable {Hh : Type} {enc : TypeId × Value → Hh} {W : World} {fuel : Nat} {cs : List Value} {x : DataW Hh × List MemPlace}

theorem pkt_read (h : DataW.trod enc Try.prog W 0 (fun _ => true) true fuel 27 cs = some x) : ∃ y : Pkt, cs = y.cells ∧ y.ok := by
  obtain ⟨n, hl, hf⟩ := trod_fields (P := Try.prog) (t := 27) (l := [(3, 0), (3, 1), (3, 2), (25, 3)]) (by kernel_rfl) h
  have c27 : Try.prog.cellsOf 27 = 4 := by kernel_rfl
  have c3 : Try.prog.cellsOf 3 = 1 := by kernel_rfl
  have c25 : Try.prog.cellsOf 25 = 1 := by kernel_rfl
  rw [c27] at hl
  match cs, hl, hf with
  | [a, b, c, d], _, hf =>
    obtain ⟨y0, h0⟩ := hf 0 _ rfl
    obtain ⟨y1, h1⟩ := hf 1 _ rfl
    obtain ⟨y2, h2⟩ := hf 2 _ rfl
    obtain ⟨y3, h3⟩ := hf 3 _ rfl
    simp only [c3, c25, List.drop, List.take] at h0 h1 h2 h3
    obtain ⟨n0, e0, _, w0⟩ := DataW.trod_int (P := Try.prog) (t := 3) (k := .i64) (by kernel_rfl) h0
    obtain ⟨n1, e1, _, w1⟩ := DataW.trod_int (P := Try.prog) (t := 3) (k := .i64) (by kernel_rfl) h1
    obtain ⟨n2, e2, _, w2⟩ := DataW.trod_int (P := Try.prog) (t := 3) (k := .i64) (by kernel_rfl) h2
    obtain ⟨n3, e3, _, w3⟩ := DataW.trod_int (P := Try.prog) (t := 25) (k := .u32) (by kernel_rfl) h3
    cases e0; cases e1; cases e2; cases e3
    exact ⟨⟨n0, n1, n2, n3⟩, rfl, wf_i64 w0, wf_i64 w1, wf_i64 w2, wf_u32 w3⟩

theorem pkt_lit (y : Pkt) : ∀ c ∈ y.cells, litCell c = true := by
  intro c hc
  simp [Pkt.cells] at hc
  rcases hc with rfl | rfl | rfl | rfl <;> rfl

theorem u8_read (h : DataW.trod enc Try.prog W 0 (fun _ => true) true fuel 5 cs = some x) : ∃ y : Nat, cs = [.int .u8 y] ∧ y < 256 := by
  obtain ⟨n0, e0, _, w0⟩ := DataW.trod_int (P := Try.prog) (t := 5) (k := .u8) (by kernel_rfl) h
  have e : ∀ z : Int, (Lit.int .u8 z).wf = (decide (0 ≤ z) && decide (z ≤ 255)) := fun z => rfl
  rw [e] at w0
  simp only [Bool.and_eq_true, decide_eq_true_eq] at w0
  exact ⟨n0.toNat, by rw [e0, Int.toNat_of_nonneg (by omega)], by omega⟩

end

theorem u8_lit (y : Nat) : ∀ c ∈ [Value.int .u8 (y : Nat)], litCell c = true := by
  intro c hc
  simp at hc
  subst hc
  rfl

def closed : List TypeId := [3, 4, 5, 25, 27, 32, 37, 41, 45]
theorem closed_ok : closed.all (okT Try.prog closed) = true := by kernel_rfl
end Go.Proofs.Ytebcibedkcjbcaa
