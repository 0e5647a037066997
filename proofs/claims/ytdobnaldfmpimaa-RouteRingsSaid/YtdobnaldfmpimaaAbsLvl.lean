/-
  RESULTS, CALLS, LEVELS OF CALLS.
-/
import Derived.Test.YtdobnaldfmpimaaAbsRun
set_option linter.unusedSimpArgs false
set_option linter.unusedVariables false
namespace Go.Abs

def resV (P : Program) (t : List Value) (H : Heap) : List ResultVar → Option (List Value)
  | [] => some []
  | .tmp i :: r => (resV P t H r).map (t.getD i undef :: ·)
  | .cell a ty :: r =>
    match infoB P ty, aggOf P ty with
    | some (sz, _), some g =>
      match (if g = true then ldN sz (t.getD a undef) else ld1 (t.getD a undef)) H with
      | some x => (resV P t H r).map (x.1 :: ·)
      | none => none
    | _, _ => none

def oneOf : List Value → Value
  | [v] => v
  | vs => .tuple vs.toArray

/-- the results, one behind the other -/
def resK (P : Program) (t : List Value) (H : Heap) : List ResultVar → List Value → Option (Value × Heap)
  | [], acc => some (oneOf acc.reverse, H)
  | .tmp i :: r, acc => resK P t H r (t.getD i undef :: acc)
  | .cell a ty :: r, acc =>
    match infoB P ty, aggOf P ty with
    | some (sz, _), some g =>
      match (if g = true then ldN sz (t.getD a undef) else ld1 (t.getD a undef)) H with
      | none => none
      | some x => resK P t H r (x.1 :: acc)
    | _, _ => none

theorem resK_eq (P : Program) (t : List Value) (H : Heap) : ∀ (l : List ResultVar) (acc : List Value), resK P t H l acc = (resV P t H l).map fun vs => (oneOf (acc.reverse ++ vs), H)
  | [], acc => by simp [resK, resV]
  | .tmp i :: r, acc => by
    simp only [resK, resV]
    rw [resK_eq P t H r]
    cases resV P t H r <;> simp
  | .cell a ty :: r, acc => by
    simp only [resK, resV]
    split
    · rename_i sz by' g _ _
      cases hx : (if g = true then ldN sz (t.getD a undef) else ld1 (t.getD a undef)) H with
      | none => rfl
      | some x =>
        simp only
        rw [resK_eq P t H r]
        cases resV P t H r <;> simp
    · rfl

def kRet (P : Program) (fn : Func) : Ex → K (Value × Heap) := fun e =>
  match e with
  | .normal => fun t H => resK P t H fn.results.toList []
  | .exit _ => fun _ _ => none
  | .ret => fun t H => resK P t H fn.results.toList []

theorem kRet_exit (P : Program) (fn : Func) (id : Nat) (t : List Value) (H : Heap) : kRet P fn (.exit id) t H = none := rfl
theorem kRet_other (P : Program) (fn : Func) (e : Ex) (he : ∀ id, e ≠ .exit id) (t : List Value) (H : Heap) : kRet P fn e t H = (resV P t H fn.results.toList).map fun vs => (oneOf vs, H) := by
  cases e with
  | exit id => exact absurd rfl (he id)
  | normal => show resK P t H _ [] = _; rw [resK_eq]; simp
  | ret => show resK P t H _ [] = _; rw [resK_eq]; simp

def body (P : Program) (O : Oracle) (L : Loops (Value × Heap)) (f : FuncId) (args : List Value) (H : Heap) : Option (Value × Heap) :=
  match P.funcs.toList[f]? with
  | some fn =>
    match fn.body with
    | some c => if fn.name != "runtime.NumGoroutine" then runCode P O L c (kRet P fn) (args ++ List.replicate (fn.ntmps - args.length) undef) H else none
    | none => none
  | none => none

abbrev Prims := Fn → Option (List Value → Heap → Option (Value × Heap))

def lvl (P : Program) (pr : Prims) : Nat → Oracle
  | 0, _, _, _ => none
  | n + 1, f, args, H =>
    match pr f with
    | some p => p args H
    | none =>
      match f with
      | .func g => body P (lvl P pr n) (loopN n) g args H
      | _ => none

end Go.Abs
