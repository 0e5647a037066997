/-
  THE RULES OF RECKONING, AS SIMP RULES.
-/
import Derived.Test.YtdobnaldfmpimaaAbsRows
set_option linter.unusedSimpArgs false
set_option linter.unusedVariables false
namespace Go.Abs

attribute [congr] ob_congr iteV_congr ifB_congr
attribute [simp] ob_some iteV_true iteV_false ifB_true r_ret r_opt r_gdt r_gdf r_gdtf r_gdft r_nil r_fAddr r_iAddr r_lenSl r_lenSl0 x_ld1 x_ldC x_cell x_ldN x_ldNC x_newB b_lss b_leq b_gtr b_geq b_eql b_neq u_not

section
variable {α : Type} {P : Program} {H : Heap}

@[simp] theorem r_gdff (m : M Value) : gd (.bool false) false m H = m H := rfl
@[simp] theorem r_gdt2 (m : Heap → Option (Value × Heap)) : gd (.bool true) true m H = m H := rfl
@[simp] theorem r_gdff2 (m : Heap → Option (Value × Heap)) : gd (.bool false) false m H = m H := rfl
@[simp] theorem r_gdtf2 (m : Heap → Option (Value × Heap)) : gd (.bool true) false m H = some (undef, H) := rfl
@[simp] theorem r_gdft2 (m : Heap → Option (Value × Heap)) : gd (.bool false) true m H = some (undef, H) := rfl
@[simp] theorem oneOf_one (v : Value) : oneOf [v] = v := rfl
@[simp] theorem oneOf_two (v w : Value) : oneOf [v, w] = .tuple #[v, w] := rfl
@[simp] theorem pick_t (a b : Value) : pick (.bool true) a b = some a := rfl
@[simp] theorem pick_f (a b : Value) : pick (.bool false) a b = some b := rfl
@[simp] theorem ext_0 (a b : Value) : ext 0 (.tuple #[a, b]) = some a := rfl
@[simp] theorem ext_1 (a b : Value) : ext 1 (.tuple #[a, b]) = some b := rfl

@[simp] theorem st_int (b o : Nat) (k : IntKind) (i : Int) : stN 1 (.pointer (some ⟨b, o, none⟩)) (.int k i) H = stC H[b]? b o [.int k i] H := x_stN 1 b o _ rfl
@[simp] theorem st_bool (b o : Nat) (i : Bool) : stN 1 (.pointer (some ⟨b, o, none⟩)) (.bool i) H = stC H[b]? b o [.bool i] H := x_stN 1 b o _ rfl
@[simp] theorem st_ptr (b o : Nat) (i : Option Addr) : stN 1 (.pointer (some ⟨b, o, none⟩)) (.pointer i) H = stC H[b]? b o [.pointer i] H := x_stN 1 b o _ rfl
@[simp] theorem st_slice (b o : Nat) (a : Option Addr) (n c : Nat) : stN 1 (.pointer (some ⟨b, o, none⟩)) (.slice a n c) H = stC H[b]? b o [.slice a n c] H := x_stN 1 b o _ rfl
@[simp] theorem st_agg (n b o : Nat) (vs : List Value) (h : vs.length = n) : stN n (.pointer (some ⟨b, o, none⟩)) (.agg ⟨vs⟩) H = stC H[b]? b o vs H := x_stN n b o _ h

@[simp] theorem stC_row (b : Nat) (cs : List Value) (e : TypeId) (o : Nat) (vs : List Value) (ha : allCells vs = true) (ho : o + vs.length ≤ cs.length) :
    stC (some (.cells cs e .row)) b o vs H = some (undef, H.set b (.cells (setCells cs o vs) e .row)) := x_stC b cs e .row o vs (by decide) ho ha
@[simp] theorem stC_fix (b : Nat) (cs : List Value) (e : TypeId) (o : Nat) (vs : List Value) (ha : allCells vs = true) (ho : o + vs.length ≤ cs.length) :
    stC (some (.cells cs e .fix)) b o vs H = some (undef, H.set b (.cells (setCells cs o vs) e .fix)) := x_stC b cs e .fix o vs (by decide) ho ha
@[simp] theorem all_nil : allCells [] = true := rfl
@[simp] theorem all_int (k : IntKind) (i : Int) (vs : List Value) : allCells (.int k i :: vs) = allCells vs := rfl
@[simp] theorem all_bool (i : Bool) (vs : List Value) : allCells (.bool i :: vs) = allCells vs := rfl
@[simp] theorem all_ptr (i : Option Addr) (vs : List Value) : allCells (.pointer i :: vs) = allCells vs := rfl
@[simp] theorem all_slice (a : Option Addr) (n c : Nat) (vs : List Value) : allCells (.slice a n c :: vs) = allCells vs := rfl
attribute [simp] setCells

@[simp] theorem toArr (vs : List Value) : (Value.agg ⟨vs⟩).cells.toList = vs := rfl

end
end Go.Abs
