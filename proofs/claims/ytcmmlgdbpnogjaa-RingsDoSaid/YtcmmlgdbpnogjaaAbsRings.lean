/-
  SHALLOW FORMS, written by a program of this claim's (Gen): each with its equation.
-/
import Derived.Test.YtcmmlgdbpnogjaaAbsSim
import Derived.Test.YtcmmlgdbpnogjaaProg
import Derived.KernelRfl
set_option linter.unusedVariables false
set_option maxRecDepth 100000
namespace Go.Proofs.Ytcmmlgdbpnogjaa
open Go.Abs
/-! 29: shunter/rings.New; slots: [(ports, 0), (lanes, 1), (slots, 2), (ports, 3), (lanes, 4), (slots, 5), (p, 7)] -/
noncomputable def f29 (O : Oracle) (L : Loops (Value × Heap)) (a0 a1 a2 : Value) (h : Heap) : Option (Value × Heap) :=
  ob ((O (.func 46) [a2]) h) fun v0 h0 =>
  ob ((M.ofOpt (bin Try.prog .eql 75 v0 (.pointer none))) h0) fun v1 h1 =>
  ob ((gd v1 false (M.ret a0)) h1) fun v2 h2 =>
  ob ((gd v1 false (M.ofOpt (bin Try.prog .lss 3 v2 (.int .i64 1)))) h2) fun v3 h3 =>
  ob ((M.ofOpt (pick v1 (.bool true) v3)) h3) fun v4 h4 =>
  ob ((gd v4 false (M.ret a0)) h4) fun v5 h5 =>
  ob ((gd v4 false (M.ofOpt (bin Try.prog .gtr 3 v5 (.int .i64 16)))) h5) fun v6 h6 =>
  ob ((M.ofOpt (pick v4 (.bool true) v6)) h6) fun v7 h7 =>
  ob ((gd v7 false (M.ret a1)) h7) fun v8 h8 =>
  ob ((gd v7 false (M.ofOpt (bin Try.prog .lss 3 v8 (.int .i64 1)))) h8) fun v9 h9 =>
  ob ((M.ofOpt (pick v7 (.bool true) v9)) h9) fun v10 h10 =>
  ob ((gd v10 false (M.ret a1)) h10) fun v11 h11 =>
  ob ((gd v10 false (M.ofOpt (bin Try.prog .gtr 3 v11 (.int .i64 3)))) h11) fun v12 h12 =>
  ob ((M.ofOpt (pick v10 (.bool true) v12)) h12) fun v13 h13 =>
  iteV v13 (
  some (oneOf [(.pointer none)], h13)) (
  ob (newM h13) fun v14 h14 =>
  ob ((M.ofOpt (bld Try.prog 79 [(0, v0), (1, v14), (2, a0), (3, a1)])) h14) fun v15 h15 =>
  ob ((newB 79 (Value.cells v15).toList .fix) h15) fun v16 h16 =>
  some (oneOf [v16], h16))
theorem f29_eq (O : Oracle) (L : Loops (Value × Heap)) (a0 a1 a2 : Value) (h : Heap) :
    body Try.prog O L 29 [a0, a1, a2] h = f29 O L a0 a1 a2 h := by kernel_rfl

/-! 30: shunter/shunterlaw08.known; slots: [(r, 1), (a, 2), (b, 3), (x, 4), (is, 5)] -/
noncomputable def f30 (O : Oracle) (L : Loops (Value × Heap)) (h : Heap) : Option (Value × Heap) :=
  ob ((O (.func 29) [(.int .i64 2), (.int .i64 1), (.int .i64 5)]) h) fun v0 h0 =>
  ob ((M.ofOpt (bin Try.prog .eql 46 v0 (.pointer none))) h0) fun v1 h1 =>
  iteV v1 (
  some (oneOf [(.bool false)], h1)) (
  ob ((M.ofOpt (bld Try.prog 50 [(3, (.int .u32 1))])) h1) fun v2 h2 =>
  ob ((O (.func 33) [v0, (.int .i64 0), (.int .i64 1), (.int .i64 0), v2]) h2) fun v3 h3 =>
  ob ((M.ofOpt (bld Try.prog 50 [(3, (.int .u32 2))])) h3) fun v4 h4 =>
  ob ((O (.func 33) [v0, (.int .i64 0), (.int .i64 1), (.int .i64 0), v4]) h4) fun v5 h5 =>
  ob ((O (.func 35) [v0, (.int .i64 0), (.int .i64 1), (.int .i64 0)]) h5) fun v6 h6 =>
  ob ((M.ofOpt (ext 0 v6)) h6) fun v7 h7 =>
  ob ((M.ofOpt (ext 1 v6)) h7) fun v8 h8 =>
  ob ((newB 50 [(.int .i64 0), (.int .i64 0), (.int .i64 0), (.int .u32 0)] .fix) h8) fun v9 h9 =>
  ob ((stN 4 v9 v7) h9) fun v10 h10 =>
  ob ((gd v3 true (M.ret v5)) h10) fun v11 h11 =>
  ob ((M.ofOpt (pick v3 v11 (.bool false))) h11) fun v12 h12 =>
  ob ((gd v12 true (M.ret v8)) h12) fun v13 h13 =>
  ob ((M.ofOpt (pick v12 v13 (.bool false))) h13) fun v14 h14 =>
  ob ((gd v14 true (M.ofOpt (fAddr 3 v9))) h14) fun v15 h15 =>
  ob ((gd v14 true (ld1 v15)) h15) fun v16 h16 =>
  ob ((gd v14 true (M.ofOpt (bin Try.prog .eql 48 v16 (.int .u32 1)))) h16) fun v17 h17 =>
  ob ((M.ofOpt (pick v14 v17 (.bool false))) h17) fun v18 h18 =>
  ob ((gd v18 true (M.ret v0)) h18) fun v19 h19 =>
  ob ((gd v18 true (O (.func 32) [v19, (.int .i64 0), (.int .i64 1), (.int .i64 0)])) h19) fun v20 h20 =>
  ob ((gd v18 true (M.ofOpt (bin Try.prog .eql 3 v20 (.int .i64 1)))) h20) fun v21 h21 =>
  ob ((M.ofOpt (pick v18 v21 (.bool false))) h21) fun v22 h22 =>
  ob ((gd v22 true (M.ret v0)) h22) fun v23 h23 =>
  ob ((gd v22 true (O (.func 40) [v23, (.int .i64 0), (.int .i64 1), (.int .i64 0)])) h23) fun v24 h24 =>
  ob ((gd v22 true (M.ofOpt (lenSl v24))) h24) fun v25 h25 =>
  ob ((gd v22 true (M.ofOpt (bin Try.prog .eql 3 v25 (.int .i64 1)))) h25) fun v26 h26 =>
  ob ((M.ofOpt (pick v22 v26 (.bool false))) h26) fun v27 h27 =>
  ob ((gd v27 true (M.ret v0)) h27) fun v28 h28 =>
  ob ((gd v27 true (O (.func 32) [v28, (.int .i64 1), (.int .i64 0), (.int .i64 0)])) h28) fun v29 h29 =>
  ob ((gd v27 true (M.ofOpt (bin Try.prog .eql 3 v29 (.int .i64 0)))) h29) fun v30 h30 =>
  ob ((M.ofOpt (pick v27 v30 (.bool false))) h30) fun v31 h31 =>
  ob ((gd v31 true (O (.func 29) [(.int .i64 0), (.int .i64 1), (.int .i64 1)])) h31) fun v32 h32 =>
  ob ((gd v31 true (M.ofOpt (bin Try.prog .eql 46 v32 (.pointer none)))) h32) fun v33 h33 =>
  ob ((M.ofOpt (pick v31 v33 (.bool false))) h33) fun v34 h34 =>
  some (oneOf [v34], h34))
theorem f30_eq (O : Oracle) (L : Loops (Value × Heap)) (h : Heap) :
    body Try.prog O L 30 [] h = f30 O L h := by kernel_rfl

/-! 31: (*shunter/rings.Rings).Head; slots: [(r, 0), (in, 1), (out, 2), (lane, 3), (r, 4), (in, 5), (out, 6), (lane, 7), (l, 10)] -/
noncomputable def f31 (O : Oracle) (L : Loops (Value × Heap)) (a0 a1 a2 a3 : Value) (h : Heap) : Option (Value × Heap) :=
  ob ((newB 50 [(.int .i64 0), (.int .i64 0), (.int .i64 0), (.int .u32 0)] .fix) h) fun v0 h0 =>
  ob ((M.ofOpt (nilChk a0)) h0) fun v1 h1 =>
  ob ((M.ofOpt (fAddr 1 v1)) h1) fun v2 h2 =>
  ob ((ld1 v2) h2) fun v3 h3 =>
  ob ((M.ofOpt (bld Try.prog 82 [(0, a1), (1, a2), (2, a3)])) h3) fun v4 h4 =>
  ob ((mapGet (.str [true, true, true]) (.slice none 0 0) false v3 v4) h4) fun v5 h5 =>
  ob ((M.ofOpt (lenSl v5)) h5) fun v6 h6 =>
  ob ((M.ofOpt (bin Try.prog .eql 3 v6 (.int .i64 0))) h6) fun v7 h7 =>
  iteV v7 (
  ob ((M.ofOpt (bld Try.prog 50 [])) h7) fun v8 h8 =>
  ob ((stN 4 v0 v8) h8) fun v9 h9 =>
  ob ((ldN 4 v0) h9) fun w10 _ => some (oneOf [w10, (.bool false)], h9)) (
  ob ((M.ofOpt (nilChk a0)) h7) fun v11 h11 =>
  ob ((M.ofOpt (fAddr 0 v11)) h11) fun v12 h12 =>
  ob ((ld1 v12) h12) fun v13 h13 =>
  ifB (true) (
  ob ((M.ofOpt (iAddr 1 v5 (.int .i64 0))) h13) fun v14 h14 =>
  ob ((ld1 v14) h14) fun v15 h15 =>
  ifB (true) (
  ob ((O (.func 47) [v13, v15]) h15) fun v16 h16 =>
  ifB (true) (
  ob ((M.ofOpt (ext 0 v16)) h16) fun v17 h17 =>
  ob ((M.ofOpt (ext 1 v16)) h17) fun v18 h18 =>
  ob ((stN 4 v0 v17) h18) fun v19 h19 =>
  ifB (true) (
  ob ((ldN 4 v0) h19) fun w20 _ => some (oneOf [w20, v18], h19))))))
theorem f31_eq (O : Oracle) (L : Loops (Value × Heap)) (a0 a1 a2 a3 : Value) (h : Heap) :
    body Try.prog O L 31 [a0, a1, a2, a3] h = f31 O L a0 a1 a2 a3 h := by kernel_rfl

/-! 32: (*shunter/rings.Rings).Len; slots: [(r, 0), (in, 1), (out, 2), (lane, 3), (r, 4), (in, 5), (out, 6), (lane, 7)] -/
noncomputable def f32 (O : Oracle) (L : Loops (Value × Heap)) (a0 a1 a2 a3 : Value) (h : Heap) : Option (Value × Heap) :=
  ob ((M.ofOpt (nilChk a0)) h) fun v0 h0 =>
  ob ((M.ofOpt (fAddr 1 v0)) h0) fun v1 h1 =>
  ob ((ld1 v1) h1) fun v2 h2 =>
  ob ((M.ofOpt (bld Try.prog 82 [(0, a1), (1, a2), (2, a3)])) h2) fun v3 h3 =>
  ob ((mapGet (.str [true, true, true]) (.slice none 0 0) false v2 v3) h3) fun v4 h4 =>
  ob ((M.ofOpt (lenSl v4)) h4) fun v5 h5 =>
  some (oneOf [v5], h5)
theorem f32_eq (O : Oracle) (L : Loops (Value × Heap)) (a0 a1 a2 a3 : Value) (h : Heap) :
    body Try.prog O L 32 [a0, a1, a2, a3] h = f32 O L a0 a1 a2 a3 h := by kernel_rfl

/-! 33: (*shunter/rings.Rings).Push; slots: [(r, 0), (in, 1), (out, 2), (lane, 3), (x, 4), (r, 5), (in, 6), (out, 7), (lane, 8), (x, 9), (w, 11), (k, 12), (is, 13)] -/
noncomputable def f33 (O : Oracle) (L : Loops (Value × Heap)) (a0 a1 a2 a3 a4 : Value) (h : Heap) : Option (Value × Heap) :=
  ob ((newB 50 (Value.cells a4).toList .fix) h) fun v0 h0 =>
  ob ((M.ofOpt (bld Try.prog 82 [(0, a1), (1, a2), (2, a3)])) h0) fun v1 h1 =>
  ob ((newB 82 [(.int .i64 0), (.int .i64 0), (.int .i64 0)] .fix) h1) fun v2 h2 =>
  ob ((stN 3 v2 v1) h2) fun v3 h3 =>
  ob ((ldN 3 v2) h3) fun v4 h4 =>
  ob ((O (.func 48) [a0, v4]) h4) fun v5 h5 =>
  ob ((M.ofOpt (un Try.prog .not v5)) h5) fun v6 h6 =>
  iteV v6 (
  some (oneOf [(.bool false)], h6)) (
  ob ((M.ofOpt (nilChk a0)) h6) fun v7 h7 =>
  ob ((M.ofOpt (fAddr 0 v7)) h7) fun v8 h8 =>
  ob ((ld1 v8) h8) fun v9 h9 =>
  ifB (true) (
  ob ((ldN 4 v0) h9) fun v10 h10 =>
  ifB (true) (
  ob ((O (.func 49) [v9, v10]) h10) fun v11 h11 =>
  ifB (true) (
  ob ((M.ofOpt (ext 0 v11)) h11) fun v12 h12 =>
  ob ((M.ofOpt (ext 1 v11)) h12) fun v13 h13 =>
  iteV v13 (
  ob ((M.ofOpt (nilChk a0)) h13) fun v14 h14 =>
  ob ((M.ofOpt (fAddr 1 v14)) h14) fun v15 h15 =>
  ob ((ld1 v15) h15) fun v16 h16 =>
  ifB (true) (
  ob ((ldN 3 v2) h16) fun v17 h17 =>
  ifB (true) (
  ob ((bldSlice 3 1 1 [(.int .i64 0)] [(0, v12)]) h17) fun v18 h18 =>
  ob ((mapEnt (.str [true, true, true]) (.slice none 0 0) v16 v17) h18) fun v19 h19 =>
  ifB (true) (
  ob ((M.ofOpt (ext 0 v19)) h19) fun v20 h20 =>
  ob ((app 3 1 8 v20 v18) h20) fun v21 h21 =>
  ifB (true) (
  ob ((M.ofOpt (ext 1 v19)) h21) fun v22 h22 =>
  ob ((entSet v16 v22 v21) h22) fun v23 h23 =>
  ifB (true) (
  some (oneOf [v13], h23))))))) (
  some (oneOf [v13], h13))))))
theorem f33_eq (O : Oracle) (L : Loops (Value × Heap)) (a0 a1 a2 a3 a4 : Value) (h : Heap) :
    body Try.prog O L 33 [a0, a1, a2, a3, a4] h = f33 O L a0 a1 a2 a3 a4 h := by kernel_rfl

/-! 34: shunter/shunterlaw08.near; slots: [(o, 0), (o, 1)] -/
noncomputable def f34 (O : Oracle) (L : Loops (Value × Heap)) (a0 : Value) (h : Heap) : Option (Value × Heap) :=
  ob ((newB 58 (Value.cells a0).toList .fix) h) fun v0 h0 =>
  ob ((newB 58 [(.int .u8 0), (.int .i64 0), (.int .i64 0), (.int .i64 0), (.bool false), (.int .i64 0), (.int .i64 0), (.int .i64 0), (.int .u32 0)] .fix) h0) fun v1 h1 =>
  ob ((M.ofOpt (fAddr 4 v0)) h1) fun v2 h2 =>
  ob ((ld1 v2) h2) fun v3 h3 =>
  iteV v3 (
  ob ((M.ofOpt (fAddr 1 v0)) h3) fun v4 h4 =>
  ob ((ld1 v4) h4) fun v5 h5 =>
  ob ((M.ofOpt (minmax Try.prog true [v5, (.int .i64 0)])) h5) fun v6 h6 =>
  ob ((M.ofOpt (bin Try.prog .rem 3 v6 (.int .i64 3))) h6) fun v7 h7 =>
  ob ((M.ofOpt (fAddr 1 v0)) h7) fun v8 h8 =>
  ob ((stN 1 v8 v7) h8) fun v9 h9 =>
  ob ((M.ofOpt (fAddr 2 v0)) h9) fun v10 h10 =>
  ob ((ld1 v10) h10) fun v11 h11 =>
  ob ((M.ofOpt (minmax Try.prog true [v11, (.int .i64 0)])) h11) fun v12 h12 =>
  ob ((M.ofOpt (bin Try.prog .rem 3 v12 (.int .i64 3))) h12) fun v13 h13 =>
  ob ((M.ofOpt (fAddr 2 v0)) h13) fun v14 h14 =>
  ob ((stN 1 v14 v13) h14) fun v15 h15 =>
  ob ((M.ofOpt (fAddr 3 v0)) h15) fun v16 h16 =>
  ob ((ld1 v16) h16) fun v17 h17 =>
  ob ((M.ofOpt (minmax Try.prog true [v17, (.int .i64 0)])) h17) fun v18 h18 =>
  ob ((M.ofOpt (bin Try.prog .rem 3 v18 (.int .i64 2))) h18) fun v19 h19 =>
  ob ((M.ofOpt (fAddr 3 v0)) h19) fun v20 h20 =>
  ob ((stN 1 v20 v19) h20) fun v21 h21 =>
  ob ((ldN 9 v0) h21) fun v22 h22 =>
  ob ((stN 9 v1 v22) h22) fun v23 h23 =>
  ob ((ldN 9 v1) h23) fun w24 _ => some (oneOf [w24], h23)) (
  ob ((ldN 9 v0) h3) fun v25 h25 =>
  ob ((stN 9 v1 v25) h25) fun v26 h26 =>
  ob ((ldN 9 v1) h26) fun w27 _ => some (oneOf [w27], h26))
theorem f34_eq (O : Oracle) (L : Loops (Value × Heap)) (a0 : Value) (h : Heap) :
    body Try.prog O L 34 [a0] h = f34 O L a0 h := by kernel_rfl

/-! 35: (*shunter/rings.Rings).Pop; slots: [(r, 0), (in, 1), (out, 2), (lane, 3), (r, 4), (in, 5), (out, 6), (lane, 7), (x, 10), (is, 11), (w, 12)] -/
noncomputable def f35 (O : Oracle) (L : Loops (Value × Heap)) (a0 a1 a2 a3 : Value) (h : Heap) : Option (Value × Heap) :=
  ob ((newB 50 [(.int .i64 0), (.int .i64 0), (.int .i64 0), (.int .u32 0)] .fix) h) fun v0 h0 =>
  ob ((O (.func 31) [a0, a1, a2, a3]) h0) fun v1 h1 =>
  ob ((M.ofOpt (ext 0 v1)) h1) fun v2 h2 =>
  ob ((M.ofOpt (ext 1 v1)) h2) fun v3 h3 =>
  ob ((newB 50 [(.int .i64 0), (.int .i64 0), (.int .i64 0), (.int .u32 0)] .fix) h3) fun v4 h4 =>
  ob ((stN 4 v4 v2) h4) fun v5 h5 =>
  iteV v3 (
  ob ((M.ofOpt (bld Try.prog 82 [(0, a1), (1, a2), (2, a3)])) h5) fun v6 h6 =>
  ob ((newB 82 [(.int .i64 0), (.int .i64 0), (.int .i64 0)] .fix) h6) fun v7 h7 =>
  ob ((stN 3 v7 v6) h7) fun v8 h8 =>
  ob ((M.ofOpt (nilChk a0)) h8) fun v9 h9 =>
  ob ((M.ofOpt (fAddr 0 v9)) h9) fun v10 h10 =>
  ob ((ld1 v10) h10) fun v11 h11 =>
  ifB (true) (
  ob ((M.ofOpt (nilChk a0)) h11) fun v12 h12 =>
  ob ((M.ofOpt (fAddr 1 v12)) h12) fun v13 h13 =>
  ob ((ld1 v13) h13) fun v14 h14 =>
  ifB (true) (
  ob ((ldN 3 v7) h14) fun v15 h15 =>
  ifB (true) (
  ob ((mapGet (.str [true, true, true]) (.slice none 0 0) false v14 v15) h15) fun v16 h16 =>
  ifB (true) (
  ob ((M.ofOpt (iAddr 1 v16 (.int .i64 0))) h16) fun v17 h17 =>
  ob ((ld1 v17) h17) fun v18 h18 =>
  ifB (true) (
  ob ((O (.func 50) [v11, v18]) h18) fun v19 h19 =>
  ifB (true) (
  ob ((M.ofOpt (nilChk a0)) h19) fun v20 h20 =>
  ob ((M.ofOpt (fAddr 1 v20)) h20) fun v21 h21 =>
  ob ((ld1 v21) h21) fun v22 h22 =>
  ifB (true) (
  ob ((ldN 3 v7) h22) fun v23 h23 =>
  ifB (true) (
  ob ((M.ofOpt (nilChk a0)) h23) fun v24 h24 =>
  ob ((M.ofOpt (fAddr 1 v24)) h24) fun v25 h25 =>
  ob ((ld1 v25) h25) fun v26 h26 =>
  ifB (true) (
  ob ((ldN 3 v7) h26) fun v27 h27 =>
  ifB (true) (
  ob ((mapGet (.str [true, true, true]) (.slice none 0 0) false v26 v27) h27) fun v28 h28 =>
  ifB (true) (
  ob ((slc Try.prog 1 v28 (some (.int .i64 1)) none none) h28) fun v29 h29 =>
  ifB (true) (
  ob ((mapSet (.str [true, true, true]) v22 v23 v29) h29) fun v30 h30 =>
  ifB (true) (
  ob ((M.ofOpt (nilChk a0)) h30) fun v31 h31 =>
  ob ((M.ofOpt (fAddr 1 v31)) h31) fun v32 h32 =>
  ob ((ld1 v32) h32) fun v33 h33 =>
  ifB (true) (
  ob ((ldN 3 v7) h33) fun v34 h34 =>
  ifB (true) (
  ob ((mapGet (.str [true, true, true]) (.slice none 0 0) false v33 v34) h34) fun v35 h35 =>
  ifB (true) (
  ob ((M.ofOpt (lenSl v35)) h35) fun v36 h36 =>
  ob ((M.ofOpt (bin Try.prog .eql 3 v36 (.int .i64 0))) h36) fun v37 h37 =>
  iteV v37 (
  ob ((M.ofOpt (nilChk a0)) h37) fun v38 h38 =>
  ob ((M.ofOpt (fAddr 1 v38)) h38) fun v39 h39 =>
  ob ((ld1 v39) h39) fun v40 h40 =>
  ifB (true) (
  ob ((ldN 3 v7) h40) fun v41 h41 =>
  ifB (true) (
  ob ((mapDel (.str [true, true, true]) v40 v41) h41) fun v42 h42 =>
  ifB (true) (
  ob ((ldN 4 v4) h42) fun v43 h43 =>
  ob ((stN 4 v0 v43) h43) fun v44 h44 =>
  ob ((ldN 4 v0) h44) fun w45 _ => some (oneOf [w45, v3], h44))))) (
  ob ((ldN 4 v4) h37) fun v46 h46 =>
  ob ((stN 4 v0 v46) h46) fun v47 h47 =>
  ob ((ldN 4 v0) h47) fun w48 _ => some (oneOf [w48, v3], h47))))))))))))))))))) (
  ob ((ldN 4 v4) h5) fun v49 h49 =>
  ob ((stN 4 v0 v49) h49) fun v50 h50 =>
  ob ((ldN 4 v0) h50) fun w51 _ => some (oneOf [w51, v3], h50))
theorem f35_eq (O : Oracle) (L : Loops (Value × Heap)) (a0 a1 a2 a3 : Value) (h : Heap) :
    body Try.prog O L 35 [a0, a1, a2, a3] h = f35 O L a0 a1 a2 a3 h := by kernel_rfl

/-! 36: shunter/shunterref08.New; slots: [(ports, 0), (lanes, 1), (slots, 2), (ports, 3), (lanes, 4), (slots, 5)] -/
noncomputable def f36 (O : Oracle) (L : Loops (Value × Heap)) (a0 a1 a2 : Value) (h : Heap) : Option (Value × Heap) :=
  ob ((M.ofOpt (bin Try.prog .lss 3 a0 (.int .i64 1))) h) fun v0 h0 =>
  ob ((gd v0 false (M.ret a0)) h0) fun v1 h1 =>
  ob ((gd v0 false (M.ofOpt (bin Try.prog .gtr 3 v1 (.int .i64 16)))) h1) fun v2 h2 =>
  ob ((M.ofOpt (pick v0 (.bool true) v2)) h2) fun v3 h3 =>
  ob ((gd v3 false (M.ret a1)) h3) fun v4 h4 =>
  ob ((gd v3 false (M.ofOpt (bin Try.prog .lss 3 v4 (.int .i64 1)))) h4) fun v5 h5 =>
  ob ((M.ofOpt (pick v3 (.bool true) v5)) h5) fun v6 h6 =>
  ob ((gd v6 false (M.ret a1)) h6) fun v7 h7 =>
  ob ((gd v6 false (M.ofOpt (bin Try.prog .gtr 3 v7 (.int .i64 3)))) h7) fun v8 h8 =>
  ob ((M.ofOpt (pick v6 (.bool true) v8)) h8) fun v9 h9 =>
  ob ((gd v9 false (M.ret a2)) h9) fun v10 h10 =>
  ob ((gd v9 false (M.ofOpt (bin Try.prog .lss 3 v10 (.int .i64 1)))) h10) fun v11 h11 =>
  ob ((M.ofOpt (pick v9 (.bool true) v11)) h11) fun v12 h12 =>
  ob ((gd v12 false (M.ret a2)) h12) fun v13 h13 =>
  ob ((gd v12 false (M.ofOpt (bin Try.prog .gtr 3 v13 (.int .i64 200)))) h13) fun v14 h14 =>
  ob ((M.ofOpt (pick v12 (.bool true) v14)) h14) fun v15 h15 =>
  iteV v15 (
  some (oneOf [(.pointer none)], h15)) (
  ob ((M.ofOpt (bld Try.prog 89 [(0, a0), (1, a1), (2, a2)])) h15) fun v16 h16 =>
  ob ((newB 89 (Value.cells v16).toList .fix) h16) fun v17 h17 =>
  some (oneOf [v17], h17))
theorem f36_eq (O : Oracle) (L : Loops (Value × Heap)) (a0 a1 a2 : Value) (h : Heap) :
    body Try.prog O L 36 [a0, a1, a2] h = f36 O L a0 a1 a2 h := by kernel_rfl

/-! 37: shunter/shunterlaw08.does; slots: [(a, 0), (r, 1), (o, 2), (a, 3), (r, 4), (o, 5), (x, 7), (is, 8), (y, 9), (was, 10), (x, 11), (is, 12), (y, 13), (was, 14)] -/
noncomputable def f37 (O : Oracle) (L : Loops (Value × Heap)) (a0 a1 a2 : Value) (h : Heap) : Option (Value × Heap) :=
  ob ((newB 58 (Value.cells a2).toList .fix) h) fun v0 h0 =>
  ob ((M.ofOpt (fAddr 0 v0)) h0) fun v1 h1 =>
  ob ((ld1 v1) h1) fun v2 h2 =>
  ob ((M.ofOpt (bin Try.prog .rem 5 v2 (.int .u8 6))) h2) fun v3 h3 =>
  ob ((M.ofOpt (bin Try.prog .eql 5 v3 (.int .u8 3))) h3) fun v4 h4 =>
  iteV v4 (
  iteV v4 (
  ob ((M.ofOpt (fAddr 1 v0)) h4) fun v5 h5 =>
  ob ((ld1 v5) h5) fun v6 h6 =>
  ob ((M.ofOpt (fAddr 2 v0)) h6) fun v7 h7 =>
  ob ((ld1 v7) h7) fun v8 h8 =>
  ob ((M.ofOpt (fAddr 3 v0)) h8) fun v9 h9 =>
  ob ((ld1 v9) h9) fun v10 h10 =>
  ob ((O (.func 35) [a0, v6, v8, v10]) h10) fun v11 h11 =>
  ob ((M.ofOpt (ext 0 v11)) h11) fun v12 h12 =>
  ob ((M.ofOpt (ext 1 v11)) h12) fun v13 h13 =>
  ob ((newB 50 [(.int .i64 0), (.int .i64 0), (.int .i64 0), (.int .u32 0)] .fix) h13) fun v14 h14 =>
  ob ((stN 4 v14 v12) h14) fun v15 h15 =>
  ob ((M.ofOpt (fAddr 1 v0)) h15) fun v16 h16 =>
  ob ((ld1 v16) h16) fun v17 h17 =>
  ob ((M.ofOpt (fAddr 2 v0)) h17) fun v18 h18 =>
  ob ((ld1 v18) h18) fun v19 h19 =>
  ob ((M.ofOpt (fAddr 3 v0)) h19) fun v20 h20 =>
  ob ((ld1 v20) h20) fun v21 h21 =>
  ob ((O (.func 51) [a1, v17, v19, v21]) h21) fun v22 h22 =>
  ob ((M.ofOpt (ext 0 v22)) h22) fun v23 h23 =>
  ob ((M.ofOpt (ext 1 v22)) h23) fun v24 h24 =>
  ob ((newB 50 [(.int .i64 0), (.int .i64 0), (.int .i64 0), (.int .u32 0)] .fix) h24) fun v25 h25 =>
  ob ((stN 4 v25 v23) h25) fun v26 h26 =>
  ob ((ldN 4 v14) h26) fun v27 h27 =>
  ob ((ldN 4 v25) h27) fun v28 h28 =>
  ob ((M.ofOpt (bin Try.prog .eql 50 v27 v28)) h28) fun v29 h29 =>
  ob ((gd v29 true (M.ret v13)) h29) fun v30 h30 =>
  ob ((gd v29 true (M.ret v24)) h30) fun v31 h31 =>
  ob ((gd v29 true (M.ofOpt (bin Try.prog .eql 4 v30 v31))) h31) fun v32 h32 =>
  ob ((M.ofOpt (pick v29 v32 (.bool false))) h32) fun v33 h33 =>
  some (oneOf [v33], h33)) (
  ob ((M.ofOpt (bin Try.prog .eql 5 v3 (.int .u8 5))) h4) fun v34 h34 =>
  iteV v34 (
  ob ((M.ofOpt (fAddr 1 v0)) h34) fun v35 h35 =>
  ob ((ld1 v35) h35) fun v36 h36 =>
  ob ((M.ofOpt (fAddr 2 v0)) h36) fun v37 h37 =>
  ob ((ld1 v37) h37) fun v38 h38 =>
  ob ((M.ofOpt (fAddr 3 v0)) h38) fun v39 h39 =>
  ob ((ld1 v39) h39) fun v40 h40 =>
  ob ((O (.func 31) [a0, v36, v38, v40]) h40) fun v41 h41 =>
  ob ((M.ofOpt (ext 0 v41)) h41) fun v42 h42 =>
  ob ((M.ofOpt (ext 1 v41)) h42) fun v43 h43 =>
  ob ((newB 50 [(.int .i64 0), (.int .i64 0), (.int .i64 0), (.int .u32 0)] .fix) h43) fun v44 h44 =>
  ob ((stN 4 v44 v42) h44) fun v45 h45 =>
  ob ((M.ofOpt (fAddr 1 v0)) h45) fun v46 h46 =>
  ob ((ld1 v46) h46) fun v47 h47 =>
  ob ((M.ofOpt (fAddr 2 v0)) h47) fun v48 h48 =>
  ob ((ld1 v48) h48) fun v49 h49 =>
  ob ((M.ofOpt (fAddr 3 v0)) h49) fun v50 h50 =>
  ob ((ld1 v50) h50) fun v51 h51 =>
  ob ((O (.func 52) [a1, v47, v49, v51]) h51) fun v52 h52 =>
  ob ((M.ofOpt (ext 0 v52)) h52) fun v53 h53 =>
  ob ((M.ofOpt (ext 1 v52)) h53) fun v54 h54 =>
  ob ((newB 50 [(.int .i64 0), (.int .i64 0), (.int .i64 0), (.int .u32 0)] .fix) h54) fun v55 h55 =>
  ob ((stN 4 v55 v53) h55) fun v56 h56 =>
  ob ((ldN 4 v44) h56) fun v57 h57 =>
  ob ((ldN 4 v55) h57) fun v58 h58 =>
  ob ((M.ofOpt (bin Try.prog .eql 50 v57 v58)) h58) fun v59 h59 =>
  ob ((gd v59 true (M.ret v43)) h59) fun v60 h60 =>
  ob ((gd v59 true (M.ret v54)) h60) fun v61 h61 =>
  ob ((gd v59 true (M.ofOpt (bin Try.prog .eql 4 v60 v61))) h61) fun v62 h62 =>
  ob ((M.ofOpt (pick v59 v62 (.bool false))) h62) fun v63 h63 =>
  some (oneOf [v63], h63)) (
  ob ((M.ofOpt (fAddr 1 v0)) h34) fun v64 h64 =>
  ob ((ld1 v64) h64) fun v65 h65 =>
  ifB (true) (
  ob ((M.ofOpt (fAddr 2 v0)) h65) fun v66 h66 =>
  ob ((ld1 v66) h66) fun v67 h67 =>
  ifB (true) (
  ob ((M.ofOpt (fAddr 3 v0)) h67) fun v68 h68 =>
  ob ((ld1 v68) h68) fun v69 h69 =>
  ifB (true) (
  ob ((M.ofOpt (fAddr 5 v0)) h69) fun v70 h70 =>
  ob ((ldN 4 v70) h70) fun v71 h71 =>
  ifB (true) (
  ob ((O (.func 33) [a0, v65, v67, v69, v71]) h71) fun v72 h72 =>
  ifB (true) (
  ob ((M.ofOpt (fAddr 1 v0)) h72) fun v73 h73 =>
  ob ((ld1 v73) h73) fun v74 h74 =>
  ifB (chk ((ld1 v73) h71) v74 && (true)) (
  ob ((M.ofOpt (fAddr 2 v0)) h74) fun v75 h75 =>
  ob ((ld1 v75) h75) fun v76 h76 =>
  ifB (chk ((ld1 v75) h71) v76 && (true)) (
  ob ((M.ofOpt (fAddr 3 v0)) h76) fun v77 h77 =>
  ob ((ld1 v77) h77) fun v78 h78 =>
  ifB (chk ((ld1 v77) h71) v78 && (true)) (
  ob ((M.ofOpt (fAddr 5 v0)) h78) fun v79 h79 =>
  ob ((ldN 4 v79) h79) fun v80 h80 =>
  ifB (chk ((ldN 4 v79) h71) v80 && (true)) (
  ob ((O (.func 53) [a1, v74, v76, v78, v80]) h80) fun v81 h81 =>
  ifB (true) (
  ob ((M.ofOpt (bin Try.prog .eql 4 v72 v81)) h81) fun v82 h82 =>
  some (oneOf [v82], h82)))))))))))))) (
  ob ((M.ofOpt (bin Try.prog .eql 5 v3 (.int .u8 4))) h4) fun v83 h83 =>
  iteV v83 (
  ob ((M.ofOpt (fAddr 1 v0)) h83) fun v84 h84 =>
  ob ((ld1 v84) h84) fun v85 h85 =>
  ob ((M.ofOpt (fAddr 2 v0)) h85) fun v86 h86 =>
  ob ((ld1 v86) h86) fun v87 h87 =>
  ob ((M.ofOpt (fAddr 3 v0)) h87) fun v88 h88 =>
  ob ((ld1 v88) h88) fun v89 h89 =>
  ob ((O (.func 35) [a0, v85, v87, v89]) h89) fun v90 h90 =>
  ob ((M.ofOpt (ext 0 v90)) h90) fun v91 h91 =>
  ob ((M.ofOpt (ext 1 v90)) h91) fun v92 h92 =>
  ob ((newB 50 [(.int .i64 0), (.int .i64 0), (.int .i64 0), (.int .u32 0)] .fix) h92) fun v93 h93 =>
  ob ((stN 4 v93 v91) h93) fun v94 h94 =>
  ob ((M.ofOpt (fAddr 1 v0)) h94) fun v95 h95 =>
  ob ((ld1 v95) h95) fun v96 h96 =>
  ob ((M.ofOpt (fAddr 2 v0)) h96) fun v97 h97 =>
  ob ((ld1 v97) h97) fun v98 h98 =>
  ob ((M.ofOpt (fAddr 3 v0)) h98) fun v99 h99 =>
  ob ((ld1 v99) h99) fun v100 h100 =>
  ob ((O (.func 51) [a1, v96, v98, v100]) h100) fun v101 h101 =>
  ob ((M.ofOpt (ext 0 v101)) h101) fun v102 h102 =>
  ob ((M.ofOpt (ext 1 v101)) h102) fun v103 h103 =>
  ob ((newB 50 [(.int .i64 0), (.int .i64 0), (.int .i64 0), (.int .u32 0)] .fix) h103) fun v104 h104 =>
  ob ((stN 4 v104 v102) h104) fun v105 h105 =>
  ob ((ldN 4 v93) h105) fun v106 h106 =>
  ob ((ldN 4 v104) h106) fun v107 h107 =>
  ob ((M.ofOpt (bin Try.prog .eql 50 v106 v107)) h107) fun v108 h108 =>
  ob ((gd v108 true (M.ret v92)) h108) fun v109 h109 =>
  ob ((gd v108 true (M.ret v103)) h109) fun v110 h110 =>
  ob ((gd v108 true (M.ofOpt (bin Try.prog .eql 4 v109 v110))) h110) fun v111 h111 =>
  ob ((M.ofOpt (pick v108 v111 (.bool false))) h111) fun v112 h112 =>
  some (oneOf [v112], h112)) (
  ob ((M.ofOpt (bin Try.prog .eql 5 v3 (.int .u8 5))) h83) fun v113 h113 =>
  iteV v113 (
  ob ((M.ofOpt (fAddr 1 v0)) h113) fun v114 h114 =>
  ob ((ld1 v114) h114) fun v115 h115 =>
  ob ((M.ofOpt (fAddr 2 v0)) h115) fun v116 h116 =>
  ob ((ld1 v116) h116) fun v117 h117 =>
  ob ((M.ofOpt (fAddr 3 v0)) h117) fun v118 h118 =>
  ob ((ld1 v118) h118) fun v119 h119 =>
  ob ((O (.func 31) [a0, v115, v117, v119]) h119) fun v120 h120 =>
  ob ((M.ofOpt (ext 0 v120)) h120) fun v121 h121 =>
  ob ((M.ofOpt (ext 1 v120)) h121) fun v122 h122 =>
  ob ((newB 50 [(.int .i64 0), (.int .i64 0), (.int .i64 0), (.int .u32 0)] .fix) h122) fun v123 h123 =>
  ob ((stN 4 v123 v121) h123) fun v124 h124 =>
  ob ((M.ofOpt (fAddr 1 v0)) h124) fun v125 h125 =>
  ob ((ld1 v125) h125) fun v126 h126 =>
  ob ((M.ofOpt (fAddr 2 v0)) h126) fun v127 h127 =>
  ob ((ld1 v127) h127) fun v128 h128 =>
  ob ((M.ofOpt (fAddr 3 v0)) h128) fun v129 h129 =>
  ob ((ld1 v129) h129) fun v130 h130 =>
  ob ((O (.func 52) [a1, v126, v128, v130]) h130) fun v131 h131 =>
  ob ((M.ofOpt (ext 0 v131)) h131) fun v132 h132 =>
  ob ((M.ofOpt (ext 1 v131)) h132) fun v133 h133 =>
  ob ((newB 50 [(.int .i64 0), (.int .i64 0), (.int .i64 0), (.int .u32 0)] .fix) h133) fun v134 h134 =>
  ob ((stN 4 v134 v132) h134) fun v135 h135 =>
  ob ((ldN 4 v123) h135) fun v136 h136 =>
  ob ((ldN 4 v134) h136) fun v137 h137 =>
  ob ((M.ofOpt (bin Try.prog .eql 50 v136 v137)) h137) fun v138 h138 =>
  ob ((gd v138 true (M.ret v122)) h138) fun v139 h139 =>
  ob ((gd v138 true (M.ret v133)) h139) fun v140 h140 =>
  ob ((gd v138 true (M.ofOpt (bin Try.prog .eql 4 v139 v140))) h140) fun v141 h141 =>
  ob ((M.ofOpt (pick v138 v141 (.bool false))) h141) fun v142 h142 =>
  some (oneOf [v142], h142)) (
  ob ((M.ofOpt (fAddr 1 v0)) h113) fun v143 h143 =>
  ob ((ld1 v143) h143) fun v144 h144 =>
  ifB (true) (
  ob ((M.ofOpt (fAddr 2 v0)) h144) fun v145 h145 =>
  ob ((ld1 v145) h145) fun v146 h146 =>
  ifB (true) (
  ob ((M.ofOpt (fAddr 3 v0)) h146) fun v147 h147 =>
  ob ((ld1 v147) h147) fun v148 h148 =>
  ifB (true) (
  ob ((M.ofOpt (fAddr 5 v0)) h148) fun v149 h149 =>
  ob ((ldN 4 v149) h149) fun v150 h150 =>
  ifB (true) (
  ob ((O (.func 33) [a0, v144, v146, v148, v150]) h150) fun v151 h151 =>
  ifB (true) (
  ob ((M.ofOpt (fAddr 1 v0)) h151) fun v152 h152 =>
  ob ((ld1 v152) h152) fun v153 h153 =>
  ifB (chk ((ld1 v152) h150) v153 && (true)) (
  ob ((M.ofOpt (fAddr 2 v0)) h153) fun v154 h154 =>
  ob ((ld1 v154) h154) fun v155 h155 =>
  ifB (chk ((ld1 v154) h150) v155 && (true)) (
  ob ((M.ofOpt (fAddr 3 v0)) h155) fun v156 h156 =>
  ob ((ld1 v156) h156) fun v157 h157 =>
  ifB (chk ((ld1 v156) h150) v157 && (true)) (
  ob ((M.ofOpt (fAddr 5 v0)) h157) fun v158 h158 =>
  ob ((ldN 4 v158) h158) fun v159 h159 =>
  ifB (chk ((ldN 4 v158) h150) v159 && (true)) (
  ob ((O (.func 53) [a1, v153, v155, v157, v159]) h159) fun v160 h160 =>
  ifB (true) (
  ob ((M.ofOpt (bin Try.prog .eql 4 v151 v160)) h160) fun v161 h161 =>
  some (oneOf [v161], h161))))))))))))))
theorem f37_eq (O : Oracle) (L : Loops (Value × Heap)) (a0 a1 a2 : Value) (h : Heap) :
    body Try.prog O L 37 [a0, a1, a2] h = f37 O L a0 a1 a2 h := by kernel_rfl

/-! 38: (*shunter/shunterref08.Rings).Len; slots: [(r, 0), (in, 1), (out, 2), (lane, 3), (r, 4), (in, 5), (out, 6), (lane, 7)] -/
noncomputable def f38 (O : Oracle) (L : Loops (Value × Heap)) (a0 a1 a2 a3 : Value) (h : Heap) : Option (Value × Heap) :=
  ob ((O (.func 41) [a0, a1, a2, a3]) h) fun v0 h0 =>
  ob ((M.ofOpt (lenSl v0)) h0) fun v1 h1 =>
  some (oneOf [v1], h1)
theorem f38_eq (O : Oracle) (L : Loops (Value × Heap)) (a0 a1 a2 a3 : Value) (h : Heap) :
    body Try.prog O L 38 [a0, a1, a2, a3] h = f38 O L a0 a1 a2 a3 h := by kernel_rfl

/-! 39: shunter/shunterref08.Same; slots: [(a, 0), (b, 1), (a, 2), (b, 3), (i, 5)] -/
noncomputable def f39_c0 : Code := sub [1, 1, 0, 1, 0, 0] (fbody Try.prog 39)
noncomputable def f39_k0 (O : Oracle) (L : Loops (Value × Heap)) : Ex → K (Value × Heap) := (blockK 0 (seqK Try.prog O L (sub [1, 1, 1] (fbody Try.prog 39)) (kRet Try.prog Try.f39)))
noncomputable def f39_e0_0 (O : Oracle) (L : Loops (Value × Heap)) (x0 x1 x2 x3 x4 x5 x6 x7 x8 x9 x10 x11 x12 x13 x14 x15 x16 x17 x18 x19 x20 x21 x22 x23 x24 x25 : Value) (h : Heap) : Option (Value × Heap) :=
  some (oneOf [(.bool true)], h)
theorem f39_e0_0_eq (O : Oracle) (L : Loops (Value × Heap)) (x0 x1 x2 x3 x4 x5 x6 x7 x8 x9 x10 x11 x12 x13 x14 x15 x16 x17 x18 x19 x20 x21 x22 x23 x24 x25 : Value) (h : Heap) :
    f39_k0 O L (.exit 0) [x0, x1, x2, x3, x4, x5, x6, x7, x8, x9, x10, x11, x12, x13, x14, x15, x16, x17, x18, x19, x20, x21, x22, x23, x24, x25] h = f39_e0_0 O L x0 x1 x2 x3 x4 x5 x6 x7 x8 x9 x10 x11 x12 x13 x14 x15 x16 x17 x18 x19 x20 x21 x22 x23 x24 x25 h := by kernel_rfl
noncomputable def f39_r0 (O : Oracle) (L : Loops (Value × Heap)) (x0 x1 x2 x3 x4 x5 x6 x7 x8 x9 x10 x11 x12 x13 x14 x15 x16 x17 x18 x19 x20 x21 x22 x23 x24 x25 : Value) (h : Heap) : Option (Value × Heap) :=
  some (oneOf [x4], h)
theorem f39_r0_eq (O : Oracle) (L : Loops (Value × Heap)) (x0 x1 x2 x3 x4 x5 x6 x7 x8 x9 x10 x11 x12 x13 x14 x15 x16 x17 x18 x19 x20 x21 x22 x23 x24 x25 : Value) (h : Heap) :
    f39_k0 O L .ret [x0, x1, x2, x3, x4, x5, x6, x7, x8, x9, x10, x11, x12, x13, x14, x15, x16, x17, x18, x19, x20, x21, x22, x23, x24, x25] h = f39_r0 O L x0 x1 x2 x3 x4 x5 x6 x7 x8 x9 x10 x11 x12 x13 x14 x15 x16 x17 x18 x19 x20 x21 x22 x23 x24 x25 h := by kernel_rfl
noncomputable def f39_b0 (O : Oracle) (L : Loops (Value × Heap)) (k : Ex → K (Value × Heap)) (x0 x1 x2 x3 x4 x5 x6 x7 x8 x9 x10 x11 x12 x13 x14 x15 x16 x17 x18 x19 x20 x21 x22 x23 x24 x25 : Value) (h : Heap) : Option (Value × Heap) :=
  ob ((M.ofOpt (lenSl x0)) h) fun v3 h3 =>
  ob ((M.ofOpt (bin Try.prog .lss 3 x5 v3)) h3) fun v4 h4 =>
  iteV v4 (
  ob ((M.ofOpt (iAddr 4 x0 x5)) h4) fun v5 h5 =>
  ob ((ldN 4 v5) h5) fun v6 h6 =>
  ifB (true) (
  ob ((M.ofOpt (iAddr 4 x1 x5)) h6) fun v7 h7 =>
  ob ((ldN 4 v7) h7) fun v8 h8 =>
  ifB (true) (
  ob ((M.ofOpt (bin Try.prog .neq 50 v6 v8)) h8) fun v9 h9 =>
  iteV v9 (
  k .ret [x0, x1, x2, x3, (.bool false), x5, x6, x7, x8, x9, x10, x5, x0, v3, v4, x15, x16, x0, x5, v5, v6, x1, x5, v7, v8, v9] h9) (
  ob ((M.ofOpt (bin Try.prog .add 3 x5 (.int .i64 1))) h9) fun v10 h10 =>
  k .normal [x0, x1, x2, x3, x4, v10, x6, x7, x8, x9, x10, x5, x0, v3, v4, x5, v10, x0, x5, v5, v6, x1, x5, v7, v8, v9] h10)))) (
  k (.exit 0) [x0, x1, x2, x3, x4, x5, x6, x7, x8, x9, x10, x5, x0, v3, v4, x15, x16, x17, x18, x19, x20, x21, x22, x23, x24, x25] h4)
theorem f39_b0_eq (O : Oracle) (L : Loops (Value × Heap)) (k : Ex → K (Value × Heap)) (x0 x1 x2 x3 x4 x5 x6 x7 x8 x9 x10 x11 x12 x13 x14 x15 x16 x17 x18 x19 x20 x21 x22 x23 x24 x25 : Value) (h : Heap) :
    runCode Try.prog O L f39_c0 k [x0, x1, x2, x3, x4, x5, x6, x7, x8, x9, x10, x11, x12, x13, x14, x15, x16, x17, x18, x19, x20, x21, x22, x23, x24, x25] h = f39_b0 O L k x0 x1 x2 x3 x4 x5 x6 x7 x8 x9 x10 x11 x12 x13 x14 x15 x16 x17 x18 x19 x20 x21 x22 x23 x24 x25 h := by kernel_rfl
noncomputable def f39 (O : Oracle) (L : Loops (Value × Heap)) (a0 a1 : Value) (h : Heap) : Option (Value × Heap) :=
  ob ((M.ofOpt (lenSl a0)) h) fun v0 h0 =>
  ob ((M.ofOpt (lenSl a1)) h0) fun v1 h1 =>
  ob ((M.ofOpt (bin Try.prog .neq 3 v0 v1)) h1) fun v2 h2 =>
  iteV v2 (
  some (oneOf [(.bool false)], h2)) (
  L (runCode Try.prog O L f39_c0) (f39_k0 O L) [a0, a1, undef, undef, (.bool false), (.int .i64 0), a0, v0, a1, v1, v2, undef, undef, undef, undef, undef, undef, undef, undef, undef, undef, undef, undef, undef, undef, undef] h2)
theorem f39_eq (O : Oracle) (L : Loops (Value × Heap)) (a0 a1 : Value) (h : Heap) :
    body Try.prog O L 39 [a0, a1] h = f39 O L a0 a1 h := by kernel_rfl

/-! 40: (*shunter/rings.Rings).All; slots: [(r, 0), (in, 1), (out, 2), (lane, 3), (r, 4), (in, 5), (out, 6), (lane, 7), (l, 9), (_, 10), (k, 11), (x, 12), (_, 13)] -/
noncomputable def f40_c0 : Code := sub [1, 1, 0, 1, 0, 0] (fbody Try.prog 40)
noncomputable def f40_k0 (O : Oracle) (L : Loops (Value × Heap)) : Ex → K (Value × Heap) := (blockK 0 (seqK Try.prog O L (sub [1, 1, 1] (fbody Try.prog 40)) (kRet Try.prog Try.f40)))
noncomputable def f40_e0_0 (O : Oracle) (L : Loops (Value × Heap)) (x0 x1 x2 x3 x4 x5 x6 x7 x8 x9 x10 x11 x12 x13 x14 x15 x16 x17 x18 x19 x20 x21 x22 x23 x24 x25 x26 x27 x28 x29 x30 x31 x32 x33 x34 x35 x36 x37 x38 x39 x40 x41 x42 : Value) (h : Heap) : Option (Value × Heap) :=
  some (oneOf [x9], h)
theorem f40_e0_0_eq (O : Oracle) (L : Loops (Value × Heap)) (x0 x1 x2 x3 x4 x5 x6 x7 x8 x9 x10 x11 x12 x13 x14 x15 x16 x17 x18 x19 x20 x21 x22 x23 x24 x25 x26 x27 x28 x29 x30 x31 x32 x33 x34 x35 x36 x37 x38 x39 x40 x41 x42 : Value) (h : Heap) :
    f40_k0 O L (.exit 0) [x0, x1, x2, x3, x4, x5, x6, x7, x8, x9, x10, x11, x12, x13, x14, x15, x16, x17, x18, x19, x20, x21, x22, x23, x24, x25, x26, x27, x28, x29, x30, x31, x32, x33, x34, x35, x36, x37, x38, x39, x40, x41, x42] h = f40_e0_0 O L x0 x1 x2 x3 x4 x5 x6 x7 x8 x9 x10 x11 x12 x13 x14 x15 x16 x17 x18 x19 x20 x21 x22 x23 x24 x25 x26 x27 x28 x29 x30 x31 x32 x33 x34 x35 x36 x37 x38 x39 x40 x41 x42 h := by kernel_rfl
noncomputable def f40_b0 (O : Oracle) (L : Loops (Value × Heap)) (k : Ex → K (Value × Heap)) (x0 x1 x2 x3 x4 x5 x6 x7 x8 x9 x10 x11 x12 x13 x14 x15 x16 x17 x18 x19 x20 x21 x22 x23 x24 x25 x26 x27 x28 x29 x30 x31 x32 x33 x34 x35 x36 x37 x38 x39 x40 x41 x42 : Value) (h : Heap) : Option (Value × Heap) :=
  ob ((M.ofOpt (bin Try.prog .lss 3 x24 x23)) h) fun v6 h6 =>
  iteV v6 (
  ob ((M.ofOpt (iAddr 1 x22 x24)) h6) fun v7 h7 =>
  ob ((ld1 v7) h7) fun v8 h8 =>
  ob ((M.ofOpt (nilChk x0)) h8) fun v9 h9 =>
  ob ((M.ofOpt (fAddr 0 v9)) h9) fun v10 h10 =>
  ob ((ld1 v10) h10) fun v11 h11 =>
  ob ((O (.func 47) [v11, v8]) h11) fun v12 h12 =>
  ob ((M.ofOpt (ext 0 v12)) h12) fun v13 h13 =>
  ob ((M.ofOpt (ext 1 v12)) h13) fun v14 h14 =>
  ob ((newB 50 [(.int .i64 0), (.int .i64 0), (.int .i64 0), (.int .u32 0)] .fix) h14) fun v15 h15 =>
  ob ((stN 4 v15 v13) h15) fun v16 h16 =>
  ob ((ldN 4 v15) h16) fun v17 h17 =>
  ob ((bldSlice 50 4 1 [(.int .i64 0), (.int .i64 0), (.int .i64 0), (.int .u32 0)] [(0, v17)]) h17) fun v18 h18 =>
  ob ((app 50 4 32 x9 v18) h18) fun v19 h19 =>
  ob ((M.ofOpt (bin Try.prog .add 3 x24 (.int .i64 1))) h19) fun v20 h20 =>
  k .normal [x0, x1, x2, x3, x4, x5, x6, x7, x8, v19, x10, v8, v15, v14, x14, x15, x16, x17, x18, x19, x20, x21, x22, x23, v20, v6, v7, v8, v12, x0, v9, v10, v11, v8, v12, v13, v14, x9, v17, v18, v19, v20, x42] h20) (
  k (.exit 0) [x0, x1, x2, x3, x4, x5, x6, x7, x8, x9, x10, x11, x12, x13, x14, x15, x16, x17, x18, x19, x20, x21, x22, x23, x24, v6, x26, x27, x28, x29, x30, x31, x32, x33, x34, x35, x36, x37, x38, x39, x40, x41, x42] h6)
theorem f40_b0_eq (O : Oracle) (L : Loops (Value × Heap)) (k : Ex → K (Value × Heap)) (x0 x1 x2 x3 x4 x5 x6 x7 x8 x9 x10 x11 x12 x13 x14 x15 x16 x17 x18 x19 x20 x21 x22 x23 x24 x25 x26 x27 x28 x29 x30 x31 x32 x33 x34 x35 x36 x37 x38 x39 x40 x41 x42 : Value) (h : Heap) :
    runCode Try.prog O L f40_c0 k [x0, x1, x2, x3, x4, x5, x6, x7, x8, x9, x10, x11, x12, x13, x14, x15, x16, x17, x18, x19, x20, x21, x22, x23, x24, x25, x26, x27, x28, x29, x30, x31, x32, x33, x34, x35, x36, x37, x38, x39, x40, x41, x42] h = f40_b0 O L k x0 x1 x2 x3 x4 x5 x6 x7 x8 x9 x10 x11 x12 x13 x14 x15 x16 x17 x18 x19 x20 x21 x22 x23 x24 x25 x26 x27 x28 x29 x30 x31 x32 x33 x34 x35 x36 x37 x38 x39 x40 x41 x42 h := by kernel_rfl
noncomputable def f40 (O : Oracle) (L : Loops (Value × Heap)) (a0 a1 a2 a3 : Value) (h : Heap) : Option (Value × Heap) :=
  ob ((M.ofOpt (nilChk a0)) h) fun v0 h0 =>
  ob ((M.ofOpt (fAddr 1 v0)) h0) fun v1 h1 =>
  ob ((ld1 v1) h1) fun v2 h2 =>
  ob ((M.ofOpt (bld Try.prog 82 [(0, a1), (1, a2), (2, a3)])) h2) fun v3 h3 =>
  ob ((mapGet (.str [true, true, true]) (.slice none 0 0) false v2 v3) h3) fun v4 h4 =>
  ob ((M.ofOpt (lenSl v4)) h4) fun v5 h5 =>
  L (runCode Try.prog O L f40_c0) (f40_k0 O L) [a0, a1, a2, a3, undef, undef, undef, undef, (.slice none 0 0), (.slice none 0 0), undef, undef, undef, undef, a0, v0, v1, v2, a1, a2, a3, v3, v4, v5, (.int .i64 0), undef, undef, undef, undef, undef, undef, undef, undef, undef, undef, undef, undef, undef, undef, undef, undef, undef, undef] h5
theorem f40_eq (O : Oracle) (L : Loops (Value × Heap)) (a0 a1 a2 a3 : Value) (h : Heap) :
    body Try.prog O L 40 [a0, a1, a2, a3] h = f40 O L a0 a1 a2 a3 h := by kernel_rfl

/-! 41: (*shunter/shunterref08.Rings).All; slots: [(r, 0), (in, 1), (out, 2), (lane, 3), (r, 4), (in, 5), (out, 6), (lane, 7), (out2, 9), (i, 10)] -/
noncomputable def f41_c0 : Code := sub [1, 1, 0, 1, 0, 0] (fbody Try.prog 41)
noncomputable def f41_k0 (O : Oracle) (L : Loops (Value × Heap)) : Ex → K (Value × Heap) := (blockK 0 (seqK Try.prog O L (sub [1, 1, 1] (fbody Try.prog 41)) (kRet Try.prog Try.f41)))
noncomputable def f41_e0_0 (O : Oracle) (L : Loops (Value × Heap)) (x0 x1 x2 x3 x4 x5 x6 x7 x8 x9 x10 x11 x12 x13 x14 x15 x16 x17 x18 x19 x20 x21 x22 x23 x24 x25 x26 x27 x28 x29 x30 x31 x32 x33 x34 x35 x36 x37 x38 x39 x40 x41 x42 x43 x44 x45 x46 x47 x48 x49 x50 x51 x52 x53 x54 x55 x56 x57 x58 x59 x60 x61 x62 x63 x64 x65 : Value) (h : Heap) : Option (Value × Heap) :=
  some (oneOf [x9], h)
theorem f41_e0_0_eq (O : Oracle) (L : Loops (Value × Heap)) (x0 x1 x2 x3 x4 x5 x6 x7 x8 x9 x10 x11 x12 x13 x14 x15 x16 x17 x18 x19 x20 x21 x22 x23 x24 x25 x26 x27 x28 x29 x30 x31 x32 x33 x34 x35 x36 x37 x38 x39 x40 x41 x42 x43 x44 x45 x46 x47 x48 x49 x50 x51 x52 x53 x54 x55 x56 x57 x58 x59 x60 x61 x62 x63 x64 x65 : Value) (h : Heap) :
    f41_k0 O L (.exit 0) [x0, x1, x2, x3, x4, x5, x6, x7, x8, x9, x10, x11, x12, x13, x14, x15, x16, x17, x18, x19, x20, x21, x22, x23, x24, x25, x26, x27, x28, x29, x30, x31, x32, x33, x34, x35, x36, x37, x38, x39, x40, x41, x42, x43, x44, x45, x46, x47, x48, x49, x50, x51, x52, x53, x54, x55, x56, x57, x58, x59, x60, x61, x62, x63, x64, x65] h = f41_e0_0 O L x0 x1 x2 x3 x4 x5 x6 x7 x8 x9 x10 x11 x12 x13 x14 x15 x16 x17 x18 x19 x20 x21 x22 x23 x24 x25 x26 x27 x28 x29 x30 x31 x32 x33 x34 x35 x36 x37 x38 x39 x40 x41 x42 x43 x44 x45 x46 x47 x48 x49 x50 x51 x52 x53 x54 x55 x56 x57 x58 x59 x60 x61 x62 x63 x64 x65 h := by kernel_rfl
noncomputable def f41_b0 (O : Oracle) (L : Loops (Value × Heap)) (k : Ex → K (Value × Heap)) (x0 x1 x2 x3 x4 x5 x6 x7 x8 x9 x10 x11 x12 x13 x14 x15 x16 x17 x18 x19 x20 x21 x22 x23 x24 x25 x26 x27 x28 x29 x30 x31 x32 x33 x34 x35 x36 x37 x38 x39 x40 x41 x42 x43 x44 x45 x46 x47 x48 x49 x50 x51 x52 x53 x54 x55 x56 x57 x58 x59 x60 x61 x62 x63 x64 x65 : Value) (h : Heap) : Option (Value × Heap) :=
  ob ((M.ofOpt (nilChk x0)) h) fun v0 h0 =>
  ob ((M.ofOpt (fAddr 3 v0)) h0) fun v1 h1 =>
  ob ((ld1 v1) h1) fun v2 h2 =>
  ob ((M.ofOpt (lenSl v2)) h2) fun v3 h3 =>
  ob ((M.ofOpt (bin Try.prog .lss 3 x10 v3)) h3) fun v4 h4 =>
  iteV v4 (
  ob ((M.ofOpt (nilChk x0)) h4) fun v5 h5 =>
  ob ((M.ofOpt (fAddr 3 v5)) h5) fun v6 h6 =>
  ob ((ld1 v6) h6) fun v7 h7 =>
  ob ((M.ofOpt (iAddr 7 v7 x10)) h7) fun v8 h8 =>
  ob ((M.ofOpt (fAddr 0 v8)) h8) fun v9 h9 =>
  ob ((ld1 v9) h9) fun v10 h10 =>
  ob ((M.ofOpt (bin Try.prog .eql 3 v10 x1)) h10) fun v11 h11 =>
  ob ((gd v11 true (M.ret x0)) h11) fun v12 h12 =>
  ob ((gd v11 true (M.ofOpt (nilChk v12))) h12) fun v13 h13 =>
  ob ((gd v11 true (M.ofOpt (fAddr 3 v13))) h13) fun v14 h14 =>
  ob ((gd v11 true (ld1 v14)) h14) fun v15 h15 =>
  ob ((gd v11 true (M.ret x10)) h15) fun v16 h16 =>
  ob ((gd v11 true (M.ofOpt (iAddr 7 v15 v16))) h16) fun v17 h17 =>
  ob ((gd v11 true (M.ofOpt (fAddr 1 v17))) h17) fun v18 h18 =>
  ob ((gd v11 true (ld1 v18)) h18) fun v19 h19 =>
  ob ((gd v11 true (M.ret x2)) h19) fun v20 h20 =>
  ob ((gd v11 true (M.ofOpt (bin Try.prog .eql 3 v19 v20))) h20) fun v21 h21 =>
  ob ((M.ofOpt (pick v11 v21 (.bool false))) h21) fun v22 h22 =>
  ob ((gd v22 true (M.ret x0)) h22) fun v23 h23 =>
  ob ((gd v22 true (M.ofOpt (nilChk v23))) h23) fun v24 h24 =>
  ob ((gd v22 true (M.ofOpt (fAddr 3 v24))) h24) fun v25 h25 =>
  ob ((gd v22 true (ld1 v25)) h25) fun v26 h26 =>
  ob ((gd v22 true (M.ret x10)) h26) fun v27 h27 =>
  ob ((gd v22 true (M.ofOpt (iAddr 7 v26 v27))) h27) fun v28 h28 =>
  ob ((gd v22 true (M.ofOpt (fAddr 2 v28))) h28) fun v29 h29 =>
  ob ((gd v22 true (ld1 v29)) h29) fun v30 h30 =>
  ob ((gd v22 true (M.ret x3)) h30) fun v31 h31 =>
  ob ((gd v22 true (M.ofOpt (bin Try.prog .eql 3 v30 v31))) h31) fun v32 h32 =>
  ob ((M.ofOpt (pick v22 v32 (.bool false))) h32) fun v33 h33 =>
  iteV v33 (
  ob ((M.ofOpt (nilChk x0)) h33) fun v34 h34 =>
  ob ((M.ofOpt (fAddr 3 v34)) h34) fun v35 h35 =>
  ob ((ld1 v35) h35) fun v36 h36 =>
  ob ((M.ofOpt (iAddr 7 v36 x10)) h36) fun v37 h37 =>
  ob ((M.ofOpt (fAddr 3 v37)) h37) fun v38 h38 =>
  ob ((ldN 4 v38) h38) fun v39 h39 =>
  ob ((bldSlice 50 4 1 [(.int .i64 0), (.int .i64 0), (.int .i64 0), (.int .u32 0)] [(0, v39)]) h39) fun v40 h40 =>
  ob ((app 50 4 32 x9 v40) h40) fun v41 h41 =>
  ob ((M.ofOpt (bin Try.prog .add 3 x10 (.int .i64 1))) h41) fun v42 h42 =>
  k .normal [x0, x1, x2, x3, x4, x5, x6, x7, x8, v41, v42, x10, x0, v0, v1, v2, v3, v4, x10, v42, x0, v5, v6, v7, x10, v8, v9, v10, x1, v11, v11, v12, v13, v14, v15, v16, v17, v18, v19, v20, v21, v22, v22, v23, v24, v25, v26, v27, v28, v29, v30, v31, v32, v33, x9, x0, v34, v35, v36, x10, v37, v38, v39, v40, v41, x65] h42) (
  ob ((M.ofOpt (bin Try.prog .add 3 x10 (.int .i64 1))) h33) fun v43 h43 =>
  k .normal [x0, x1, x2, x3, x4, x5, x6, x7, x8, x9, v43, x10, x0, v0, v1, v2, v3, v4, x10, v43, x0, v5, v6, v7, x10, v8, v9, v10, x1, v11, v11, v12, v13, v14, v15, v16, v17, v18, v19, v20, v21, v22, v22, v23, v24, v25, v26, v27, v28, v29, v30, v31, v32, v33, x54, x55, x56, x57, x58, x59, x60, x61, x62, x63, x64, x65] h43)) (
  k (.exit 0) [x0, x1, x2, x3, x4, x5, x6, x7, x8, x9, x10, x10, x0, v0, v1, v2, v3, v4, x18, x19, x20, x21, x22, x23, x24, x25, x26, x27, x28, x29, x30, x31, x32, x33, x34, x35, x36, x37, x38, x39, x40, x41, x42, x43, x44, x45, x46, x47, x48, x49, x50, x51, x52, x53, x54, x55, x56, x57, x58, x59, x60, x61, x62, x63, x64, x65] h4)
theorem f41_b0_eq (O : Oracle) (L : Loops (Value × Heap)) (k : Ex → K (Value × Heap)) (x0 x1 x2 x3 x4 x5 x6 x7 x8 x9 x10 x11 x12 x13 x14 x15 x16 x17 x18 x19 x20 x21 x22 x23 x24 x25 x26 x27 x28 x29 x30 x31 x32 x33 x34 x35 x36 x37 x38 x39 x40 x41 x42 x43 x44 x45 x46 x47 x48 x49 x50 x51 x52 x53 x54 x55 x56 x57 x58 x59 x60 x61 x62 x63 x64 x65 : Value) (h : Heap) :
    runCode Try.prog O L f41_c0 k [x0, x1, x2, x3, x4, x5, x6, x7, x8, x9, x10, x11, x12, x13, x14, x15, x16, x17, x18, x19, x20, x21, x22, x23, x24, x25, x26, x27, x28, x29, x30, x31, x32, x33, x34, x35, x36, x37, x38, x39, x40, x41, x42, x43, x44, x45, x46, x47, x48, x49, x50, x51, x52, x53, x54, x55, x56, x57, x58, x59, x60, x61, x62, x63, x64, x65] h = f41_b0 O L k x0 x1 x2 x3 x4 x5 x6 x7 x8 x9 x10 x11 x12 x13 x14 x15 x16 x17 x18 x19 x20 x21 x22 x23 x24 x25 x26 x27 x28 x29 x30 x31 x32 x33 x34 x35 x36 x37 x38 x39 x40 x41 x42 x43 x44 x45 x46 x47 x48 x49 x50 x51 x52 x53 x54 x55 x56 x57 x58 x59 x60 x61 x62 x63 x64 x65 h := by kernel_rfl
noncomputable def f41 (O : Oracle) (L : Loops (Value × Heap)) (a0 a1 a2 a3 : Value) (h : Heap) : Option (Value × Heap) :=
  L (runCode Try.prog O L f41_c0) (f41_k0 O L) [a0, a1, a2, a3, undef, undef, undef, undef, (.slice none 0 0), (.slice none 0 0), (.int .i64 0), undef, undef, undef, undef, undef, undef, undef, undef, undef, undef, undef, undef, undef, undef, undef, undef, undef, undef, undef, undef, undef, undef, undef, undef, undef, undef, undef, undef, undef, undef, undef, undef, undef, undef, undef, undef, undef, undef, undef, undef, undef, undef, undef, undef, undef, undef, undef, undef, undef, undef, undef, undef, undef, undef, undef] h
theorem f41_eq (O : Oracle) (L : Loops (Value × Heap)) (a0 a1 a2 a3 : Value) (h : Heap) :
    body Try.prog O L 41 [a0, a1, a2, a3] h = f41 O L a0 a1 a2 a3 h := by kernel_rfl

/-! 46: shunter/pool.New; slots: [(slots, 0), (slots, 1), (p, 3), (i, 4)] -/
noncomputable def f46_c0 : Code := sub [1, 1, 1, 0, 1, 0, 0] (fbody Try.prog 46)
noncomputable def f46_k0 (O : Oracle) (L : Loops (Value × Heap)) : Ex → K (Value × Heap) := (blockK 0 (seqK Try.prog O L (sub [1, 1, 1, 1] (fbody Try.prog 46)) (kRet Try.prog Try.f46)))
noncomputable def f46_e0_0 (O : Oracle) (L : Loops (Value × Heap)) (x0 x1 x2 x3 x4 x5 x6 x7 x8 x9 x10 x11 x12 x13 x14 x15 x16 x17 x18 x19 x20 x21 x22 x23 x24 x25 x26 x27 x28 x29 x30 x31 x32 x33 x34 x35 x36 x37 x38 x39 x40 x41 x42 : Value) (h : Heap) : Option (Value × Heap) :=
  ob ((M.ofOpt (nilChk x3)) h) fun v20 h20 =>
  ob ((M.ofOpt (fAddr 0 v20)) h20) fun v21 h21 =>
  ob ((ld1 v21) h21) fun v22 h22 =>
  ob ((M.ofOpt (bin Try.prog .sub 3 x0 (.int .i64 1))) h22) fun v23 h23 =>
  ob ((M.ofOpt (iAddr 2 v22 v23)) h23) fun v24 h24 =>
  ob ((M.ofOpt (fAddr 1 v24)) h24) fun v25 h25 =>
  ob ((stN 1 v25 (.int .i64 (-1))) h25) fun v26 h26 =>
  some (oneOf [x3], h26)
theorem f46_e0_0_eq (O : Oracle) (L : Loops (Value × Heap)) (x0 x1 x2 x3 x4 x5 x6 x7 x8 x9 x10 x11 x12 x13 x14 x15 x16 x17 x18 x19 x20 x21 x22 x23 x24 x25 x26 x27 x28 x29 x30 x31 x32 x33 x34 x35 x36 x37 x38 x39 x40 x41 x42 : Value) (h : Heap) :
    f46_k0 O L (.exit 0) [x0, x1, x2, x3, x4, x5, x6, x7, x8, x9, x10, x11, x12, x13, x14, x15, x16, x17, x18, x19, x20, x21, x22, x23, x24, x25, x26, x27, x28, x29, x30, x31, x32, x33, x34, x35, x36, x37, x38, x39, x40, x41, x42] h = f46_e0_0 O L x0 x1 x2 x3 x4 x5 x6 x7 x8 x9 x10 x11 x12 x13 x14 x15 x16 x17 x18 x19 x20 x21 x22 x23 x24 x25 x26 x27 x28 x29 x30 x31 x32 x33 x34 x35 x36 x37 x38 x39 x40 x41 x42 h := by kernel_rfl
noncomputable def f46_b0 (O : Oracle) (L : Loops (Value × Heap)) (k : Ex → K (Value × Heap)) (x0 x1 x2 x3 x4 x5 x6 x7 x8 x9 x10 x11 x12 x13 x14 x15 x16 x17 x18 x19 x20 x21 x22 x23 x24 x25 x26 x27 x28 x29 x30 x31 x32 x33 x34 x35 x36 x37 x38 x39 x40 x41 x42 : Value) (h : Heap) : Option (Value × Heap) :=
  ob ((M.ofOpt (bin Try.prog .lss 3 x21 x20)) h) fun v11 h11 =>
  iteV v11 (
  ob ((M.ofOpt (nilChk x3)) h11) fun v12 h12 =>
  ob ((M.ofOpt (fAddr 0 v12)) h12) fun v13 h13 =>
  ob ((ld1 v13) h13) fun v14 h14 =>
  ob ((M.ofOpt (bin Try.prog .add 3 x21 (.int .i64 1))) h14) fun v15 h15 =>
  ob ((M.ofOpt (iAddr 2 v14 x21)) h15) fun v16 h16 =>
  ob ((M.ofOpt (fAddr 1 v16)) h16) fun v17 h17 =>
  ob ((stN 1 v17 v15) h17) fun v18 h18 =>
  ob ((M.ofOpt (bin Try.prog .add 3 x21 (.int .i64 1))) h18) fun v19 h19 =>
  k .normal [x0, x1, x2, x3, x21, x5, x6, x7, x8, x9, x10, x11, x12, x13, x14, x15, x16, x17, x18, x19, x20, v19, v11, x21, x3, v12, v13, v14, x21, x21, v15, v16, v17, v19, x34, x35, x36, x37, x38, x39, x40, x41, x42] h19) (
  k (.exit 0) [x0, x1, x2, x3, x4, x5, x6, x7, x8, x9, x10, x11, x12, x13, x14, x15, x16, x17, x18, x19, x20, x21, v11, x23, x24, x25, x26, x27, x28, x29, x30, x31, x32, x33, x34, x35, x36, x37, x38, x39, x40, x41, x42] h11)
theorem f46_b0_eq (O : Oracle) (L : Loops (Value × Heap)) (k : Ex → K (Value × Heap)) (x0 x1 x2 x3 x4 x5 x6 x7 x8 x9 x10 x11 x12 x13 x14 x15 x16 x17 x18 x19 x20 x21 x22 x23 x24 x25 x26 x27 x28 x29 x30 x31 x32 x33 x34 x35 x36 x37 x38 x39 x40 x41 x42 : Value) (h : Heap) :
    runCode Try.prog O L f46_c0 k [x0, x1, x2, x3, x4, x5, x6, x7, x8, x9, x10, x11, x12, x13, x14, x15, x16, x17, x18, x19, x20, x21, x22, x23, x24, x25, x26, x27, x28, x29, x30, x31, x32, x33, x34, x35, x36, x37, x38, x39, x40, x41, x42] h = f46_b0 O L k x0 x1 x2 x3 x4 x5 x6 x7 x8 x9 x10 x11 x12 x13 x14 x15 x16 x17 x18 x19 x20 x21 x22 x23 x24 x25 x26 x27 x28 x29 x30 x31 x32 x33 x34 x35 x36 x37 x38 x39 x40 x41 x42 h := by kernel_rfl
noncomputable def f46 (O : Oracle) (L : Loops (Value × Heap)) (a0 : Value) (h : Heap) : Option (Value × Heap) :=
  ob ((M.ofOpt (bin Try.prog .lss 3 a0 (.int .i64 1))) h) fun v0 h0 =>
  ob ((gd v0 false (M.ret a0)) h0) fun v1 h1 =>
  ob ((gd v0 false (M.ofOpt (bin Try.prog .gtr 3 v1 (.int .i64 200)))) h1) fun v2 h2 =>
  ob ((M.ofOpt (pick v0 (.bool true) v2)) h2) fun v3 h3 =>
  iteV v3 (
  some (oneOf [(.pointer none)], h3)) (
  ob ((mkSlice 97 2 16 [(.pointer none), (.int .i64 0)] a0 a0) h3) fun v4 h4 =>
  ob ((M.ofOpt (bld Try.prog 94 [(0, v4), (2, a0)])) h4) fun v5 h5 =>
  ob ((newB 94 (Value.cells v5).toList .fix) h5) fun v6 h6 =>
  ob ((M.ofOpt (nilChk v6)) h6) fun v7 h7 =>
  ob ((M.ofOpt (fAddr 0 v7)) h7) fun v8 h8 =>
  ob ((ld1 v8) h8) fun v9 h9 =>
  ob ((M.ofOpt (lenSl v9)) h9) fun v10 h10 =>
  L (runCode Try.prog O L f46_c0) (f46_k0 O L) [a0, undef, (.pointer none), v6, undef, a0, v0, v0, v1, v2, v3, a0, v4, a0, v5, v6, v6, v7, v8, v9, v10, (.int .i64 0), undef, undef, undef, undef, undef, undef, undef, undef, undef, undef, undef, undef, undef, undef, undef, undef, undef, undef, undef, undef, undef] h10)
theorem f46_eq (O : Oracle) (L : Loops (Value × Heap)) (a0 : Value) (h : Heap) :
    body Try.prog O L 46 [a0] h = f46 O L a0 h := by kernel_rfl

/-! 47: (*shunter/pool.Pool).Get; slots: [(p, 0), (i, 1), (p, 2), (i, 3), (s, 6)] -/
noncomputable def f47 (O : Oracle) (L : Loops (Value × Heap)) (a0 a1 : Value) (h : Heap) : Option (Value × Heap) :=
  ob ((newB 50 [(.int .i64 0), (.int .i64 0), (.int .i64 0), (.int .u32 0)] .fix) h) fun v0 h0 =>
  ob ((O (.func 54) [a0, a1]) h0) fun v1 h1 =>
  ob ((M.ofOpt (bin Try.prog .neq 98 v1 (.pointer none))) h1) fun v2 h2 =>
  iteV v2 (
  ob ((M.ofOpt (nilChk v1)) h2) fun v3 h3 =>
  ob ((M.ofOpt (fAddr 0 v3)) h3) fun v4 h4 =>
  ob ((ld1 v4) h4) fun v5 h5 =>
  ob ((M.ofOpt (nilChk v5)) h5) fun v6 h6 =>
  ob ((ldN 4 v6) h6) fun v7 h7 =>
  ob ((stN 4 v0 v7) h7) fun v8 h8 =>
  ob ((ldN 4 v0) h8) fun w9 _ => some (oneOf [w9, (.bool true)], h8)) (
  ob ((M.ofOpt (bld Try.prog 50 [])) h2) fun v10 h10 =>
  ob ((stN 4 v0 v10) h10) fun v11 h11 =>
  ob ((ldN 4 v0) h11) fun w12 _ => some (oneOf [w12, (.bool false)], h11))
theorem f47_eq (O : Oracle) (L : Loops (Value × Heap)) (a0 a1 : Value) (h : Heap) :
    body Try.prog O L 47 [a0, a1] h = f47 O L a0 a1 h := by kernel_rfl

/-! 48: (*shunter/rings.Rings).right; slots: [(r, 0), (w, 1), (r, 2), (w, 3)] -/
noncomputable def f48 (O : Oracle) (L : Loops (Value × Heap)) (a0 a1 : Value) (h : Heap) : Option (Value × Heap) :=
  ob ((newB 82 (Value.cells a1).toList .fix) h) fun v0 h0 =>
  ob ((M.ofOpt (fAddr 0 v0)) h0) fun v1 h1 =>
  ob ((ld1 v1) h1) fun v2 h2 =>
  ifB (true) (
  ob ((M.ofOpt (fAddr 1 v0)) h2) fun v3 h3 =>
  ob ((ld1 v3) h3) fun v4 h4 =>
  ifB (true) (
  ob ((M.ofOpt (fAddr 2 v0)) h4) fun v5 h5 =>
  ob ((ld1 v5) h5) fun v6 h6 =>
  ifB (true) (
  ob ((M.ofOpt (minmax Try.prog false [v2, v4, v6])) h6) fun v7 h7 =>
  ob ((M.ofOpt (bin Try.prog .geq 3 v7 (.int .i64 0))) h7) fun v8 h8 =>
  ob ((gd v8 true (M.ofOpt (fAddr 0 v0))) h8) fun v9 h9 =>
  ob ((gd v8 true (ld1 v9)) h9) fun v10 h10 =>
  ifB (true) (
  ob ((gd v8 true (M.ofOpt (fAddr 1 v0))) h10) fun v11 h11 =>
  ob ((gd v8 true (ld1 v11)) h11) fun v12 h12 =>
  ifB (true) (
  ob ((gd v8 true (M.ofOpt (minmax Try.prog true [v10, v12]))) h12) fun v13 h13 =>
  ob ((gd v8 true (M.ret a0)) h13) fun v14 h14 =>
  ob ((gd v8 true (M.ofOpt (nilChk v14))) h14) fun v15 h15 =>
  ob ((gd v8 true (M.ofOpt (fAddr 2 v15))) h15) fun v16 h16 =>
  ob ((gd v8 true (ld1 v16)) h16) fun v17 h17 =>
  ifB (true) (
  ob ((gd v8 true (M.ofOpt (bin Try.prog .lss 3 v13 v17))) h17) fun v18 h18 =>
  ob ((M.ofOpt (pick v8 v18 (.bool false))) h18) fun v19 h19 =>
  ob ((gd v19 true (M.ofOpt (fAddr 2 v0))) h19) fun v20 h20 =>
  ob ((gd v19 true (ld1 v20)) h20) fun v21 h21 =>
  ifB (true) (
  ob ((gd v19 true (M.ret a0)) h21) fun v22 h22 =>
  ob ((gd v19 true (M.ofOpt (nilChk v22))) h22) fun v23 h23 =>
  ob ((gd v19 true (M.ofOpt (fAddr 3 v23))) h23) fun v24 h24 =>
  ob ((gd v19 true (ld1 v24)) h24) fun v25 h25 =>
  ifB (true) (
  ob ((gd v19 true (M.ofOpt (bin Try.prog .lss 3 v21 v25))) h25) fun v26 h26 =>
  ob ((M.ofOpt (pick v19 v26 (.bool false))) h26) fun v27 h27 =>
  some (oneOf [v27], h27)))))))))
theorem f48_eq (O : Oracle) (L : Loops (Value × Heap)) (a0 a1 : Value) (h : Heap) :
    body Try.prog O L 48 [a0, a1] h = f48 O L a0 a1 h := by kernel_rfl

/-! 49: (*shunter/pool.Pool).Put; slots: [(p, 0), (x, 1), (p, 2), (x, 3), (k, 6), (s, 7)] -/
noncomputable def f49 (O : Oracle) (L : Loops (Value × Heap)) (a0 a1 : Value) (h : Heap) : Option (Value × Heap) :=
  ob ((newB 50 (Value.cells a1).toList .fix) h) fun v0 h0 =>
  ob ((M.ofOpt (nilChk a0)) h0) fun v1 h1 =>
  ob ((M.ofOpt (fAddr 1 v1)) h1) fun v2 h2 =>
  ob ((ld1 v2) h2) fun v3 h3 =>
  ob ((M.ofOpt (bin Try.prog .eql 3 v3 (.int .i64 (-1)))) h3) fun v4 h4 =>
  iteV v4 (
  some (oneOf [(.int .i64 0), (.bool false)], h4)) (
  ob ((M.ofOpt (nilChk a0)) h4) fun v5 h5 =>
  ob ((M.ofOpt (fAddr 0 v5)) h5) fun v6 h6 =>
  ob ((ld1 v6) h6) fun v7 h7 =>
  ob ((M.ofOpt (iAddr 2 v7 v3)) h7) fun v8 h8 =>
  ob ((M.ofOpt (nilChk v8)) h8) fun v9 h9 =>
  ob ((M.ofOpt (fAddr 1 v9)) h9) fun v10 h10 =>
  ob ((ld1 v10) h10) fun v11 h11 =>
  ob ((M.ofOpt (nilChk v8)) h11) fun v12 h12 =>
  ob ((M.ofOpt (fAddr 0 v12)) h12) fun v13 h13 =>
  ob ((stN 1 v13 v0) h13) fun v14 h14 =>
  ob ((M.ofOpt (nilChk a0)) h14) fun v15 h15 =>
  ob ((M.ofOpt (fAddr 1 v15)) h15) fun v16 h16 =>
  ob ((stN 1 v16 v11) h16) fun v17 h17 =>
  ob ((M.ofOpt (nilChk a0)) h17) fun v18 h18 =>
  ob ((M.ofOpt (fAddr 2 v18)) h18) fun v19 h19 =>
  ob ((ld1 v19) h19) fun v20 h20 =>
  ob ((M.ofOpt (bin Try.prog .sub 3 v20 (.int .i64 1))) h20) fun v21 h21 =>
  ob ((M.ofOpt (nilChk a0)) h21) fun v22 h22 =>
  ob ((M.ofOpt (fAddr 2 v22)) h22) fun v23 h23 =>
  ob ((stN 1 v23 v21) h23) fun v24 h24 =>
  some (oneOf [v3, (.bool true)], h24))
theorem f49_eq (O : Oracle) (L : Loops (Value × Heap)) (a0 a1 : Value) (h : Heap) :
    body Try.prog O L 49 [a0, a1] h = f49 O L a0 a1 h := by kernel_rfl

/-! 50: (*shunter/pool.Pool).Drop; slots: [(p, 0), (i, 1), (p, 2), (i, 3), (s, 5)] -/
noncomputable def f50 (O : Oracle) (L : Loops (Value × Heap)) (a0 a1 : Value) (h : Heap) : Option (Value × Heap) :=
  ob ((O (.func 54) [a0, a1]) h) fun v0 h0 =>
  ob ((M.ofOpt (bin Try.prog .eql 98 v0 (.pointer none))) h0) fun v1 h1 =>
  iteV v1 (
  some (oneOf [(.bool false)], h1)) (
  ob ((M.ofOpt (nilChk a0)) h1) fun v2 h2 =>
  ob ((M.ofOpt (fAddr 1 v2)) h2) fun v3 h3 =>
  ob ((ld1 v3) h3) fun v4 h4 =>
  ob ((M.ofOpt (nilChk v0)) h4) fun v5 h5 =>
  ob ((M.ofOpt (fAddr 0 v5)) h5) fun v6 h6 =>
  ob ((stN 1 v6 (.pointer none)) h6) fun v7 h7 =>
  ob ((M.ofOpt (nilChk v0)) h7) fun v8 h8 =>
  ob ((M.ofOpt (fAddr 1 v8)) h8) fun v9 h9 =>
  ob ((stN 1 v9 v4) h9) fun v10 h10 =>
  ob ((M.ofOpt (nilChk a0)) h10) fun v11 h11 =>
  ob ((M.ofOpt (fAddr 1 v11)) h11) fun v12 h12 =>
  ob ((stN 1 v12 a1) h12) fun v13 h13 =>
  ob ((M.ofOpt (nilChk a0)) h13) fun v14 h14 =>
  ob ((M.ofOpt (fAddr 2 v14)) h14) fun v15 h15 =>
  ob ((ld1 v15) h15) fun v16 h16 =>
  ob ((M.ofOpt (bin Try.prog .add 3 v16 (.int .i64 1))) h16) fun v17 h17 =>
  ob ((M.ofOpt (nilChk a0)) h17) fun v18 h18 =>
  ob ((M.ofOpt (fAddr 2 v18)) h18) fun v19 h19 =>
  ob ((stN 1 v19 v17) h19) fun v20 h20 =>
  some (oneOf [(.bool true)], h20))
theorem f50_eq (O : Oracle) (L : Loops (Value × Heap)) (a0 a1 : Value) (h : Heap) :
    body Try.prog O L 50 [a0, a1] h = f50 O L a0 a1 h := by kernel_rfl

/-! 51: (*shunter/shunterref08.Rings).Pop; slots: [(r, 0), (in, 1), (out, 2), (lane, 3), (r, 4), (in, 5), (out, 6), (lane, 7), (i, 10), (x, 11), (l, 12)] -/
noncomputable def f51 (O : Oracle) (L : Loops (Value × Heap)) (a0 a1 a2 a3 : Value) (h : Heap) : Option (Value × Heap) :=
  ob ((newB 50 [(.int .i64 0), (.int .i64 0), (.int .i64 0), (.int .u32 0)] .fix) h) fun v0 h0 =>
  ob ((O (.func 55) [a0, a1, a2, a3]) h0) fun v1 h1 =>
  ob ((M.ofOpt (bin Try.prog .lss 3 v1 (.int .i64 0))) h1) fun v2 h2 =>
  iteV v2 (
  ob ((M.ofOpt (bld Try.prog 50 [])) h2) fun v3 h3 =>
  ob ((stN 4 v0 v3) h3) fun v4 h4 =>
  ob ((ldN 4 v0) h4) fun w5 _ => some (oneOf [w5, (.bool false)], h4)) (
  ob ((M.ofOpt (nilChk a0)) h2) fun v6 h6 =>
  ob ((M.ofOpt (fAddr 3 v6)) h6) fun v7 h7 =>
  ob ((ld1 v7) h7) fun v8 h8 =>
  ob ((M.ofOpt (iAddr 7 v8 v1)) h8) fun v9 h9 =>
  ob ((M.ofOpt (fAddr 3 v9)) h9) fun v10 h10 =>
  ob ((ldN 4 v10) h10) fun v11 h11 =>
  ob ((newB 50 [(.int .i64 0), (.int .i64 0), (.int .i64 0), (.int .u32 0)] .fix) h11) fun v12 h12 =>
  ob ((stN 4 v12 v11) h12) fun v13 h13 =>
  ob ((M.ofOpt (nilChk a0)) h13) fun v14 h14 =>
  ob ((M.ofOpt (fAddr 3 v14)) h14) fun v15 h15 =>
  ob ((ld1 v15) h15) fun v16 h16 =>
  ob ((slc Try.prog 7 v16 none (some v1) none) h16) fun v17 h17 =>
  ob ((app 91 7 56 (.slice none 0 0) v17) h17) fun v18 h18 =>
  ob ((M.ofOpt (nilChk a0)) h18) fun v19 h19 =>
  ob ((M.ofOpt (fAddr 3 v19)) h19) fun v20 h20 =>
  ob ((ld1 v20) h20) fun v21 h21 =>
  ob ((M.ofOpt (bin Try.prog .add 3 v1 (.int .i64 1))) h21) fun v22 h22 =>
  ob ((slc Try.prog 7 v21 (some v22) none none) h22) fun v23 h23 =>
  ob ((app 91 7 56 v18 v23) h23) fun v24 h24 =>
  ob ((M.ofOpt (nilChk a0)) h24) fun v25 h25 =>
  ob ((M.ofOpt (fAddr 3 v25)) h25) fun v26 h26 =>
  ob ((stN 1 v26 v24) h26) fun v27 h27 =>
  ob ((ldN 4 v12) h27) fun v28 h28 =>
  ob ((stN 4 v0 v28) h28) fun v29 h29 =>
  ob ((ldN 4 v0) h29) fun w30 _ => some (oneOf [w30, (.bool true)], h29))
theorem f51_eq (O : Oracle) (L : Loops (Value × Heap)) (a0 a1 a2 a3 : Value) (h : Heap) :
    body Try.prog O L 51 [a0, a1, a2, a3] h = f51 O L a0 a1 a2 a3 h := by kernel_rfl

/-! 52: (*shunter/shunterref08.Rings).Head; slots: [(r, 0), (in, 1), (out, 2), (lane, 3), (r, 4), (in, 5), (out, 6), (lane, 7), (i, 10)] -/
noncomputable def f52 (O : Oracle) (L : Loops (Value × Heap)) (a0 a1 a2 a3 : Value) (h : Heap) : Option (Value × Heap) :=
  ob ((newB 50 [(.int .i64 0), (.int .i64 0), (.int .i64 0), (.int .u32 0)] .fix) h) fun v0 h0 =>
  ob ((O (.func 55) [a0, a1, a2, a3]) h0) fun v1 h1 =>
  ob ((M.ofOpt (bin Try.prog .lss 3 v1 (.int .i64 0))) h1) fun v2 h2 =>
  iteV v2 (
  ob ((M.ofOpt (bld Try.prog 50 [])) h2) fun v3 h3 =>
  ob ((stN 4 v0 v3) h3) fun v4 h4 =>
  ob ((ldN 4 v0) h4) fun w5 _ => some (oneOf [w5, (.bool false)], h4)) (
  ob ((M.ofOpt (nilChk a0)) h2) fun v6 h6 =>
  ob ((M.ofOpt (fAddr 3 v6)) h6) fun v7 h7 =>
  ob ((ld1 v7) h7) fun v8 h8 =>
  ob ((M.ofOpt (iAddr 7 v8 v1)) h8) fun v9 h9 =>
  ob ((M.ofOpt (fAddr 3 v9)) h9) fun v10 h10 =>
  ob ((ldN 4 v10) h10) fun v11 h11 =>
  ob ((stN 4 v0 v11) h11) fun v12 h12 =>
  ob ((ldN 4 v0) h12) fun w13 _ => some (oneOf [w13, (.bool true)], h12))
theorem f52_eq (O : Oracle) (L : Loops (Value × Heap)) (a0 a1 a2 a3 : Value) (h : Heap) :
    body Try.prog O L 52 [a0, a1, a2, a3] h = f52 O L a0 a1 a2 a3 h := by kernel_rfl

/-! 53: (*shunter/shunterref08.Rings).Push; slots: [(r, 0), (in, 1), (out, 2), (lane, 3), (x, 4), (r, 5), (in, 6), (out, 7), (lane, 8), (x, 9)] -/
noncomputable def f53 (O : Oracle) (L : Loops (Value × Heap)) (a0 a1 a2 a3 a4 : Value) (h : Heap) : Option (Value × Heap) :=
  ob ((newB 50 (Value.cells a4).toList .fix) h) fun v0 h0 =>
  ob ((M.ofOpt (bin Try.prog .lss 3 a1 (.int .i64 0))) h0) fun v1 h1 =>
  ob ((gd v1 false (M.ret a1)) h1) fun v2 h2 =>
  ob ((gd v1 false (M.ret a0)) h2) fun v3 h3 =>
  ob ((gd v1 false (M.ofOpt (nilChk v3))) h3) fun v4 h4 =>
  ob ((gd v1 false (M.ofOpt (fAddr 0 v4))) h4) fun v5 h5 =>
  ob ((gd v1 false (ld1 v5)) h5) fun v6 h6 =>
  ifB (true) (
  ob ((gd v1 false (M.ofOpt (bin Try.prog .geq 3 v2 v6))) h6) fun v7 h7 =>
  ob ((M.ofOpt (pick v1 (.bool true) v7)) h7) fun v8 h8 =>
  ob ((gd v8 false (M.ret a2)) h8) fun v9 h9 =>
  ob ((gd v8 false (M.ofOpt (bin Try.prog .lss 3 v9 (.int .i64 0)))) h9) fun v10 h10 =>
  ob ((M.ofOpt (pick v8 (.bool true) v10)) h10) fun v11 h11 =>
  ob ((gd v11 false (M.ret a2)) h11) fun v12 h12 =>
  ob ((gd v11 false (M.ret a0)) h12) fun v13 h13 =>
  ob ((gd v11 false (M.ofOpt (nilChk v13))) h13) fun v14 h14 =>
  ob ((gd v11 false (M.ofOpt (fAddr 0 v14))) h14) fun v15 h15 =>
  ob ((gd v11 false (ld1 v15)) h15) fun v16 h16 =>
  ifB (true) (
  ob ((gd v11 false (M.ofOpt (bin Try.prog .geq 3 v12 v16))) h16) fun v17 h17 =>
  ob ((M.ofOpt (pick v11 (.bool true) v17)) h17) fun v18 h18 =>
  ob ((gd v18 false (M.ret a3)) h18) fun v19 h19 =>
  ob ((gd v18 false (M.ofOpt (bin Try.prog .lss 3 v19 (.int .i64 0)))) h19) fun v20 h20 =>
  ob ((M.ofOpt (pick v18 (.bool true) v20)) h20) fun v21 h21 =>
  ob ((gd v21 false (M.ret a3)) h21) fun v22 h22 =>
  ob ((gd v21 false (M.ret a0)) h22) fun v23 h23 =>
  ob ((gd v21 false (M.ofOpt (nilChk v23))) h23) fun v24 h24 =>
  ob ((gd v21 false (M.ofOpt (fAddr 1 v24))) h24) fun v25 h25 =>
  ob ((gd v21 false (ld1 v25)) h25) fun v26 h26 =>
  ifB (true) (
  ob ((gd v21 false (M.ofOpt (bin Try.prog .geq 3 v22 v26))) h26) fun v27 h27 =>
  ob ((M.ofOpt (pick v21 (.bool true) v27)) h27) fun v28 h28 =>
  ob ((gd v28 false (M.ret a0)) h28) fun v29 h29 =>
  ob ((gd v28 false (M.ofOpt (nilChk v29))) h29) fun v30 h30 =>
  ob ((gd v28 false (M.ofOpt (fAddr 3 v30))) h30) fun v31 h31 =>
  ob ((gd v28 false (ld1 v31)) h31) fun v32 h32 =>
  ifB (true) (
  ob ((gd v28 false (M.ofOpt (lenSl v32))) h32) fun v33 h33 =>
  ob ((gd v28 false (M.ret a0)) h33) fun v34 h34 =>
  ob ((gd v28 false (M.ofOpt (nilChk v34))) h34) fun v35 h35 =>
  ob ((gd v28 false (M.ofOpt (fAddr 2 v35))) h35) fun v36 h36 =>
  ob ((gd v28 false (ld1 v36)) h36) fun v37 h37 =>
  ifB (true) (
  ob ((gd v28 false (M.ofOpt (bin Try.prog .geq 3 v33 v37))) h37) fun v38 h38 =>
  ob ((M.ofOpt (pick v28 (.bool true) v38)) h38) fun v39 h39 =>
  iteV v39 (
  some (oneOf [(.bool false)], h39)) (
  ob ((M.ofOpt (nilChk a0)) h39) fun v40 h40 =>
  ob ((M.ofOpt (fAddr 3 v40)) h40) fun v41 h41 =>
  ob ((ld1 v41) h41) fun v42 h42 =>
  ifB (true) (
  ob ((ldN 4 v0) h42) fun v43 h43 =>
  ifB (true) (
  ob ((M.ofOpt (bld Try.prog 91 [(0, a1), (1, a2), (2, a3), (3, v43)])) h43) fun v44 h44 =>
  ob ((bldSlice 91 7 1 [(.int .i64 0), (.int .i64 0), (.int .i64 0), (.int .i64 0), (.int .i64 0), (.int .i64 0), (.int .u32 0)] [(0, v44)]) h44) fun v45 h45 =>
  ob ((app 91 7 56 v42 v45) h45) fun v46 h46 =>
  ifB (true) (
  ob ((M.ofOpt (nilChk a0)) h46) fun v47 h47 =>
  ob ((M.ofOpt (fAddr 3 v47)) h47) fun v48 h48 =>
  ob ((stN 1 v48 v46) h48) fun v49 h49 =>
  ifB (true) (
  some (oneOf [(.bool true)], h49)))))))))))
theorem f53_eq (O : Oracle) (L : Loops (Value × Heap)) (a0 a1 a2 a3 a4 : Value) (h : Heap) :
    body Try.prog O L 53 [a0, a1, a2, a3, a4] h = f53 O L a0 a1 a2 a3 a4 h := by kernel_rfl

/-! 54: (*shunter/pool.Pool).at; slots: [(p, 0), (i, 1), (p, 2), (i, 3)] -/
noncomputable def f54 (O : Oracle) (L : Loops (Value × Heap)) (a0 a1 : Value) (h : Heap) : Option (Value × Heap) :=
  ob ((M.ofOpt (bin Try.prog .lss 3 a1 (.int .i64 0))) h) fun v0 h0 =>
  ob ((gd v0 false (M.ret a1)) h0) fun v1 h1 =>
  ob ((gd v0 false (M.ret a0)) h1) fun v2 h2 =>
  ob ((gd v0 false (M.ofOpt (nilChk v2))) h2) fun v3 h3 =>
  ob ((gd v0 false (M.ofOpt (fAddr 0 v3))) h3) fun v4 h4 =>
  ob ((gd v0 false (ld1 v4)) h4) fun v5 h5 =>
  ob ((gd v0 false (M.ofOpt (lenSl v5))) h5) fun v6 h6 =>
  ob ((gd v0 false (M.ofOpt (bin Try.prog .geq 3 v1 v6))) h6) fun v7 h7 =>
  ob ((M.ofOpt (pick v0 (.bool true) v7)) h7) fun v8 h8 =>
  ob ((gd v8 false (M.ret a0)) h8) fun v9 h9 =>
  ob ((gd v8 false (M.ofOpt (nilChk v9))) h9) fun v10 h10 =>
  ob ((gd v8 false (M.ofOpt (fAddr 0 v10))) h10) fun v11 h11 =>
  ob ((gd v8 false (ld1 v11)) h11) fun v12 h12 =>
  ob ((gd v8 false (M.ret a1)) h12) fun v13 h13 =>
  ob ((gd v8 false (M.ofOpt (iAddr 2 v12 v13))) h13) fun v14 h14 =>
  ob ((gd v8 false (M.ofOpt (fAddr 0 v14))) h14) fun v15 h15 =>
  ob ((gd v8 false (ld1 v15)) h15) fun v16 h16 =>
  ob ((gd v8 false (M.ofOpt (bin Try.prog .eql 95 v16 (.pointer none)))) h16) fun v17 h17 =>
  ob ((M.ofOpt (pick v8 (.bool true) v17)) h17) fun v18 h18 =>
  iteV v18 (
  some (oneOf [(.pointer none)], h18)) (
  ob ((M.ofOpt (nilChk a0)) h18) fun v19 h19 =>
  ob ((M.ofOpt (fAddr 0 v19)) h19) fun v20 h20 =>
  ob ((ld1 v20) h20) fun v21 h21 =>
  ob ((M.ofOpt (iAddr 2 v21 a1)) h21) fun v22 h22 =>
  some (oneOf [v22], h22))
theorem f54_eq (O : Oracle) (L : Loops (Value × Heap)) (a0 a1 : Value) (h : Heap) :
    body Try.prog O L 54 [a0, a1] h = f54 O L a0 a1 h := by kernel_rfl

/-! 55: (*shunter/shunterref08.Rings).first; slots: [(r, 0), (in, 1), (out, 2), (lane, 3), (r, 4), (in, 5), (out, 6), (lane, 7), (i, 9)] -/
noncomputable def f55_c0 : Code := sub [1, 0, 1, 0, 0] (fbody Try.prog 55)
noncomputable def f55_k0 (O : Oracle) (L : Loops (Value × Heap)) : Ex → K (Value × Heap) := (blockK 0 (seqK Try.prog O L (sub [1, 1] (fbody Try.prog 55)) (kRet Try.prog Try.f55)))
noncomputable def f55_e0_0 (O : Oracle) (L : Loops (Value × Heap)) (x0 x1 x2 x3 x4 x5 x6 x7 x8 x9 x10 x11 x12 x13 x14 x15 x16 x17 x18 x19 x20 x21 x22 x23 x24 x25 x26 x27 x28 x29 x30 x31 x32 x33 x34 x35 x36 x37 x38 x39 x40 x41 x42 x43 x44 x45 x46 x47 x48 x49 x50 x51 x52 x53 : Value) (h : Heap) : Option (Value × Heap) :=
  some (oneOf [(.int .i64 (-1))], h)
theorem f55_e0_0_eq (O : Oracle) (L : Loops (Value × Heap)) (x0 x1 x2 x3 x4 x5 x6 x7 x8 x9 x10 x11 x12 x13 x14 x15 x16 x17 x18 x19 x20 x21 x22 x23 x24 x25 x26 x27 x28 x29 x30 x31 x32 x33 x34 x35 x36 x37 x38 x39 x40 x41 x42 x43 x44 x45 x46 x47 x48 x49 x50 x51 x52 x53 : Value) (h : Heap) :
    f55_k0 O L (.exit 0) [x0, x1, x2, x3, x4, x5, x6, x7, x8, x9, x10, x11, x12, x13, x14, x15, x16, x17, x18, x19, x20, x21, x22, x23, x24, x25, x26, x27, x28, x29, x30, x31, x32, x33, x34, x35, x36, x37, x38, x39, x40, x41, x42, x43, x44, x45, x46, x47, x48, x49, x50, x51, x52, x53] h = f55_e0_0 O L x0 x1 x2 x3 x4 x5 x6 x7 x8 x9 x10 x11 x12 x13 x14 x15 x16 x17 x18 x19 x20 x21 x22 x23 x24 x25 x26 x27 x28 x29 x30 x31 x32 x33 x34 x35 x36 x37 x38 x39 x40 x41 x42 x43 x44 x45 x46 x47 x48 x49 x50 x51 x52 x53 h := by kernel_rfl
noncomputable def f55_r0 (O : Oracle) (L : Loops (Value × Heap)) (x0 x1 x2 x3 x4 x5 x6 x7 x8 x9 x10 x11 x12 x13 x14 x15 x16 x17 x18 x19 x20 x21 x22 x23 x24 x25 x26 x27 x28 x29 x30 x31 x32 x33 x34 x35 x36 x37 x38 x39 x40 x41 x42 x43 x44 x45 x46 x47 x48 x49 x50 x51 x52 x53 : Value) (h : Heap) : Option (Value × Heap) :=
  some (oneOf [x8], h)
theorem f55_r0_eq (O : Oracle) (L : Loops (Value × Heap)) (x0 x1 x2 x3 x4 x5 x6 x7 x8 x9 x10 x11 x12 x13 x14 x15 x16 x17 x18 x19 x20 x21 x22 x23 x24 x25 x26 x27 x28 x29 x30 x31 x32 x33 x34 x35 x36 x37 x38 x39 x40 x41 x42 x43 x44 x45 x46 x47 x48 x49 x50 x51 x52 x53 : Value) (h : Heap) :
    f55_k0 O L .ret [x0, x1, x2, x3, x4, x5, x6, x7, x8, x9, x10, x11, x12, x13, x14, x15, x16, x17, x18, x19, x20, x21, x22, x23, x24, x25, x26, x27, x28, x29, x30, x31, x32, x33, x34, x35, x36, x37, x38, x39, x40, x41, x42, x43, x44, x45, x46, x47, x48, x49, x50, x51, x52, x53] h = f55_r0 O L x0 x1 x2 x3 x4 x5 x6 x7 x8 x9 x10 x11 x12 x13 x14 x15 x16 x17 x18 x19 x20 x21 x22 x23 x24 x25 x26 x27 x28 x29 x30 x31 x32 x33 x34 x35 x36 x37 x38 x39 x40 x41 x42 x43 x44 x45 x46 x47 x48 x49 x50 x51 x52 x53 h := by kernel_rfl
noncomputable def f55_b0 (O : Oracle) (L : Loops (Value × Heap)) (k : Ex → K (Value × Heap)) (x0 x1 x2 x3 x4 x5 x6 x7 x8 x9 x10 x11 x12 x13 x14 x15 x16 x17 x18 x19 x20 x21 x22 x23 x24 x25 x26 x27 x28 x29 x30 x31 x32 x33 x34 x35 x36 x37 x38 x39 x40 x41 x42 x43 x44 x45 x46 x47 x48 x49 x50 x51 x52 x53 : Value) (h : Heap) : Option (Value × Heap) :=
  ob ((M.ofOpt (nilChk x0)) h) fun v0 h0 =>
  ob ((M.ofOpt (fAddr 3 v0)) h0) fun v1 h1 =>
  ob ((ld1 v1) h1) fun v2 h2 =>
  ob ((M.ofOpt (lenSl v2)) h2) fun v3 h3 =>
  ob ((M.ofOpt (bin Try.prog .lss 3 x9 v3)) h3) fun v4 h4 =>
  iteV v4 (
  ob ((M.ofOpt (nilChk x0)) h4) fun v5 h5 =>
  ob ((M.ofOpt (fAddr 3 v5)) h5) fun v6 h6 =>
  ob ((ld1 v6) h6) fun v7 h7 =>
  ob ((M.ofOpt (iAddr 7 v7 x9)) h7) fun v8 h8 =>
  ob ((M.ofOpt (fAddr 0 v8)) h8) fun v9 h9 =>
  ob ((ld1 v9) h9) fun v10 h10 =>
  ob ((M.ofOpt (bin Try.prog .eql 3 v10 x1)) h10) fun v11 h11 =>
  ob ((gd v11 true (M.ret x0)) h11) fun v12 h12 =>
  ob ((gd v11 true (M.ofOpt (nilChk v12))) h12) fun v13 h13 =>
  ob ((gd v11 true (M.ofOpt (fAddr 3 v13))) h13) fun v14 h14 =>
  ob ((gd v11 true (ld1 v14)) h14) fun v15 h15 =>
  ob ((gd v11 true (M.ret x9)) h15) fun v16 h16 =>
  ob ((gd v11 true (M.ofOpt (iAddr 7 v15 v16))) h16) fun v17 h17 =>
  ob ((gd v11 true (M.ofOpt (fAddr 1 v17))) h17) fun v18 h18 =>
  ob ((gd v11 true (ld1 v18)) h18) fun v19 h19 =>
  ob ((gd v11 true (M.ret x2)) h19) fun v20 h20 =>
  ob ((gd v11 true (M.ofOpt (bin Try.prog .eql 3 v19 v20))) h20) fun v21 h21 =>
  ob ((M.ofOpt (pick v11 v21 (.bool false))) h21) fun v22 h22 =>
  ob ((gd v22 true (M.ret x0)) h22) fun v23 h23 =>
  ob ((gd v22 true (M.ofOpt (nilChk v23))) h23) fun v24 h24 =>
  ob ((gd v22 true (M.ofOpt (fAddr 3 v24))) h24) fun v25 h25 =>
  ob ((gd v22 true (ld1 v25)) h25) fun v26 h26 =>
  ob ((gd v22 true (M.ret x9)) h26) fun v27 h27 =>
  ob ((gd v22 true (M.ofOpt (iAddr 7 v26 v27))) h27) fun v28 h28 =>
  ob ((gd v22 true (M.ofOpt (fAddr 2 v28))) h28) fun v29 h29 =>
  ob ((gd v22 true (ld1 v29)) h29) fun v30 h30 =>
  ob ((gd v22 true (M.ret x3)) h30) fun v31 h31 =>
  ob ((gd v22 true (M.ofOpt (bin Try.prog .eql 3 v30 v31))) h31) fun v32 h32 =>
  ob ((M.ofOpt (pick v22 v32 (.bool false))) h32) fun v33 h33 =>
  iteV v33 (
  k .ret [x0, x1, x2, x3, x4, x5, x6, x7, x9, x9, x9, x0, v0, v1, v2, v3, v4, x17, x18, x0, v5, v6, v7, x9, v8, v9, v10, x1, v11, v11, v12, v13, v14, v15, v16, v17, v18, v19, v20, v21, v22, v22, v23, v24, v25, v26, v27, v28, v29, v30, v31, v32, v33, x9] h33) (
  ob ((M.ofOpt (bin Try.prog .add 3 x9 (.int .i64 1))) h33) fun v34 h34 =>
  k .normal [x0, x1, x2, x3, x4, x5, x6, x7, x8, v34, x9, x0, v0, v1, v2, v3, v4, x9, v34, x0, v5, v6, v7, x9, v8, v9, v10, x1, v11, v11, v12, v13, v14, v15, v16, v17, v18, v19, v20, v21, v22, v22, v23, v24, v25, v26, v27, v28, v29, v30, v31, v32, v33, x53] h34)) (
  k (.exit 0) [x0, x1, x2, x3, x4, x5, x6, x7, x8, x9, x9, x0, v0, v1, v2, v3, v4, x17, x18, x19, x20, x21, x22, x23, x24, x25, x26, x27, x28, x29, x30, x31, x32, x33, x34, x35, x36, x37, x38, x39, x40, x41, x42, x43, x44, x45, x46, x47, x48, x49, x50, x51, x52, x53] h4)
theorem f55_b0_eq (O : Oracle) (L : Loops (Value × Heap)) (k : Ex → K (Value × Heap)) (x0 x1 x2 x3 x4 x5 x6 x7 x8 x9 x10 x11 x12 x13 x14 x15 x16 x17 x18 x19 x20 x21 x22 x23 x24 x25 x26 x27 x28 x29 x30 x31 x32 x33 x34 x35 x36 x37 x38 x39 x40 x41 x42 x43 x44 x45 x46 x47 x48 x49 x50 x51 x52 x53 : Value) (h : Heap) :
    runCode Try.prog O L f55_c0 k [x0, x1, x2, x3, x4, x5, x6, x7, x8, x9, x10, x11, x12, x13, x14, x15, x16, x17, x18, x19, x20, x21, x22, x23, x24, x25, x26, x27, x28, x29, x30, x31, x32, x33, x34, x35, x36, x37, x38, x39, x40, x41, x42, x43, x44, x45, x46, x47, x48, x49, x50, x51, x52, x53] h = f55_b0 O L k x0 x1 x2 x3 x4 x5 x6 x7 x8 x9 x10 x11 x12 x13 x14 x15 x16 x17 x18 x19 x20 x21 x22 x23 x24 x25 x26 x27 x28 x29 x30 x31 x32 x33 x34 x35 x36 x37 x38 x39 x40 x41 x42 x43 x44 x45 x46 x47 x48 x49 x50 x51 x52 x53 h := by kernel_rfl
noncomputable def f55 (O : Oracle) (L : Loops (Value × Heap)) (a0 a1 a2 a3 : Value) (h : Heap) : Option (Value × Heap) :=
  L (runCode Try.prog O L f55_c0) (f55_k0 O L) [a0, a1, a2, a3, undef, undef, undef, undef, (.int .i64 0), (.int .i64 0), undef, undef, undef, undef, undef, undef, undef, undef, undef, undef, undef, undef, undef, undef, undef, undef, undef, undef, undef, undef, undef, undef, undef, undef, undef, undef, undef, undef, undef, undef, undef, undef, undef, undef, undef, undef, undef, undef, undef, undef, undef, undef, undef, undef] h
theorem f55_eq (O : Oracle) (L : Loops (Value × Heap)) (a0 a1 a2 a3 : Value) (h : Heap) :
    body Try.prog O L 55 [a0, a1, a2, a3] h = f55 O L a0 a1 a2 a3 h := by kernel_rfl


/-! 10: shunter/shunterlaw08.RingsNew; slots: [(ports, 0), (lanes, 1), (slots, 2), (ports, 3), (lanes, 4), (slots, 5), (r, 7), (fine, 8), (_, 9), (is, 10)] -/
noncomputable def f10 (O : Oracle) (L : Loops (Value × Heap)) (a0 a1 a2 : Value) (h : Heap) : Option (Value × Heap) :=
  ob ((O (.func 29) [a0, a1, a2]) h) fun v0 h0 =>
  ob ((M.ofOpt (bin Try.prog .geq 3 a0 (.int .i64 1))) h0) fun v1 h1 =>
  ob ((gd v1 true (M.ret a0)) h1) fun v2 h2 =>
  ob ((gd v1 true (M.ofOpt (bin Try.prog .leq 3 v2 (.int .i64 16)))) h2) fun v3 h3 =>
  ob ((M.ofOpt (pick v1 v3 (.bool false))) h3) fun v4 h4 =>
  ob ((gd v4 true (M.ret a1)) h4) fun v5 h5 =>
  ob ((gd v4 true (M.ofOpt (bin Try.prog .geq 3 v5 (.int .i64 1)))) h5) fun v6 h6 =>
  ob ((M.ofOpt (pick v4 v6 (.bool false))) h6) fun v7 h7 =>
  ob ((gd v7 true (M.ret a1)) h7) fun v8 h8 =>
  ob ((gd v7 true (M.ofOpt (bin Try.prog .leq 3 v8 (.int .i64 3)))) h8) fun v9 h9 =>
  ob ((M.ofOpt (pick v7 v9 (.bool false))) h9) fun v10 h10 =>
  ob ((gd v10 true (M.ret a2)) h10) fun v11 h11 =>
  ob ((gd v10 true (M.ofOpt (bin Try.prog .geq 3 v11 (.int .i64 1)))) h11) fun v12 h12 =>
  ob ((M.ofOpt (pick v10 v12 (.bool false))) h12) fun v13 h13 =>
  ob ((gd v13 true (M.ret a2)) h13) fun v14 h14 =>
  ob ((gd v13 true (M.ofOpt (bin Try.prog .leq 3 v14 (.int .i64 200)))) h14) fun v15 h15 =>
  ob ((M.ofOpt (pick v13 v15 (.bool false))) h15) fun v16 h16 =>
  ob ((M.ofOpt (bin Try.prog .eql 46 v0 (.pointer none))) h16) fun v17 h17 =>
  iteV v17 (
  ob ((O (.func 30) []) h17) fun v18 h18 =>
  ob ((gd v18 true (M.ret v16)) h18) fun v19 h19 =>
  ob ((gd v18 true (M.ofOpt (un Try.prog .not v19))) h19) fun v20 h20 =>
  ob ((M.ofOpt (pick v18 v20 (.bool false))) h20) fun v21 h21 =>
  some (oneOf [v21], h21)) (
  ob ((O (.func 31) [v0, (.int .i64 0), (.int .i64 0), (.int .i64 0)]) h17) fun v22 h22 =>
  ob ((M.ofOpt (ext 0 v22)) h22) fun v23 h23 =>
  ob ((M.ofOpt (ext 1 v22)) h23) fun v24 h24 =>
  ob ((newB 50 [(.int .i64 0), (.int .i64 0), (.int .i64 0), (.int .u32 0)] .fix) h24) fun v25 h25 =>
  ob ((stN 4 v25 v23) h25) fun v26 h26 =>
  ob ((O (.func 30) []) h26) fun v27 h27 =>
  ob ((gd v27 true (M.ret v16)) h27) fun v28 h28 =>
  ob ((M.ofOpt (pick v27 v28 (.bool false))) h28) fun v29 h29 =>
  ob ((gd v29 true (M.ret v24)) h29) fun v30 h30 =>
  ob ((gd v29 true (M.ofOpt (un Try.prog .not v30))) h30) fun v31 h31 =>
  ob ((M.ofOpt (pick v29 v31 (.bool false))) h31) fun v32 h32 =>
  ob ((gd v32 true (M.ret v0)) h32) fun v33 h33 =>
  ob ((gd v32 true (O (.func 32) [v33, (.int .i64 0), (.int .i64 0), (.int .i64 0)])) h33) fun v34 h34 =>
  ob ((gd v32 true (M.ofOpt (bin Try.prog .eql 3 v34 (.int .i64 0)))) h34) fun v35 h35 =>
  ob ((M.ofOpt (pick v32 v35 (.bool false))) h35) fun v36 h36 =>
  ob ((gd v36 true (M.ret v0)) h36) fun v37 h37 =>
  ob ((gd v36 true (M.ret a0)) h37) fun v38 h38 =>
  ob ((gd v36 true (M.ofOpt (bld Try.prog 50 []))) h38) fun v39 h39 =>
  ob ((gd v36 true (O (.func 33) [v37, v38, (.int .i64 0), (.int .i64 0), v39])) h39) fun v40 h40 =>
  ob ((gd v36 true (M.ofOpt (un Try.prog .not v40))) h40) fun v41 h41 =>
  ob ((M.ofOpt (pick v36 v41 (.bool false))) h41) fun v42 h42 =>
  ob ((gd v42 true (M.ret v0)) h42) fun v43 h43 =>
  ob ((gd v42 true (M.ret a1)) h43) fun v44 h44 =>
  ob ((gd v42 true (M.ofOpt (bld Try.prog 50 []))) h44) fun v45 h45 =>
  ob ((gd v42 true (O (.func 33) [v43, (.int .i64 0), (.int .i64 0), v44, v45])) h45) fun v46 h46 =>
  ob ((gd v42 true (M.ofOpt (un Try.prog .not v46))) h46) fun v47 h47 =>
  ob ((M.ofOpt (pick v42 v47 (.bool false))) h47) fun v48 h48 =>
  ob ((gd v48 true (M.ret v0)) h48) fun v49 h49 =>
  ob ((gd v48 true (M.ofOpt (bld Try.prog 50 []))) h49) fun v50 h50 =>
  ob ((gd v48 true (O (.func 33) [v49, (.int .i64 0), (.int .i64 0), (.int .i64 0), v50])) h50) fun v51 h51 =>
  ob ((M.ofOpt (pick v48 v51 (.bool false))) h51) fun v52 h52 =>
  some (oneOf [v52], h52))
theorem f10_eq (O : Oracle) (L : Loops (Value × Heap)) (a0 a1 a2 : Value) (h : Heap) :
    body Try.prog O L 10 [a0, a1, a2] h = f10 O L a0 a1 a2 h := by kernel_rfl

/-! 11: shunter/shunterlaw08.RingsHead; slots: [(l, 0), (in, 1), (out, 2), (lane, 3), (l, 4), (in, 5), (out, 6), (lane, 7), (r, 9), (i, 10), (o, 11), (a, 12), (b, 13), (c, 14), (n, 15), (x, 16), (is, 17), (y, 18), (was, 19), (z, 20), (out2, 21)] -/
noncomputable def f11_c0 : Code := sub [1, 1, 1, 1, 0, 1, 0, 0] (fbody Try.prog 11)
noncomputable def f11_k0 (O : Oracle) (L : Loops (Value × Heap)) : Ex → K (Value × Heap) := (blockK 0 (seqK Try.prog O L (sub [1, 1, 1, 1, 1] (fbody Try.prog 11)) (kRet Try.prog Try.f11)))
noncomputable def f11_e0_0 (O : Oracle) (L : Loops (Value × Heap)) (x0 x1 x2 x3 x4 x5 x6 x7 x8 x9 x10 x11 x12 x13 x14 x15 x16 x17 x18 x19 x20 x21 x22 x23 x24 x25 x26 x27 x28 x29 x30 x31 x32 x33 x34 x35 x36 x37 x38 x39 x40 x41 x42 x43 x44 x45 x46 x47 x48 x49 x50 x51 x52 x53 x54 x55 x56 x57 x58 x59 x60 x61 x62 x63 x64 x65 x66 x67 x68 x69 x70 x71 x72 x73 x74 x75 x76 x77 x78 x79 x80 x81 x82 x83 x84 x85 x86 x87 x88 x89 x90 x91 x92 x93 x94 x95 x96 x97 x98 x99 x100 x101 x102 x103 x104 x105 x106 x107 x108 x109 x110 x111 x112 x113 x114 x115 x116 x117 x118 x119 x120 x121 x122 x123 x124 x125 x126 x127 x128 : Value) (h : Heap) : Option (Value × Heap) :=
  ob ((M.ofOpt (bin Try.prog .rem 5 x1 (.int .u8 3))) h) fun v29 h29 =>
  ob ((conv Try.prog 5 3 v29) h29) fun v30 h30 =>
  ob ((M.ofOpt (bin Try.prog .rem 5 x2 (.int .u8 3))) h30) fun v31 h31 =>
  ob ((conv Try.prog 5 3 v31) h31) fun v32 h32 =>
  ob ((M.ofOpt (bin Try.prog .rem 5 x3 (.int .u8 2))) h32) fun v33 h33 =>
  ob ((conv Try.prog 5 3 v33) h33) fun v34 h34 =>
  ob ((O (.func 32) [x9, v30, v32, v34]) h34) fun v35 h35 =>
  ob ((O (.func 31) [x9, v30, v32, v34]) h35) fun v36 h36 =>
  ob ((M.ofOpt (ext 0 v36)) h36) fun v37 h37 =>
  ob ((M.ofOpt (ext 1 v36)) h37) fun v38 h38 =>
  ob ((newB 50 [(.int .i64 0), (.int .i64 0), (.int .i64 0), (.int .u32 0)] .fix) h38) fun v39 h39 =>
  ob ((stN 4 v39 v37) h39) fun v40 h40 =>
  ob ((O (.func 31) [x9, v30, v32, v34]) h40) fun v41 h41 =>
  ob ((M.ofOpt (ext 0 v41)) h41) fun v42 h42 =>
  ob ((M.ofOpt (ext 1 v41)) h42) fun v43 h43 =>
  ob ((newB 50 [(.int .i64 0), (.int .i64 0), (.int .i64 0), (.int .u32 0)] .fix) h43) fun v44 h44 =>
  ob ((stN 4 v44 v42) h44) fun v45 h45 =>
  ob ((O (.func 35) [x9, v30, v32, v34]) h45) fun v46 h46 =>
  ob ((M.ofOpt (ext 0 v46)) h46) fun v47 h47 =>
  ob ((M.ofOpt (ext 1 v46)) h47) fun v48 h48 =>
  ob ((newB 50 [(.int .i64 0), (.int .i64 0), (.int .i64 0), (.int .u32 0)] .fix) h48) fun v49 h49 =>
  ob ((stN 4 v49 v47) h49) fun v50 h50 =>
  ob ((ldN 4 v39) h50) fun v51 h51 =>
  ob ((ldN 4 v44) h51) fun v52 h52 =>
  ob ((M.ofOpt (bin Try.prog .eql 50 v51 v52)) h52) fun v53 h53 =>
  ob ((gd v53 true (ldN 4 v44)) h53) fun v54 h54 =>
  ob ((gd v53 true (ldN 4 v49)) h54) fun v55 h55 =>
  ob ((gd v53 true (M.ofOpt (bin Try.prog .eql 50 v54 v55))) h55) fun v56 h56 =>
  ob ((M.ofOpt (pick v53 v56 (.bool false))) h56) fun v57 h57 =>
  ob ((gd v57 true (M.ret v38)) h57) fun v58 h58 =>
  ob ((gd v57 true (M.ret v43)) h58) fun v59 h59 =>
  ob ((gd v57 true (M.ofOpt (bin Try.prog .eql 4 v58 v59))) h59) fun v60 h60 =>
  ob ((M.ofOpt (pick v57 v60 (.bool false))) h60) fun v61 h61 =>
  ob ((gd v61 true (M.ret v43)) h61) fun v62 h62 =>
  ob ((gd v61 true (M.ret v48)) h62) fun v63 h63 =>
  ob ((gd v61 true (M.ofOpt (bin Try.prog .eql 4 v62 v63))) h63) fun v64 h64 =>
  ob ((M.ofOpt (pick v61 v64 (.bool false))) h64) fun v65 h65 =>
  ob ((gd v65 true (M.ret v38)) h65) fun v66 h66 =>
  ob ((gd v65 true (M.ret v35)) h66) fun v67 h67 =>
  ob ((gd v65 true (M.ofOpt (bin Try.prog .gtr 3 v67 (.int .i64 0)))) h67) fun v68 h68 =>
  ob ((gd v65 true (M.ofOpt (bin Try.prog .eql 4 v66 v68))) h68) fun v69 h69 =>
  ob ((M.ofOpt (pick v65 v69 (.bool false))) h69) fun v70 h70 =>
  ob ((gd v70 true (M.ret x9)) h70) fun v71 h71 =>
  ob ((gd v70 true (M.ret v30)) h71) fun v72 h72 =>
  ob ((gd v70 true (M.ret v32)) h72) fun v73 h73 =>
  ob ((gd v70 true (M.ret v34)) h73) fun v74 h74 =>
  ob ((gd v70 true (O (.func 32) [v71, v72, v73, v74])) h74) fun v75 h75 =>
  ob ((gd v70 true (M.ret v35)) h75) fun v76 h76 =>
  ob ((gd v70 true (M.ofOpt (bin Try.prog .sub 3 v76 (.int .i64 1)))) h76) fun v77 h77 =>
  ob ((gd v70 true (M.ofOpt (minmax Try.prog true [v77, (.int .i64 0)]))) h77) fun v78 h78 =>
  ob ((gd v70 true (M.ofOpt (bin Try.prog .eql 3 v75 v78))) h78) fun v79 h79 =>
  ob ((M.ofOpt (pick v70 v79 (.bool false))) h79) fun v80 h80 =>
  some (oneOf [v80], h80)
theorem f11_e0_0_eq (O : Oracle) (L : Loops (Value × Heap)) (x0 x1 x2 x3 x4 x5 x6 x7 x8 x9 x10 x11 x12 x13 x14 x15 x16 x17 x18 x19 x20 x21 x22 x23 x24 x25 x26 x27 x28 x29 x30 x31 x32 x33 x34 x35 x36 x37 x38 x39 x40 x41 x42 x43 x44 x45 x46 x47 x48 x49 x50 x51 x52 x53 x54 x55 x56 x57 x58 x59 x60 x61 x62 x63 x64 x65 x66 x67 x68 x69 x70 x71 x72 x73 x74 x75 x76 x77 x78 x79 x80 x81 x82 x83 x84 x85 x86 x87 x88 x89 x90 x91 x92 x93 x94 x95 x96 x97 x98 x99 x100 x101 x102 x103 x104 x105 x106 x107 x108 x109 x110 x111 x112 x113 x114 x115 x116 x117 x118 x119 x120 x121 x122 x123 x124 x125 x126 x127 x128 : Value) (h : Heap) :
    f11_k0 O L (.exit 0) [x0, x1, x2, x3, x4, x5, x6, x7, x8, x9, x10, x11, x12, x13, x14, x15, x16, x17, x18, x19, x20, x21, x22, x23, x24, x25, x26, x27, x28, x29, x30, x31, x32, x33, x34, x35, x36, x37, x38, x39, x40, x41, x42, x43, x44, x45, x46, x47, x48, x49, x50, x51, x52, x53, x54, x55, x56, x57, x58, x59, x60, x61, x62, x63, x64, x65, x66, x67, x68, x69, x70, x71, x72, x73, x74, x75, x76, x77, x78, x79, x80, x81, x82, x83, x84, x85, x86, x87, x88, x89, x90, x91, x92, x93, x94, x95, x96, x97, x98, x99, x100, x101, x102, x103, x104, x105, x106, x107, x108, x109, x110, x111, x112, x113, x114, x115, x116, x117, x118, x119, x120, x121, x122, x123, x124, x125, x126, x127, x128] h = f11_e0_0 O L x0 x1 x2 x3 x4 x5 x6 x7 x8 x9 x10 x11 x12 x13 x14 x15 x16 x17 x18 x19 x20 x21 x22 x23 x24 x25 x26 x27 x28 x29 x30 x31 x32 x33 x34 x35 x36 x37 x38 x39 x40 x41 x42 x43 x44 x45 x46 x47 x48 x49 x50 x51 x52 x53 x54 x55 x56 x57 x58 x59 x60 x61 x62 x63 x64 x65 x66 x67 x68 x69 x70 x71 x72 x73 x74 x75 x76 x77 x78 x79 x80 x81 x82 x83 x84 x85 x86 x87 x88 x89 x90 x91 x92 x93 x94 x95 x96 x97 x98 x99 x100 x101 x102 x103 x104 x105 x106 x107 x108 x109 x110 x111 x112 x113 x114 x115 x116 x117 x118 x119 x120 x121 x122 x123 x124 x125 x126 x127 x128 h := by kernel_rfl
noncomputable def f11_b0 (O : Oracle) (L : Loops (Value × Heap)) (k : Ex → K (Value × Heap)) (x0 x1 x2 x3 x4 x5 x6 x7 x8 x9 x10 x11 x12 x13 x14 x15 x16 x17 x18 x19 x20 x21 x22 x23 x24 x25 x26 x27 x28 x29 x30 x31 x32 x33 x34 x35 x36 x37 x38 x39 x40 x41 x42 x43 x44 x45 x46 x47 x48 x49 x50 x51 x52 x53 x54 x55 x56 x57 x58 x59 x60 x61 x62 x63 x64 x65 x66 x67 x68 x69 x70 x71 x72 x73 x74 x75 x76 x77 x78 x79 x80 x81 x82 x83 x84 x85 x86 x87 x88 x89 x90 x91 x92 x93 x94 x95 x96 x97 x98 x99 x100 x101 x102 x103 x104 x105 x106 x107 x108 x109 x110 x111 x112 x113 x114 x115 x116 x117 x118 x119 x120 x121 x122 x123 x124 x125 x126 x127 x128 : Value) (h : Heap) : Option (Value × Heap) :=
  ob ((M.ofOpt (lenSl x0)) h) fun v8 h8 =>
  ob ((M.ofOpt (bin Try.prog .lss 3 x10 v8)) h8) fun v9 h9 =>
  iteV v9 (
  ob ((M.ofOpt (iAddr 9 x0 x10)) h9) fun v10 h10 =>
  ob ((ldN 9 v10) h10) fun v11 h11 =>
  ob ((newB 58 [(.int .u8 0), (.int .i64 0), (.int .i64 0), (.int .i64 0), (.bool false), (.int .i64 0), (.int .i64 0), (.int .i64 0), (.int .u32 0)] .fix) h11) fun v12 h12 =>
  ob ((stN 9 v12 v11) h12) fun v13 h13 =>
  ob ((M.ofOpt (fAddr 4 v12)) h13) fun v14 h14 =>
  ob ((stN 1 v14 (.bool true)) h14) fun v15 h15 =>
  ob ((ldN 9 v12) h15) fun v16 h16 =>
  ob ((O (.func 34) [v16]) h16) fun v17 h17 =>
  ob ((stN 9 v12 v17) h17) fun v18 h18 =>
  ob ((M.ofOpt (fAddr 1 v12)) h18) fun v19 h19 =>
  ob ((ld1 v19) h19) fun v20 h20 =>
  ob ((M.ofOpt (fAddr 2 v12)) h20) fun v21 h21 =>
  ob ((ld1 v21) h21) fun v22 h22 =>
  ob ((M.ofOpt (fAddr 3 v12)) h22) fun v23 h23 =>
  ob ((ld1 v23) h23) fun v24 h24 =>
  ob ((M.ofOpt (fAddr 5 v12)) h24) fun v25 h25 =>
  ob ((ldN 4 v25) h25) fun v26 h26 =>
  ob ((O (.func 33) [x9, v20, v22, v24, v26]) h26) fun v27 h27 =>
  ob ((M.ofOpt (bin Try.prog .add 3 x10 (.int .i64 1))) h27) fun v28 h28 =>
  k .normal [x0, x1, x2, x3, x4, x5, x6, x7, x8, x9, v28, v12, x12, x13, x14, x15, x16, x17, x18, x19, x20, x21, x22, x23, x24, x25, x26, x27, x28, x29, x30, x31, x32, x10, x0, v8, v9, x10, v28, x0, x10, v10, v11, v14, v16, v17, x9, v19, v20, v21, v22, v23, v24, v25, v26, v27, x56, x57, x58, x59, x60, x61, x62, x63, x64, x65, x66, x67, x68, x69, x70, x71, x72, x73, x74, x75, x76, x77, x78, x79, x80, x81, x82, x83, x84, x85, x86, x87, x88, x89, x90, x91, x92, x93, x94, x95, x96, x97, x98, x99, x100, x101, x102, x103, x104, x105, x106, x107, x108, x109, x110, x111, x112, x113, x114, x115, x116, x117, x118, x119, x120, x121, x122, x123, x124, x125, x126, x127, x128] h28) (
  k (.exit 0) [x0, x1, x2, x3, x4, x5, x6, x7, x8, x9, x10, x11, x12, x13, x14, x15, x16, x17, x18, x19, x20, x21, x22, x23, x24, x25, x26, x27, x28, x29, x30, x31, x32, x10, x0, v8, v9, x37, x38, x39, x40, x41, x42, x43, x44, x45, x46, x47, x48, x49, x50, x51, x52, x53, x54, x55, x56, x57, x58, x59, x60, x61, x62, x63, x64, x65, x66, x67, x68, x69, x70, x71, x72, x73, x74, x75, x76, x77, x78, x79, x80, x81, x82, x83, x84, x85, x86, x87, x88, x89, x90, x91, x92, x93, x94, x95, x96, x97, x98, x99, x100, x101, x102, x103, x104, x105, x106, x107, x108, x109, x110, x111, x112, x113, x114, x115, x116, x117, x118, x119, x120, x121, x122, x123, x124, x125, x126, x127, x128] h9)
theorem f11_b0_eq (O : Oracle) (L : Loops (Value × Heap)) (k : Ex → K (Value × Heap)) (x0 x1 x2 x3 x4 x5 x6 x7 x8 x9 x10 x11 x12 x13 x14 x15 x16 x17 x18 x19 x20 x21 x22 x23 x24 x25 x26 x27 x28 x29 x30 x31 x32 x33 x34 x35 x36 x37 x38 x39 x40 x41 x42 x43 x44 x45 x46 x47 x48 x49 x50 x51 x52 x53 x54 x55 x56 x57 x58 x59 x60 x61 x62 x63 x64 x65 x66 x67 x68 x69 x70 x71 x72 x73 x74 x75 x76 x77 x78 x79 x80 x81 x82 x83 x84 x85 x86 x87 x88 x89 x90 x91 x92 x93 x94 x95 x96 x97 x98 x99 x100 x101 x102 x103 x104 x105 x106 x107 x108 x109 x110 x111 x112 x113 x114 x115 x116 x117 x118 x119 x120 x121 x122 x123 x124 x125 x126 x127 x128 : Value) (h : Heap) :
    runCode Try.prog O L f11_c0 k [x0, x1, x2, x3, x4, x5, x6, x7, x8, x9, x10, x11, x12, x13, x14, x15, x16, x17, x18, x19, x20, x21, x22, x23, x24, x25, x26, x27, x28, x29, x30, x31, x32, x33, x34, x35, x36, x37, x38, x39, x40, x41, x42, x43, x44, x45, x46, x47, x48, x49, x50, x51, x52, x53, x54, x55, x56, x57, x58, x59, x60, x61, x62, x63, x64, x65, x66, x67, x68, x69, x70, x71, x72, x73, x74, x75, x76, x77, x78, x79, x80, x81, x82, x83, x84, x85, x86, x87, x88, x89, x90, x91, x92, x93, x94, x95, x96, x97, x98, x99, x100, x101, x102, x103, x104, x105, x106, x107, x108, x109, x110, x111, x112, x113, x114, x115, x116, x117, x118, x119, x120, x121, x122, x123, x124, x125, x126, x127, x128] h = f11_b0 O L k x0 x1 x2 x3 x4 x5 x6 x7 x8 x9 x10 x11 x12 x13 x14 x15 x16 x17 x18 x19 x20 x21 x22 x23 x24 x25 x26 x27 x28 x29 x30 x31 x32 x33 x34 x35 x36 x37 x38 x39 x40 x41 x42 x43 x44 x45 x46 x47 x48 x49 x50 x51 x52 x53 x54 x55 x56 x57 x58 x59 x60 x61 x62 x63 x64 x65 x66 x67 x68 x69 x70 x71 x72 x73 x74 x75 x76 x77 x78 x79 x80 x81 x82 x83 x84 x85 x86 x87 x88 x89 x90 x91 x92 x93 x94 x95 x96 x97 x98 x99 x100 x101 x102 x103 x104 x105 x106 x107 x108 x109 x110 x111 x112 x113 x114 x115 x116 x117 x118 x119 x120 x121 x122 x123 x124 x125 x126 x127 x128 h := by kernel_rfl
noncomputable def f11 (O : Oracle) (L : Loops (Value × Heap)) (a0 a1 a2 a3 : Value) (h : Heap) : Option (Value × Heap) :=
  ob ((M.ofOpt (lenSl a0)) h) fun v0 h0 =>
  ob ((M.ofOpt (bin Try.prog .gtr 3 v0 (.int .i64 60))) h0) fun v1 h1 =>
  ob ((gd v1 false (O (.func 30) [])) h1) fun v2 h2 =>
  ob ((gd v1 false (M.ofOpt (un Try.prog .not v2))) h2) fun v3 h3 =>
  ob ((M.ofOpt (pick v1 (.bool true) v3)) h3) fun v4 h4 =>
  iteV v4 (
  ob ((O (.func 30) []) h4) fun v5 h5 =>
  some (oneOf [v5], h5)) (
  ob ((O (.func 29) [(.int .i64 3), (.int .i64 2), (.int .i64 100)]) h4) fun v6 h6 =>
  ob ((M.ofOpt (bin Try.prog .eql 46 v6 (.pointer none))) h6) fun v7 h7 =>
  iteV v7 (
  some (oneOf [(.bool false)], h7)) (
  L (runCode Try.prog O L f11_c0) (f11_k0 O L) [a0, a1, a2, a3, undef, undef, undef, undef, (.bool false), v6, (.int .i64 0), undef, undef, undef, undef, undef, undef, undef, undef, undef, undef, undef, a0, v0, v1, v1, v2, v3, v4, undef, v6, v6, v7, undef, undef, undef, undef, undef, undef, undef, undef, undef, undef, undef, undef, undef, undef, undef, undef, undef, undef, undef, undef, undef, undef, undef, undef, undef, undef, undef, undef, undef, undef, undef, undef, undef, undef, undef, undef, undef, undef, undef, undef, undef, undef, undef, undef, undef, undef, undef, undef, undef, undef, undef, undef, undef, undef, undef, undef, undef, undef, undef, undef, undef, undef, undef, undef, undef, undef, undef, undef, undef, undef, undef, undef, undef, undef, undef, undef, undef, undef, undef, undef, undef, undef, undef, undef, undef, undef, undef, undef, undef, undef, undef, undef, undef, undef, undef, undef] h7))
theorem f11_eq (O : Oracle) (L : Loops (Value × Heap)) (a0 a1 a2 a3 : Value) (h : Heap) :
    body Try.prog O L 11 [a0, a1, a2, a3] h = f11 O L a0 a1 a2 a3 h := by kernel_rfl

/-! 12: shunter/shunterlaw08.RingsDo; slots: [(ports, 0), (lanes, 1), (slots, 2), (l, 3), (ports, 4), (lanes, 5), (slots, 6), (l, 7), (a, 9), (r, 10), (i, 11), (o, 12), (ok, 13), (in, 14), (out, 15)] -/
noncomputable def f12_c2 : Code := sub [1, 1, 1, 1, 1, 1, 0, 1, 0, 0, 1, 0, 0, 1, 0, 0] (fbody Try.prog 12)
noncomputable def f12_k2 (O : Oracle) (L : Loops (Value × Heap)) (k : Ex → K (Value × Heap)) : Ex → K (Value × Heap) := (blockK 4 (blockK 3 (seqK Try.prog O L (sub [1, 1, 1, 1, 1, 1, 0, 1, 0, 0, 1, 1] (fbody Try.prog 12)) k)))
noncomputable def f12_e2_4 (O : Oracle) (L : Loops (Value × Heap)) (k : Ex → K (Value × Heap)) (x0 x1 x2 x3 x4 x5 x6 x7 x8 x9 x10 x11 x12 x13 x14 x15 x16 x17 x18 x19 x20 x21 x22 x23 x24 x25 x26 x27 x28 x29 x30 x31 x32 x33 x34 x35 x36 x37 x38 x39 x40 x41 x42 x43 x44 x45 x46 x47 x48 x49 x50 x51 x52 x53 x54 x55 x56 x57 x58 x59 x60 x61 x62 x63 x64 x65 x66 x67 x68 x69 x70 x71 x72 x73 x74 x75 x76 x77 x78 x79 x80 x81 x82 x83 x84 x85 x86 x87 x88 x89 x90 x91 x92 x93 x94 x95 x96 x97 x98 x99 x100 x101 x102 x103 x104 x105 x106 x107 x108 x109 x110 x111 x112 x113 x114 x115 x116 x117 : Value) (h : Heap) : Option (Value × Heap) :=
  ob ((M.ofOpt (bin Try.prog .add 3 x14 (.int .i64 1))) h) fun v71 h71 =>
  k .normal [x0, x1, x2, x3, x4, x5, x6, x7, x8, x9, x10, x11, x12, x13, v71, x15, x16, x17, x18, x19, x20, x21, x22, x23, x24, x25, x26, x27, x28, x29, x30, x31, x32, x33, x34, x35, x36, x37, x38, x39, x40, x41, x42, x43, x44, x45, x46, x47, x48, x49, x50, x51, x52, x53, x54, x55, x56, x57, x58, x59, x60, x61, x62, x63, x64, x65, x66, x67, x68, x69, x70, x71, x72, x73, x74, x75, x76, x77, x78, x79, x80, x81, x82, x83, x84, x85, x86, x87, x88, x89, x90, x91, x92, x93, x94, x95, x96, x97, x98, x99, x100, x101, x14, v71, x104, x105, x106, x107, x108, x109, x110, x111, x112, x113, x114, x115, x116, x117] h71
theorem f12_e2_4_eq (O : Oracle) (L : Loops (Value × Heap)) (k : Ex → K (Value × Heap)) (x0 x1 x2 x3 x4 x5 x6 x7 x8 x9 x10 x11 x12 x13 x14 x15 x16 x17 x18 x19 x20 x21 x22 x23 x24 x25 x26 x27 x28 x29 x30 x31 x32 x33 x34 x35 x36 x37 x38 x39 x40 x41 x42 x43 x44 x45 x46 x47 x48 x49 x50 x51 x52 x53 x54 x55 x56 x57 x58 x59 x60 x61 x62 x63 x64 x65 x66 x67 x68 x69 x70 x71 x72 x73 x74 x75 x76 x77 x78 x79 x80 x81 x82 x83 x84 x85 x86 x87 x88 x89 x90 x91 x92 x93 x94 x95 x96 x97 x98 x99 x100 x101 x102 x103 x104 x105 x106 x107 x108 x109 x110 x111 x112 x113 x114 x115 x116 x117 : Value) (h : Heap) :
    f12_k2 O L k (.exit 4) [x0, x1, x2, x3, x4, x5, x6, x7, x8, x9, x10, x11, x12, x13, x14, x15, x16, x17, x18, x19, x20, x21, x22, x23, x24, x25, x26, x27, x28, x29, x30, x31, x32, x33, x34, x35, x36, x37, x38, x39, x40, x41, x42, x43, x44, x45, x46, x47, x48, x49, x50, x51, x52, x53, x54, x55, x56, x57, x58, x59, x60, x61, x62, x63, x64, x65, x66, x67, x68, x69, x70, x71, x72, x73, x74, x75, x76, x77, x78, x79, x80, x81, x82, x83, x84, x85, x86, x87, x88, x89, x90, x91, x92, x93, x94, x95, x96, x97, x98, x99, x100, x101, x102, x103, x104, x105, x106, x107, x108, x109, x110, x111, x112, x113, x114, x115, x116, x117] h = f12_e2_4 O L k x0 x1 x2 x3 x4 x5 x6 x7 x8 x9 x10 x11 x12 x13 x14 x15 x16 x17 x18 x19 x20 x21 x22 x23 x24 x25 x26 x27 x28 x29 x30 x31 x32 x33 x34 x35 x36 x37 x38 x39 x40 x41 x42 x43 x44 x45 x46 x47 x48 x49 x50 x51 x52 x53 x54 x55 x56 x57 x58 x59 x60 x61 x62 x63 x64 x65 x66 x67 x68 x69 x70 x71 x72 x73 x74 x75 x76 x77 x78 x79 x80 x81 x82 x83 x84 x85 x86 x87 x88 x89 x90 x91 x92 x93 x94 x95 x96 x97 x98 x99 x100 x101 x102 x103 x104 x105 x106 x107 x108 x109 x110 x111 x112 x113 x114 x115 x116 x117 h := by kernel_rfl
noncomputable def f12_r2 (O : Oracle) (L : Loops (Value × Heap)) (k : Ex → K (Value × Heap)) (x0 x1 x2 x3 x4 x5 x6 x7 x8 x9 x10 x11 x12 x13 x14 x15 x16 x17 x18 x19 x20 x21 x22 x23 x24 x25 x26 x27 x28 x29 x30 x31 x32 x33 x34 x35 x36 x37 x38 x39 x40 x41 x42 x43 x44 x45 x46 x47 x48 x49 x50 x51 x52 x53 x54 x55 x56 x57 x58 x59 x60 x61 x62 x63 x64 x65 x66 x67 x68 x69 x70 x71 x72 x73 x74 x75 x76 x77 x78 x79 x80 x81 x82 x83 x84 x85 x86 x87 x88 x89 x90 x91 x92 x93 x94 x95 x96 x97 x98 x99 x100 x101 x102 x103 x104 x105 x106 x107 x108 x109 x110 x111 x112 x113 x114 x115 x116 x117 : Value) (h : Heap) : Option (Value × Heap) :=
  k .ret [x0, x1, x2, x3, x4, x5, x6, x7, x8, x9, x10, x11, x12, x13, x14, x15, x16, x17, x18, x19, x20, x21, x22, x23, x24, x25, x26, x27, x28, x29, x30, x31, x32, x33, x34, x35, x36, x37, x38, x39, x40, x41, x42, x43, x44, x45, x46, x47, x48, x49, x50, x51, x52, x53, x54, x55, x56, x57, x58, x59, x60, x61, x62, x63, x64, x65, x66, x67, x68, x69, x70, x71, x72, x73, x74, x75, x76, x77, x78, x79, x80, x81, x82, x83, x84, x85, x86, x87, x88, x89, x90, x91, x92, x93, x94, x95, x96, x97, x98, x99, x100, x101, x102, x103, x104, x105, x106, x107, x108, x109, x110, x111, x112, x113, x114, x115, x116, x117] h
theorem f12_r2_eq (O : Oracle) (L : Loops (Value × Heap)) (k : Ex → K (Value × Heap)) (x0 x1 x2 x3 x4 x5 x6 x7 x8 x9 x10 x11 x12 x13 x14 x15 x16 x17 x18 x19 x20 x21 x22 x23 x24 x25 x26 x27 x28 x29 x30 x31 x32 x33 x34 x35 x36 x37 x38 x39 x40 x41 x42 x43 x44 x45 x46 x47 x48 x49 x50 x51 x52 x53 x54 x55 x56 x57 x58 x59 x60 x61 x62 x63 x64 x65 x66 x67 x68 x69 x70 x71 x72 x73 x74 x75 x76 x77 x78 x79 x80 x81 x82 x83 x84 x85 x86 x87 x88 x89 x90 x91 x92 x93 x94 x95 x96 x97 x98 x99 x100 x101 x102 x103 x104 x105 x106 x107 x108 x109 x110 x111 x112 x113 x114 x115 x116 x117 : Value) (h : Heap) :
    f12_k2 O L k .ret [x0, x1, x2, x3, x4, x5, x6, x7, x8, x9, x10, x11, x12, x13, x14, x15, x16, x17, x18, x19, x20, x21, x22, x23, x24, x25, x26, x27, x28, x29, x30, x31, x32, x33, x34, x35, x36, x37, x38, x39, x40, x41, x42, x43, x44, x45, x46, x47, x48, x49, x50, x51, x52, x53, x54, x55, x56, x57, x58, x59, x60, x61, x62, x63, x64, x65, x66, x67, x68, x69, x70, x71, x72, x73, x74, x75, x76, x77, x78, x79, x80, x81, x82, x83, x84, x85, x86, x87, x88, x89, x90, x91, x92, x93, x94, x95, x96, x97, x98, x99, x100, x101, x102, x103, x104, x105, x106, x107, x108, x109, x110, x111, x112, x113, x114, x115, x116, x117] h = f12_r2 O L k x0 x1 x2 x3 x4 x5 x6 x7 x8 x9 x10 x11 x12 x13 x14 x15 x16 x17 x18 x19 x20 x21 x22 x23 x24 x25 x26 x27 x28 x29 x30 x31 x32 x33 x34 x35 x36 x37 x38 x39 x40 x41 x42 x43 x44 x45 x46 x47 x48 x49 x50 x51 x52 x53 x54 x55 x56 x57 x58 x59 x60 x61 x62 x63 x64 x65 x66 x67 x68 x69 x70 x71 x72 x73 x74 x75 x76 x77 x78 x79 x80 x81 x82 x83 x84 x85 x86 x87 x88 x89 x90 x91 x92 x93 x94 x95 x96 x97 x98 x99 x100 x101 x102 x103 x104 x105 x106 x107 x108 x109 x110 x111 x112 x113 x114 x115 x116 x117 h := by kernel_rfl
noncomputable def f12_b2 (O : Oracle) (L : Loops (Value × Heap)) (k : Ex → K (Value × Heap)) (x0 x1 x2 x3 x4 x5 x6 x7 x8 x9 x10 x11 x12 x13 x14 x15 x16 x17 x18 x19 x20 x21 x22 x23 x24 x25 x26 x27 x28 x29 x30 x31 x32 x33 x34 x35 x36 x37 x38 x39 x40 x41 x42 x43 x44 x45 x46 x47 x48 x49 x50 x51 x52 x53 x54 x55 x56 x57 x58 x59 x60 x61 x62 x63 x64 x65 x66 x67 x68 x69 x70 x71 x72 x73 x74 x75 x76 x77 x78 x79 x80 x81 x82 x83 x84 x85 x86 x87 x88 x89 x90 x91 x92 x93 x94 x95 x96 x97 x98 x99 x100 x101 x102 x103 x104 x105 x106 x107 x108 x109 x110 x111 x112 x113 x114 x115 x116 x117 : Value) (h : Heap) : Option (Value × Heap) :=
  ob ((M.ofOpt (bin Try.prog .lss 3 x15 (.int .i64 4))) h) fun v65 h65 =>
  iteV v65 (
  ob ((O (.func 40) [x9, x14, x15, (.int .i64 0)]) h65) fun v66 h66 =>
  ob ((O (.func 41) [x10, x14, x15, (.int .i64 0)]) h66) fun v67 h67 =>
  ob ((O (.func 39) [v66, v67]) h67) fun v68 h68 =>
  ob ((M.ofOpt (un Try.prog .not v68)) h68) fun v69 h69 =>
  iteV v69 (
  k .ret [x0, x1, x2, x3, x4, x5, x6, x7, (.bool false), x9, x10, x11, x12, x13, x14, x15, x16, x17, x18, x19, x20, x21, x22, x23, x24, x25, x26, x27, x28, x29, x30, x31, x32, x33, x34, x35, x36, x37, x38, x39, x40, x41, x42, x43, x44, x45, x46, x47, x48, x49, x50, x51, x52, x53, x54, x55, x56, x57, x58, x59, x60, x61, x62, x63, x64, x65, x66, x67, x68, x69, x70, x71, x72, x73, x74, x75, x76, x77, x78, x79, x80, x81, x82, x83, x84, x85, x86, x87, x88, x89, x90, x91, x92, x93, x94, x95, x96, x97, x98, x99, x100, x101, x102, x103, x15, v65, x106, x107, x9, x14, x15, v66, x10, x14, x15, v67, v68, v69] h69) (
  ob ((M.ofOpt (bin Try.prog .add 3 x15 (.int .i64 1))) h69) fun v70 h70 =>
  k .normal [x0, x1, x2, x3, x4, x5, x6, x7, x8, x9, x10, x11, x12, x13, x14, v70, x16, x17, x18, x19, x20, x21, x22, x23, x24, x25, x26, x27, x28, x29, x30, x31, x32, x33, x34, x35, x36, x37, x38, x39, x40, x41, x42, x43, x44, x45, x46, x47, x48, x49, x50, x51, x52, x53, x54, x55, x56, x57, x58, x59, x60, x61, x62, x63, x64, x65, x66, x67, x68, x69, x70, x71, x72, x73, x74, x75, x76, x77, x78, x79, x80, x81, x82, x83, x84, x85, x86, x87, x88, x89, x90, x91, x92, x93, x94, x95, x96, x97, x98, x99, x100, x101, x102, x103, x15, v65, x15, v70, x9, x14, x15, v66, x10, x14, x15, v67, v68, v69] h70)) (
  k (.exit 4) [x0, x1, x2, x3, x4, x5, x6, x7, x8, x9, x10, x11, x12, x13, x14, x15, x16, x17, x18, x19, x20, x21, x22, x23, x24, x25, x26, x27, x28, x29, x30, x31, x32, x33, x34, x35, x36, x37, x38, x39, x40, x41, x42, x43, x44, x45, x46, x47, x48, x49, x50, x51, x52, x53, x54, x55, x56, x57, x58, x59, x60, x61, x62, x63, x64, x65, x66, x67, x68, x69, x70, x71, x72, x73, x74, x75, x76, x77, x78, x79, x80, x81, x82, x83, x84, x85, x86, x87, x88, x89, x90, x91, x92, x93, x94, x95, x96, x97, x98, x99, x100, x101, x102, x103, x15, v65, x106, x107, x108, x109, x110, x111, x112, x113, x114, x115, x116, x117] h65)
theorem f12_b2_eq (O : Oracle) (L : Loops (Value × Heap)) (k : Ex → K (Value × Heap)) (x0 x1 x2 x3 x4 x5 x6 x7 x8 x9 x10 x11 x12 x13 x14 x15 x16 x17 x18 x19 x20 x21 x22 x23 x24 x25 x26 x27 x28 x29 x30 x31 x32 x33 x34 x35 x36 x37 x38 x39 x40 x41 x42 x43 x44 x45 x46 x47 x48 x49 x50 x51 x52 x53 x54 x55 x56 x57 x58 x59 x60 x61 x62 x63 x64 x65 x66 x67 x68 x69 x70 x71 x72 x73 x74 x75 x76 x77 x78 x79 x80 x81 x82 x83 x84 x85 x86 x87 x88 x89 x90 x91 x92 x93 x94 x95 x96 x97 x98 x99 x100 x101 x102 x103 x104 x105 x106 x107 x108 x109 x110 x111 x112 x113 x114 x115 x116 x117 : Value) (h : Heap) :
    runCode Try.prog O L f12_c2 k [x0, x1, x2, x3, x4, x5, x6, x7, x8, x9, x10, x11, x12, x13, x14, x15, x16, x17, x18, x19, x20, x21, x22, x23, x24, x25, x26, x27, x28, x29, x30, x31, x32, x33, x34, x35, x36, x37, x38, x39, x40, x41, x42, x43, x44, x45, x46, x47, x48, x49, x50, x51, x52, x53, x54, x55, x56, x57, x58, x59, x60, x61, x62, x63, x64, x65, x66, x67, x68, x69, x70, x71, x72, x73, x74, x75, x76, x77, x78, x79, x80, x81, x82, x83, x84, x85, x86, x87, x88, x89, x90, x91, x92, x93, x94, x95, x96, x97, x98, x99, x100, x101, x102, x103, x104, x105, x106, x107, x108, x109, x110, x111, x112, x113, x114, x115, x116, x117] h = f12_b2 O L k x0 x1 x2 x3 x4 x5 x6 x7 x8 x9 x10 x11 x12 x13 x14 x15 x16 x17 x18 x19 x20 x21 x22 x23 x24 x25 x26 x27 x28 x29 x30 x31 x32 x33 x34 x35 x36 x37 x38 x39 x40 x41 x42 x43 x44 x45 x46 x47 x48 x49 x50 x51 x52 x53 x54 x55 x56 x57 x58 x59 x60 x61 x62 x63 x64 x65 x66 x67 x68 x69 x70 x71 x72 x73 x74 x75 x76 x77 x78 x79 x80 x81 x82 x83 x84 x85 x86 x87 x88 x89 x90 x91 x92 x93 x94 x95 x96 x97 x98 x99 x100 x101 x102 x103 x104 x105 x106 x107 x108 x109 x110 x111 x112 x113 x114 x115 x116 x117 h := by kernel_rfl
noncomputable def f12_c1 : Code := sub [1, 1, 1, 1, 1, 1, 0, 1, 0, 0] (fbody Try.prog 12)
noncomputable def f12_k1 (O : Oracle) (L : Loops (Value × Heap)) : Ex → K (Value × Heap) := (blockK 2 (seqK Try.prog O L (sub [1, 1, 1, 1, 1, 1, 1] (fbody Try.prog 12)) (kRet Try.prog Try.f12)))
noncomputable def f12_e1_2 (O : Oracle) (L : Loops (Value × Heap)) (x0 x1 x2 x3 x4 x5 x6 x7 x8 x9 x10 x11 x12 x13 x14 x15 x16 x17 x18 x19 x20 x21 x22 x23 x24 x25 x26 x27 x28 x29 x30 x31 x32 x33 x34 x35 x36 x37 x38 x39 x40 x41 x42 x43 x44 x45 x46 x47 x48 x49 x50 x51 x52 x53 x54 x55 x56 x57 x58 x59 x60 x61 x62 x63 x64 x65 x66 x67 x68 x69 x70 x71 x72 x73 x74 x75 x76 x77 x78 x79 x80 x81 x82 x83 x84 x85 x86 x87 x88 x89 x90 x91 x92 x93 x94 x95 x96 x97 x98 x99 x100 x101 x102 x103 x104 x105 x106 x107 x108 x109 x110 x111 x112 x113 x114 x115 x116 x117 : Value) (h : Heap) : Option (Value × Heap) :=
  some (oneOf [(.bool true)], h)
theorem f12_e1_2_eq (O : Oracle) (L : Loops (Value × Heap)) (x0 x1 x2 x3 x4 x5 x6 x7 x8 x9 x10 x11 x12 x13 x14 x15 x16 x17 x18 x19 x20 x21 x22 x23 x24 x25 x26 x27 x28 x29 x30 x31 x32 x33 x34 x35 x36 x37 x38 x39 x40 x41 x42 x43 x44 x45 x46 x47 x48 x49 x50 x51 x52 x53 x54 x55 x56 x57 x58 x59 x60 x61 x62 x63 x64 x65 x66 x67 x68 x69 x70 x71 x72 x73 x74 x75 x76 x77 x78 x79 x80 x81 x82 x83 x84 x85 x86 x87 x88 x89 x90 x91 x92 x93 x94 x95 x96 x97 x98 x99 x100 x101 x102 x103 x104 x105 x106 x107 x108 x109 x110 x111 x112 x113 x114 x115 x116 x117 : Value) (h : Heap) :
    f12_k1 O L (.exit 2) [x0, x1, x2, x3, x4, x5, x6, x7, x8, x9, x10, x11, x12, x13, x14, x15, x16, x17, x18, x19, x20, x21, x22, x23, x24, x25, x26, x27, x28, x29, x30, x31, x32, x33, x34, x35, x36, x37, x38, x39, x40, x41, x42, x43, x44, x45, x46, x47, x48, x49, x50, x51, x52, x53, x54, x55, x56, x57, x58, x59, x60, x61, x62, x63, x64, x65, x66, x67, x68, x69, x70, x71, x72, x73, x74, x75, x76, x77, x78, x79, x80, x81, x82, x83, x84, x85, x86, x87, x88, x89, x90, x91, x92, x93, x94, x95, x96, x97, x98, x99, x100, x101, x102, x103, x104, x105, x106, x107, x108, x109, x110, x111, x112, x113, x114, x115, x116, x117] h = f12_e1_2 O L x0 x1 x2 x3 x4 x5 x6 x7 x8 x9 x10 x11 x12 x13 x14 x15 x16 x17 x18 x19 x20 x21 x22 x23 x24 x25 x26 x27 x28 x29 x30 x31 x32 x33 x34 x35 x36 x37 x38 x39 x40 x41 x42 x43 x44 x45 x46 x47 x48 x49 x50 x51 x52 x53 x54 x55 x56 x57 x58 x59 x60 x61 x62 x63 x64 x65 x66 x67 x68 x69 x70 x71 x72 x73 x74 x75 x76 x77 x78 x79 x80 x81 x82 x83 x84 x85 x86 x87 x88 x89 x90 x91 x92 x93 x94 x95 x96 x97 x98 x99 x100 x101 x102 x103 x104 x105 x106 x107 x108 x109 x110 x111 x112 x113 x114 x115 x116 x117 h := by kernel_rfl
noncomputable def f12_r1 (O : Oracle) (L : Loops (Value × Heap)) (x0 x1 x2 x3 x4 x5 x6 x7 x8 x9 x10 x11 x12 x13 x14 x15 x16 x17 x18 x19 x20 x21 x22 x23 x24 x25 x26 x27 x28 x29 x30 x31 x32 x33 x34 x35 x36 x37 x38 x39 x40 x41 x42 x43 x44 x45 x46 x47 x48 x49 x50 x51 x52 x53 x54 x55 x56 x57 x58 x59 x60 x61 x62 x63 x64 x65 x66 x67 x68 x69 x70 x71 x72 x73 x74 x75 x76 x77 x78 x79 x80 x81 x82 x83 x84 x85 x86 x87 x88 x89 x90 x91 x92 x93 x94 x95 x96 x97 x98 x99 x100 x101 x102 x103 x104 x105 x106 x107 x108 x109 x110 x111 x112 x113 x114 x115 x116 x117 : Value) (h : Heap) : Option (Value × Heap) :=
  some (oneOf [x8], h)
theorem f12_r1_eq (O : Oracle) (L : Loops (Value × Heap)) (x0 x1 x2 x3 x4 x5 x6 x7 x8 x9 x10 x11 x12 x13 x14 x15 x16 x17 x18 x19 x20 x21 x22 x23 x24 x25 x26 x27 x28 x29 x30 x31 x32 x33 x34 x35 x36 x37 x38 x39 x40 x41 x42 x43 x44 x45 x46 x47 x48 x49 x50 x51 x52 x53 x54 x55 x56 x57 x58 x59 x60 x61 x62 x63 x64 x65 x66 x67 x68 x69 x70 x71 x72 x73 x74 x75 x76 x77 x78 x79 x80 x81 x82 x83 x84 x85 x86 x87 x88 x89 x90 x91 x92 x93 x94 x95 x96 x97 x98 x99 x100 x101 x102 x103 x104 x105 x106 x107 x108 x109 x110 x111 x112 x113 x114 x115 x116 x117 : Value) (h : Heap) :
    f12_k1 O L .ret [x0, x1, x2, x3, x4, x5, x6, x7, x8, x9, x10, x11, x12, x13, x14, x15, x16, x17, x18, x19, x20, x21, x22, x23, x24, x25, x26, x27, x28, x29, x30, x31, x32, x33, x34, x35, x36, x37, x38, x39, x40, x41, x42, x43, x44, x45, x46, x47, x48, x49, x50, x51, x52, x53, x54, x55, x56, x57, x58, x59, x60, x61, x62, x63, x64, x65, x66, x67, x68, x69, x70, x71, x72, x73, x74, x75, x76, x77, x78, x79, x80, x81, x82, x83, x84, x85, x86, x87, x88, x89, x90, x91, x92, x93, x94, x95, x96, x97, x98, x99, x100, x101, x102, x103, x104, x105, x106, x107, x108, x109, x110, x111, x112, x113, x114, x115, x116, x117] h = f12_r1 O L x0 x1 x2 x3 x4 x5 x6 x7 x8 x9 x10 x11 x12 x13 x14 x15 x16 x17 x18 x19 x20 x21 x22 x23 x24 x25 x26 x27 x28 x29 x30 x31 x32 x33 x34 x35 x36 x37 x38 x39 x40 x41 x42 x43 x44 x45 x46 x47 x48 x49 x50 x51 x52 x53 x54 x55 x56 x57 x58 x59 x60 x61 x62 x63 x64 x65 x66 x67 x68 x69 x70 x71 x72 x73 x74 x75 x76 x77 x78 x79 x80 x81 x82 x83 x84 x85 x86 x87 x88 x89 x90 x91 x92 x93 x94 x95 x96 x97 x98 x99 x100 x101 x102 x103 x104 x105 x106 x107 x108 x109 x110 x111 x112 x113 x114 x115 x116 x117 h := by kernel_rfl
noncomputable def f12_b1 (O : Oracle) (L : Loops (Value × Heap)) (k : Ex → K (Value × Heap)) (x0 x1 x2 x3 x4 x5 x6 x7 x8 x9 x10 x11 x12 x13 x14 x15 x16 x17 x18 x19 x20 x21 x22 x23 x24 x25 x26 x27 x28 x29 x30 x31 x32 x33 x34 x35 x36 x37 x38 x39 x40 x41 x42 x43 x44 x45 x46 x47 x48 x49 x50 x51 x52 x53 x54 x55 x56 x57 x58 x59 x60 x61 x62 x63 x64 x65 x66 x67 x68 x69 x70 x71 x72 x73 x74 x75 x76 x77 x78 x79 x80 x81 x82 x83 x84 x85 x86 x87 x88 x89 x90 x91 x92 x93 x94 x95 x96 x97 x98 x99 x100 x101 x102 x103 x104 x105 x106 x107 x108 x109 x110 x111 x112 x113 x114 x115 x116 x117 : Value) (h : Heap) : Option (Value × Heap) :=
  ob ((M.ofOpt (bin Try.prog .lss 3 x14 (.int .i64 4))) h) fun v64 h64 =>
  iteV v64 (
  L (runCode Try.prog O L f12_c2) (f12_k2 O L k) [x0, x1, x2, x3, x4, x5, x6, x7, x8, x9, x10, x11, x12, x13, x14, (.int .i64 0), x16, x17, x18, x19, x20, x21, x22, x23, x24, x25, x26, x27, x28, x29, x30, x31, x32, x33, x34, x35, x36, x37, x38, x39, x40, x41, x42, x43, x44, x45, x46, x47, x48, x49, x50, x51, x52, x53, x54, x55, x56, x57, x58, x59, x60, x61, x62, x63, x64, x65, x66, x67, x68, x69, x70, x71, x72, x73, x74, x75, x76, x77, x78, x79, x80, x81, x82, x83, x84, x85, x86, x87, x88, x89, x90, x91, x92, x93, x94, x95, x96, x97, x98, x99, x14, v64, x102, x103, x104, x105, x106, x107, x108, x109, x110, x111, x112, x113, x114, x115, x116, x117] h64) (
  k (.exit 2) [x0, x1, x2, x3, x4, x5, x6, x7, x8, x9, x10, x11, x12, x13, x14, x15, x16, x17, x18, x19, x20, x21, x22, x23, x24, x25, x26, x27, x28, x29, x30, x31, x32, x33, x34, x35, x36, x37, x38, x39, x40, x41, x42, x43, x44, x45, x46, x47, x48, x49, x50, x51, x52, x53, x54, x55, x56, x57, x58, x59, x60, x61, x62, x63, x64, x65, x66, x67, x68, x69, x70, x71, x72, x73, x74, x75, x76, x77, x78, x79, x80, x81, x82, x83, x84, x85, x86, x87, x88, x89, x90, x91, x92, x93, x94, x95, x96, x97, x98, x99, x14, v64, x102, x103, x104, x105, x106, x107, x108, x109, x110, x111, x112, x113, x114, x115, x116, x117] h64)
theorem f12_b1_eq (O : Oracle) (L : Loops (Value × Heap)) (k : Ex → K (Value × Heap)) (x0 x1 x2 x3 x4 x5 x6 x7 x8 x9 x10 x11 x12 x13 x14 x15 x16 x17 x18 x19 x20 x21 x22 x23 x24 x25 x26 x27 x28 x29 x30 x31 x32 x33 x34 x35 x36 x37 x38 x39 x40 x41 x42 x43 x44 x45 x46 x47 x48 x49 x50 x51 x52 x53 x54 x55 x56 x57 x58 x59 x60 x61 x62 x63 x64 x65 x66 x67 x68 x69 x70 x71 x72 x73 x74 x75 x76 x77 x78 x79 x80 x81 x82 x83 x84 x85 x86 x87 x88 x89 x90 x91 x92 x93 x94 x95 x96 x97 x98 x99 x100 x101 x102 x103 x104 x105 x106 x107 x108 x109 x110 x111 x112 x113 x114 x115 x116 x117 : Value) (h : Heap) :
    runCode Try.prog O L f12_c1 k [x0, x1, x2, x3, x4, x5, x6, x7, x8, x9, x10, x11, x12, x13, x14, x15, x16, x17, x18, x19, x20, x21, x22, x23, x24, x25, x26, x27, x28, x29, x30, x31, x32, x33, x34, x35, x36, x37, x38, x39, x40, x41, x42, x43, x44, x45, x46, x47, x48, x49, x50, x51, x52, x53, x54, x55, x56, x57, x58, x59, x60, x61, x62, x63, x64, x65, x66, x67, x68, x69, x70, x71, x72, x73, x74, x75, x76, x77, x78, x79, x80, x81, x82, x83, x84, x85, x86, x87, x88, x89, x90, x91, x92, x93, x94, x95, x96, x97, x98, x99, x100, x101, x102, x103, x104, x105, x106, x107, x108, x109, x110, x111, x112, x113, x114, x115, x116, x117] h = f12_b1 O L k x0 x1 x2 x3 x4 x5 x6 x7 x8 x9 x10 x11 x12 x13 x14 x15 x16 x17 x18 x19 x20 x21 x22 x23 x24 x25 x26 x27 x28 x29 x30 x31 x32 x33 x34 x35 x36 x37 x38 x39 x40 x41 x42 x43 x44 x45 x46 x47 x48 x49 x50 x51 x52 x53 x54 x55 x56 x57 x58 x59 x60 x61 x62 x63 x64 x65 x66 x67 x68 x69 x70 x71 x72 x73 x74 x75 x76 x77 x78 x79 x80 x81 x82 x83 x84 x85 x86 x87 x88 x89 x90 x91 x92 x93 x94 x95 x96 x97 x98 x99 x100 x101 x102 x103 x104 x105 x106 x107 x108 x109 x110 x111 x112 x113 x114 x115 x116 x117 h := by kernel_rfl
noncomputable def f12_c0 : Code := sub [1, 1, 1, 1, 1, 0, 1, 0, 0] (fbody Try.prog 12)
noncomputable def f12_k0 (O : Oracle) (L : Loops (Value × Heap)) : Ex → K (Value × Heap) := (blockK 0 (seqK Try.prog O L (sub [1, 1, 1, 1, 1, 1] (fbody Try.prog 12)) (kRet Try.prog Try.f12)))
noncomputable def f12_e0_0 (O : Oracle) (L : Loops (Value × Heap)) (x0 x1 x2 x3 x4 x5 x6 x7 x8 x9 x10 x11 x12 x13 x14 x15 x16 x17 x18 x19 x20 x21 x22 x23 x24 x25 x26 x27 x28 x29 x30 x31 x32 x33 x34 x35 x36 x37 x38 x39 x40 x41 x42 x43 x44 x45 x46 x47 x48 x49 x50 x51 x52 x53 x54 x55 x56 x57 x58 x59 x60 x61 x62 x63 x64 x65 x66 x67 x68 x69 x70 x71 x72 x73 x74 x75 x76 x77 x78 x79 x80 x81 x82 x83 x84 x85 x86 x87 x88 x89 x90 x91 x92 x93 x94 x95 x96 x97 x98 x99 x100 x101 x102 x103 x104 x105 x106 x107 x108 x109 x110 x111 x112 x113 x114 x115 x116 x117 : Value) (h : Heap) : Option (Value × Heap) :=
  L (runCode Try.prog O L f12_c1) (f12_k1 O L) [x0, x1, x2, x3, x4, x5, x6, x7, x8, x9, x10, x11, x12, x13, (.int .i64 (-1)), x15, x16, x17, x18, x19, x20, x21, x22, x23, x24, x25, x26, x27, x28, x29, x30, x31, x32, x33, x34, x35, x36, x37, x38, x39, x40, x41, x42, x43, x44, x45, x46, x47, x48, x49, x50, x51, x52, x53, x54, x55, x56, x57, x58, x59, x60, x61, x62, x63, x64, x65, x66, x67, x68, x69, x70, x71, x72, x73, x74, x75, x76, x77, x78, x79, x80, x81, x82, x83, x84, x85, x86, x87, x88, x89, x90, x91, x92, x93, x94, x95, x96, x97, x98, x99, x100, x101, x102, x103, x104, x105, x106, x107, x108, x109, x110, x111, x112, x113, x114, x115, x116, x117] h
theorem f12_e0_0_eq (O : Oracle) (L : Loops (Value × Heap)) (x0 x1 x2 x3 x4 x5 x6 x7 x8 x9 x10 x11 x12 x13 x14 x15 x16 x17 x18 x19 x20 x21 x22 x23 x24 x25 x26 x27 x28 x29 x30 x31 x32 x33 x34 x35 x36 x37 x38 x39 x40 x41 x42 x43 x44 x45 x46 x47 x48 x49 x50 x51 x52 x53 x54 x55 x56 x57 x58 x59 x60 x61 x62 x63 x64 x65 x66 x67 x68 x69 x70 x71 x72 x73 x74 x75 x76 x77 x78 x79 x80 x81 x82 x83 x84 x85 x86 x87 x88 x89 x90 x91 x92 x93 x94 x95 x96 x97 x98 x99 x100 x101 x102 x103 x104 x105 x106 x107 x108 x109 x110 x111 x112 x113 x114 x115 x116 x117 : Value) (h : Heap) :
    f12_k0 O L (.exit 0) [x0, x1, x2, x3, x4, x5, x6, x7, x8, x9, x10, x11, x12, x13, x14, x15, x16, x17, x18, x19, x20, x21, x22, x23, x24, x25, x26, x27, x28, x29, x30, x31, x32, x33, x34, x35, x36, x37, x38, x39, x40, x41, x42, x43, x44, x45, x46, x47, x48, x49, x50, x51, x52, x53, x54, x55, x56, x57, x58, x59, x60, x61, x62, x63, x64, x65, x66, x67, x68, x69, x70, x71, x72, x73, x74, x75, x76, x77, x78, x79, x80, x81, x82, x83, x84, x85, x86, x87, x88, x89, x90, x91, x92, x93, x94, x95, x96, x97, x98, x99, x100, x101, x102, x103, x104, x105, x106, x107, x108, x109, x110, x111, x112, x113, x114, x115, x116, x117] h = f12_e0_0 O L x0 x1 x2 x3 x4 x5 x6 x7 x8 x9 x10 x11 x12 x13 x14 x15 x16 x17 x18 x19 x20 x21 x22 x23 x24 x25 x26 x27 x28 x29 x30 x31 x32 x33 x34 x35 x36 x37 x38 x39 x40 x41 x42 x43 x44 x45 x46 x47 x48 x49 x50 x51 x52 x53 x54 x55 x56 x57 x58 x59 x60 x61 x62 x63 x64 x65 x66 x67 x68 x69 x70 x71 x72 x73 x74 x75 x76 x77 x78 x79 x80 x81 x82 x83 x84 x85 x86 x87 x88 x89 x90 x91 x92 x93 x94 x95 x96 x97 x98 x99 x100 x101 x102 x103 x104 x105 x106 x107 x108 x109 x110 x111 x112 x113 x114 x115 x116 x117 h := by kernel_rfl
noncomputable def f12_r0 (O : Oracle) (L : Loops (Value × Heap)) (x0 x1 x2 x3 x4 x5 x6 x7 x8 x9 x10 x11 x12 x13 x14 x15 x16 x17 x18 x19 x20 x21 x22 x23 x24 x25 x26 x27 x28 x29 x30 x31 x32 x33 x34 x35 x36 x37 x38 x39 x40 x41 x42 x43 x44 x45 x46 x47 x48 x49 x50 x51 x52 x53 x54 x55 x56 x57 x58 x59 x60 x61 x62 x63 x64 x65 x66 x67 x68 x69 x70 x71 x72 x73 x74 x75 x76 x77 x78 x79 x80 x81 x82 x83 x84 x85 x86 x87 x88 x89 x90 x91 x92 x93 x94 x95 x96 x97 x98 x99 x100 x101 x102 x103 x104 x105 x106 x107 x108 x109 x110 x111 x112 x113 x114 x115 x116 x117 : Value) (h : Heap) : Option (Value × Heap) :=
  some (oneOf [x8], h)
theorem f12_r0_eq (O : Oracle) (L : Loops (Value × Heap)) (x0 x1 x2 x3 x4 x5 x6 x7 x8 x9 x10 x11 x12 x13 x14 x15 x16 x17 x18 x19 x20 x21 x22 x23 x24 x25 x26 x27 x28 x29 x30 x31 x32 x33 x34 x35 x36 x37 x38 x39 x40 x41 x42 x43 x44 x45 x46 x47 x48 x49 x50 x51 x52 x53 x54 x55 x56 x57 x58 x59 x60 x61 x62 x63 x64 x65 x66 x67 x68 x69 x70 x71 x72 x73 x74 x75 x76 x77 x78 x79 x80 x81 x82 x83 x84 x85 x86 x87 x88 x89 x90 x91 x92 x93 x94 x95 x96 x97 x98 x99 x100 x101 x102 x103 x104 x105 x106 x107 x108 x109 x110 x111 x112 x113 x114 x115 x116 x117 : Value) (h : Heap) :
    f12_k0 O L .ret [x0, x1, x2, x3, x4, x5, x6, x7, x8, x9, x10, x11, x12, x13, x14, x15, x16, x17, x18, x19, x20, x21, x22, x23, x24, x25, x26, x27, x28, x29, x30, x31, x32, x33, x34, x35, x36, x37, x38, x39, x40, x41, x42, x43, x44, x45, x46, x47, x48, x49, x50, x51, x52, x53, x54, x55, x56, x57, x58, x59, x60, x61, x62, x63, x64, x65, x66, x67, x68, x69, x70, x71, x72, x73, x74, x75, x76, x77, x78, x79, x80, x81, x82, x83, x84, x85, x86, x87, x88, x89, x90, x91, x92, x93, x94, x95, x96, x97, x98, x99, x100, x101, x102, x103, x104, x105, x106, x107, x108, x109, x110, x111, x112, x113, x114, x115, x116, x117] h = f12_r0 O L x0 x1 x2 x3 x4 x5 x6 x7 x8 x9 x10 x11 x12 x13 x14 x15 x16 x17 x18 x19 x20 x21 x22 x23 x24 x25 x26 x27 x28 x29 x30 x31 x32 x33 x34 x35 x36 x37 x38 x39 x40 x41 x42 x43 x44 x45 x46 x47 x48 x49 x50 x51 x52 x53 x54 x55 x56 x57 x58 x59 x60 x61 x62 x63 x64 x65 x66 x67 x68 x69 x70 x71 x72 x73 x74 x75 x76 x77 x78 x79 x80 x81 x82 x83 x84 x85 x86 x87 x88 x89 x90 x91 x92 x93 x94 x95 x96 x97 x98 x99 x100 x101 x102 x103 x104 x105 x106 x107 x108 x109 x110 x111 x112 x113 x114 x115 x116 x117 h := by kernel_rfl
noncomputable def f12_b0 (O : Oracle) (L : Loops (Value × Heap)) (k : Ex → K (Value × Heap)) (x0 x1 x2 x3 x4 x5 x6 x7 x8 x9 x10 x11 x12 x13 x14 x15 x16 x17 x18 x19 x20 x21 x22 x23 x24 x25 x26 x27 x28 x29 x30 x31 x32 x33 x34 x35 x36 x37 x38 x39 x40 x41 x42 x43 x44 x45 x46 x47 x48 x49 x50 x51 x52 x53 x54 x55 x56 x57 x58 x59 x60 x61 x62 x63 x64 x65 x66 x67 x68 x69 x70 x71 x72 x73 x74 x75 x76 x77 x78 x79 x80 x81 x82 x83 x84 x85 x86 x87 x88 x89 x90 x91 x92 x93 x94 x95 x96 x97 x98 x99 x100 x101 x102 x103 x104 x105 x106 x107 x108 x109 x110 x111 x112 x113 x114 x115 x116 x117 : Value) (h : Heap) : Option (Value × Heap) :=
  ob ((M.ofOpt (lenSl x3)) h) fun v16 h16 =>
  ob ((M.ofOpt (bin Try.prog .lss 3 x11 v16)) h16) fun v17 h17 =>
  iteV v17 (
  ob ((M.ofOpt (iAddr 9 x3 x11)) h17) fun v18 h18 =>
  ob ((ldN 9 v18) h18) fun v19 h19 =>
  ob ((O (.func 34) [v19]) h19) fun v20 h20 =>
  ob ((newB 58 [(.int .u8 0), (.int .i64 0), (.int .i64 0), (.int .i64 0), (.bool false), (.int .i64 0), (.int .i64 0), (.int .i64 0), (.int .u32 0)] .fix) h20) fun v21 h21 =>
  ob ((stN 9 v21 v20) h21) fun v22 h22 =>
  ob ((ldN 9 v21) h22) fun v23 h23 =>
  ob ((O (.func 37) [x9, x10, v23]) h23) fun v24 h24 =>
  ob ((M.ofOpt (un Try.prog .not v24)) h24) fun v25 h25 =>
  ob ((gd v25 false (M.ret x9)) h25) fun v26 h26 =>
  ob ((gd v25 false (M.ofOpt (fAddr 1 v21))) h26) fun v27 h27 =>
  ob ((gd v25 false (ld1 v27)) h27) fun v28 h28 =>
  ifB (true) (
  ob ((gd v25 false (M.ofOpt (fAddr 2 v21))) h28) fun v29 h29 =>
  ob ((gd v25 false (ld1 v29)) h29) fun v30 h30 =>
  ifB (true) (
  ob ((gd v25 false (M.ofOpt (fAddr 3 v21))) h30) fun v31 h31 =>
  ob ((gd v25 false (ld1 v31)) h31) fun v32 h32 =>
  ifB (true) (
  ob ((gd v25 false (O (.func 32) [v26, v28, v30, v32])) h32) fun v33 h33 =>
  ifB (true) (
  ob ((gd v25 false (M.ret x10)) h33) fun v34 h34 =>
  ob ((gd v25 false (M.ofOpt (fAddr 1 v21))) h34) fun v35 h35 =>
  ob ((gd v25 false (ld1 v35)) h35) fun v36 h36 =>
  ifB (chk ((gd v25 false (ld1 v35)) h32) v36 && (true)) (
  ob ((gd v25 false (M.ofOpt (fAddr 2 v21))) h36) fun v37 h37 =>
  ob ((gd v25 false (ld1 v37)) h37) fun v38 h38 =>
  ifB (chk ((gd v25 false (ld1 v37)) h32) v38 && (true)) (
  ob ((gd v25 false (M.ofOpt (fAddr 3 v21))) h38) fun v39 h39 =>
  ob ((gd v25 false (ld1 v39)) h39) fun v40 h40 =>
  ifB (chk ((gd v25 false (ld1 v39)) h32) v40 && (true)) (
  ob ((gd v25 false (O (.func 38) [v34, v36, v38, v40])) h40) fun v41 h41 =>
  ifB (true) (
  ob ((gd v25 false (M.ofOpt (bin Try.prog .neq 3 v33 v41))) h41) fun v42 h42 =>
  ob ((M.ofOpt (pick v25 (.bool true) v42)) h42) fun v43 h43 =>
  ob ((gd v43 false (M.ret x9)) h43) fun v44 h44 =>
  ob ((gd v43 false (M.ofOpt (fAddr 1 v21))) h44) fun v45 h45 =>
  ob ((gd v43 false (ld1 v45)) h45) fun v46 h46 =>
  ifB (true) (
  ob ((gd v43 false (M.ofOpt (fAddr 2 v21))) h46) fun v47 h47 =>
  ob ((gd v43 false (ld1 v47)) h47) fun v48 h48 =>
  ifB (true) (
  ob ((gd v43 false (M.ofOpt (fAddr 3 v21))) h48) fun v49 h49 =>
  ob ((gd v43 false (ld1 v49)) h49) fun v50 h50 =>
  ifB (true) (
  ob ((gd v43 false (O (.func 40) [v44, v46, v48, v50])) h50) fun v51 h51 =>
  ifB (true) (
  ob ((gd v43 false (M.ret x10)) h51) fun v52 h52 =>
  ob ((gd v43 false (M.ofOpt (fAddr 1 v21))) h52) fun v53 h53 =>
  ob ((gd v43 false (ld1 v53)) h53) fun v54 h54 =>
  ifB (chk ((gd v43 false (ld1 v53)) h50) v54 && (true)) (
  ob ((gd v43 false (M.ofOpt (fAddr 2 v21))) h54) fun v55 h55 =>
  ob ((gd v43 false (ld1 v55)) h55) fun v56 h56 =>
  ifB (chk ((gd v43 false (ld1 v55)) h50) v56 && (true)) (
  ob ((gd v43 false (M.ofOpt (fAddr 3 v21))) h56) fun v57 h57 =>
  ob ((gd v43 false (ld1 v57)) h57) fun v58 h58 =>
  ifB (chk ((gd v43 false (ld1 v57)) h50) v58 && (true)) (
  ob ((gd v43 false (O (.func 41) [v52, v54, v56, v58])) h58) fun v59 h59 =>
  ifB (true) (
  ob ((gd v43 false (O (.func 39) [v51, v59])) h59) fun v60 h60 =>
  ifB (true) (
  ob ((gd v43 false (M.ofOpt (un Try.prog .not v60))) h60) fun v61 h61 =>
  ob ((M.ofOpt (pick v43 (.bool true) v61)) h61) fun v62 h62 =>
  iteV v62 (
  k .ret [x0, x1, x2, x3, x4, x5, x6, x7, (.bool false), x9, x10, x11, v21, v24, x14, x15, x16, x17, x18, x19, x20, x21, x22, x23, x24, x25, x26, x27, x28, x29, x30, x31, x32, x33, x34, x35, x36, x37, x38, x39, x40, x41, x42, x43, x11, x3, v16, v17, x48, x49, x3, x11, v18, v19, v20, x9, x10, v23, v24, v24, v25, v25, v26, v27, v28, v29, v30, v31, v32, v33, v34, v35, v36, v37, v38, v39, v40, v41, v42, v43, v43, v44, v45, v46, v47, v48, v49, v50, v51, v52, v53, v54, v55, v56, v57, v58, v59, v60, v61, v62, x100, x101, x102, x103, x104, x105, x106, x107, x108, x109, x110, x111, x112, x113, x114, x115, x116, x117] h62) (
  ob ((M.ofOpt (bin Try.prog .add 3 x11 (.int .i64 1))) h62) fun v63 h63 =>
  k .normal [x0, x1, x2, x3, x4, x5, x6, x7, x8, x9, x10, v63, v21, v24, x14, x15, x16, x17, x18, x19, x20, x21, x22, x23, x24, x25, x26, x27, x28, x29, x30, x31, x32, x33, x34, x35, x36, x37, x38, x39, x40, x41, x42, x43, x11, x3, v16, v17, x11, v63, x3, x11, v18, v19, v20, x9, x10, v23, v24, v24, v25, v25, v26, v27, v28, v29, v30, v31, v32, v33, v34, v35, v36, v37, v38, v39, v40, v41, v42, v43, v43, v44, v45, v46, v47, v48, v49, v50, v51, v52, v53, v54, v55, v56, v57, v58, v59, v60, v61, v62, x100, x101, x102, x103, x104, x105, x106, x107, x108, x109, x110, x111, x112, x113, x114, x115, x116, x117] h63))))))))))))))))))) (
  k (.exit 0) [x0, x1, x2, x3, x4, x5, x6, x7, x8, x9, x10, x11, x12, x13, x14, x15, x16, x17, x18, x19, x20, x21, x22, x23, x24, x25, x26, x27, x28, x29, x30, x31, x32, x33, x34, x35, x36, x37, x38, x39, x40, x41, x42, x43, x11, x3, v16, v17, x48, x49, x50, x51, x52, x53, x54, x55, x56, x57, x58, x59, x60, x61, x62, x63, x64, x65, x66, x67, x68, x69, x70, x71, x72, x73, x74, x75, x76, x77, x78, x79, x80, x81, x82, x83, x84, x85, x86, x87, x88, x89, x90, x91, x92, x93, x94, x95, x96, x97, x98, x99, x100, x101, x102, x103, x104, x105, x106, x107, x108, x109, x110, x111, x112, x113, x114, x115, x116, x117] h17)
theorem f12_b0_eq (O : Oracle) (L : Loops (Value × Heap)) (k : Ex → K (Value × Heap)) (x0 x1 x2 x3 x4 x5 x6 x7 x8 x9 x10 x11 x12 x13 x14 x15 x16 x17 x18 x19 x20 x21 x22 x23 x24 x25 x26 x27 x28 x29 x30 x31 x32 x33 x34 x35 x36 x37 x38 x39 x40 x41 x42 x43 x44 x45 x46 x47 x48 x49 x50 x51 x52 x53 x54 x55 x56 x57 x58 x59 x60 x61 x62 x63 x64 x65 x66 x67 x68 x69 x70 x71 x72 x73 x74 x75 x76 x77 x78 x79 x80 x81 x82 x83 x84 x85 x86 x87 x88 x89 x90 x91 x92 x93 x94 x95 x96 x97 x98 x99 x100 x101 x102 x103 x104 x105 x106 x107 x108 x109 x110 x111 x112 x113 x114 x115 x116 x117 : Value) (h : Heap) :
    runCode Try.prog O L f12_c0 k [x0, x1, x2, x3, x4, x5, x6, x7, x8, x9, x10, x11, x12, x13, x14, x15, x16, x17, x18, x19, x20, x21, x22, x23, x24, x25, x26, x27, x28, x29, x30, x31, x32, x33, x34, x35, x36, x37, x38, x39, x40, x41, x42, x43, x44, x45, x46, x47, x48, x49, x50, x51, x52, x53, x54, x55, x56, x57, x58, x59, x60, x61, x62, x63, x64, x65, x66, x67, x68, x69, x70, x71, x72, x73, x74, x75, x76, x77, x78, x79, x80, x81, x82, x83, x84, x85, x86, x87, x88, x89, x90, x91, x92, x93, x94, x95, x96, x97, x98, x99, x100, x101, x102, x103, x104, x105, x106, x107, x108, x109, x110, x111, x112, x113, x114, x115, x116, x117] h = f12_b0 O L k x0 x1 x2 x3 x4 x5 x6 x7 x8 x9 x10 x11 x12 x13 x14 x15 x16 x17 x18 x19 x20 x21 x22 x23 x24 x25 x26 x27 x28 x29 x30 x31 x32 x33 x34 x35 x36 x37 x38 x39 x40 x41 x42 x43 x44 x45 x46 x47 x48 x49 x50 x51 x52 x53 x54 x55 x56 x57 x58 x59 x60 x61 x62 x63 x64 x65 x66 x67 x68 x69 x70 x71 x72 x73 x74 x75 x76 x77 x78 x79 x80 x81 x82 x83 x84 x85 x86 x87 x88 x89 x90 x91 x92 x93 x94 x95 x96 x97 x98 x99 x100 x101 x102 x103 x104 x105 x106 x107 x108 x109 x110 x111 x112 x113 x114 x115 x116 x117 h := by kernel_rfl
noncomputable def f12 (O : Oracle) (L : Loops (Value × Heap)) (a0 a1 a2 a3 : Value) (h : Heap) : Option (Value × Heap) :=
  ob ((M.ofOpt (lenSl a3)) h) fun v0 h0 =>
  ob ((M.ofOpt (bin Try.prog .gtr 3 v0 (.int .i64 100))) h0) fun v1 h1 =>
  ob ((gd v1 false (O (.func 30) [])) h1) fun v2 h2 =>
  ob ((gd v1 false (M.ofOpt (un Try.prog .not v2))) h2) fun v3 h3 =>
  ob ((M.ofOpt (pick v1 (.bool true) v3)) h3) fun v4 h4 =>
  iteV v4 (
  ob ((O (.func 30) []) h4) fun v5 h5 =>
  some (oneOf [v5], h5)) (
  ob ((O (.func 29) [a0, a1, a2]) h4) fun v6 h6 =>
  ob ((O (.func 36) [a0, a1, a2]) h6) fun v7 h7 =>
  ob ((M.ofOpt (bin Try.prog .eql 46 v6 (.pointer none))) h7) fun v8 h8 =>
  ob ((gd v8 false (M.ret v7)) h8) fun v9 h9 =>
  ob ((gd v8 false (M.ofOpt (bin Try.prog .eql 61 v9 (.pointer none)))) h9) fun v10 h10 =>
  ob ((M.ofOpt (pick v8 (.bool true) v10)) h10) fun v11 h11 =>
  iteV v11 (
  ob ((M.ofOpt (bin Try.prog .eql 46 v6 (.pointer none))) h11) fun v12 h12 =>
  ob ((gd v12 true (M.ret v7)) h12) fun v13 h13 =>
  ob ((gd v12 true (M.ofOpt (bin Try.prog .eql 61 v13 (.pointer none)))) h13) fun v14 h14 =>
  ob ((M.ofOpt (pick v12 v14 (.bool false))) h14) fun v15 h15 =>
  some (oneOf [v15], h15)) (
  L (runCode Try.prog O L f12_c0) (f12_k0 O L) [a0, a1, a2, a3, undef, undef, undef, undef, (.bool false), v6, v7, (.int .i64 0), undef, undef, undef, undef, a3, v0, v1, v1, v2, v3, v4, undef, a0, a1, a2, v6, a0, a1, a2, v7, v6, v8, v8, v9, v10, v11, undef, undef, undef, undef, undef, undef, undef, undef, undef, undef, undef, undef, undef, undef, undef, undef, undef, undef, undef, undef, undef, undef, undef, undef, undef, undef, undef, undef, undef, undef, undef, undef, undef, undef, undef, undef, undef, undef, undef, undef, undef, undef, undef, undef, undef, undef, undef, undef, undef, undef, undef, undef, undef, undef, undef, undef, undef, undef, undef, undef, undef, undef, undef, undef, undef, undef, undef, undef, undef, undef, undef, undef, undef, undef, undef, undef, undef, undef, undef, undef] h11))
theorem f12_eq (O : Oracle) (L : Loops (Value × Heap)) (a0 a1 a2 a3 : Value) (h : Heap) :
    body Try.prog O L 12 [a0, a1, a2, a3] h = f12 O L a0 a1 a2 a3 h := by kernel_rfl

/-! 13: shunter/shunterlaw08.RingsOrder; slots: [(l, 0), (body, 1), (l, 2), (body, 3), (r, 5), (k, 6), (i, 7), (o, 8), (i, 9), (x, 10), (is, 11)] -/
noncomputable def f13_c1 : Code := sub [1, 1, 1, 1, 1, 1, 0, 1, 0, 0] (fbody Try.prog 13)
noncomputable def f13_k1 (O : Oracle) (L : Loops (Value × Heap)) : Ex → K (Value × Heap) := (blockK 2 (seqK Try.prog O L (sub [1, 1, 1, 1, 1, 1, 1] (fbody Try.prog 13)) (kRet Try.prog Try.f13)))
noncomputable def f13_e1_2 (O : Oracle) (L : Loops (Value × Heap)) (x0 x1 x2 x3 x4 x5 x6 x7 x8 x9 x10 x11 x12 x13 x14 x15 x16 x17 x18 x19 x20 x21 x22 x23 x24 x25 x26 x27 x28 x29 x30 x31 x32 x33 x34 x35 x36 x37 x38 x39 x40 x41 x42 x43 x44 x45 x46 x47 x48 x49 x50 x51 x52 x53 x54 x55 x56 x57 x58 x59 x60 x61 x62 x63 x64 x65 x66 x67 x68 x69 x70 x71 x72 x73 x74 x75 x76 x77 x78 x79 x80 x81 x82 x83 x84 x85 x86 x87 x88 x89 x90 x91 x92 x93 x94 x95 x96 x97 x98 x99 x100 x101 x102 x103 x104 x105 x106 x107 x108 x109 x110 x111 x112 x113 x114 : Value) (h : Heap) : Option (Value × Heap) :=
  ob ((O (.func 32) [x5, (.int .i64 2), (.int .i64 2), (.int .i64 1)]) h) fun v150 h150 =>
  ob ((M.ofOpt (bin Try.prog .eql 3 v150 (.int .i64 0))) h150) fun v151 h151 =>
  some (oneOf [v151], h151)
theorem f13_e1_2_eq (O : Oracle) (L : Loops (Value × Heap)) (x0 x1 x2 x3 x4 x5 x6 x7 x8 x9 x10 x11 x12 x13 x14 x15 x16 x17 x18 x19 x20 x21 x22 x23 x24 x25 x26 x27 x28 x29 x30 x31 x32 x33 x34 x35 x36 x37 x38 x39 x40 x41 x42 x43 x44 x45 x46 x47 x48 x49 x50 x51 x52 x53 x54 x55 x56 x57 x58 x59 x60 x61 x62 x63 x64 x65 x66 x67 x68 x69 x70 x71 x72 x73 x74 x75 x76 x77 x78 x79 x80 x81 x82 x83 x84 x85 x86 x87 x88 x89 x90 x91 x92 x93 x94 x95 x96 x97 x98 x99 x100 x101 x102 x103 x104 x105 x106 x107 x108 x109 x110 x111 x112 x113 x114 : Value) (h : Heap) :
    f13_k1 O L (.exit 2) [x0, x1, x2, x3, x4, x5, x6, x7, x8, x9, x10, x11, x12, x13, x14, x15, x16, x17, x18, x19, x20, x21, x22, x23, x24, x25, x26, x27, x28, x29, x30, x31, x32, x33, x34, x35, x36, x37, x38, x39, x40, x41, x42, x43, x44, x45, x46, x47, x48, x49, x50, x51, x52, x53, x54, x55, x56, x57, x58, x59, x60, x61, x62, x63, x64, x65, x66, x67, x68, x69, x70, x71, x72, x73, x74, x75, x76, x77, x78, x79, x80, x81, x82, x83, x84, x85, x86, x87, x88, x89, x90, x91, x92, x93, x94, x95, x96, x97, x98, x99, x100, x101, x102, x103, x104, x105, x106, x107, x108, x109, x110, x111, x112, x113, x114] h = f13_e1_2 O L x0 x1 x2 x3 x4 x5 x6 x7 x8 x9 x10 x11 x12 x13 x14 x15 x16 x17 x18 x19 x20 x21 x22 x23 x24 x25 x26 x27 x28 x29 x30 x31 x32 x33 x34 x35 x36 x37 x38 x39 x40 x41 x42 x43 x44 x45 x46 x47 x48 x49 x50 x51 x52 x53 x54 x55 x56 x57 x58 x59 x60 x61 x62 x63 x64 x65 x66 x67 x68 x69 x70 x71 x72 x73 x74 x75 x76 x77 x78 x79 x80 x81 x82 x83 x84 x85 x86 x87 x88 x89 x90 x91 x92 x93 x94 x95 x96 x97 x98 x99 x100 x101 x102 x103 x104 x105 x106 x107 x108 x109 x110 x111 x112 x113 x114 h := by kernel_rfl
noncomputable def f13_r1 (O : Oracle) (L : Loops (Value × Heap)) (x0 x1 x2 x3 x4 x5 x6 x7 x8 x9 x10 x11 x12 x13 x14 x15 x16 x17 x18 x19 x20 x21 x22 x23 x24 x25 x26 x27 x28 x29 x30 x31 x32 x33 x34 x35 x36 x37 x38 x39 x40 x41 x42 x43 x44 x45 x46 x47 x48 x49 x50 x51 x52 x53 x54 x55 x56 x57 x58 x59 x60 x61 x62 x63 x64 x65 x66 x67 x68 x69 x70 x71 x72 x73 x74 x75 x76 x77 x78 x79 x80 x81 x82 x83 x84 x85 x86 x87 x88 x89 x90 x91 x92 x93 x94 x95 x96 x97 x98 x99 x100 x101 x102 x103 x104 x105 x106 x107 x108 x109 x110 x111 x112 x113 x114 : Value) (h : Heap) : Option (Value × Heap) :=
  some (oneOf [x4], h)
theorem f13_r1_eq (O : Oracle) (L : Loops (Value × Heap)) (x0 x1 x2 x3 x4 x5 x6 x7 x8 x9 x10 x11 x12 x13 x14 x15 x16 x17 x18 x19 x20 x21 x22 x23 x24 x25 x26 x27 x28 x29 x30 x31 x32 x33 x34 x35 x36 x37 x38 x39 x40 x41 x42 x43 x44 x45 x46 x47 x48 x49 x50 x51 x52 x53 x54 x55 x56 x57 x58 x59 x60 x61 x62 x63 x64 x65 x66 x67 x68 x69 x70 x71 x72 x73 x74 x75 x76 x77 x78 x79 x80 x81 x82 x83 x84 x85 x86 x87 x88 x89 x90 x91 x92 x93 x94 x95 x96 x97 x98 x99 x100 x101 x102 x103 x104 x105 x106 x107 x108 x109 x110 x111 x112 x113 x114 : Value) (h : Heap) :
    f13_k1 O L .ret [x0, x1, x2, x3, x4, x5, x6, x7, x8, x9, x10, x11, x12, x13, x14, x15, x16, x17, x18, x19, x20, x21, x22, x23, x24, x25, x26, x27, x28, x29, x30, x31, x32, x33, x34, x35, x36, x37, x38, x39, x40, x41, x42, x43, x44, x45, x46, x47, x48, x49, x50, x51, x52, x53, x54, x55, x56, x57, x58, x59, x60, x61, x62, x63, x64, x65, x66, x67, x68, x69, x70, x71, x72, x73, x74, x75, x76, x77, x78, x79, x80, x81, x82, x83, x84, x85, x86, x87, x88, x89, x90, x91, x92, x93, x94, x95, x96, x97, x98, x99, x100, x101, x102, x103, x104, x105, x106, x107, x108, x109, x110, x111, x112, x113, x114] h = f13_r1 O L x0 x1 x2 x3 x4 x5 x6 x7 x8 x9 x10 x11 x12 x13 x14 x15 x16 x17 x18 x19 x20 x21 x22 x23 x24 x25 x26 x27 x28 x29 x30 x31 x32 x33 x34 x35 x36 x37 x38 x39 x40 x41 x42 x43 x44 x45 x46 x47 x48 x49 x50 x51 x52 x53 x54 x55 x56 x57 x58 x59 x60 x61 x62 x63 x64 x65 x66 x67 x68 x69 x70 x71 x72 x73 x74 x75 x76 x77 x78 x79 x80 x81 x82 x83 x84 x85 x86 x87 x88 x89 x90 x91 x92 x93 x94 x95 x96 x97 x98 x99 x100 x101 x102 x103 x104 x105 x106 x107 x108 x109 x110 x111 x112 x113 x114 h := by kernel_rfl
noncomputable def f13_b1 (O : Oracle) (L : Loops (Value × Heap)) (k : Ex → K (Value × Heap)) (x0 x1 x2 x3 x4 x5 x6 x7 x8 x9 x10 x11 x12 x13 x14 x15 x16 x17 x18 x19 x20 x21 x22 x23 x24 x25 x26 x27 x28 x29 x30 x31 x32 x33 x34 x35 x36 x37 x38 x39 x40 x41 x42 x43 x44 x45 x46 x47 x48 x49 x50 x51 x52 x53 x54 x55 x56 x57 x58 x59 x60 x61 x62 x63 x64 x65 x66 x67 x68 x69 x70 x71 x72 x73 x74 x75 x76 x77 x78 x79 x80 x81 x82 x83 x84 x85 x86 x87 x88 x89 x90 x91 x92 x93 x94 x95 x96 x97 x98 x99 x100 x101 x102 x103 x104 x105 x106 x107 x108 x109 x110 x111 x112 x113 x114 : Value) (h : Heap) : Option (Value × Heap) :=
  ob ((M.ofOpt (lenSl x1)) h) fun v133 h133 =>
  ob ((M.ofOpt (bin Try.prog .lss 3 x9 v133)) h133) fun v134 h134 =>
  iteV v134 (
  ob ((O (.func 35) [x5, (.int .i64 2), (.int .i64 2), (.int .i64 1)]) h134) fun v135 h135 =>
  ob ((M.ofOpt (ext 0 v135)) h135) fun v136 h136 =>
  ob ((M.ofOpt (ext 1 v135)) h136) fun v137 h137 =>
  ob ((newB 50 [(.int .i64 0), (.int .i64 0), (.int .i64 0), (.int .u32 0)] .fix) h137) fun v138 h138 =>
  ob ((stN 4 v138 v136) h138) fun v139 h139 =>
  ob ((M.ofOpt (un Try.prog .not v137)) h139) fun v140 h140 =>
  ob ((gd v140 false (M.ofOpt (fAddr 3 v138))) h140) fun v141 h141 =>
  ob ((gd v140 false (ld1 v141)) h141) fun v142 h142 =>
  ifB (true) (
  ob ((gd v140 false (M.ret x1)) h142) fun v143 h143 =>
  ob ((gd v140 false (M.ret x9)) h143) fun v144 h144 =>
  ob ((gd v140 false (M.ofOpt (iAddr 1 v143 v144))) h144) fun v145 h145 =>
  ob ((gd v140 false (ld1 v145)) h145) fun v146 h146 =>
  ifB (true) (
  ob ((gd v140 false (M.ofOpt (bin Try.prog .neq 48 v142 v146))) h146) fun v147 h147 =>
  ob ((M.ofOpt (pick v140 (.bool true) v147)) h147) fun v148 h148 =>
  iteV v148 (
  k .ret [x0, x1, x2, x3, (.bool false), x5, x6, x7, x8, x9, v138, v137, x12, x13, x14, x15, x16, x17, x18, x19, x20, x21, x22, x23, x24, x25, x26, x27, x28, x29, x30, x31, x32, x33, x34, x35, x36, x37, x38, x39, x40, x41, x42, x43, x44, x45, x46, x47, x48, x49, x50, x51, x52, x53, x54, x55, x56, x57, x58, x59, x60, x61, x62, x63, x64, x65, x66, x67, x68, x69, x70, x71, x72, x73, x74, x75, x76, x77, x78, x79, x80, x81, x82, x83, x84, x85, x86, x87, x88, x89, x9, x1, v133, v134, x94, x95, v135, x5, v135, v136, v137, v137, v140, v140, v141, v142, v143, v144, v145, v146, v147, v148, x112, x113, x114] h148) (
  ob ((M.ofOpt (bin Try.prog .add 3 x9 (.int .i64 1))) h148) fun v149 h149 =>
  k .normal [x0, x1, x2, x3, x4, x5, x6, x7, x8, v149, v138, v137, x12, x13, x14, x15, x16, x17, x18, x19, x20, x21, x22, x23, x24, x25, x26, x27, x28, x29, x30, x31, x32, x33, x34, x35, x36, x37, x38, x39, x40, x41, x42, x43, x44, x45, x46, x47, x48, x49, x50, x51, x52, x53, x54, x55, x56, x57, x58, x59, x60, x61, x62, x63, x64, x65, x66, x67, x68, x69, x70, x71, x72, x73, x74, x75, x76, x77, x78, x79, x80, x81, x82, x83, x84, x85, x86, x87, x88, x89, x9, x1, v133, v134, x9, v149, v135, x5, v135, v136, v137, v137, v140, v140, v141, v142, v143, v144, v145, v146, v147, v148, x112, x113, x114] h149)))) (
  k (.exit 2) [x0, x1, x2, x3, x4, x5, x6, x7, x8, x9, x10, x11, x12, x13, x14, x15, x16, x17, x18, x19, x20, x21, x22, x23, x24, x25, x26, x27, x28, x29, x30, x31, x32, x33, x34, x35, x36, x37, x38, x39, x40, x41, x42, x43, x44, x45, x46, x47, x48, x49, x50, x51, x52, x53, x54, x55, x56, x57, x58, x59, x60, x61, x62, x63, x64, x65, x66, x67, x68, x69, x70, x71, x72, x73, x74, x75, x76, x77, x78, x79, x80, x81, x82, x83, x84, x85, x86, x87, x88, x89, x9, x1, v133, v134, x94, x95, x96, x97, x98, x99, x100, x101, x102, x103, x104, x105, x106, x107, x108, x109, x110, x111, x112, x113, x114] h134)
theorem f13_b1_eq (O : Oracle) (L : Loops (Value × Heap)) (k : Ex → K (Value × Heap)) (x0 x1 x2 x3 x4 x5 x6 x7 x8 x9 x10 x11 x12 x13 x14 x15 x16 x17 x18 x19 x20 x21 x22 x23 x24 x25 x26 x27 x28 x29 x30 x31 x32 x33 x34 x35 x36 x37 x38 x39 x40 x41 x42 x43 x44 x45 x46 x47 x48 x49 x50 x51 x52 x53 x54 x55 x56 x57 x58 x59 x60 x61 x62 x63 x64 x65 x66 x67 x68 x69 x70 x71 x72 x73 x74 x75 x76 x77 x78 x79 x80 x81 x82 x83 x84 x85 x86 x87 x88 x89 x90 x91 x92 x93 x94 x95 x96 x97 x98 x99 x100 x101 x102 x103 x104 x105 x106 x107 x108 x109 x110 x111 x112 x113 x114 : Value) (h : Heap) :
    runCode Try.prog O L f13_c1 k [x0, x1, x2, x3, x4, x5, x6, x7, x8, x9, x10, x11, x12, x13, x14, x15, x16, x17, x18, x19, x20, x21, x22, x23, x24, x25, x26, x27, x28, x29, x30, x31, x32, x33, x34, x35, x36, x37, x38, x39, x40, x41, x42, x43, x44, x45, x46, x47, x48, x49, x50, x51, x52, x53, x54, x55, x56, x57, x58, x59, x60, x61, x62, x63, x64, x65, x66, x67, x68, x69, x70, x71, x72, x73, x74, x75, x76, x77, x78, x79, x80, x81, x82, x83, x84, x85, x86, x87, x88, x89, x90, x91, x92, x93, x94, x95, x96, x97, x98, x99, x100, x101, x102, x103, x104, x105, x106, x107, x108, x109, x110, x111, x112, x113, x114] h = f13_b1 O L k x0 x1 x2 x3 x4 x5 x6 x7 x8 x9 x10 x11 x12 x13 x14 x15 x16 x17 x18 x19 x20 x21 x22 x23 x24 x25 x26 x27 x28 x29 x30 x31 x32 x33 x34 x35 x36 x37 x38 x39 x40 x41 x42 x43 x44 x45 x46 x47 x48 x49 x50 x51 x52 x53 x54 x55 x56 x57 x58 x59 x60 x61 x62 x63 x64 x65 x66 x67 x68 x69 x70 x71 x72 x73 x74 x75 x76 x77 x78 x79 x80 x81 x82 x83 x84 x85 x86 x87 x88 x89 x90 x91 x92 x93 x94 x95 x96 x97 x98 x99 x100 x101 x102 x103 x104 x105 x106 x107 x108 x109 x110 x111 x112 x113 x114 h := by kernel_rfl
noncomputable def f13_c0 : Code := sub [1, 1, 1, 1, 1, 0, 1, 0, 0] (fbody Try.prog 13)
noncomputable def f13_k0 (O : Oracle) (L : Loops (Value × Heap)) : Ex → K (Value × Heap) := (blockK 0 (seqK Try.prog O L (sub [1, 1, 1, 1, 1, 1] (fbody Try.prog 13)) (kRet Try.prog Try.f13)))
noncomputable def f13_e0_0 (O : Oracle) (L : Loops (Value × Heap)) (x0 x1 x2 x3 x4 x5 x6 x7 x8 x9 x10 x11 x12 x13 x14 x15 x16 x17 x18 x19 x20 x21 x22 x23 x24 x25 x26 x27 x28 x29 x30 x31 x32 x33 x34 x35 x36 x37 x38 x39 x40 x41 x42 x43 x44 x45 x46 x47 x48 x49 x50 x51 x52 x53 x54 x55 x56 x57 x58 x59 x60 x61 x62 x63 x64 x65 x66 x67 x68 x69 x70 x71 x72 x73 x74 x75 x76 x77 x78 x79 x80 x81 x82 x83 x84 x85 x86 x87 x88 x89 x90 x91 x92 x93 x94 x95 x96 x97 x98 x99 x100 x101 x102 x103 x104 x105 x106 x107 x108 x109 x110 x111 x112 x113 x114 : Value) (h : Heap) : Option (Value × Heap) :=
  L (runCode Try.prog O L f13_c1) (f13_k1 O L) [x0, x1, x2, x3, x4, x5, x6, x7, x8, (.int .i64 0), x10, x11, x12, x13, x14, x15, x16, x17, x18, x19, x20, x21, x22, x23, x24, x25, x26, x27, x28, x29, x30, x31, x32, x33, x34, x35, x36, x37, x38, x39, x40, x41, x42, x43, x44, x45, x46, x47, x48, x49, x50, x51, x52, x53, x54, x55, x56, x57, x58, x59, x60, x61, x62, x63, x64, x65, x66, x67, x68, x69, x70, x71, x72, x73, x74, x75, x76, x77, x78, x79, x80, x81, x82, x83, x84, x85, x86, x87, x88, x89, x90, x91, x92, x93, x94, x95, x96, x97, x98, x99, x100, x101, x102, x103, x104, x105, x106, x107, x108, x109, x110, x111, x112, x113, x114] h
theorem f13_e0_0_eq (O : Oracle) (L : Loops (Value × Heap)) (x0 x1 x2 x3 x4 x5 x6 x7 x8 x9 x10 x11 x12 x13 x14 x15 x16 x17 x18 x19 x20 x21 x22 x23 x24 x25 x26 x27 x28 x29 x30 x31 x32 x33 x34 x35 x36 x37 x38 x39 x40 x41 x42 x43 x44 x45 x46 x47 x48 x49 x50 x51 x52 x53 x54 x55 x56 x57 x58 x59 x60 x61 x62 x63 x64 x65 x66 x67 x68 x69 x70 x71 x72 x73 x74 x75 x76 x77 x78 x79 x80 x81 x82 x83 x84 x85 x86 x87 x88 x89 x90 x91 x92 x93 x94 x95 x96 x97 x98 x99 x100 x101 x102 x103 x104 x105 x106 x107 x108 x109 x110 x111 x112 x113 x114 : Value) (h : Heap) :
    f13_k0 O L (.exit 0) [x0, x1, x2, x3, x4, x5, x6, x7, x8, x9, x10, x11, x12, x13, x14, x15, x16, x17, x18, x19, x20, x21, x22, x23, x24, x25, x26, x27, x28, x29, x30, x31, x32, x33, x34, x35, x36, x37, x38, x39, x40, x41, x42, x43, x44, x45, x46, x47, x48, x49, x50, x51, x52, x53, x54, x55, x56, x57, x58, x59, x60, x61, x62, x63, x64, x65, x66, x67, x68, x69, x70, x71, x72, x73, x74, x75, x76, x77, x78, x79, x80, x81, x82, x83, x84, x85, x86, x87, x88, x89, x90, x91, x92, x93, x94, x95, x96, x97, x98, x99, x100, x101, x102, x103, x104, x105, x106, x107, x108, x109, x110, x111, x112, x113, x114] h = f13_e0_0 O L x0 x1 x2 x3 x4 x5 x6 x7 x8 x9 x10 x11 x12 x13 x14 x15 x16 x17 x18 x19 x20 x21 x22 x23 x24 x25 x26 x27 x28 x29 x30 x31 x32 x33 x34 x35 x36 x37 x38 x39 x40 x41 x42 x43 x44 x45 x46 x47 x48 x49 x50 x51 x52 x53 x54 x55 x56 x57 x58 x59 x60 x61 x62 x63 x64 x65 x66 x67 x68 x69 x70 x71 x72 x73 x74 x75 x76 x77 x78 x79 x80 x81 x82 x83 x84 x85 x86 x87 x88 x89 x90 x91 x92 x93 x94 x95 x96 x97 x98 x99 x100 x101 x102 x103 x104 x105 x106 x107 x108 x109 x110 x111 x112 x113 x114 h := by kernel_rfl
noncomputable def f13_r0 (O : Oracle) (L : Loops (Value × Heap)) (x0 x1 x2 x3 x4 x5 x6 x7 x8 x9 x10 x11 x12 x13 x14 x15 x16 x17 x18 x19 x20 x21 x22 x23 x24 x25 x26 x27 x28 x29 x30 x31 x32 x33 x34 x35 x36 x37 x38 x39 x40 x41 x42 x43 x44 x45 x46 x47 x48 x49 x50 x51 x52 x53 x54 x55 x56 x57 x58 x59 x60 x61 x62 x63 x64 x65 x66 x67 x68 x69 x70 x71 x72 x73 x74 x75 x76 x77 x78 x79 x80 x81 x82 x83 x84 x85 x86 x87 x88 x89 x90 x91 x92 x93 x94 x95 x96 x97 x98 x99 x100 x101 x102 x103 x104 x105 x106 x107 x108 x109 x110 x111 x112 x113 x114 : Value) (h : Heap) : Option (Value × Heap) :=
  some (oneOf [x4], h)
theorem f13_r0_eq (O : Oracle) (L : Loops (Value × Heap)) (x0 x1 x2 x3 x4 x5 x6 x7 x8 x9 x10 x11 x12 x13 x14 x15 x16 x17 x18 x19 x20 x21 x22 x23 x24 x25 x26 x27 x28 x29 x30 x31 x32 x33 x34 x35 x36 x37 x38 x39 x40 x41 x42 x43 x44 x45 x46 x47 x48 x49 x50 x51 x52 x53 x54 x55 x56 x57 x58 x59 x60 x61 x62 x63 x64 x65 x66 x67 x68 x69 x70 x71 x72 x73 x74 x75 x76 x77 x78 x79 x80 x81 x82 x83 x84 x85 x86 x87 x88 x89 x90 x91 x92 x93 x94 x95 x96 x97 x98 x99 x100 x101 x102 x103 x104 x105 x106 x107 x108 x109 x110 x111 x112 x113 x114 : Value) (h : Heap) :
    f13_k0 O L .ret [x0, x1, x2, x3, x4, x5, x6, x7, x8, x9, x10, x11, x12, x13, x14, x15, x16, x17, x18, x19, x20, x21, x22, x23, x24, x25, x26, x27, x28, x29, x30, x31, x32, x33, x34, x35, x36, x37, x38, x39, x40, x41, x42, x43, x44, x45, x46, x47, x48, x49, x50, x51, x52, x53, x54, x55, x56, x57, x58, x59, x60, x61, x62, x63, x64, x65, x66, x67, x68, x69, x70, x71, x72, x73, x74, x75, x76, x77, x78, x79, x80, x81, x82, x83, x84, x85, x86, x87, x88, x89, x90, x91, x92, x93, x94, x95, x96, x97, x98, x99, x100, x101, x102, x103, x104, x105, x106, x107, x108, x109, x110, x111, x112, x113, x114] h = f13_r0 O L x0 x1 x2 x3 x4 x5 x6 x7 x8 x9 x10 x11 x12 x13 x14 x15 x16 x17 x18 x19 x20 x21 x22 x23 x24 x25 x26 x27 x28 x29 x30 x31 x32 x33 x34 x35 x36 x37 x38 x39 x40 x41 x42 x43 x44 x45 x46 x47 x48 x49 x50 x51 x52 x53 x54 x55 x56 x57 x58 x59 x60 x61 x62 x63 x64 x65 x66 x67 x68 x69 x70 x71 x72 x73 x74 x75 x76 x77 x78 x79 x80 x81 x82 x83 x84 x85 x86 x87 x88 x89 x90 x91 x92 x93 x94 x95 x96 x97 x98 x99 x100 x101 x102 x103 x104 x105 x106 x107 x108 x109 x110 x111 x112 x113 x114 h := by kernel_rfl
noncomputable def f13_b0 (O : Oracle) (L : Loops (Value × Heap)) (k : Ex → K (Value × Heap)) (x0 x1 x2 x3 x4 x5 x6 x7 x8 x9 x10 x11 x12 x13 x14 x15 x16 x17 x18 x19 x20 x21 x22 x23 x24 x25 x26 x27 x28 x29 x30 x31 x32 x33 x34 x35 x36 x37 x38 x39 x40 x41 x42 x43 x44 x45 x46 x47 x48 x49 x50 x51 x52 x53 x54 x55 x56 x57 x58 x59 x60 x61 x62 x63 x64 x65 x66 x67 x68 x69 x70 x71 x72 x73 x74 x75 x76 x77 x78 x79 x80 x81 x82 x83 x84 x85 x86 x87 x88 x89 x90 x91 x92 x93 x94 x95 x96 x97 x98 x99 x100 x101 x102 x103 x104 x105 x106 x107 x108 x109 x110 x111 x112 x113 x114 : Value) (h : Heap) : Option (Value × Heap) :=
  ob ((M.ofOpt (lenSl x0)) h) fun v12 h12 =>
  ob ((M.ofOpt (bin Try.prog .lss 3 x7 v12)) h12) fun v13 h13 =>
  ob ((gd v13 false (M.ret x6)) h13) fun v14 h14 =>
  ob ((gd v13 false (M.ret x1)) h14) fun v15 h15 =>
  ob ((gd v13 false (M.ofOpt (lenSl v15))) h15) fun v16 h16 =>
  ob ((gd v13 false (M.ofOpt (bin Try.prog .lss 3 v14 v16))) h16) fun v17 h17 =>
  ob ((M.ofOpt (pick v13 (.bool true) v17)) h17) fun v18 h18 =>
  iteV v18 (
  ob ((M.ofOpt (lenSl x1)) h18) fun v19 h19 =>
  ob ((M.ofOpt (bin Try.prog .lss 3 x6 v19)) h19) fun v20 h20 =>
  iteV v20 (
  ob ((M.ofOpt (iAddr 1 x1 x6)) h20) fun v21 h21 =>
  ob ((ld1 v21) h21) fun v22 h22 =>
  ob ((M.ofOpt (bld Try.prog 50 [(3, v22)])) h22) fun v23 h23 =>
  ob ((O (.func 33) [x5, (.int .i64 2), (.int .i64 2), (.int .i64 1), v23]) h23) fun v24 h24 =>
  ob ((M.ofOpt (un Try.prog .not v24)) h24) fun v25 h25 =>
  iteV v25 (
  k .ret [x0, x1, x2, x3, (.bool false), x5, x6, x7, x8, x9, x10, x11, x12, x13, x14, x15, x16, x17, x18, x19, x20, x21, x22, x23, x24, x25, x26, x27, x7, x0, v12, v13, v13, v14, v15, v16, v17, v18, x38, x39, x6, x1, v19, v20, x5, x1, x6, v21, v22, v23, v24, v25, x52, x53, x54, x55, x56, x57, x58, x59, x60, x61, x62, x63, x64, x65, x66, x67, x68, x69, x70, x71, x72, x73, x74, x75, x76, x77, x78, x79, x80, x81, x82, x83, x84, x85, x86, x87, x88, x89, x90, x91, x92, x93, x94, x95, x96, x97, x98, x99, x100, x101, x102, x103, x104, x105, x106, x107, x108, x109, x110, x111, x112, x113, x114] h25) (
  ob ((M.ofOpt (bin Try.prog .add 3 x6 (.int .i64 1))) h25) fun v26 h26 =>
  ob ((M.ofOpt (lenSl x0)) h26) fun v27 h27 =>
  ob ((M.ofOpt (bin Try.prog .lss 3 x7 v27)) h27) fun v28 h28 =>
  iteV v28 (
  ob ((M.ofOpt (iAddr 9 x0 x7)) h28) fun v29 h29 =>
  ob ((ldN 9 v29) h29) fun v30 h30 =>
  ob ((O (.func 34) [v30]) h30) fun v31 h31 =>
  ob ((newB 58 [(.int .u8 0), (.int .i64 0), (.int .i64 0), (.int .i64 0), (.bool false), (.int .i64 0), (.int .i64 0), (.int .i64 0), (.int .u32 0)] .fix) h31) fun v32 h32 =>
  ob ((stN 9 v32 v31) h32) fun v33 h33 =>
  ob ((M.ofOpt (fAddr 1 v32)) h33) fun v34 h34 =>
  ob ((ld1 v34) h34) fun v35 h35 =>
  ob ((M.ofOpt (bin Try.prog .eql 3 v35 (.int .i64 2))) h35) fun v36 h36 =>
  ob ((gd v36 true (M.ofOpt (fAddr 2 v32))) h36) fun v37 h37 =>
  ob ((gd v36 true (ld1 v37)) h37) fun v38 h38 =>
  ob ((gd v36 true (M.ofOpt (bin Try.prog .eql 3 v38 (.int .i64 2)))) h38) fun v39 h39 =>
  ob ((M.ofOpt (pick v36 v39 (.bool false))) h39) fun v40 h40 =>
  iteV v40 (
  ob ((M.ofOpt (fAddr 2 v32)) h40) fun v41 h41 =>
  ob ((stN 1 v41 (.int .i64 1)) h41) fun v42 h42 =>
  ob ((M.ofOpt (fAddr 0 v32)) h42) fun v43 h43 =>
  ob ((ld1 v43) h43) fun v44 h44 =>
  ob ((M.ofOpt (bin Try.prog .rem 5 v44 (.int .u8 6))) h44) fun v45 h45 =>
  ob ((M.ofOpt (bin Try.prog .lss 5 v45 (.int .u8 3))) h45) fun v46 h46 =>
  iteV v46 (
  ob ((M.ofOpt (fAddr 1 v32)) h46) fun v47 h47 =>
  ob ((ld1 v47) h47) fun v48 h48 =>
  ob ((M.ofOpt (fAddr 2 v32)) h48) fun v49 h49 =>
  ob ((ld1 v49) h49) fun v50 h50 =>
  ob ((M.ofOpt (fAddr 5 v32)) h50) fun v51 h51 =>
  ob ((ldN 4 v51) h51) fun v52 h52 =>
  ob ((O (.func 33) [x5, v48, v50, (.int .i64 0), v52]) h52) fun v53 h53 =>
  ob ((M.ofOpt (bin Try.prog .add 3 x7 (.int .i64 1))) h53) fun v54 h54 =>
  k .normal [x0, x1, x2, x3, x4, x5, v26, v54, v32, x9, x10, x11, x12, x13, x14, x15, x16, x17, x18, x19, x20, x21, x22, x23, x24, x25, x26, x27, x7, x0, v12, v13, v13, v14, v15, v16, v17, v18, x7, v54, x6, x1, v19, v20, x5, x1, x6, v21, v22, v23, v24, v25, x6, v26, x7, x0, v27, v28, x0, x7, v29, v30, v31, v34, v35, v36, v36, v37, v38, v39, v40, v41, v43, v44, v45, v46, x5, v47, v48, v49, v50, v51, v52, v53, x84, x85, x86, x87, x88, x89, x90, x91, x92, x93, x94, x95, x96, x97, x98, x99, x100, x101, x102, x103, x104, x105, x106, x107, x108, x109, x110, x111, x112, x113, x114] h54) (
  ob ((M.ofOpt (fAddr 1 v32)) h46) fun v55 h55 =>
  ob ((ld1 v55) h55) fun v56 h56 =>
  ob ((M.ofOpt (fAddr 2 v32)) h56) fun v57 h57 =>
  ob ((ld1 v57) h57) fun v58 h58 =>
  ob ((O (.func 35) [x5, v56, v58, (.int .i64 0)]) h58) fun v59 h59 =>
  ob ((M.ofOpt (bin Try.prog .add 3 x7 (.int .i64 1))) h59) fun v60 h60 =>
  k .normal [x0, x1, x2, x3, x4, x5, v26, v60, v32, x9, x10, x11, x12, x13, x14, x15, x16, x17, x18, x19, x20, x21, x22, x23, x24, x25, x26, x27, x7, x0, v12, v13, v13, v14, v15, v16, v17, v18, x7, v60, x6, x1, v19, v20, x5, x1, x6, v21, v22, v23, v24, v25, x6, v26, x7, x0, v27, v28, x0, x7, v29, v30, v31, v34, v35, v36, v36, v37, v38, v39, v40, v41, v43, v44, v45, v46, x76, x77, x78, x79, x80, x81, x82, x83, x5, v55, v56, v57, v58, v59, x90, x91, x92, x93, x94, x95, x96, x97, x98, x99, x100, x101, x102, x103, x104, x105, x106, x107, x108, x109, x110, x111, x112, x113, x114] h60)) (
  ob ((M.ofOpt (fAddr 0 v32)) h40) fun v61 h61 =>
  ob ((ld1 v61) h61) fun v62 h62 =>
  ob ((M.ofOpt (bin Try.prog .rem 5 v62 (.int .u8 6))) h62) fun v63 h63 =>
  ob ((M.ofOpt (bin Try.prog .lss 5 v63 (.int .u8 3))) h63) fun v64 h64 =>
  iteV v64 (
  ob ((M.ofOpt (fAddr 1 v32)) h64) fun v65 h65 =>
  ob ((ld1 v65) h65) fun v66 h66 =>
  ob ((M.ofOpt (fAddr 2 v32)) h66) fun v67 h67 =>
  ob ((ld1 v67) h67) fun v68 h68 =>
  ob ((M.ofOpt (fAddr 5 v32)) h68) fun v69 h69 =>
  ob ((ldN 4 v69) h69) fun v70 h70 =>
  ob ((O (.func 33) [x5, v66, v68, (.int .i64 0), v70]) h70) fun v71 h71 =>
  ob ((M.ofOpt (bin Try.prog .add 3 x7 (.int .i64 1))) h71) fun v72 h72 =>
  k .normal [x0, x1, x2, x3, x4, x5, v26, v72, v32, x9, x10, x11, x12, x13, x14, x15, x16, x17, x18, x19, x20, x21, x22, x23, x24, x25, x26, x27, x7, x0, v12, v13, v13, v14, v15, v16, v17, v18, x7, v72, x6, x1, v19, v20, x5, x1, x6, v21, v22, v23, v24, v25, x6, v26, x7, x0, v27, v28, x0, x7, v29, v30, v31, v34, v35, v36, v36, v37, v38, v39, v40, x71, v61, v62, v63, v64, x5, v65, v66, v67, v68, v69, v70, v71, x84, x85, x86, x87, x88, x89, x90, x91, x92, x93, x94, x95, x96, x97, x98, x99, x100, x101, x102, x103, x104, x105, x106, x107, x108, x109, x110, x111, x112, x113, x114] h72) (
  ob ((M.ofOpt (fAddr 1 v32)) h64) fun v73 h73 =>
  ob ((ld1 v73) h73) fun v74 h74 =>
  ob ((M.ofOpt (fAddr 2 v32)) h74) fun v75 h75 =>
  ob ((ld1 v75) h75) fun v76 h76 =>
  ob ((O (.func 35) [x5, v74, v76, (.int .i64 0)]) h76) fun v77 h77 =>
  ob ((M.ofOpt (bin Try.prog .add 3 x7 (.int .i64 1))) h77) fun v78 h78 =>
  k .normal [x0, x1, x2, x3, x4, x5, v26, v78, v32, x9, x10, x11, x12, x13, x14, x15, x16, x17, x18, x19, x20, x21, x22, x23, x24, x25, x26, x27, x7, x0, v12, v13, v13, v14, v15, v16, v17, v18, x7, v78, x6, x1, v19, v20, x5, x1, x6, v21, v22, v23, v24, v25, x6, v26, x7, x0, v27, v28, x0, x7, v29, v30, v31, v34, v35, v36, v36, v37, v38, v39, v40, x71, v61, v62, v63, v64, x76, x77, x78, x79, x80, x81, x82, x83, x5, v73, v74, v75, v76, v77, x90, x91, x92, x93, x94, x95, x96, x97, x98, x99, x100, x101, x102, x103, x104, x105, x106, x107, x108, x109, x110, x111, x112, x113, x114] h78))) (
  ob ((M.ofOpt (bin Try.prog .add 3 x7 (.int .i64 1))) h28) fun v79 h79 =>
  k .normal [x0, x1, x2, x3, x4, x5, v26, v79, x8, x9, x10, x11, x12, x13, x14, x15, x16, x17, x18, x19, x20, x21, x22, x23, x24, x25, x26, x27, x7, x0, v12, v13, v13, v14, v15, v16, v17, v18, x7, v79, x6, x1, v19, v20, x5, x1, x6, v21, v22, v23, v24, v25, x6, v26, x7, x0, v27, v28, x58, x59, x60, x61, x62, x63, x64, x65, x66, x67, x68, x69, x70, x71, x72, x73, x74, x75, x76, x77, x78, x79, x80, x81, x82, x83, x84, x85, x86, x87, x88, x89, x90, x91, x92, x93, x94, x95, x96, x97, x98, x99, x100, x101, x102, x103, x104, x105, x106, x107, x108, x109, x110, x111, x112, x113, x114] h79))) (
  ob ((M.ofOpt (lenSl x0)) h20) fun v80 h80 =>
  ob ((M.ofOpt (bin Try.prog .lss 3 x7 v80)) h80) fun v81 h81 =>
  iteV v81 (
  ob ((M.ofOpt (iAddr 9 x0 x7)) h81) fun v82 h82 =>
  ob ((ldN 9 v82) h82) fun v83 h83 =>
  ob ((O (.func 34) [v83]) h83) fun v84 h84 =>
  ob ((newB 58 [(.int .u8 0), (.int .i64 0), (.int .i64 0), (.int .i64 0), (.bool false), (.int .i64 0), (.int .i64 0), (.int .i64 0), (.int .u32 0)] .fix) h84) fun v85 h85 =>
  ob ((stN 9 v85 v84) h85) fun v86 h86 =>
  ob ((M.ofOpt (fAddr 1 v85)) h86) fun v87 h87 =>
  ob ((ld1 v87) h87) fun v88 h88 =>
  ob ((M.ofOpt (bin Try.prog .eql 3 v88 (.int .i64 2))) h88) fun v89 h89 =>
  ob ((gd v89 true (M.ofOpt (fAddr 2 v85))) h89) fun v90 h90 =>
  ob ((gd v89 true (ld1 v90)) h90) fun v91 h91 =>
  ob ((gd v89 true (M.ofOpt (bin Try.prog .eql 3 v91 (.int .i64 2)))) h91) fun v92 h92 =>
  ob ((M.ofOpt (pick v89 v92 (.bool false))) h92) fun v93 h93 =>
  iteV v93 (
  ob ((M.ofOpt (fAddr 2 v85)) h93) fun v94 h94 =>
  ob ((stN 1 v94 (.int .i64 1)) h94) fun v95 h95 =>
  ob ((M.ofOpt (fAddr 0 v85)) h95) fun v96 h96 =>
  ob ((ld1 v96) h96) fun v97 h97 =>
  ob ((M.ofOpt (bin Try.prog .rem 5 v97 (.int .u8 6))) h97) fun v98 h98 =>
  ob ((M.ofOpt (bin Try.prog .lss 5 v98 (.int .u8 3))) h98) fun v99 h99 =>
  iteV v99 (
  ob ((M.ofOpt (fAddr 1 v85)) h99) fun v100 h100 =>
  ob ((ld1 v100) h100) fun v101 h101 =>
  ob ((M.ofOpt (fAddr 2 v85)) h101) fun v102 h102 =>
  ob ((ld1 v102) h102) fun v103 h103 =>
  ob ((M.ofOpt (fAddr 5 v85)) h103) fun v104 h104 =>
  ob ((ldN 4 v104) h104) fun v105 h105 =>
  ob ((O (.func 33) [x5, v101, v103, (.int .i64 0), v105]) h105) fun v106 h106 =>
  ob ((M.ofOpt (bin Try.prog .add 3 x7 (.int .i64 1))) h106) fun v107 h107 =>
  k .normal [x0, x1, x2, x3, x4, x5, x6, v107, v85, x9, x10, x11, x12, x13, x14, x15, x16, x17, x18, x19, x20, x21, x22, x23, x24, x25, x26, x27, x7, x0, v12, v13, v13, v14, v15, v16, v17, v18, x7, v107, x6, x1, v19, v20, x44, x45, x46, x47, x48, x49, x50, x51, x52, x53, x7, x0, v80, v81, x0, x7, v82, v83, v84, v87, v88, v89, v89, v90, v91, v92, v93, v94, v96, v97, v98, v99, x5, v100, v101, v102, v103, v104, v105, v106, x84, x85, x86, x87, x88, x89, x90, x91, x92, x93, x94, x95, x96, x97, x98, x99, x100, x101, x102, x103, x104, x105, x106, x107, x108, x109, x110, x111, x112, x113, x114] h107) (
  ob ((M.ofOpt (fAddr 1 v85)) h99) fun v108 h108 =>
  ob ((ld1 v108) h108) fun v109 h109 =>
  ob ((M.ofOpt (fAddr 2 v85)) h109) fun v110 h110 =>
  ob ((ld1 v110) h110) fun v111 h111 =>
  ob ((O (.func 35) [x5, v109, v111, (.int .i64 0)]) h111) fun v112 h112 =>
  ob ((M.ofOpt (bin Try.prog .add 3 x7 (.int .i64 1))) h112) fun v113 h113 =>
  k .normal [x0, x1, x2, x3, x4, x5, x6, v113, v85, x9, x10, x11, x12, x13, x14, x15, x16, x17, x18, x19, x20, x21, x22, x23, x24, x25, x26, x27, x7, x0, v12, v13, v13, v14, v15, v16, v17, v18, x7, v113, x6, x1, v19, v20, x44, x45, x46, x47, x48, x49, x50, x51, x52, x53, x7, x0, v80, v81, x0, x7, v82, v83, v84, v87, v88, v89, v89, v90, v91, v92, v93, v94, v96, v97, v98, v99, x76, x77, x78, x79, x80, x81, x82, x83, x5, v108, v109, v110, v111, v112, x90, x91, x92, x93, x94, x95, x96, x97, x98, x99, x100, x101, x102, x103, x104, x105, x106, x107, x108, x109, x110, x111, x112, x113, x114] h113)) (
  ob ((M.ofOpt (fAddr 0 v85)) h93) fun v114 h114 =>
  ob ((ld1 v114) h114) fun v115 h115 =>
  ob ((M.ofOpt (bin Try.prog .rem 5 v115 (.int .u8 6))) h115) fun v116 h116 =>
  ob ((M.ofOpt (bin Try.prog .lss 5 v116 (.int .u8 3))) h116) fun v117 h117 =>
  iteV v117 (
  ob ((M.ofOpt (fAddr 1 v85)) h117) fun v118 h118 =>
  ob ((ld1 v118) h118) fun v119 h119 =>
  ob ((M.ofOpt (fAddr 2 v85)) h119) fun v120 h120 =>
  ob ((ld1 v120) h120) fun v121 h121 =>
  ob ((M.ofOpt (fAddr 5 v85)) h121) fun v122 h122 =>
  ob ((ldN 4 v122) h122) fun v123 h123 =>
  ob ((O (.func 33) [x5, v119, v121, (.int .i64 0), v123]) h123) fun v124 h124 =>
  ob ((M.ofOpt (bin Try.prog .add 3 x7 (.int .i64 1))) h124) fun v125 h125 =>
  k .normal [x0, x1, x2, x3, x4, x5, x6, v125, v85, x9, x10, x11, x12, x13, x14, x15, x16, x17, x18, x19, x20, x21, x22, x23, x24, x25, x26, x27, x7, x0, v12, v13, v13, v14, v15, v16, v17, v18, x7, v125, x6, x1, v19, v20, x44, x45, x46, x47, x48, x49, x50, x51, x52, x53, x7, x0, v80, v81, x0, x7, v82, v83, v84, v87, v88, v89, v89, v90, v91, v92, v93, x71, v114, v115, v116, v117, x5, v118, v119, v120, v121, v122, v123, v124, x84, x85, x86, x87, x88, x89, x90, x91, x92, x93, x94, x95, x96, x97, x98, x99, x100, x101, x102, x103, x104, x105, x106, x107, x108, x109, x110, x111, x112, x113, x114] h125) (
  ob ((M.ofOpt (fAddr 1 v85)) h117) fun v126 h126 =>
  ob ((ld1 v126) h126) fun v127 h127 =>
  ob ((M.ofOpt (fAddr 2 v85)) h127) fun v128 h128 =>
  ob ((ld1 v128) h128) fun v129 h129 =>
  ob ((O (.func 35) [x5, v127, v129, (.int .i64 0)]) h129) fun v130 h130 =>
  ob ((M.ofOpt (bin Try.prog .add 3 x7 (.int .i64 1))) h130) fun v131 h131 =>
  k .normal [x0, x1, x2, x3, x4, x5, x6, v131, v85, x9, x10, x11, x12, x13, x14, x15, x16, x17, x18, x19, x20, x21, x22, x23, x24, x25, x26, x27, x7, x0, v12, v13, v13, v14, v15, v16, v17, v18, x7, v131, x6, x1, v19, v20, x44, x45, x46, x47, x48, x49, x50, x51, x52, x53, x7, x0, v80, v81, x0, x7, v82, v83, v84, v87, v88, v89, v89, v90, v91, v92, v93, x71, v114, v115, v116, v117, x76, x77, x78, x79, x80, x81, x82, x83, x5, v126, v127, v128, v129, v130, x90, x91, x92, x93, x94, x95, x96, x97, x98, x99, x100, x101, x102, x103, x104, x105, x106, x107, x108, x109, x110, x111, x112, x113, x114] h131))) (
  ob ((M.ofOpt (bin Try.prog .add 3 x7 (.int .i64 1))) h81) fun v132 h132 =>
  k .normal [x0, x1, x2, x3, x4, x5, x6, v132, x8, x9, x10, x11, x12, x13, x14, x15, x16, x17, x18, x19, x20, x21, x22, x23, x24, x25, x26, x27, x7, x0, v12, v13, v13, v14, v15, v16, v17, v18, x7, v132, x6, x1, v19, v20, x44, x45, x46, x47, x48, x49, x50, x51, x52, x53, x7, x0, v80, v81, x58, x59, x60, x61, x62, x63, x64, x65, x66, x67, x68, x69, x70, x71, x72, x73, x74, x75, x76, x77, x78, x79, x80, x81, x82, x83, x84, x85, x86, x87, x88, x89, x90, x91, x92, x93, x94, x95, x96, x97, x98, x99, x100, x101, x102, x103, x104, x105, x106, x107, x108, x109, x110, x111, x112, x113, x114] h132))) (
  k (.exit 0) [x0, x1, x2, x3, x4, x5, x6, x7, x8, x9, x10, x11, x12, x13, x14, x15, x16, x17, x18, x19, x20, x21, x22, x23, x24, x25, x26, x27, x7, x0, v12, v13, v13, v14, v15, v16, v17, v18, x38, x39, x40, x41, x42, x43, x44, x45, x46, x47, x48, x49, x50, x51, x52, x53, x54, x55, x56, x57, x58, x59, x60, x61, x62, x63, x64, x65, x66, x67, x68, x69, x70, x71, x72, x73, x74, x75, x76, x77, x78, x79, x80, x81, x82, x83, x84, x85, x86, x87, x88, x89, x90, x91, x92, x93, x94, x95, x96, x97, x98, x99, x100, x101, x102, x103, x104, x105, x106, x107, x108, x109, x110, x111, x112, x113, x114] h18)
theorem f13_b0_eq (O : Oracle) (L : Loops (Value × Heap)) (k : Ex → K (Value × Heap)) (x0 x1 x2 x3 x4 x5 x6 x7 x8 x9 x10 x11 x12 x13 x14 x15 x16 x17 x18 x19 x20 x21 x22 x23 x24 x25 x26 x27 x28 x29 x30 x31 x32 x33 x34 x35 x36 x37 x38 x39 x40 x41 x42 x43 x44 x45 x46 x47 x48 x49 x50 x51 x52 x53 x54 x55 x56 x57 x58 x59 x60 x61 x62 x63 x64 x65 x66 x67 x68 x69 x70 x71 x72 x73 x74 x75 x76 x77 x78 x79 x80 x81 x82 x83 x84 x85 x86 x87 x88 x89 x90 x91 x92 x93 x94 x95 x96 x97 x98 x99 x100 x101 x102 x103 x104 x105 x106 x107 x108 x109 x110 x111 x112 x113 x114 : Value) (h : Heap) :
    runCode Try.prog O L f13_c0 k [x0, x1, x2, x3, x4, x5, x6, x7, x8, x9, x10, x11, x12, x13, x14, x15, x16, x17, x18, x19, x20, x21, x22, x23, x24, x25, x26, x27, x28, x29, x30, x31, x32, x33, x34, x35, x36, x37, x38, x39, x40, x41, x42, x43, x44, x45, x46, x47, x48, x49, x50, x51, x52, x53, x54, x55, x56, x57, x58, x59, x60, x61, x62, x63, x64, x65, x66, x67, x68, x69, x70, x71, x72, x73, x74, x75, x76, x77, x78, x79, x80, x81, x82, x83, x84, x85, x86, x87, x88, x89, x90, x91, x92, x93, x94, x95, x96, x97, x98, x99, x100, x101, x102, x103, x104, x105, x106, x107, x108, x109, x110, x111, x112, x113, x114] h = f13_b0 O L k x0 x1 x2 x3 x4 x5 x6 x7 x8 x9 x10 x11 x12 x13 x14 x15 x16 x17 x18 x19 x20 x21 x22 x23 x24 x25 x26 x27 x28 x29 x30 x31 x32 x33 x34 x35 x36 x37 x38 x39 x40 x41 x42 x43 x44 x45 x46 x47 x48 x49 x50 x51 x52 x53 x54 x55 x56 x57 x58 x59 x60 x61 x62 x63 x64 x65 x66 x67 x68 x69 x70 x71 x72 x73 x74 x75 x76 x77 x78 x79 x80 x81 x82 x83 x84 x85 x86 x87 x88 x89 x90 x91 x92 x93 x94 x95 x96 x97 x98 x99 x100 x101 x102 x103 x104 x105 x106 x107 x108 x109 x110 x111 x112 x113 x114 h := by kernel_rfl
noncomputable def f13 (O : Oracle) (L : Loops (Value × Heap)) (a0 a1 : Value) (h : Heap) : Option (Value × Heap) :=
  ob ((M.ofOpt (lenSl a0)) h) fun v0 h0 =>
  ob ((M.ofOpt (bin Try.prog .gtr 3 v0 (.int .i64 100))) h0) fun v1 h1 =>
  ob ((gd v1 false (M.ret a1)) h1) fun v2 h2 =>
  ob ((gd v1 false (M.ofOpt (lenSl v2))) h2) fun v3 h3 =>
  ob ((gd v1 false (M.ofOpt (bin Try.prog .gtr 3 v3 (.int .i64 40)))) h3) fun v4 h4 =>
  ob ((M.ofOpt (pick v1 (.bool true) v4)) h4) fun v5 h5 =>
  ob ((gd v5 false (O (.func 30) [])) h5) fun v6 h6 =>
  ob ((gd v5 false (M.ofOpt (un Try.prog .not v6))) h6) fun v7 h7 =>
  ob ((M.ofOpt (pick v5 (.bool true) v7)) h7) fun v8 h8 =>
  iteV v8 (
  ob ((O (.func 30) []) h8) fun v9 h9 =>
  some (oneOf [v9], h9)) (
  ob ((O (.func 29) [(.int .i64 3), (.int .i64 2), (.int .i64 150)]) h8) fun v10 h10 =>
  ob ((M.ofOpt (bin Try.prog .eql 46 v10 (.pointer none))) h10) fun v11 h11 =>
  iteV v11 (
  some (oneOf [(.bool false)], h11)) (
  L (runCode Try.prog O L f13_c0) (f13_k0 O L) [a0, a1, undef, undef, (.bool false), v10, (.int .i64 0), (.int .i64 0), undef, undef, undef, undef, a0, v0, v1, v1, v2, v3, v4, v5, v5, v6, v7, v8, undef, v10, v10, v11, undef, undef, undef, undef, undef, undef, undef, undef, undef, undef, undef, undef, undef, undef, undef, undef, undef, undef, undef, undef, undef, undef, undef, undef, undef, undef, undef, undef, undef, undef, undef, undef, undef, undef, undef, undef, undef, undef, undef, undef, undef, undef, undef, undef, undef, undef, undef, undef, undef, undef, undef, undef, undef, undef, undef, undef, undef, undef, undef, undef, undef, undef, undef, undef, undef, undef, undef, undef, undef, undef, undef, undef, undef, undef, undef, undef, undef, undef, undef, undef, undef, undef, undef, undef, undef, undef, undef] h11))
theorem f13_eq (O : Oracle) (L : Loops (Value × Heap)) (a0 a1 : Value) (h : Heap) :
    body Try.prog O L 13 [a0, a1] h = f13 O L a0 a1 h := by kernel_rfl

/-! 14: shunter/shunterlaw08.RingsRoom; slots: [(slots, 0), (l, 1), (slots, 2), (l, 3), (n, 5), (r, 6), (full, 7), (i, 8), (o, 9), (is, 10), (was, 11), (_, 12), (is, 13), (many, 14), (q, 15)] -/
noncomputable def f14_c1 : Code := sub [1, 1, 1, 1, 1, 1, 1, 1, 0, 1, 0, 0] (fbody Try.prog 14)
noncomputable def f14_k1 (O : Oracle) (L : Loops (Value × Heap)) : Ex → K (Value × Heap) := (blockK 2 (seqK Try.prog O L (sub [1, 1, 1, 1, 1, 1, 1, 1, 1] (fbody Try.prog 14)) (kRet Try.prog Try.f14)))
noncomputable def f14_e1_2 (O : Oracle) (L : Loops (Value × Heap)) (x0 x1 x2 x3 x4 x5 x6 x7 x8 x9 x10 x11 x12 x13 x14 x15 x16 x17 x18 x19 x20 x21 x22 x23 x24 x25 x26 x27 x28 x29 x30 x31 x32 x33 x34 x35 x36 x37 x38 x39 x40 x41 x42 x43 x44 x45 x46 x47 x48 x49 x50 x51 x52 x53 x54 x55 x56 x57 x58 x59 x60 x61 x62 x63 x64 x65 x66 x67 x68 x69 x70 x71 x72 x73 x74 x75 x76 x77 x78 x79 x80 x81 x82 x83 x84 x85 x86 x87 x88 x89 x90 x91 x92 x93 x94 x95 x96 x97 x98 x99 x100 x101 x102 x103 x104 x105 x106 x107 x108 x109 x110 : Value) (h : Heap) : Option (Value × Heap) :=
  ob ((M.ofOpt (bin Try.prog .eql 3 x14 x7)) h) fun v71 h71 =>
  some (oneOf [v71], h71)
theorem f14_e1_2_eq (O : Oracle) (L : Loops (Value × Heap)) (x0 x1 x2 x3 x4 x5 x6 x7 x8 x9 x10 x11 x12 x13 x14 x15 x16 x17 x18 x19 x20 x21 x22 x23 x24 x25 x26 x27 x28 x29 x30 x31 x32 x33 x34 x35 x36 x37 x38 x39 x40 x41 x42 x43 x44 x45 x46 x47 x48 x49 x50 x51 x52 x53 x54 x55 x56 x57 x58 x59 x60 x61 x62 x63 x64 x65 x66 x67 x68 x69 x70 x71 x72 x73 x74 x75 x76 x77 x78 x79 x80 x81 x82 x83 x84 x85 x86 x87 x88 x89 x90 x91 x92 x93 x94 x95 x96 x97 x98 x99 x100 x101 x102 x103 x104 x105 x106 x107 x108 x109 x110 : Value) (h : Heap) :
    f14_k1 O L (.exit 2) [x0, x1, x2, x3, x4, x5, x6, x7, x8, x9, x10, x11, x12, x13, x14, x15, x16, x17, x18, x19, x20, x21, x22, x23, x24, x25, x26, x27, x28, x29, x30, x31, x32, x33, x34, x35, x36, x37, x38, x39, x40, x41, x42, x43, x44, x45, x46, x47, x48, x49, x50, x51, x52, x53, x54, x55, x56, x57, x58, x59, x60, x61, x62, x63, x64, x65, x66, x67, x68, x69, x70, x71, x72, x73, x74, x75, x76, x77, x78, x79, x80, x81, x82, x83, x84, x85, x86, x87, x88, x89, x90, x91, x92, x93, x94, x95, x96, x97, x98, x99, x100, x101, x102, x103, x104, x105, x106, x107, x108, x109, x110] h = f14_e1_2 O L x0 x1 x2 x3 x4 x5 x6 x7 x8 x9 x10 x11 x12 x13 x14 x15 x16 x17 x18 x19 x20 x21 x22 x23 x24 x25 x26 x27 x28 x29 x30 x31 x32 x33 x34 x35 x36 x37 x38 x39 x40 x41 x42 x43 x44 x45 x46 x47 x48 x49 x50 x51 x52 x53 x54 x55 x56 x57 x58 x59 x60 x61 x62 x63 x64 x65 x66 x67 x68 x69 x70 x71 x72 x73 x74 x75 x76 x77 x78 x79 x80 x81 x82 x83 x84 x85 x86 x87 x88 x89 x90 x91 x92 x93 x94 x95 x96 x97 x98 x99 x100 x101 x102 x103 x104 x105 x106 x107 x108 x109 x110 h := by kernel_rfl
noncomputable def f14_b1 (O : Oracle) (L : Loops (Value × Heap)) (k : Ex → K (Value × Heap)) (x0 x1 x2 x3 x4 x5 x6 x7 x8 x9 x10 x11 x12 x13 x14 x15 x16 x17 x18 x19 x20 x21 x22 x23 x24 x25 x26 x27 x28 x29 x30 x31 x32 x33 x34 x35 x36 x37 x38 x39 x40 x41 x42 x43 x44 x45 x46 x47 x48 x49 x50 x51 x52 x53 x54 x55 x56 x57 x58 x59 x60 x61 x62 x63 x64 x65 x66 x67 x68 x69 x70 x71 x72 x73 x74 x75 x76 x77 x78 x79 x80 x81 x82 x83 x84 x85 x86 x87 x88 x89 x90 x91 x92 x93 x94 x95 x96 x97 x98 x99 x100 x101 x102 x103 x104 x105 x106 x107 x108 x109 x110 : Value) (h : Heap) : Option (Value × Heap) :=
  ob ((M.ofOpt (bin Try.prog .lss 3 x15 (.int .i64 18))) h) fun v63 h63 =>
  iteV v63 (
  ob ((M.ofOpt (bin Try.prog .quo 3 x15 (.int .i64 6))) h63) fun v64 h64 =>
  ob ((M.ofOpt (bin Try.prog .quo 3 x15 (.int .i64 2))) h64) fun v65 h65 =>
  ob ((M.ofOpt (bin Try.prog .rem 3 v65 (.int .i64 3))) h65) fun v66 h66 =>
  ob ((M.ofOpt (bin Try.prog .rem 3 x15 (.int .i64 2))) h66) fun v67 h67 =>
  ob ((O (.func 32) [x6, v64, v66, v67]) h67) fun v68 h68 =>
  ob ((M.ofOpt (bin Try.prog .add 3 x14 v68)) h68) fun v69 h69 =>
  ob ((M.ofOpt (bin Try.prog .add 3 x15 (.int .i64 1))) h69) fun v70 h70 =>
  k .normal [x0, x1, x2, x3, x4, x5, x6, x7, x8, x9, x10, x11, x12, x13, v69, v70, x16, x17, x18, x19, x20, x21, x22, x23, x24, x25, x26, x27, x28, x29, x30, x31, x32, x33, x34, x35, x36, x37, x38, x39, x40, x41, x42, x43, x44, x45, x46, x47, x48, x49, x50, x51, x52, x53, x54, x55, x56, x57, x58, x59, x60, x61, x62, x63, x64, x65, x66, x67, x68, x69, x70, x71, x72, x73, x74, x75, x76, x77, x78, x79, x80, x81, x82, x83, x84, x85, x86, x87, x88, x89, x90, x91, x92, x15, v63, x15, v70, x14, x6, x15, v64, x15, v65, v66, x15, v67, v68, v69, x108, x109, x110] h70) (
  k (.exit 2) [x0, x1, x2, x3, x4, x5, x6, x7, x8, x9, x10, x11, x12, x13, x14, x15, x16, x17, x18, x19, x20, x21, x22, x23, x24, x25, x26, x27, x28, x29, x30, x31, x32, x33, x34, x35, x36, x37, x38, x39, x40, x41, x42, x43, x44, x45, x46, x47, x48, x49, x50, x51, x52, x53, x54, x55, x56, x57, x58, x59, x60, x61, x62, x63, x64, x65, x66, x67, x68, x69, x70, x71, x72, x73, x74, x75, x76, x77, x78, x79, x80, x81, x82, x83, x84, x85, x86, x87, x88, x89, x90, x91, x92, x15, v63, x95, x96, x97, x98, x99, x100, x101, x102, x103, x104, x105, x106, x107, x108, x109, x110] h63)
theorem f14_b1_eq (O : Oracle) (L : Loops (Value × Heap)) (k : Ex → K (Value × Heap)) (x0 x1 x2 x3 x4 x5 x6 x7 x8 x9 x10 x11 x12 x13 x14 x15 x16 x17 x18 x19 x20 x21 x22 x23 x24 x25 x26 x27 x28 x29 x30 x31 x32 x33 x34 x35 x36 x37 x38 x39 x40 x41 x42 x43 x44 x45 x46 x47 x48 x49 x50 x51 x52 x53 x54 x55 x56 x57 x58 x59 x60 x61 x62 x63 x64 x65 x66 x67 x68 x69 x70 x71 x72 x73 x74 x75 x76 x77 x78 x79 x80 x81 x82 x83 x84 x85 x86 x87 x88 x89 x90 x91 x92 x93 x94 x95 x96 x97 x98 x99 x100 x101 x102 x103 x104 x105 x106 x107 x108 x109 x110 : Value) (h : Heap) :
    runCode Try.prog O L f14_c1 k [x0, x1, x2, x3, x4, x5, x6, x7, x8, x9, x10, x11, x12, x13, x14, x15, x16, x17, x18, x19, x20, x21, x22, x23, x24, x25, x26, x27, x28, x29, x30, x31, x32, x33, x34, x35, x36, x37, x38, x39, x40, x41, x42, x43, x44, x45, x46, x47, x48, x49, x50, x51, x52, x53, x54, x55, x56, x57, x58, x59, x60, x61, x62, x63, x64, x65, x66, x67, x68, x69, x70, x71, x72, x73, x74, x75, x76, x77, x78, x79, x80, x81, x82, x83, x84, x85, x86, x87, x88, x89, x90, x91, x92, x93, x94, x95, x96, x97, x98, x99, x100, x101, x102, x103, x104, x105, x106, x107, x108, x109, x110] h = f14_b1 O L k x0 x1 x2 x3 x4 x5 x6 x7 x8 x9 x10 x11 x12 x13 x14 x15 x16 x17 x18 x19 x20 x21 x22 x23 x24 x25 x26 x27 x28 x29 x30 x31 x32 x33 x34 x35 x36 x37 x38 x39 x40 x41 x42 x43 x44 x45 x46 x47 x48 x49 x50 x51 x52 x53 x54 x55 x56 x57 x58 x59 x60 x61 x62 x63 x64 x65 x66 x67 x68 x69 x70 x71 x72 x73 x74 x75 x76 x77 x78 x79 x80 x81 x82 x83 x84 x85 x86 x87 x88 x89 x90 x91 x92 x93 x94 x95 x96 x97 x98 x99 x100 x101 x102 x103 x104 x105 x106 x107 x108 x109 x110 h := by kernel_rfl
noncomputable def f14_c0 : Code := sub [1, 1, 1, 1, 1, 1, 0, 1, 0, 0] (fbody Try.prog 14)
noncomputable def f14_k0 (O : Oracle) (L : Loops (Value × Heap)) : Ex → K (Value × Heap) := (blockK 0 (seqK Try.prog O L (sub [1, 1, 1, 1, 1, 1, 1] (fbody Try.prog 14)) (kRet Try.prog Try.f14)))
noncomputable def f14_e0_0 (O : Oracle) (L : Loops (Value × Heap)) (x0 x1 x2 x3 x4 x5 x6 x7 x8 x9 x10 x11 x12 x13 x14 x15 x16 x17 x18 x19 x20 x21 x22 x23 x24 x25 x26 x27 x28 x29 x30 x31 x32 x33 x34 x35 x36 x37 x38 x39 x40 x41 x42 x43 x44 x45 x46 x47 x48 x49 x50 x51 x52 x53 x54 x55 x56 x57 x58 x59 x60 x61 x62 x63 x64 x65 x66 x67 x68 x69 x70 x71 x72 x73 x74 x75 x76 x77 x78 x79 x80 x81 x82 x83 x84 x85 x86 x87 x88 x89 x90 x91 x92 x93 x94 x95 x96 x97 x98 x99 x100 x101 x102 x103 x104 x105 x106 x107 x108 x109 x110 : Value) (h : Heap) : Option (Value × Heap) :=
  L (runCode Try.prog O L f14_c1) (f14_k1 O L) [x0, x1, x2, x3, x4, x5, x6, x7, x8, x9, x10, x11, x12, x13, (.int .i64 0), (.int .i64 0), x16, x17, x18, x19, x20, x21, x22, x23, x24, x25, x26, x27, x28, x29, x30, x31, x32, x33, x34, x35, x36, x37, x38, x39, x40, x41, x42, x43, x44, x45, x46, x47, x48, x49, x50, x51, x52, x53, x54, x55, x56, x57, x58, x59, x60, x61, x62, x63, x64, x65, x66, x67, x68, x69, x70, x71, x72, x73, x74, x75, x76, x77, x78, x79, x80, x81, x82, x83, x84, x85, x86, x87, x88, x89, x90, x91, x92, x93, x94, x95, x96, x97, x98, x99, x100, x101, x102, x103, x104, x105, x106, x107, x108, x109, x110] h
theorem f14_e0_0_eq (O : Oracle) (L : Loops (Value × Heap)) (x0 x1 x2 x3 x4 x5 x6 x7 x8 x9 x10 x11 x12 x13 x14 x15 x16 x17 x18 x19 x20 x21 x22 x23 x24 x25 x26 x27 x28 x29 x30 x31 x32 x33 x34 x35 x36 x37 x38 x39 x40 x41 x42 x43 x44 x45 x46 x47 x48 x49 x50 x51 x52 x53 x54 x55 x56 x57 x58 x59 x60 x61 x62 x63 x64 x65 x66 x67 x68 x69 x70 x71 x72 x73 x74 x75 x76 x77 x78 x79 x80 x81 x82 x83 x84 x85 x86 x87 x88 x89 x90 x91 x92 x93 x94 x95 x96 x97 x98 x99 x100 x101 x102 x103 x104 x105 x106 x107 x108 x109 x110 : Value) (h : Heap) :
    f14_k0 O L (.exit 0) [x0, x1, x2, x3, x4, x5, x6, x7, x8, x9, x10, x11, x12, x13, x14, x15, x16, x17, x18, x19, x20, x21, x22, x23, x24, x25, x26, x27, x28, x29, x30, x31, x32, x33, x34, x35, x36, x37, x38, x39, x40, x41, x42, x43, x44, x45, x46, x47, x48, x49, x50, x51, x52, x53, x54, x55, x56, x57, x58, x59, x60, x61, x62, x63, x64, x65, x66, x67, x68, x69, x70, x71, x72, x73, x74, x75, x76, x77, x78, x79, x80, x81, x82, x83, x84, x85, x86, x87, x88, x89, x90, x91, x92, x93, x94, x95, x96, x97, x98, x99, x100, x101, x102, x103, x104, x105, x106, x107, x108, x109, x110] h = f14_e0_0 O L x0 x1 x2 x3 x4 x5 x6 x7 x8 x9 x10 x11 x12 x13 x14 x15 x16 x17 x18 x19 x20 x21 x22 x23 x24 x25 x26 x27 x28 x29 x30 x31 x32 x33 x34 x35 x36 x37 x38 x39 x40 x41 x42 x43 x44 x45 x46 x47 x48 x49 x50 x51 x52 x53 x54 x55 x56 x57 x58 x59 x60 x61 x62 x63 x64 x65 x66 x67 x68 x69 x70 x71 x72 x73 x74 x75 x76 x77 x78 x79 x80 x81 x82 x83 x84 x85 x86 x87 x88 x89 x90 x91 x92 x93 x94 x95 x96 x97 x98 x99 x100 x101 x102 x103 x104 x105 x106 x107 x108 x109 x110 h := by kernel_rfl
noncomputable def f14_r0 (O : Oracle) (L : Loops (Value × Heap)) (x0 x1 x2 x3 x4 x5 x6 x7 x8 x9 x10 x11 x12 x13 x14 x15 x16 x17 x18 x19 x20 x21 x22 x23 x24 x25 x26 x27 x28 x29 x30 x31 x32 x33 x34 x35 x36 x37 x38 x39 x40 x41 x42 x43 x44 x45 x46 x47 x48 x49 x50 x51 x52 x53 x54 x55 x56 x57 x58 x59 x60 x61 x62 x63 x64 x65 x66 x67 x68 x69 x70 x71 x72 x73 x74 x75 x76 x77 x78 x79 x80 x81 x82 x83 x84 x85 x86 x87 x88 x89 x90 x91 x92 x93 x94 x95 x96 x97 x98 x99 x100 x101 x102 x103 x104 x105 x106 x107 x108 x109 x110 : Value) (h : Heap) : Option (Value × Heap) :=
  some (oneOf [x4], h)
theorem f14_r0_eq (O : Oracle) (L : Loops (Value × Heap)) (x0 x1 x2 x3 x4 x5 x6 x7 x8 x9 x10 x11 x12 x13 x14 x15 x16 x17 x18 x19 x20 x21 x22 x23 x24 x25 x26 x27 x28 x29 x30 x31 x32 x33 x34 x35 x36 x37 x38 x39 x40 x41 x42 x43 x44 x45 x46 x47 x48 x49 x50 x51 x52 x53 x54 x55 x56 x57 x58 x59 x60 x61 x62 x63 x64 x65 x66 x67 x68 x69 x70 x71 x72 x73 x74 x75 x76 x77 x78 x79 x80 x81 x82 x83 x84 x85 x86 x87 x88 x89 x90 x91 x92 x93 x94 x95 x96 x97 x98 x99 x100 x101 x102 x103 x104 x105 x106 x107 x108 x109 x110 : Value) (h : Heap) :
    f14_k0 O L .ret [x0, x1, x2, x3, x4, x5, x6, x7, x8, x9, x10, x11, x12, x13, x14, x15, x16, x17, x18, x19, x20, x21, x22, x23, x24, x25, x26, x27, x28, x29, x30, x31, x32, x33, x34, x35, x36, x37, x38, x39, x40, x41, x42, x43, x44, x45, x46, x47, x48, x49, x50, x51, x52, x53, x54, x55, x56, x57, x58, x59, x60, x61, x62, x63, x64, x65, x66, x67, x68, x69, x70, x71, x72, x73, x74, x75, x76, x77, x78, x79, x80, x81, x82, x83, x84, x85, x86, x87, x88, x89, x90, x91, x92, x93, x94, x95, x96, x97, x98, x99, x100, x101, x102, x103, x104, x105, x106, x107, x108, x109, x110] h = f14_r0 O L x0 x1 x2 x3 x4 x5 x6 x7 x8 x9 x10 x11 x12 x13 x14 x15 x16 x17 x18 x19 x20 x21 x22 x23 x24 x25 x26 x27 x28 x29 x30 x31 x32 x33 x34 x35 x36 x37 x38 x39 x40 x41 x42 x43 x44 x45 x46 x47 x48 x49 x50 x51 x52 x53 x54 x55 x56 x57 x58 x59 x60 x61 x62 x63 x64 x65 x66 x67 x68 x69 x70 x71 x72 x73 x74 x75 x76 x77 x78 x79 x80 x81 x82 x83 x84 x85 x86 x87 x88 x89 x90 x91 x92 x93 x94 x95 x96 x97 x98 x99 x100 x101 x102 x103 x104 x105 x106 x107 x108 x109 x110 h := by kernel_rfl
noncomputable def f14_b0 (O : Oracle) (L : Loops (Value × Heap)) (k : Ex → K (Value × Heap)) (x0 x1 x2 x3 x4 x5 x6 x7 x8 x9 x10 x11 x12 x13 x14 x15 x16 x17 x18 x19 x20 x21 x22 x23 x24 x25 x26 x27 x28 x29 x30 x31 x32 x33 x34 x35 x36 x37 x38 x39 x40 x41 x42 x43 x44 x45 x46 x47 x48 x49 x50 x51 x52 x53 x54 x55 x56 x57 x58 x59 x60 x61 x62 x63 x64 x65 x66 x67 x68 x69 x70 x71 x72 x73 x74 x75 x76 x77 x78 x79 x80 x81 x82 x83 x84 x85 x86 x87 x88 x89 x90 x91 x92 x93 x94 x95 x96 x97 x98 x99 x100 x101 x102 x103 x104 x105 x106 x107 x108 x109 x110 : Value) (h : Heap) : Option (Value × Heap) :=
  ob ((M.ofOpt (lenSl x1)) h) fun v11 h11 =>
  ob ((M.ofOpt (bin Try.prog .lss 3 x8 v11)) h11) fun v12 h12 =>
  iteV v12 (
  ob ((M.ofOpt (iAddr 9 x1 x8)) h12) fun v13 h13 =>
  ob ((ldN 9 v13) h13) fun v14 h14 =>
  ob ((newB 58 [(.int .u8 0), (.int .i64 0), (.int .i64 0), (.int .i64 0), (.bool false), (.int .i64 0), (.int .i64 0), (.int .i64 0), (.int .u32 0)] .fix) h14) fun v15 h15 =>
  ob ((stN 9 v15 v14) h15) fun v16 h16 =>
  ob ((M.ofOpt (fAddr 4 v15)) h16) fun v17 h17 =>
  ob ((stN 1 v17 (.bool true)) h17) fun v18 h18 =>
  ob ((ldN 9 v15) h18) fun v19 h19 =>
  ob ((O (.func 34) [v19]) h19) fun v20 h20 =>
  ob ((stN 9 v15 v20) h20) fun v21 h21 =>
  ob ((M.ofOpt (fAddr 0 v15)) h21) fun v22 h22 =>
  ob ((ld1 v22) h22) fun v23 h23 =>
  ob ((M.ofOpt (bin Try.prog .rem 5 v23 (.int .u8 6))) h23) fun v24 h24 =>
  ob ((M.ofOpt (bin Try.prog .lss 5 v24 (.int .u8 3))) h24) fun v25 h25 =>
  iteV v25 (
  ob ((M.ofOpt (fAddr 1 v15)) h25) fun v26 h26 =>
  ob ((ld1 v26) h26) fun v27 h27 =>
  ob ((M.ofOpt (fAddr 2 v15)) h27) fun v28 h28 =>
  ob ((ld1 v28) h28) fun v29 h29 =>
  ob ((M.ofOpt (fAddr 3 v15)) h29) fun v30 h30 =>
  ob ((ld1 v30) h30) fun v31 h31 =>
  ob ((M.ofOpt (fAddr 5 v15)) h31) fun v32 h32 =>
  ob ((ldN 4 v32) h32) fun v33 h33 =>
  ob ((O (.func 33) [x6, v27, v29, v31, v33]) h33) fun v34 h34 =>
  ob ((M.ofOpt (bin Try.prog .lss 3 x7 x5)) h34) fun v35 h35 =>
  ob ((M.ofOpt (bin Try.prog .neq 4 v34 v35)) h35) fun v36 h36 =>
  iteV v36 (
  k .ret [x0, x1, x2, x3, (.bool false), x5, x6, x7, x8, v15, v34, x11, x12, x13, x14, x15, x16, x17, x18, x19, x20, x21, x22, x23, x24, x25, x26, x27, x28, x29, x30, x31, x8, x1, v11, v12, x36, x37, x1, x8, v13, v14, v17, v19, v20, v22, v23, v24, v25, x6, v26, v27, v28, v29, v30, v31, v32, v33, v34, v34, x7, x5, v35, v36, x64, x65, x66, x67, x68, x69, x70, x71, x72, x73, x74, x75, x76, x77, x78, x79, x80, x81, x82, x83, x84, x85, x86, x87, x88, x89, x90, x91, x92, x93, x94, x95, x96, x97, x98, x99, x100, x101, x102, x103, x104, x105, x106, x107, x108, x109, x110] h36) (
  iteV v34 (
  ob ((M.ofOpt (bin Try.prog .add 3 x7 (.int .i64 1))) h36) fun v37 h37 =>
  ob ((M.ofOpt (bin Try.prog .add 3 x8 (.int .i64 1))) h37) fun v38 h38 =>
  k .normal [x0, x1, x2, x3, x4, x5, x6, v37, v38, v15, v34, x11, x12, x13, x14, x15, x16, x17, x18, x19, x20, x21, x22, x23, x24, x25, x26, x27, x28, x29, x30, x31, x8, x1, v11, v12, x8, v38, x1, x8, v13, v14, v17, v19, v20, v22, v23, v24, v25, x6, v26, v27, v28, v29, v30, v31, v32, v33, v34, v34, x7, x5, v35, v36, v34, x7, v37, x67, x68, x69, x70, x71, x72, x73, x74, x75, x76, x77, x78, x79, x80, x81, x82, x83, x84, x85, x86, x87, x88, x89, x90, x91, x92, x93, x94, x95, x96, x97, x98, x99, x100, x101, x102, x103, x104, x105, x106, x107, x108, x109, x110] h38) (
  ob ((M.ofOpt (bin Try.prog .add 3 x8 (.int .i64 1))) h36) fun v39 h39 =>
  k .normal [x0, x1, x2, x3, x4, x5, x6, x7, v39, v15, v34, x11, x12, x13, x14, x15, x16, x17, x18, x19, x20, x21, x22, x23, x24, x25, x26, x27, x28, x29, x30, x31, x8, x1, v11, v12, x8, v39, x1, x8, v13, v14, v17, v19, v20, v22, v23, v24, v25, x6, v26, v27, v28, v29, v30, v31, v32, v33, v34, v34, x7, x5, v35, v36, v34, x65, x66, x67, x68, x69, x70, x71, x72, x73, x74, x75, x76, x77, x78, x79, x80, x81, x82, x83, x84, x85, x86, x87, x88, x89, x90, x91, x92, x93, x94, x95, x96, x97, x98, x99, x100, x101, x102, x103, x104, x105, x106, x107, x108, x109, x110] h39))) (
  ob ((M.ofOpt (fAddr 1 v15)) h25) fun v40 h40 =>
  ob ((ld1 v40) h40) fun v41 h41 =>
  ob ((M.ofOpt (fAddr 2 v15)) h41) fun v42 h42 =>
  ob ((ld1 v42) h42) fun v43 h43 =>
  ob ((M.ofOpt (fAddr 3 v15)) h43) fun v44 h44 =>
  ob ((ld1 v44) h44) fun v45 h45 =>
  ob ((O (.func 32) [x6, v41, v43, v45]) h45) fun v46 h46 =>
  ob ((M.ofOpt (fAddr 1 v15)) h46) fun v47 h47 =>
  ob ((ld1 v47) h47) fun v48 h48 =>
  ob ((M.ofOpt (fAddr 2 v15)) h48) fun v49 h49 =>
  ob ((ld1 v49) h49) fun v50 h50 =>
  ob ((M.ofOpt (fAddr 3 v15)) h50) fun v51 h51 =>
  ob ((ld1 v51) h51) fun v52 h52 =>
  ob ((O (.func 35) [x6, v48, v50, v52]) h52) fun v53 h53 =>
  ob ((M.ofOpt (ext 0 v53)) h53) fun v54 h54 =>
  ob ((M.ofOpt (ext 1 v53)) h54) fun v55 h55 =>
  ob ((newB 50 [(.int .i64 0), (.int .i64 0), (.int .i64 0), (.int .u32 0)] .fix) h55) fun v56 h56 =>
  ob ((stN 4 v56 v54) h56) fun v57 h57 =>
  ob ((M.ofOpt (bin Try.prog .gtr 3 v46 (.int .i64 0))) h57) fun v58 h58 =>
  ob ((M.ofOpt (bin Try.prog .neq 4 v55 v58)) h58) fun v59 h59 =>
  iteV v59 (
  k .ret [x0, x1, x2, x3, (.bool false), x5, x6, x7, x8, v15, x10, v46, v56, v55, x14, x15, x16, x17, x18, x19, x20, x21, x22, x23, x24, x25, x26, x27, x28, x29, x30, x31, x8, x1, v11, v12, x36, x37, x1, x8, v13, v14, v17, v19, v20, v22, v23, v24, v25, x49, x50, x51, x52, x53, x54, x55, x56, x57, x58, x59, x60, x61, x62, x63, x64, x65, x66, x6, v40, v41, v42, v43, v44, v45, v46, v53, x6, v47, v48, v49, v50, v51, v52, v53, v54, v55, v55, v46, v58, v59, x90, x91, x92, x93, x94, x95, x96, x97, x98, x99, x100, x101, x102, x103, x104, x105, x106, x107, x108, x109, x110] h59) (
  iteV v55 (
  ob ((M.ofOpt (bin Try.prog .sub 3 x7 (.int .i64 1))) h59) fun v60 h60 =>
  ob ((M.ofOpt (bin Try.prog .add 3 x8 (.int .i64 1))) h60) fun v61 h61 =>
  k .normal [x0, x1, x2, x3, x4, x5, x6, v60, v61, v15, x10, v46, v56, v55, x14, x15, x16, x17, x18, x19, x20, x21, x22, x23, x24, x25, x26, x27, x28, x29, x30, x31, x8, x1, v11, v12, x8, v61, x1, x8, v13, v14, v17, v19, v20, v22, v23, v24, v25, x49, x50, x51, x52, x53, x54, x55, x56, x57, x58, x59, x60, x61, x62, x63, x64, x65, x66, x6, v40, v41, v42, v43, v44, v45, v46, v53, x6, v47, v48, v49, v50, v51, v52, v53, v54, v55, v55, v46, v58, v59, v55, x7, v60, x93, x94, x95, x96, x97, x98, x99, x100, x101, x102, x103, x104, x105, x106, x107, x108, x109, x110] h61) (
  ob ((M.ofOpt (bin Try.prog .add 3 x8 (.int .i64 1))) h59) fun v62 h62 =>
  k .normal [x0, x1, x2, x3, x4, x5, x6, x7, v62, v15, x10, v46, v56, v55, x14, x15, x16, x17, x18, x19, x20, x21, x22, x23, x24, x25, x26, x27, x28, x29, x30, x31, x8, x1, v11, v12, x8, v62, x1, x8, v13, v14, v17, v19, v20, v22, v23, v24, v25, x49, x50, x51, x52, x53, x54, x55, x56, x57, x58, x59, x60, x61, x62, x63, x64, x65, x66, x6, v40, v41, v42, v43, v44, v45, v46, v53, x6, v47, v48, v49, v50, v51, v52, v53, v54, v55, v55, v46, v58, v59, v55, x91, x92, x93, x94, x95, x96, x97, x98, x99, x100, x101, x102, x103, x104, x105, x106, x107, x108, x109, x110] h62)))) (
  k (.exit 0) [x0, x1, x2, x3, x4, x5, x6, x7, x8, x9, x10, x11, x12, x13, x14, x15, x16, x17, x18, x19, x20, x21, x22, x23, x24, x25, x26, x27, x28, x29, x30, x31, x8, x1, v11, v12, x36, x37, x38, x39, x40, x41, x42, x43, x44, x45, x46, x47, x48, x49, x50, x51, x52, x53, x54, x55, x56, x57, x58, x59, x60, x61, x62, x63, x64, x65, x66, x67, x68, x69, x70, x71, x72, x73, x74, x75, x76, x77, x78, x79, x80, x81, x82, x83, x84, x85, x86, x87, x88, x89, x90, x91, x92, x93, x94, x95, x96, x97, x98, x99, x100, x101, x102, x103, x104, x105, x106, x107, x108, x109, x110] h12)
theorem f14_b0_eq (O : Oracle) (L : Loops (Value × Heap)) (k : Ex → K (Value × Heap)) (x0 x1 x2 x3 x4 x5 x6 x7 x8 x9 x10 x11 x12 x13 x14 x15 x16 x17 x18 x19 x20 x21 x22 x23 x24 x25 x26 x27 x28 x29 x30 x31 x32 x33 x34 x35 x36 x37 x38 x39 x40 x41 x42 x43 x44 x45 x46 x47 x48 x49 x50 x51 x52 x53 x54 x55 x56 x57 x58 x59 x60 x61 x62 x63 x64 x65 x66 x67 x68 x69 x70 x71 x72 x73 x74 x75 x76 x77 x78 x79 x80 x81 x82 x83 x84 x85 x86 x87 x88 x89 x90 x91 x92 x93 x94 x95 x96 x97 x98 x99 x100 x101 x102 x103 x104 x105 x106 x107 x108 x109 x110 : Value) (h : Heap) :
    runCode Try.prog O L f14_c0 k [x0, x1, x2, x3, x4, x5, x6, x7, x8, x9, x10, x11, x12, x13, x14, x15, x16, x17, x18, x19, x20, x21, x22, x23, x24, x25, x26, x27, x28, x29, x30, x31, x32, x33, x34, x35, x36, x37, x38, x39, x40, x41, x42, x43, x44, x45, x46, x47, x48, x49, x50, x51, x52, x53, x54, x55, x56, x57, x58, x59, x60, x61, x62, x63, x64, x65, x66, x67, x68, x69, x70, x71, x72, x73, x74, x75, x76, x77, x78, x79, x80, x81, x82, x83, x84, x85, x86, x87, x88, x89, x90, x91, x92, x93, x94, x95, x96, x97, x98, x99, x100, x101, x102, x103, x104, x105, x106, x107, x108, x109, x110] h = f14_b0 O L k x0 x1 x2 x3 x4 x5 x6 x7 x8 x9 x10 x11 x12 x13 x14 x15 x16 x17 x18 x19 x20 x21 x22 x23 x24 x25 x26 x27 x28 x29 x30 x31 x32 x33 x34 x35 x36 x37 x38 x39 x40 x41 x42 x43 x44 x45 x46 x47 x48 x49 x50 x51 x52 x53 x54 x55 x56 x57 x58 x59 x60 x61 x62 x63 x64 x65 x66 x67 x68 x69 x70 x71 x72 x73 x74 x75 x76 x77 x78 x79 x80 x81 x82 x83 x84 x85 x86 x87 x88 x89 x90 x91 x92 x93 x94 x95 x96 x97 x98 x99 x100 x101 x102 x103 x104 x105 x106 x107 x108 x109 x110 h := by kernel_rfl
noncomputable def f14 (O : Oracle) (L : Loops (Value × Heap)) (a0 a1 : Value) (h : Heap) : Option (Value × Heap) :=
  ob ((M.ofOpt (lenSl a1)) h) fun v0 h0 =>
  ob ((M.ofOpt (bin Try.prog .gtr 3 v0 (.int .i64 100))) h0) fun v1 h1 =>
  ob ((gd v1 false (O (.func 30) [])) h1) fun v2 h2 =>
  ob ((gd v1 false (M.ofOpt (un Try.prog .not v2))) h2) fun v3 h3 =>
  ob ((M.ofOpt (pick v1 (.bool true) v3)) h3) fun v4 h4 =>
  iteV v4 (
  ob ((O (.func 30) []) h4) fun v5 h5 =>
  some (oneOf [v5], h5)) (
  ob ((M.ofOpt (bin Try.prog .rem 5 a0 (.int .u8 40))) h4) fun v6 h6 =>
  ob ((conv Try.prog 5 3 v6) h6) fun v7 h7 =>
  ob ((M.ofOpt (bin Try.prog .add 3 (.int .i64 1) v7)) h7) fun v8 h8 =>
  ob ((O (.func 29) [(.int .i64 3), (.int .i64 2), v8]) h8) fun v9 h9 =>
  ob ((M.ofOpt (bin Try.prog .eql 46 v9 (.pointer none))) h9) fun v10 h10 =>
  iteV v10 (
  some (oneOf [(.bool false)], h10)) (
  L (runCode Try.prog O L f14_c0) (f14_k0 O L) [a0, a1, undef, undef, (.bool false), v8, v9, (.int .i64 0), (.int .i64 0), undef, undef, undef, undef, undef, undef, undef, a1, v0, v1, v1, v2, v3, v4, undef, a0, v6, v7, v8, v8, v9, v9, v10, undef, undef, undef, undef, undef, undef, undef, undef, undef, undef, undef, undef, undef, undef, undef, undef, undef, undef, undef, undef, undef, undef, undef, undef, undef, undef, undef, undef, undef, undef, undef, undef, undef, undef, undef, undef, undef, undef, undef, undef, undef, undef, undef, undef, undef, undef, undef, undef, undef, undef, undef, undef, undef, undef, undef, undef, undef, undef, undef, undef, undef, undef, undef, undef, undef, undef, undef, undef, undef, undef, undef, undef, undef, undef, undef, undef, undef, undef, undef] h10))
theorem f14_eq (O : Oracle) (L : Loops (Value × Heap)) (a0 a1 : Value) (h : Heap) :
    body Try.prog O L 14 [a0, a1] h = f14 O L a0 a1 h := by kernel_rfl

end Go.Proofs.Ytcmmlgdbpnogjaa
