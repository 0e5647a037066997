/-
  SHALLOW FORMS, written by a program of this claim's (Gen): each with its equation.
-/
import Derived.Test.YtebcibedkcjbcaaAbsSim
import Derived.Test.YtebcibedkcjbcaaProg
import Derived.KernelRfl
set_option linter.unusedVariables false
set_option maxRecDepth 100000
namespace Go.Proofs.Ytebcibedkcjbcaa
open Go.Abs
/-! 15: shunter/pool.New; slots: [(slots, 0), (slots, 1), (p, 3), (i, 4)] -/
noncomputable def f15_c0 : Code := sub [1, 1, 1, 0, 1, 0, 0] (fbody Try.prog 15)
noncomputable def f15_k0 (O : Oracle) (L : Loops (Value × Heap)) : Ex → K (Value × Heap) := (blockK 0 (seqK Try.prog O L (sub [1, 1, 1, 1] (fbody Try.prog 15)) (kRet Try.prog Try.f15)))
noncomputable def f15_e0_0 (O : Oracle) (L : Loops (Value × Heap)) (x0 x1 x2 x3 x4 x5 x6 x7 x8 x9 x10 x11 x12 x13 x14 x15 x16 x17 x18 x19 x20 x21 x22 x23 x24 x25 x26 x27 x28 x29 x30 x31 x32 x33 x34 x35 x36 x37 x38 x39 x40 x41 x42 : Value) (h : Heap) : Option (Value × Heap) :=
  ob ((M.ofOpt (nilChk x3)) h) fun v20 h20 =>
  ob ((M.ofOpt (fAddr 0 v20)) h20) fun v21 h21 =>
  ob ((ld1 v21) h21) fun v22 h22 =>
  ob ((M.ofOpt (bin Try.prog .sub 3 x0 (.int .i64 1))) h22) fun v23 h23 =>
  ob ((M.ofOpt (iAddr 2 v22 v23)) h23) fun v24 h24 =>
  ob ((M.ofOpt (fAddr 1 v24)) h24) fun v25 h25 =>
  ob ((stN 1 v25 (.int .i64 (-1))) h25) fun v26 h26 =>
  some (oneOf [x3], h26)
theorem f15_e0_0_eq (O : Oracle) (L : Loops (Value × Heap)) (x0 x1 x2 x3 x4 x5 x6 x7 x8 x9 x10 x11 x12 x13 x14 x15 x16 x17 x18 x19 x20 x21 x22 x23 x24 x25 x26 x27 x28 x29 x30 x31 x32 x33 x34 x35 x36 x37 x38 x39 x40 x41 x42 : Value) (h : Heap) :
    f15_k0 O L (.exit 0) [x0, x1, x2, x3, x4, x5, x6, x7, x8, x9, x10, x11, x12, x13, x14, x15, x16, x17, x18, x19, x20, x21, x22, x23, x24, x25, x26, x27, x28, x29, x30, x31, x32, x33, x34, x35, x36, x37, x38, x39, x40, x41, x42] h = f15_e0_0 O L x0 x1 x2 x3 x4 x5 x6 x7 x8 x9 x10 x11 x12 x13 x14 x15 x16 x17 x18 x19 x20 x21 x22 x23 x24 x25 x26 x27 x28 x29 x30 x31 x32 x33 x34 x35 x36 x37 x38 x39 x40 x41 x42 h := by kernel_rfl
noncomputable def f15_b0 (O : Oracle) (L : Loops (Value × Heap)) (k : Ex → K (Value × Heap)) (x0 x1 x2 x3 x4 x5 x6 x7 x8 x9 x10 x11 x12 x13 x14 x15 x16 x17 x18 x19 x20 x21 x22 x23 x24 x25 x26 x27 x28 x29 x30 x31 x32 x33 x34 x35 x36 x37 x38 x39 x40 x41 x42 : Value) (h : Heap) : Option (Value × Heap) :=
  ob ((M.ofOpt (bin Try.prog .lss 3 x21 x20)) h) fun v11 h11 =>
  iteV v11 (
  ob ((M.ofOpt (nilChk x3)) h11) fun v12 h12 =>
  ob ((M.ofOpt (fAddr 0 v12)) h12) fun v13 h13 =>
  ob ((ld1 v13) h13) fun v14 h14 =>
  ob ((M.ofOpt (bin Try.prog .add 3 x21 (.int .i64 1))) h14) fun v15 h15 =>
  ob ((M.ofOpt (iAddr 2 v14 x21)) h15) fun v16 h16 =>
  ob ((M.ofOpt (fAddr 1 v16)) h16) fun v17 h17 =>
  ob ((stN 1 v17 v15) h17) fun v18 h18 =>
  ob ((M.ofOpt (bin Try.prog .add 3 x21 (.int .i64 1))) h18) fun v19 h19 =>
  k .normal [x0, x1, x2, x3, x21, x5, x6, x7, x8, x9, x10, x11, x12, x13, x14, x15, x16, x17, x18, x19, x20, v19, v11, x21, x3, v12, v13, v14, x21, x21, v15, v16, v17, v19, x34, x35, x36, x37, x38, x39, x40, x41, x42] h19) (
  k (.exit 0) [x0, x1, x2, x3, x4, x5, x6, x7, x8, x9, x10, x11, x12, x13, x14, x15, x16, x17, x18, x19, x20, x21, v11, x23, x24, x25, x26, x27, x28, x29, x30, x31, x32, x33, x34, x35, x36, x37, x38, x39, x40, x41, x42] h11)
theorem f15_b0_eq (O : Oracle) (L : Loops (Value × Heap)) (k : Ex → K (Value × Heap)) (x0 x1 x2 x3 x4 x5 x6 x7 x8 x9 x10 x11 x12 x13 x14 x15 x16 x17 x18 x19 x20 x21 x22 x23 x24 x25 x26 x27 x28 x29 x30 x31 x32 x33 x34 x35 x36 x37 x38 x39 x40 x41 x42 : Value) (h : Heap) :
    runCode Try.prog O L f15_c0 k [x0, x1, x2, x3, x4, x5, x6, x7, x8, x9, x10, x11, x12, x13, x14, x15, x16, x17, x18, x19, x20, x21, x22, x23, x24, x25, x26, x27, x28, x29, x30, x31, x32, x33, x34, x35, x36, x37, x38, x39, x40, x41, x42] h = f15_b0 O L k x0 x1 x2 x3 x4 x5 x6 x7 x8 x9 x10 x11 x12 x13 x14 x15 x16 x17 x18 x19 x20 x21 x22 x23 x24 x25 x26 x27 x28 x29 x30 x31 x32 x33 x34 x35 x36 x37 x38 x39 x40 x41 x42 h := by kernel_rfl
noncomputable def f15 (O : Oracle) (L : Loops (Value × Heap)) (a0 : Value) (h : Heap) : Option (Value × Heap) :=
  ob ((M.ofOpt (bin Try.prog .lss 3 a0 (.int .i64 1))) h) fun v0 h0 =>
  ob ((gd v0 false (M.ret a0)) h0) fun v1 h1 =>
  ob ((gd v0 false (M.ofOpt (bin Try.prog .gtr 3 v1 (.int .i64 200)))) h1) fun v2 h2 =>
  ob ((M.ofOpt (pick v0 (.bool true) v2)) h2) fun v3 h3 =>
  iteV v3 (
  some (oneOf [(.pointer none)], h3)) (
  ob ((mkSlice 72 2 16 [(.pointer none), (.int .i64 0)] a0 a0) h3) fun v4 h4 =>
  ob ((M.ofOpt (bld Try.prog 69 [(0, v4), (2, a0)])) h4) fun v5 h5 =>
  ob ((newB 69 (Value.cells v5).toList .fix) h5) fun v6 h6 =>
  ob ((M.ofOpt (nilChk v6)) h6) fun v7 h7 =>
  ob ((M.ofOpt (fAddr 0 v7)) h7) fun v8 h8 =>
  ob ((ld1 v8) h8) fun v9 h9 =>
  ob ((M.ofOpt (lenSl v9)) h9) fun v10 h10 =>
  L (runCode Try.prog O L f15_c0) (f15_k0 O L) [a0, undef, (.pointer none), v6, undef, a0, v0, v0, v1, v2, v3, a0, v4, a0, v5, v6, v6, v7, v8, v9, v10, (.int .i64 0), undef, undef, undef, undef, undef, undef, undef, undef, undef, undef, undef, undef, undef, undef, undef, undef, undef, undef, undef, undef, undef] h10)
theorem f15_eq (O : Oracle) (L : Loops (Value × Heap)) (a0 : Value) (h : Heap) :
    body Try.prog O L 15 [a0] h = f15 O L a0 h := by kernel_rfl

/-! 17: (*shunter/pool.Pool).Get; slots: [(p, 0), (i, 1), (p, 2), (i, 3), (s, 6)] -/
noncomputable def f17 (O : Oracle) (L : Loops (Value × Heap)) (a0 a1 : Value) (h : Heap) : Option (Value × Heap) :=
  ob ((newB 27 [(.int .i64 0), (.int .i64 0), (.int .i64 0), (.int .u32 0)] .fix) h) fun v0 h0 =>
  ob ((O (.func 40) [a0, a1]) h0) fun v1 h1 =>
  ob ((M.ofOpt (bin Try.prog .neq 73 v1 (.pointer none))) h1) fun v2 h2 =>
  iteV v2 (
  ob ((M.ofOpt (nilChk v1)) h2) fun v3 h3 =>
  ob ((M.ofOpt (fAddr 0 v3)) h3) fun v4 h4 =>
  ob ((ld1 v4) h4) fun v5 h5 =>
  ob ((M.ofOpt (nilChk v5)) h5) fun v6 h6 =>
  ob ((ldN 4 v6) h6) fun v7 h7 =>
  ob ((stN 4 v0 v7) h7) fun v8 h8 =>
  ob ((ldN 4 v0) h8) fun w9 _ => some (oneOf [w9, (.bool true)], h8)) (
  ob ((M.ofOpt (bld Try.prog 27 [])) h2) fun v10 h10 =>
  ob ((stN 4 v0 v10) h10) fun v11 h11 =>
  ob ((ldN 4 v0) h11) fun w12 _ => some (oneOf [w12, (.bool false)], h11))
theorem f17_eq (O : Oracle) (L : Loops (Value × Heap)) (a0 a1 : Value) (h : Heap) :
    body Try.prog O L 17 [a0, a1] h = f17 O L a0 a1 h := by kernel_rfl

/-! 18: (*shunter/pool.Pool).Free; slots: [(p, 0), (p, 1)] -/
noncomputable def f18 (O : Oracle) (L : Loops (Value × Heap)) (a0 : Value) (h : Heap) : Option (Value × Heap) :=
  ob ((M.ofOpt (nilChk a0)) h) fun v0 h0 =>
  ob ((M.ofOpt (fAddr 2 v0)) h0) fun v1 h1 =>
  ob ((ld1 v1) h1) fun v2 h2 =>
  some (oneOf [v2], h2)
theorem f18_eq (O : Oracle) (L : Loops (Value × Heap)) (a0 : Value) (h : Heap) :
    body Try.prog O L 18 [a0] h = f18 O L a0 h := by kernel_rfl

/-! 19: (*shunter/pool.Pool).Drop; slots: [(p, 0), (i, 1), (p, 2), (i, 3), (s, 5)] -/
noncomputable def f19 (O : Oracle) (L : Loops (Value × Heap)) (a0 a1 : Value) (h : Heap) : Option (Value × Heap) :=
  ob ((O (.func 40) [a0, a1]) h) fun v0 h0 =>
  ob ((M.ofOpt (bin Try.prog .eql 73 v0 (.pointer none))) h0) fun v1 h1 =>
  iteV v1 (
  some (oneOf [(.bool false)], h1)) (
  ob ((M.ofOpt (nilChk a0)) h1) fun v2 h2 =>
  ob ((M.ofOpt (fAddr 1 v2)) h2) fun v3 h3 =>
  ob ((ld1 v3) h3) fun v4 h4 =>
  ob ((M.ofOpt (nilChk v0)) h4) fun v5 h5 =>
  ob ((M.ofOpt (fAddr 0 v5)) h5) fun v6 h6 =>
  ob ((stN 1 v6 (.pointer none)) h6) fun v7 h7 =>
  ob ((M.ofOpt (nilChk v0)) h7) fun v8 h8 =>
  ob ((M.ofOpt (fAddr 1 v8)) h8) fun v9 h9 =>
  ob ((stN 1 v9 v4) h9) fun v10 h10 =>
  ob ((M.ofOpt (nilChk a0)) h10) fun v11 h11 =>
  ob ((M.ofOpt (fAddr 1 v11)) h11) fun v12 h12 =>
  ob ((stN 1 v12 a1) h12) fun v13 h13 =>
  ob ((M.ofOpt (nilChk a0)) h13) fun v14 h14 =>
  ob ((M.ofOpt (fAddr 2 v14)) h14) fun v15 h15 =>
  ob ((ld1 v15) h15) fun v16 h16 =>
  ob ((M.ofOpt (bin Try.prog .add 3 v16 (.int .i64 1))) h16) fun v17 h17 =>
  ob ((M.ofOpt (nilChk a0)) h17) fun v18 h18 =>
  ob ((M.ofOpt (fAddr 2 v18)) h18) fun v19 h19 =>
  ob ((stN 1 v19 v17) h19) fun v20 h20 =>
  some (oneOf [(.bool true)], h20))
theorem f19_eq (O : Oracle) (L : Loops (Value × Heap)) (a0 a1 : Value) (h : Heap) :
    body Try.prog O L 19 [a0, a1] h = f19 O L a0 a1 h := by kernel_rfl

/-! 20: (*shunter/pool.Pool).Put; slots: [(p, 0), (x, 1), (p, 2), (x, 3), (k, 6), (s, 7)] -/
noncomputable def f20 (O : Oracle) (L : Loops (Value × Heap)) (a0 a1 : Value) (h : Heap) : Option (Value × Heap) :=
  ob ((newB 27 (Value.cells a1).toList .fix) h) fun v0 h0 =>
  ob ((M.ofOpt (nilChk a0)) h0) fun v1 h1 =>
  ob ((M.ofOpt (fAddr 1 v1)) h1) fun v2 h2 =>
  ob ((ld1 v2) h2) fun v3 h3 =>
  ob ((M.ofOpt (bin Try.prog .eql 3 v3 (.int .i64 (-1)))) h3) fun v4 h4 =>
  iteV v4 (
  some (oneOf [(.int .i64 0), (.bool false)], h4)) (
  ob ((M.ofOpt (nilChk a0)) h4) fun v5 h5 =>
  ob ((M.ofOpt (fAddr 0 v5)) h5) fun v6 h6 =>
  ob ((ld1 v6) h6) fun v7 h7 =>
  ob ((M.ofOpt (iAddr 2 v7 v3)) h7) fun v8 h8 =>
  ob ((M.ofOpt (nilChk v8)) h8) fun v9 h9 =>
  ob ((M.ofOpt (fAddr 1 v9)) h9) fun v10 h10 =>
  ob ((ld1 v10) h10) fun v11 h11 =>
  ob ((M.ofOpt (nilChk v8)) h11) fun v12 h12 =>
  ob ((M.ofOpt (fAddr 0 v12)) h12) fun v13 h13 =>
  ob ((stN 1 v13 v0) h13) fun v14 h14 =>
  ob ((M.ofOpt (nilChk a0)) h14) fun v15 h15 =>
  ob ((M.ofOpt (fAddr 1 v15)) h15) fun v16 h16 =>
  ob ((stN 1 v16 v11) h16) fun v17 h17 =>
  ob ((M.ofOpt (nilChk a0)) h17) fun v18 h18 =>
  ob ((M.ofOpt (fAddr 2 v18)) h18) fun v19 h19 =>
  ob ((ld1 v19) h19) fun v20 h20 =>
  ob ((M.ofOpt (bin Try.prog .sub 3 v20 (.int .i64 1))) h20) fun v21 h21 =>
  ob ((M.ofOpt (nilChk a0)) h21) fun v22 h22 =>
  ob ((M.ofOpt (fAddr 2 v22)) h22) fun v23 h23 =>
  ob ((stN 1 v23 v21) h23) fun v24 h24 =>
  some (oneOf [v3, (.bool true)], h24))
theorem f20_eq (O : Oracle) (L : Loops (Value × Heap)) (a0 a1 : Value) (h : Heap) :
    body Try.prog O L 20 [a0, a1] h = f20 O L a0 a1 h := by kernel_rfl

/-! 40: (*shunter/pool.Pool).at; slots: [(p, 0), (i, 1), (p, 2), (i, 3)] -/
noncomputable def f40 (O : Oracle) (L : Loops (Value × Heap)) (a0 a1 : Value) (h : Heap) : Option (Value × Heap) :=
  ob ((M.ofOpt (bin Try.prog .lss 3 a1 (.int .i64 0))) h) fun v0 h0 =>
  ob ((gd v0 false (M.ret a1)) h0) fun v1 h1 =>
  ob ((gd v0 false (M.ret a0)) h1) fun v2 h2 =>
  ob ((gd v0 false (M.ofOpt (nilChk v2))) h2) fun v3 h3 =>
  ob ((gd v0 false (M.ofOpt (fAddr 0 v3))) h3) fun v4 h4 =>
  ob ((gd v0 false (ld1 v4)) h4) fun v5 h5 =>
  ob ((gd v0 false (M.ofOpt (lenSl v5))) h5) fun v6 h6 =>
  ob ((gd v0 false (M.ofOpt (bin Try.prog .geq 3 v1 v6))) h6) fun v7 h7 =>
  ob ((M.ofOpt (pick v0 (.bool true) v7)) h7) fun v8 h8 =>
  ob ((gd v8 false (M.ret a0)) h8) fun v9 h9 =>
  ob ((gd v8 false (M.ofOpt (nilChk v9))) h9) fun v10 h10 =>
  ob ((gd v8 false (M.ofOpt (fAddr 0 v10))) h10) fun v11 h11 =>
  ob ((gd v8 false (ld1 v11)) h11) fun v12 h12 =>
  ob ((gd v8 false (M.ret a1)) h12) fun v13 h13 =>
  ob ((gd v8 false (M.ofOpt (iAddr 2 v12 v13))) h13) fun v14 h14 =>
  ob ((gd v8 false (M.ofOpt (fAddr 0 v14))) h14) fun v15 h15 =>
  ob ((gd v8 false (ld1 v15)) h15) fun v16 h16 =>
  ob ((gd v8 false (M.ofOpt (bin Try.prog .eql 70 v16 (.pointer none)))) h16) fun v17 h17 =>
  ob ((M.ofOpt (pick v8 (.bool true) v17)) h17) fun v18 h18 =>
  iteV v18 (
  some (oneOf [(.pointer none)], h18)) (
  ob ((M.ofOpt (nilChk a0)) h18) fun v19 h19 =>
  ob ((M.ofOpt (fAddr 0 v19)) h19) fun v20 h20 =>
  ob ((ld1 v20) h20) fun v21 h21 =>
  ob ((M.ofOpt (iAddr 2 v21 a1)) h21) fun v22 h22 =>
  some (oneOf [v22], h22))
theorem f40_eq (O : Oracle) (L : Loops (Value × Heap)) (a0 a1 : Value) (h : Heap) :
    body Try.prog O L 40 [a0, a1] h = f40 O L a0 a1 h := by kernel_rfl

/-! 3: shunter/shunterlaw07.PoolNew; slots: [(slots, 0), (slots, 1), (p, 3), (_, 4), (is, 5)] -/
noncomputable def f3 (O : Oracle) (L : Loops (Value × Heap)) (a0 : Value) (h : Heap) : Option (Value × Heap) :=
  ob ((O (.func 15) [a0]) h) fun v0 h0 =>
  ob ((M.ofOpt (bin Try.prog .eql 22 v0 (.pointer none))) h0) fun v1 h1 =>
  iteV v1 (
  ob ((O (.func 16) []) h1) fun v2 h2 =>
  ob ((gd v2 true (M.ret a0)) h2) fun v3 h3 =>
  ob ((gd v2 true (M.ofOpt (bin Try.prog .lss 3 v3 (.int .i64 1)))) h3) fun v4 h4 =>
  ob ((gd v2 true (M.ret v4)) h4) fun v5 h5 =>
  ob ((gd v5 false (M.ret a0)) h5) fun v6 h6 =>
  ob ((gd v5 false (M.ofOpt (bin Try.prog .gtr 3 v6 (.int .i64 200)))) h6) fun v7 h7 =>
  ob ((gd v2 true (M.ofOpt (pick v5 (.bool true) v7))) h7) fun v8 h8 =>
  ob ((M.ofOpt (pick v2 v8 (.bool false))) h8) fun v9 h9 =>
  some (oneOf [v9], h9)) (
  ob ((O (.func 17) [v0, (.int .i64 0)]) h1) fun v10 h10 =>
  ob ((M.ofOpt (ext 0 v10)) h10) fun v11 h11 =>
  ob ((M.ofOpt (ext 1 v10)) h11) fun v12 h12 =>
  ob ((newB 27 [(.int .i64 0), (.int .i64 0), (.int .i64 0), (.int .u32 0)] .fix) h12) fun v13 h13 =>
  ob ((stN 4 v13 v11) h13) fun v14 h14 =>
  ob ((O (.func 16) []) h14) fun v15 h15 =>
  ob ((gd v15 true (M.ret a0)) h15) fun v16 h16 =>
  ob ((gd v15 true (M.ofOpt (bin Try.prog .geq 3 v16 (.int .i64 1)))) h16) fun v17 h17 =>
  ob ((M.ofOpt (pick v15 v17 (.bool false))) h17) fun v18 h18 =>
  ob ((gd v18 true (M.ret a0)) h18) fun v19 h19 =>
  ob ((gd v18 true (M.ofOpt (bin Try.prog .leq 3 v19 (.int .i64 200)))) h19) fun v20 h20 =>
  ob ((M.ofOpt (pick v18 v20 (.bool false))) h20) fun v21 h21 =>
  ob ((gd v21 true (M.ret v0)) h21) fun v22 h22 =>
  ob ((gd v21 true (O (.func 18) [v22])) h22) fun v23 h23 =>
  ob ((gd v21 true (M.ret a0)) h23) fun v24 h24 =>
  ob ((gd v21 true (M.ofOpt (bin Try.prog .eql 3 v23 v24))) h24) fun v25 h25 =>
  ob ((M.ofOpt (pick v21 v25 (.bool false))) h25) fun v26 h26 =>
  ob ((gd v26 true (M.ret v12)) h26) fun v27 h27 =>
  ob ((gd v26 true (M.ofOpt (un Try.prog .not v27))) h27) fun v28 h28 =>
  ob ((M.ofOpt (pick v26 v28 (.bool false))) h28) fun v29 h29 =>
  ob ((gd v29 true (M.ret v0)) h29) fun v30 h30 =>
  ob ((gd v29 true (O (.func 19) [v30, (.int .i64 0)])) h30) fun v31 h31 =>
  ob ((gd v29 true (M.ofOpt (un Try.prog .not v31))) h31) fun v32 h32 =>
  ob ((M.ofOpt (pick v29 v32 (.bool false))) h32) fun v33 h33 =>
  ob ((gd v33 true (M.ret v0)) h33) fun v34 h34 =>
  ob ((gd v33 true (O (.func 19) [v34, (.int .i64 (-1))])) h34) fun v35 h35 =>
  ob ((gd v33 true (M.ofOpt (un Try.prog .not v35))) h35) fun v36 h36 =>
  ob ((M.ofOpt (pick v33 v36 (.bool false))) h36) fun v37 h37 =>
  ob ((gd v37 true (M.ret v0)) h37) fun v38 h38 =>
  ob ((gd v37 true (M.ret a0)) h38) fun v39 h39 =>
  ob ((gd v37 true (O (.func 19) [v38, v39])) h39) fun v40 h40 =>
  ob ((gd v37 true (M.ofOpt (un Try.prog .not v40))) h40) fun v41 h41 =>
  ob ((M.ofOpt (pick v37 v41 (.bool false))) h41) fun v42 h42 =>
  some (oneOf [v42], h42))
theorem f3_eq (O : Oracle) (L : Loops (Value × Heap)) (a0 : Value) (h : Heap) :
    body Try.prog O L 3 [a0] h = f3 O L a0 h := by kernel_rfl

/-! 4: shunter/shunterlaw07.PoolFirst; slots: [(slots, 0), (x, 1), (slots, 2), (x, 3), (n, 5), (p, 6), (i, 7), (k, 8), (is, 9)] -/
noncomputable def f4_c0 : Code := sub [1, 1, 1, 1, 0, 1, 0, 0] (fbody Try.prog 4)
noncomputable def f4_k0 (O : Oracle) (L : Loops (Value × Heap)) : Ex → K (Value × Heap) := (blockK 0 (seqK Try.prog O L (sub [1, 1, 1, 1, 1] (fbody Try.prog 4)) (kRet Try.prog Try.f4)))
noncomputable def f4_e0_0 (O : Oracle) (L : Loops (Value × Heap)) (x0 x1 x2 x3 x4 x5 x6 x7 x8 x9 x10 x11 x12 x13 x14 x15 x16 x17 x18 x19 x20 x21 x22 x23 x24 x25 x26 x27 x28 x29 x30 x31 x32 x33 x34 x35 x36 x37 x38 x39 x40 x41 x42 x43 x44 x45 x46 x47 x48 x49 x50 x51 x52 x53 x54 x55 x56 x57 x58 x59 x60 x61 x62 x63 x64 x65 x66 x67 x68 x69 x70 x71 x72 x73 x74 : Value) (h : Heap) : Option (Value × Heap) :=
  ob ((O (.func 16) []) h) fun v36 h36 =>
  ob ((gd v36 true (M.ret x6)) h36) fun v37 h37 =>
  ob ((gd v36 true (O (.func 18) [v37])) h37) fun v38 h38 =>
  ob ((gd v36 true (M.ret x5)) h38) fun v39 h39 =>
  ob ((gd v36 true (M.ret x1)) h39) fun v40 h40 =>
  ob ((gd v36 true (M.ofOpt (lenSl v40))) h40) fun v41 h41 =>
  ob ((gd v36 true (M.ofOpt (bin Try.prog .sub 3 v39 v41))) h41) fun v42 h42 =>
  ob ((gd v36 true (M.ofOpt (minmax Try.prog true [v42, (.int .i64 0)]))) h42) fun v43 h43 =>
  ob ((gd v36 true (M.ofOpt (bin Try.prog .eql 3 v38 v43))) h43) fun v44 h44 =>
  ob ((M.ofOpt (pick v36 v44 (.bool false))) h44) fun v45 h45 =>
  some (oneOf [v45], h45)
theorem f4_e0_0_eq (O : Oracle) (L : Loops (Value × Heap)) (x0 x1 x2 x3 x4 x5 x6 x7 x8 x9 x10 x11 x12 x13 x14 x15 x16 x17 x18 x19 x20 x21 x22 x23 x24 x25 x26 x27 x28 x29 x30 x31 x32 x33 x34 x35 x36 x37 x38 x39 x40 x41 x42 x43 x44 x45 x46 x47 x48 x49 x50 x51 x52 x53 x54 x55 x56 x57 x58 x59 x60 x61 x62 x63 x64 x65 x66 x67 x68 x69 x70 x71 x72 x73 x74 : Value) (h : Heap) :
    f4_k0 O L (.exit 0) [x0, x1, x2, x3, x4, x5, x6, x7, x8, x9, x10, x11, x12, x13, x14, x15, x16, x17, x18, x19, x20, x21, x22, x23, x24, x25, x26, x27, x28, x29, x30, x31, x32, x33, x34, x35, x36, x37, x38, x39, x40, x41, x42, x43, x44, x45, x46, x47, x48, x49, x50, x51, x52, x53, x54, x55, x56, x57, x58, x59, x60, x61, x62, x63, x64, x65, x66, x67, x68, x69, x70, x71, x72, x73, x74] h = f4_e0_0 O L x0 x1 x2 x3 x4 x5 x6 x7 x8 x9 x10 x11 x12 x13 x14 x15 x16 x17 x18 x19 x20 x21 x22 x23 x24 x25 x26 x27 x28 x29 x30 x31 x32 x33 x34 x35 x36 x37 x38 x39 x40 x41 x42 x43 x44 x45 x46 x47 x48 x49 x50 x51 x52 x53 x54 x55 x56 x57 x58 x59 x60 x61 x62 x63 x64 x65 x66 x67 x68 x69 x70 x71 x72 x73 x74 h := by kernel_rfl
noncomputable def f4_r0 (O : Oracle) (L : Loops (Value × Heap)) (x0 x1 x2 x3 x4 x5 x6 x7 x8 x9 x10 x11 x12 x13 x14 x15 x16 x17 x18 x19 x20 x21 x22 x23 x24 x25 x26 x27 x28 x29 x30 x31 x32 x33 x34 x35 x36 x37 x38 x39 x40 x41 x42 x43 x44 x45 x46 x47 x48 x49 x50 x51 x52 x53 x54 x55 x56 x57 x58 x59 x60 x61 x62 x63 x64 x65 x66 x67 x68 x69 x70 x71 x72 x73 x74 : Value) (h : Heap) : Option (Value × Heap) :=
  some (oneOf [x4], h)
theorem f4_r0_eq (O : Oracle) (L : Loops (Value × Heap)) (x0 x1 x2 x3 x4 x5 x6 x7 x8 x9 x10 x11 x12 x13 x14 x15 x16 x17 x18 x19 x20 x21 x22 x23 x24 x25 x26 x27 x28 x29 x30 x31 x32 x33 x34 x35 x36 x37 x38 x39 x40 x41 x42 x43 x44 x45 x46 x47 x48 x49 x50 x51 x52 x53 x54 x55 x56 x57 x58 x59 x60 x61 x62 x63 x64 x65 x66 x67 x68 x69 x70 x71 x72 x73 x74 : Value) (h : Heap) :
    f4_k0 O L .ret [x0, x1, x2, x3, x4, x5, x6, x7, x8, x9, x10, x11, x12, x13, x14, x15, x16, x17, x18, x19, x20, x21, x22, x23, x24, x25, x26, x27, x28, x29, x30, x31, x32, x33, x34, x35, x36, x37, x38, x39, x40, x41, x42, x43, x44, x45, x46, x47, x48, x49, x50, x51, x52, x53, x54, x55, x56, x57, x58, x59, x60, x61, x62, x63, x64, x65, x66, x67, x68, x69, x70, x71, x72, x73, x74] h = f4_r0 O L x0 x1 x2 x3 x4 x5 x6 x7 x8 x9 x10 x11 x12 x13 x14 x15 x16 x17 x18 x19 x20 x21 x22 x23 x24 x25 x26 x27 x28 x29 x30 x31 x32 x33 x34 x35 x36 x37 x38 x39 x40 x41 x42 x43 x44 x45 x46 x47 x48 x49 x50 x51 x52 x53 x54 x55 x56 x57 x58 x59 x60 x61 x62 x63 x64 x65 x66 x67 x68 x69 x70 x71 x72 x73 x74 h := by kernel_rfl
noncomputable def f4_b0 (O : Oracle) (L : Loops (Value × Heap)) (k : Ex → K (Value × Heap)) (x0 x1 x2 x3 x4 x5 x6 x7 x8 x9 x10 x11 x12 x13 x14 x15 x16 x17 x18 x19 x20 x21 x22 x23 x24 x25 x26 x27 x28 x29 x30 x31 x32 x33 x34 x35 x36 x37 x38 x39 x40 x41 x42 x43 x44 x45 x46 x47 x48 x49 x50 x51 x52 x53 x54 x55 x56 x57 x58 x59 x60 x61 x62 x63 x64 x65 x66 x67 x68 x69 x70 x71 x72 x73 x74 : Value) (h : Heap) : Option (Value × Heap) :=
  ob ((M.ofOpt (lenSl x1)) h) fun v12 h12 =>
  ob ((M.ofOpt (bin Try.prog .lss 3 x7 v12)) h12) fun v13 h13 =>
  iteV v13 (
  ob ((M.ofOpt (iAddr 4 x1 x7)) h13) fun v14 h14 =>
  ob ((ldN 4 v14) h14) fun v15 h15 =>
  ob ((O (.func 20) [x6, v15]) h15) fun v16 h16 =>
  ob ((M.ofOpt (ext 0 v16)) h16) fun v17 h17 =>
  ob ((M.ofOpt (ext 1 v16)) h17) fun v18 h18 =>
  ob ((M.ofOpt (bin Try.prog .lss 3 x7 x5)) h18) fun v19 h19 =>
  ob ((M.ofOpt (bin Try.prog .neq 4 v18 v19)) h19) fun v20 h20 =>
  ob ((gd v20 false (M.ret v18)) h20) fun v21 h21 =>
  ob ((gd v20 false (M.ret v21)) h21) fun v22 h22 =>
  ob ((gd v22 true (M.ret v17)) h22) fun v23 h23 =>
  ob ((gd v22 true (M.ret x7)) h23) fun v24 h24 =>
  ob ((gd v22 true (M.ofOpt (bin Try.prog .neq 3 v23 v24))) h24) fun v25 h25 =>
  ob ((gd v20 false (M.ofOpt (pick v22 v25 (.bool false)))) h25) fun v26 h26 =>
  ob ((M.ofOpt (pick v20 (.bool true) v26)) h26) fun v27 h27 =>
  ob ((gd v27 false (M.ret v18)) h27) fun v28 h28 =>
  ob ((gd v27 false (M.ofOpt (un Try.prog .not v28))) h28) fun v29 h29 =>
  ob ((gd v27 false (M.ret v29)) h29) fun v30 h30 =>
  ob ((gd v30 true (M.ret v17)) h30) fun v31 h31 =>
  ob ((gd v30 true (M.ofOpt (bin Try.prog .neq 3 v31 (.int .i64 0)))) h31) fun v32 h32 =>
  ob ((gd v27 false (M.ofOpt (pick v30 v32 (.bool false)))) h32) fun v33 h33 =>
  ob ((M.ofOpt (pick v27 (.bool true) v33)) h33) fun v34 h34 =>
  iteV v34 (
  k .ret [x0, x1, x2, x3, (.bool false), x5, x6, x7, v17, v18, x10, x11, x12, x13, x14, x15, x16, x17, x18, x19, x20, x21, x22, x23, x24, x25, x26, x27, x7, x1, v12, v13, x32, x33, v16, x6, x1, x7, v14, v15, v16, v17, v18, v18, x7, x5, v19, v20, v20, v21, v22, v23, v24, v25, v26, v27, v27, v28, v29, v30, v31, v32, v33, v34, x64, x65, x66, x67, x68, x69, x70, x71, x72, x73, x74] h34) (
  ob ((M.ofOpt (bin Try.prog .add 3 x7 (.int .i64 1))) h34) fun v35 h35 =>
  k .normal [x0, x1, x2, x3, x4, x5, x6, v35, v17, v18, x10, x11, x12, x13, x14, x15, x16, x17, x18, x19, x20, x21, x22, x23, x24, x25, x26, x27, x7, x1, v12, v13, x7, v35, v16, x6, x1, x7, v14, v15, v16, v17, v18, v18, x7, x5, v19, v20, v20, v21, v22, v23, v24, v25, v26, v27, v27, v28, v29, v30, v31, v32, v33, v34, x64, x65, x66, x67, x68, x69, x70, x71, x72, x73, x74] h35)) (
  k (.exit 0) [x0, x1, x2, x3, x4, x5, x6, x7, x8, x9, x10, x11, x12, x13, x14, x15, x16, x17, x18, x19, x20, x21, x22, x23, x24, x25, x26, x27, x7, x1, v12, v13, x32, x33, x34, x35, x36, x37, x38, x39, x40, x41, x42, x43, x44, x45, x46, x47, x48, x49, x50, x51, x52, x53, x54, x55, x56, x57, x58, x59, x60, x61, x62, x63, x64, x65, x66, x67, x68, x69, x70, x71, x72, x73, x74] h13)
theorem f4_b0_eq (O : Oracle) (L : Loops (Value × Heap)) (k : Ex → K (Value × Heap)) (x0 x1 x2 x3 x4 x5 x6 x7 x8 x9 x10 x11 x12 x13 x14 x15 x16 x17 x18 x19 x20 x21 x22 x23 x24 x25 x26 x27 x28 x29 x30 x31 x32 x33 x34 x35 x36 x37 x38 x39 x40 x41 x42 x43 x44 x45 x46 x47 x48 x49 x50 x51 x52 x53 x54 x55 x56 x57 x58 x59 x60 x61 x62 x63 x64 x65 x66 x67 x68 x69 x70 x71 x72 x73 x74 : Value) (h : Heap) :
    runCode Try.prog O L f4_c0 k [x0, x1, x2, x3, x4, x5, x6, x7, x8, x9, x10, x11, x12, x13, x14, x15, x16, x17, x18, x19, x20, x21, x22, x23, x24, x25, x26, x27, x28, x29, x30, x31, x32, x33, x34, x35, x36, x37, x38, x39, x40, x41, x42, x43, x44, x45, x46, x47, x48, x49, x50, x51, x52, x53, x54, x55, x56, x57, x58, x59, x60, x61, x62, x63, x64, x65, x66, x67, x68, x69, x70, x71, x72, x73, x74] h = f4_b0 O L k x0 x1 x2 x3 x4 x5 x6 x7 x8 x9 x10 x11 x12 x13 x14 x15 x16 x17 x18 x19 x20 x21 x22 x23 x24 x25 x26 x27 x28 x29 x30 x31 x32 x33 x34 x35 x36 x37 x38 x39 x40 x41 x42 x43 x44 x45 x46 x47 x48 x49 x50 x51 x52 x53 x54 x55 x56 x57 x58 x59 x60 x61 x62 x63 x64 x65 x66 x67 x68 x69 x70 x71 x72 x73 x74 h := by kernel_rfl
noncomputable def f4 (O : Oracle) (L : Loops (Value × Heap)) (a0 a1 : Value) (h : Heap) : Option (Value × Heap) :=
  ob ((M.ofOpt (bin Try.prog .rem 5 a0 (.int .u8 200))) h) fun v0 h0 =>
  ob ((conv Try.prog 5 3 v0) h0) fun v1 h1 =>
  ob ((M.ofOpt (bin Try.prog .add 3 (.int .i64 1) v1)) h1) fun v2 h2 =>
  ob ((O (.func 15) [v2]) h2) fun v3 h3 =>
  ob ((M.ofOpt (bin Try.prog .eql 22 v3 (.pointer none))) h3) fun v4 h4 =>
  ob ((gd v4 false (M.ret a1)) h4) fun v5 h5 =>
  ob ((gd v4 false (M.ofOpt (lenSl v5))) h5) fun v6 h6 =>
  ob ((gd v4 false (M.ofOpt (bin Try.prog .gtr 3 v6 (.int .i64 300)))) h6) fun v7 h7 =>
  ob ((M.ofOpt (pick v4 (.bool true) v7)) h7) fun v8 h8 =>
  iteV v8 (
  ob ((M.ofOpt (bin Try.prog .neq 22 v3 (.pointer none))) h8) fun v9 h9 =>
  ob ((gd v9 true (O (.func 16) [])) h9) fun v10 h10 =>
  ob ((M.ofOpt (pick v9 v10 (.bool false))) h10) fun v11 h11 =>
  some (oneOf [v11], h11)) (
  L (runCode Try.prog O L f4_c0) (f4_k0 O L) [a0, a1, undef, undef, (.bool false), v2, v3, (.int .i64 0), undef, undef, a0, v0, v1, v2, v2, v3, v3, v4, v4, v5, v6, v7, v8, undef, undef, undef, undef, undef, undef, undef, undef, undef, undef, undef, undef, undef, undef, undef, undef, undef, undef, undef, undef, undef, undef, undef, undef, undef, undef, undef, undef, undef, undef, undef, undef, undef, undef, undef, undef, undef, undef, undef, undef, undef, undef, undef, undef, undef, undef, undef, undef, undef, undef, undef, undef] h8)
theorem f4_eq (O : Oracle) (L : Loops (Value × Heap)) (a0 a1 : Value) (h : Heap) :
    body Try.prog O L 4 [a0, a1] h = f4 O L a0 a1 h := by kernel_rfl

/-! 5: shunter/shunterlaw07.PoolOnce; slots: [(a, 0), (b, 1), (a, 2), (b, 3), (p, 5), (i, 6), (k, 7), (x, 8), (is, 9), (one, 10), (two, 11), (_, 12), (was, 13)] -/
noncomputable def f5_c0 : Code := sub [1, 1, 1, 0, 1, 0, 0] (fbody Try.prog 5)
noncomputable def f5_k0 (O : Oracle) (L : Loops (Value × Heap)) : Ex → K (Value × Heap) := (blockK 0 (seqK Try.prog O L (sub [1, 1, 1, 1] (fbody Try.prog 5)) (kRet Try.prog Try.f5)))
noncomputable def f5_e0_0 (O : Oracle) (L : Loops (Value × Heap)) (x0 x1 x2 x3 x4 x5 x6 x7 x8 x9 x10 x11 x12 x13 x14 x15 x16 x17 x18 x19 x20 x21 x22 x23 x24 x25 x26 x27 x28 x29 x30 x31 x32 x33 x34 x35 x36 x37 x38 x39 x40 x41 x42 x43 x44 x45 x46 x47 x48 x49 x50 x51 x52 x53 x54 x55 x56 x57 x58 x59 x60 x61 x62 x63 x64 x65 x66 x67 x68 x69 x70 x71 x72 x73 x74 x75 x76 x77 x78 x79 x80 x81 x82 x83 x84 x85 : Value) (h : Heap) : Option (Value × Heap) :=
  ob ((conv Try.prog 5 3 x1) h) fun v10 h10 =>
  ob ((M.ofOpt (bin Try.prog .rem 5 x0 (.int .u8 10))) h10) fun v11 h11 =>
  ob ((conv Try.prog 5 3 v11) h11) fun v12 h12 =>
  ob ((M.ofOpt (bin Try.prog .add 3 (.int .i64 1) v12)) h12) fun v13 h13 =>
  ob ((M.ofOpt (bin Try.prog .rem 3 v10 v13)) h13) fun v14 h14 =>
  ob ((O (.func 17) [x5, v14]) h14) fun v15 h15 =>
  ob ((M.ofOpt (ext 0 v15)) h15) fun v16 h16 =>
  ob ((M.ofOpt (ext 1 v15)) h16) fun v17 h17 =>
  ob ((newB 27 [(.int .i64 0), (.int .i64 0), (.int .i64 0), (.int .u32 0)] .fix) h17) fun v18 h18 =>
  ob ((stN 4 v18 v16) h18) fun v19 h19 =>
  ob ((O (.func 19) [x5, v14]) h19) fun v20 h20 =>
  ob ((O (.func 19) [x5, v14]) h20) fun v21 h21 =>
  ob ((O (.func 17) [x5, v14]) h21) fun v22 h22 =>
  ob ((M.ofOpt (ext 0 v22)) h22) fun v23 h23 =>
  ob ((M.ofOpt (ext 1 v22)) h23) fun v24 h24 =>
  ob ((newB 27 [(.int .i64 0), (.int .i64 0), (.int .i64 0), (.int .u32 0)] .fix) h24) fun v25 h25 =>
  ob ((stN 4 v25 v23) h25) fun v26 h26 =>
  ob ((O (.func 16) []) h26) fun v27 h27 =>
  ob ((gd v27 true (M.ret v17)) h27) fun v28 h28 =>
  ob ((M.ofOpt (pick v27 v28 (.bool false))) h28) fun v29 h29 =>
  ob ((gd v29 true (M.ofOpt (fAddr 3 v18))) h29) fun v30 h30 =>
  ob ((gd v29 true (ld1 v30)) h30) fun v31 h31 =>
  ob ((gd v29 true (M.ret v14)) h31) fun v32 h32 =>
  ob ((gd v29 true (conv Try.prog 3 25 v32)) h32) fun v33 h33 =>
  ob ((gd v29 true (M.ofOpt (bin Try.prog .eql 25 v31 v33))) h33) fun v34 h34 =>
  ob ((M.ofOpt (pick v29 v34 (.bool false))) h34) fun v35 h35 =>
  ob ((gd v35 true (M.ret v20)) h35) fun v36 h36 =>
  ob ((M.ofOpt (pick v35 v36 (.bool false))) h36) fun v37 h37 =>
  ob ((gd v37 true (M.ret v21)) h37) fun v38 h38 =>
  ob ((gd v37 true (M.ofOpt (un Try.prog .not v38))) h38) fun v39 h39 =>
  ob ((M.ofOpt (pick v37 v39 (.bool false))) h39) fun v40 h40 =>
  ob ((gd v40 true (M.ret v24)) h40) fun v41 h41 =>
  ob ((gd v40 true (M.ofOpt (un Try.prog .not v41))) h41) fun v42 h42 =>
  ob ((M.ofOpt (pick v40 v42 (.bool false))) h42) fun v43 h43 =>
  ob ((gd v43 true (M.ret x5)) h43) fun v44 h44 =>
  ob ((gd v43 true (O (.func 18) [v44])) h44) fun v45 h45 =>
  ob ((gd v43 true (M.ret x0)) h45) fun v46 h46 =>
  ob ((gd v43 true (M.ofOpt (bin Try.prog .rem 5 v46 (.int .u8 10)))) h46) fun v47 h47 =>
  ob ((gd v43 true (conv Try.prog 5 3 v47)) h47) fun v48 h48 =>
  ob ((gd v43 true (M.ofOpt (bin Try.prog .sub 3 (.int .i64 10) v48))) h48) fun v49 h49 =>
  ob ((gd v43 true (M.ofOpt (bin Try.prog .eql 3 v45 v49))) h49) fun v50 h50 =>
  ob ((M.ofOpt (pick v43 v50 (.bool false))) h50) fun v51 h51 =>
  some (oneOf [v51], h51)
theorem f5_e0_0_eq (O : Oracle) (L : Loops (Value × Heap)) (x0 x1 x2 x3 x4 x5 x6 x7 x8 x9 x10 x11 x12 x13 x14 x15 x16 x17 x18 x19 x20 x21 x22 x23 x24 x25 x26 x27 x28 x29 x30 x31 x32 x33 x34 x35 x36 x37 x38 x39 x40 x41 x42 x43 x44 x45 x46 x47 x48 x49 x50 x51 x52 x53 x54 x55 x56 x57 x58 x59 x60 x61 x62 x63 x64 x65 x66 x67 x68 x69 x70 x71 x72 x73 x74 x75 x76 x77 x78 x79 x80 x81 x82 x83 x84 x85 : Value) (h : Heap) :
    f5_k0 O L (.exit 0) [x0, x1, x2, x3, x4, x5, x6, x7, x8, x9, x10, x11, x12, x13, x14, x15, x16, x17, x18, x19, x20, x21, x22, x23, x24, x25, x26, x27, x28, x29, x30, x31, x32, x33, x34, x35, x36, x37, x38, x39, x40, x41, x42, x43, x44, x45, x46, x47, x48, x49, x50, x51, x52, x53, x54, x55, x56, x57, x58, x59, x60, x61, x62, x63, x64, x65, x66, x67, x68, x69, x70, x71, x72, x73, x74, x75, x76, x77, x78, x79, x80, x81, x82, x83, x84, x85] h = f5_e0_0 O L x0 x1 x2 x3 x4 x5 x6 x7 x8 x9 x10 x11 x12 x13 x14 x15 x16 x17 x18 x19 x20 x21 x22 x23 x24 x25 x26 x27 x28 x29 x30 x31 x32 x33 x34 x35 x36 x37 x38 x39 x40 x41 x42 x43 x44 x45 x46 x47 x48 x49 x50 x51 x52 x53 x54 x55 x56 x57 x58 x59 x60 x61 x62 x63 x64 x65 x66 x67 x68 x69 x70 x71 x72 x73 x74 x75 x76 x77 x78 x79 x80 x81 x82 x83 x84 x85 h := by kernel_rfl
noncomputable def f5_b0 (O : Oracle) (L : Loops (Value × Heap)) (k : Ex → K (Value × Heap)) (x0 x1 x2 x3 x4 x5 x6 x7 x8 x9 x10 x11 x12 x13 x14 x15 x16 x17 x18 x19 x20 x21 x22 x23 x24 x25 x26 x27 x28 x29 x30 x31 x32 x33 x34 x35 x36 x37 x38 x39 x40 x41 x42 x43 x44 x45 x46 x47 x48 x49 x50 x51 x52 x53 x54 x55 x56 x57 x58 x59 x60 x61 x62 x63 x64 x65 x66 x67 x68 x69 x70 x71 x72 x73 x74 x75 x76 x77 x78 x79 x80 x81 x82 x83 x84 x85 : Value) (h : Heap) : Option (Value × Heap) :=
  ob ((M.ofOpt (bin Try.prog .rem 5 x0 (.int .u8 10))) h) fun v2 h2 =>
  ob ((conv Try.prog 5 3 v2) h2) fun v3 h3 =>
  ob ((M.ofOpt (bin Try.prog .add 3 (.int .i64 1) v3)) h3) fun v4 h4 =>
  ob ((M.ofOpt (bin Try.prog .lss 3 x6 v4)) h4) fun v5 h5 =>
  iteV v5 (
  ob ((conv Try.prog 3 25 x6) h5) fun v6 h6 =>
  ob ((M.ofOpt (bld Try.prog 27 [(3, v6)])) h6) fun v7 h7 =>
  ob ((O (.func 20) [x5, v7]) h7) fun v8 h8 =>
  ob ((M.ofOpt (bin Try.prog .add 3 x6 (.int .i64 1))) h8) fun v9 h9 =>
  k .normal [x0, x1, x2, x3, x4, x5, v9, x7, x8, x9, x10, x11, x12, x13, x14, x15, x16, x6, x0, v2, v3, v4, v5, x6, v9, x5, x6, v6, v7, v8, x30, x31, x32, x33, x34, x35, x36, x37, x38, x39, x40, x41, x42, x43, x44, x45, x46, x47, x48, x49, x50, x51, x52, x53, x54, x55, x56, x57, x58, x59, x60, x61, x62, x63, x64, x65, x66, x67, x68, x69, x70, x71, x72, x73, x74, x75, x76, x77, x78, x79, x80, x81, x82, x83, x84, x85] h9) (
  k (.exit 0) [x0, x1, x2, x3, x4, x5, x6, x7, x8, x9, x10, x11, x12, x13, x14, x15, x16, x6, x0, v2, v3, v4, v5, x23, x24, x25, x26, x27, x28, x29, x30, x31, x32, x33, x34, x35, x36, x37, x38, x39, x40, x41, x42, x43, x44, x45, x46, x47, x48, x49, x50, x51, x52, x53, x54, x55, x56, x57, x58, x59, x60, x61, x62, x63, x64, x65, x66, x67, x68, x69, x70, x71, x72, x73, x74, x75, x76, x77, x78, x79, x80, x81, x82, x83, x84, x85] h5)
theorem f5_b0_eq (O : Oracle) (L : Loops (Value × Heap)) (k : Ex → K (Value × Heap)) (x0 x1 x2 x3 x4 x5 x6 x7 x8 x9 x10 x11 x12 x13 x14 x15 x16 x17 x18 x19 x20 x21 x22 x23 x24 x25 x26 x27 x28 x29 x30 x31 x32 x33 x34 x35 x36 x37 x38 x39 x40 x41 x42 x43 x44 x45 x46 x47 x48 x49 x50 x51 x52 x53 x54 x55 x56 x57 x58 x59 x60 x61 x62 x63 x64 x65 x66 x67 x68 x69 x70 x71 x72 x73 x74 x75 x76 x77 x78 x79 x80 x81 x82 x83 x84 x85 : Value) (h : Heap) :
    runCode Try.prog O L f5_c0 k [x0, x1, x2, x3, x4, x5, x6, x7, x8, x9, x10, x11, x12, x13, x14, x15, x16, x17, x18, x19, x20, x21, x22, x23, x24, x25, x26, x27, x28, x29, x30, x31, x32, x33, x34, x35, x36, x37, x38, x39, x40, x41, x42, x43, x44, x45, x46, x47, x48, x49, x50, x51, x52, x53, x54, x55, x56, x57, x58, x59, x60, x61, x62, x63, x64, x65, x66, x67, x68, x69, x70, x71, x72, x73, x74, x75, x76, x77, x78, x79, x80, x81, x82, x83, x84, x85] h = f5_b0 O L k x0 x1 x2 x3 x4 x5 x6 x7 x8 x9 x10 x11 x12 x13 x14 x15 x16 x17 x18 x19 x20 x21 x22 x23 x24 x25 x26 x27 x28 x29 x30 x31 x32 x33 x34 x35 x36 x37 x38 x39 x40 x41 x42 x43 x44 x45 x46 x47 x48 x49 x50 x51 x52 x53 x54 x55 x56 x57 x58 x59 x60 x61 x62 x63 x64 x65 x66 x67 x68 x69 x70 x71 x72 x73 x74 x75 x76 x77 x78 x79 x80 x81 x82 x83 x84 x85 h := by kernel_rfl
noncomputable def f5 (O : Oracle) (L : Loops (Value × Heap)) (a0 a1 : Value) (h : Heap) : Option (Value × Heap) :=
  ob ((O (.func 15) [(.int .i64 10)]) h) fun v0 h0 =>
  ob ((M.ofOpt (bin Try.prog .eql 22 v0 (.pointer none))) h0) fun v1 h1 =>
  iteV v1 (
  some (oneOf [(.bool false)], h1)) (
  L (runCode Try.prog O L f5_c0) (f5_k0 O L) [a0, a1, undef, undef, (.bool false), v0, (.int .i64 0), undef, undef, undef, undef, undef, undef, undef, v0, v0, v1, undef, undef, undef, undef, undef, undef, undef, undef, undef, undef, undef, undef, undef, undef, undef, undef, undef, undef, undef, undef, undef, undef, undef, undef, undef, undef, undef, undef, undef, undef, undef, undef, undef, undef, undef, undef, undef, undef, undef, undef, undef, undef, undef, undef, undef, undef, undef, undef, undef, undef, undef, undef, undef, undef, undef, undef, undef, undef, undef, undef, undef, undef, undef, undef, undef, undef, undef, undef, undef] h1)
theorem f5_eq (O : Oracle) (L : Loops (Value × Heap)) (a0 a1 : Value) (h : Heap) :
    body Try.prog O L 5 [a0, a1] h = f5 O L a0 a1 h := by kernel_rfl

/-! 6: shunter/shunterlaw07.PoolDoes; slots: [(slots, 0), (l, 1), (slots, 2), (l, 3), (p, 5), (r, 6), (i, 7), (ok, 8), (a, 9), (is, 10), (b, 11), (was, 12), (a, 13), (is, 14), (b, 15), (was, 16), (k, 17), (a, 18), (is, 19), (b, 20), (was, 21)] -/
noncomputable def f6_c1 : Code := sub [1, 1, 1, 1, 1, 1, 0, 1, 0, 0] (fbody Try.prog 6)
noncomputable def f6_k1 (O : Oracle) (L : Loops (Value × Heap)) : Ex → K (Value × Heap) := (blockK 3 (seqK Try.prog O L (sub [1, 1, 1, 1, 1, 1, 1] (fbody Try.prog 6)) (kRet Try.prog Try.f6)))
noncomputable def f6_e1_3 (O : Oracle) (L : Loops (Value × Heap)) (x0 x1 x2 x3 x4 x5 x6 x7 x8 x9 x10 x11 x12 x13 x14 x15 x16 x17 x18 x19 x20 x21 x22 x23 x24 x25 x26 x27 x28 x29 x30 x31 x32 x33 x34 x35 x36 x37 x38 x39 x40 x41 x42 x43 x44 x45 x46 x47 x48 x49 x50 x51 x52 x53 x54 x55 x56 x57 x58 x59 x60 x61 x62 x63 x64 x65 x66 x67 x68 x69 x70 x71 x72 x73 x74 x75 x76 x77 x78 x79 x80 x81 x82 x83 x84 x85 x86 x87 x88 x89 x90 x91 x92 x93 x94 x95 x96 x97 x98 x99 x100 x101 x102 x103 x104 x105 x106 x107 x108 x109 x110 x111 x112 x113 x114 x115 x116 x117 x118 x119 x120 x121 x122 x123 x124 x125 x126 x127 x128 x129 x130 x131 x132 x133 x134 x135 x136 x137 x138 x139 x140 x141 x142 x143 x144 x145 x146 x147 x148 x149 x150 x151 x152 x153 x154 x155 x156 x157 x158 x159 x160 x161 x162 x163 x164 x165 x166 : Value) (h : Heap) : Option (Value × Heap) :=
  some (oneOf [(.bool true)], h)
theorem f6_e1_3_eq (O : Oracle) (L : Loops (Value × Heap)) (x0 x1 x2 x3 x4 x5 x6 x7 x8 x9 x10 x11 x12 x13 x14 x15 x16 x17 x18 x19 x20 x21 x22 x23 x24 x25 x26 x27 x28 x29 x30 x31 x32 x33 x34 x35 x36 x37 x38 x39 x40 x41 x42 x43 x44 x45 x46 x47 x48 x49 x50 x51 x52 x53 x54 x55 x56 x57 x58 x59 x60 x61 x62 x63 x64 x65 x66 x67 x68 x69 x70 x71 x72 x73 x74 x75 x76 x77 x78 x79 x80 x81 x82 x83 x84 x85 x86 x87 x88 x89 x90 x91 x92 x93 x94 x95 x96 x97 x98 x99 x100 x101 x102 x103 x104 x105 x106 x107 x108 x109 x110 x111 x112 x113 x114 x115 x116 x117 x118 x119 x120 x121 x122 x123 x124 x125 x126 x127 x128 x129 x130 x131 x132 x133 x134 x135 x136 x137 x138 x139 x140 x141 x142 x143 x144 x145 x146 x147 x148 x149 x150 x151 x152 x153 x154 x155 x156 x157 x158 x159 x160 x161 x162 x163 x164 x165 x166 : Value) (h : Heap) :
    f6_k1 O L (.exit 3) [x0, x1, x2, x3, x4, x5, x6, x7, x8, x9, x10, x11, x12, x13, x14, x15, x16, x17, x18, x19, x20, x21, x22, x23, x24, x25, x26, x27, x28, x29, x30, x31, x32, x33, x34, x35, x36, x37, x38, x39, x40, x41, x42, x43, x44, x45, x46, x47, x48, x49, x50, x51, x52, x53, x54, x55, x56, x57, x58, x59, x60, x61, x62, x63, x64, x65, x66, x67, x68, x69, x70, x71, x72, x73, x74, x75, x76, x77, x78, x79, x80, x81, x82, x83, x84, x85, x86, x87, x88, x89, x90, x91, x92, x93, x94, x95, x96, x97, x98, x99, x100, x101, x102, x103, x104, x105, x106, x107, x108, x109, x110, x111, x112, x113, x114, x115, x116, x117, x118, x119, x120, x121, x122, x123, x124, x125, x126, x127, x128, x129, x130, x131, x132, x133, x134, x135, x136, x137, x138, x139, x140, x141, x142, x143, x144, x145, x146, x147, x148, x149, x150, x151, x152, x153, x154, x155, x156, x157, x158, x159, x160, x161, x162, x163, x164, x165, x166] h = f6_e1_3 O L x0 x1 x2 x3 x4 x5 x6 x7 x8 x9 x10 x11 x12 x13 x14 x15 x16 x17 x18 x19 x20 x21 x22 x23 x24 x25 x26 x27 x28 x29 x30 x31 x32 x33 x34 x35 x36 x37 x38 x39 x40 x41 x42 x43 x44 x45 x46 x47 x48 x49 x50 x51 x52 x53 x54 x55 x56 x57 x58 x59 x60 x61 x62 x63 x64 x65 x66 x67 x68 x69 x70 x71 x72 x73 x74 x75 x76 x77 x78 x79 x80 x81 x82 x83 x84 x85 x86 x87 x88 x89 x90 x91 x92 x93 x94 x95 x96 x97 x98 x99 x100 x101 x102 x103 x104 x105 x106 x107 x108 x109 x110 x111 x112 x113 x114 x115 x116 x117 x118 x119 x120 x121 x122 x123 x124 x125 x126 x127 x128 x129 x130 x131 x132 x133 x134 x135 x136 x137 x138 x139 x140 x141 x142 x143 x144 x145 x146 x147 x148 x149 x150 x151 x152 x153 x154 x155 x156 x157 x158 x159 x160 x161 x162 x163 x164 x165 x166 h := by kernel_rfl
noncomputable def f6_r1 (O : Oracle) (L : Loops (Value × Heap)) (x0 x1 x2 x3 x4 x5 x6 x7 x8 x9 x10 x11 x12 x13 x14 x15 x16 x17 x18 x19 x20 x21 x22 x23 x24 x25 x26 x27 x28 x29 x30 x31 x32 x33 x34 x35 x36 x37 x38 x39 x40 x41 x42 x43 x44 x45 x46 x47 x48 x49 x50 x51 x52 x53 x54 x55 x56 x57 x58 x59 x60 x61 x62 x63 x64 x65 x66 x67 x68 x69 x70 x71 x72 x73 x74 x75 x76 x77 x78 x79 x80 x81 x82 x83 x84 x85 x86 x87 x88 x89 x90 x91 x92 x93 x94 x95 x96 x97 x98 x99 x100 x101 x102 x103 x104 x105 x106 x107 x108 x109 x110 x111 x112 x113 x114 x115 x116 x117 x118 x119 x120 x121 x122 x123 x124 x125 x126 x127 x128 x129 x130 x131 x132 x133 x134 x135 x136 x137 x138 x139 x140 x141 x142 x143 x144 x145 x146 x147 x148 x149 x150 x151 x152 x153 x154 x155 x156 x157 x158 x159 x160 x161 x162 x163 x164 x165 x166 : Value) (h : Heap) : Option (Value × Heap) :=
  some (oneOf [x4], h)
theorem f6_r1_eq (O : Oracle) (L : Loops (Value × Heap)) (x0 x1 x2 x3 x4 x5 x6 x7 x8 x9 x10 x11 x12 x13 x14 x15 x16 x17 x18 x19 x20 x21 x22 x23 x24 x25 x26 x27 x28 x29 x30 x31 x32 x33 x34 x35 x36 x37 x38 x39 x40 x41 x42 x43 x44 x45 x46 x47 x48 x49 x50 x51 x52 x53 x54 x55 x56 x57 x58 x59 x60 x61 x62 x63 x64 x65 x66 x67 x68 x69 x70 x71 x72 x73 x74 x75 x76 x77 x78 x79 x80 x81 x82 x83 x84 x85 x86 x87 x88 x89 x90 x91 x92 x93 x94 x95 x96 x97 x98 x99 x100 x101 x102 x103 x104 x105 x106 x107 x108 x109 x110 x111 x112 x113 x114 x115 x116 x117 x118 x119 x120 x121 x122 x123 x124 x125 x126 x127 x128 x129 x130 x131 x132 x133 x134 x135 x136 x137 x138 x139 x140 x141 x142 x143 x144 x145 x146 x147 x148 x149 x150 x151 x152 x153 x154 x155 x156 x157 x158 x159 x160 x161 x162 x163 x164 x165 x166 : Value) (h : Heap) :
    f6_k1 O L .ret [x0, x1, x2, x3, x4, x5, x6, x7, x8, x9, x10, x11, x12, x13, x14, x15, x16, x17, x18, x19, x20, x21, x22, x23, x24, x25, x26, x27, x28, x29, x30, x31, x32, x33, x34, x35, x36, x37, x38, x39, x40, x41, x42, x43, x44, x45, x46, x47, x48, x49, x50, x51, x52, x53, x54, x55, x56, x57, x58, x59, x60, x61, x62, x63, x64, x65, x66, x67, x68, x69, x70, x71, x72, x73, x74, x75, x76, x77, x78, x79, x80, x81, x82, x83, x84, x85, x86, x87, x88, x89, x90, x91, x92, x93, x94, x95, x96, x97, x98, x99, x100, x101, x102, x103, x104, x105, x106, x107, x108, x109, x110, x111, x112, x113, x114, x115, x116, x117, x118, x119, x120, x121, x122, x123, x124, x125, x126, x127, x128, x129, x130, x131, x132, x133, x134, x135, x136, x137, x138, x139, x140, x141, x142, x143, x144, x145, x146, x147, x148, x149, x150, x151, x152, x153, x154, x155, x156, x157, x158, x159, x160, x161, x162, x163, x164, x165, x166] h = f6_r1 O L x0 x1 x2 x3 x4 x5 x6 x7 x8 x9 x10 x11 x12 x13 x14 x15 x16 x17 x18 x19 x20 x21 x22 x23 x24 x25 x26 x27 x28 x29 x30 x31 x32 x33 x34 x35 x36 x37 x38 x39 x40 x41 x42 x43 x44 x45 x46 x47 x48 x49 x50 x51 x52 x53 x54 x55 x56 x57 x58 x59 x60 x61 x62 x63 x64 x65 x66 x67 x68 x69 x70 x71 x72 x73 x74 x75 x76 x77 x78 x79 x80 x81 x82 x83 x84 x85 x86 x87 x88 x89 x90 x91 x92 x93 x94 x95 x96 x97 x98 x99 x100 x101 x102 x103 x104 x105 x106 x107 x108 x109 x110 x111 x112 x113 x114 x115 x116 x117 x118 x119 x120 x121 x122 x123 x124 x125 x126 x127 x128 x129 x130 x131 x132 x133 x134 x135 x136 x137 x138 x139 x140 x141 x142 x143 x144 x145 x146 x147 x148 x149 x150 x151 x152 x153 x154 x155 x156 x157 x158 x159 x160 x161 x162 x163 x164 x165 x166 h := by kernel_rfl
noncomputable def f6_b1 (O : Oracle) (L : Loops (Value × Heap)) (k : Ex → K (Value × Heap)) (x0 x1 x2 x3 x4 x5 x6 x7 x8 x9 x10 x11 x12 x13 x14 x15 x16 x17 x18 x19 x20 x21 x22 x23 x24 x25 x26 x27 x28 x29 x30 x31 x32 x33 x34 x35 x36 x37 x38 x39 x40 x41 x42 x43 x44 x45 x46 x47 x48 x49 x50 x51 x52 x53 x54 x55 x56 x57 x58 x59 x60 x61 x62 x63 x64 x65 x66 x67 x68 x69 x70 x71 x72 x73 x74 x75 x76 x77 x78 x79 x80 x81 x82 x83 x84 x85 x86 x87 x88 x89 x90 x91 x92 x93 x94 x95 x96 x97 x98 x99 x100 x101 x102 x103 x104 x105 x106 x107 x108 x109 x110 x111 x112 x113 x114 x115 x116 x117 x118 x119 x120 x121 x122 x123 x124 x125 x126 x127 x128 x129 x130 x131 x132 x133 x134 x135 x136 x137 x138 x139 x140 x141 x142 x143 x144 x145 x146 x147 x148 x149 x150 x151 x152 x153 x154 x155 x156 x157 x158 x159 x160 x161 x162 x163 x164 x165 x166 : Value) (h : Heap) : Option (Value × Heap) :=
  ob ((M.ofOpt (bin Try.prog .leq 3 x17 x0)) h) fun v97 h97 =>
  iteV v97 (
  ob ((O (.func 17) [x5, x17]) h97) fun v98 h98 =>
  ob ((M.ofOpt (ext 0 v98)) h98) fun v99 h99 =>
  ob ((M.ofOpt (ext 1 v98)) h99) fun v100 h100 =>
  ob ((newB 27 [(.int .i64 0), (.int .i64 0), (.int .i64 0), (.int .u32 0)] .fix) h100) fun v101 h101 =>
  ob ((stN 4 v101 v99) h101) fun v102 h102 =>
  ob ((O (.func 23) [x6, x17]) h102) fun v103 h103 =>
  ob ((M.ofOpt (ext 0 v103)) h103) fun v104 h104 =>
  ob ((M.ofOpt (ext 1 v103)) h104) fun v105 h105 =>
  ob ((newB 27 [(.int .i64 0), (.int .i64 0), (.int .i64 0), (.int .u32 0)] .fix) h105) fun v106 h106 =>
  ob ((stN 4 v106 v104) h106) fun v107 h107 =>
  ob ((ldN 4 v101) h107) fun v108 h108 =>
  ob ((ldN 4 v106) h108) fun v109 h109 =>
  ob ((M.ofOpt (bin Try.prog .neq 27 v108 v109)) h109) fun v110 h110 =>
  ob ((gd v110 false (M.ret v100)) h110) fun v111 h111 =>
  ob ((gd v110 false (M.ret v105)) h111) fun v112 h112 =>
  ob ((gd v110 false (M.ofOpt (bin Try.prog .neq 4 v111 v112))) h112) fun v113 h113 =>
  ob ((M.ofOpt (pick v110 (.bool true) v113)) h113) fun v114 h114 =>
  iteV v114 (
  k .ret [x0, x1, x2, x3, (.bool false), x5, x6, x7, x8, x9, x10, x11, x12, x13, x14, x15, x16, x17, v101, v100, v106, v105, x22, x23, x24, x25, x26, x27, x28, x29, x30, x31, x32, x33, x34, x35, x36, x37, x38, x39, x40, x41, x42, x43, x44, x45, x46, x47, x48, x49, x50, x51, x52, x53, x54, x55, x56, x57, x58, x59, x60, x61, x62, x63, x64, x65, x66, x67, x68, x69, x70, x71, x72, x73, x74, x75, x76, x77, x78, x79, x80, x81, x82, x83, x84, x85, x86, x87, x88, x89, x90, x91, x92, x93, x94, x95, x96, x97, x98, x99, x100, x101, x102, x103, x104, x105, x106, x107, x108, x109, x110, x111, x112, x113, x114, x115, x116, x117, x118, x119, x120, x121, x122, x123, x124, x125, x126, x127, x128, x129, x130, x131, x132, x133, x134, x135, x136, x137, x138, x139, x140, x141, x17, x0, v97, x145, x146, v98, x5, x17, v98, v99, v100, v103, x6, x17, v103, v104, v105, v108, v109, v110, v110, v111, v112, v113, v114] h114) (
  ob ((M.ofOpt (bin Try.prog .add 3 x17 (.int .i64 1))) h114) fun v115 h115 =>
  k .normal [x0, x1, x2, x3, x4, x5, x6, x7, x8, x9, x10, x11, x12, x13, x14, x15, x16, v115, v101, v100, v106, v105, x22, x23, x24, x25, x26, x27, x28, x29, x30, x31, x32, x33, x34, x35, x36, x37, x38, x39, x40, x41, x42, x43, x44, x45, x46, x47, x48, x49, x50, x51, x52, x53, x54, x55, x56, x57, x58, x59, x60, x61, x62, x63, x64, x65, x66, x67, x68, x69, x70, x71, x72, x73, x74, x75, x76, x77, x78, x79, x80, x81, x82, x83, x84, x85, x86, x87, x88, x89, x90, x91, x92, x93, x94, x95, x96, x97, x98, x99, x100, x101, x102, x103, x104, x105, x106, x107, x108, x109, x110, x111, x112, x113, x114, x115, x116, x117, x118, x119, x120, x121, x122, x123, x124, x125, x126, x127, x128, x129, x130, x131, x132, x133, x134, x135, x136, x137, x138, x139, x140, x141, x17, x0, v97, x17, v115, v98, x5, x17, v98, v99, v100, v103, x6, x17, v103, v104, v105, v108, v109, v110, v110, v111, v112, v113, v114] h115)) (
  k (.exit 3) [x0, x1, x2, x3, x4, x5, x6, x7, x8, x9, x10, x11, x12, x13, x14, x15, x16, x17, x18, x19, x20, x21, x22, x23, x24, x25, x26, x27, x28, x29, x30, x31, x32, x33, x34, x35, x36, x37, x38, x39, x40, x41, x42, x43, x44, x45, x46, x47, x48, x49, x50, x51, x52, x53, x54, x55, x56, x57, x58, x59, x60, x61, x62, x63, x64, x65, x66, x67, x68, x69, x70, x71, x72, x73, x74, x75, x76, x77, x78, x79, x80, x81, x82, x83, x84, x85, x86, x87, x88, x89, x90, x91, x92, x93, x94, x95, x96, x97, x98, x99, x100, x101, x102, x103, x104, x105, x106, x107, x108, x109, x110, x111, x112, x113, x114, x115, x116, x117, x118, x119, x120, x121, x122, x123, x124, x125, x126, x127, x128, x129, x130, x131, x132, x133, x134, x135, x136, x137, x138, x139, x140, x141, x17, x0, v97, x145, x146, x147, x148, x149, x150, x151, x152, x153, x154, x155, x156, x157, x158, x159, x160, x161, x162, x163, x164, x165, x166] h97)
theorem f6_b1_eq (O : Oracle) (L : Loops (Value × Heap)) (k : Ex → K (Value × Heap)) (x0 x1 x2 x3 x4 x5 x6 x7 x8 x9 x10 x11 x12 x13 x14 x15 x16 x17 x18 x19 x20 x21 x22 x23 x24 x25 x26 x27 x28 x29 x30 x31 x32 x33 x34 x35 x36 x37 x38 x39 x40 x41 x42 x43 x44 x45 x46 x47 x48 x49 x50 x51 x52 x53 x54 x55 x56 x57 x58 x59 x60 x61 x62 x63 x64 x65 x66 x67 x68 x69 x70 x71 x72 x73 x74 x75 x76 x77 x78 x79 x80 x81 x82 x83 x84 x85 x86 x87 x88 x89 x90 x91 x92 x93 x94 x95 x96 x97 x98 x99 x100 x101 x102 x103 x104 x105 x106 x107 x108 x109 x110 x111 x112 x113 x114 x115 x116 x117 x118 x119 x120 x121 x122 x123 x124 x125 x126 x127 x128 x129 x130 x131 x132 x133 x134 x135 x136 x137 x138 x139 x140 x141 x142 x143 x144 x145 x146 x147 x148 x149 x150 x151 x152 x153 x154 x155 x156 x157 x158 x159 x160 x161 x162 x163 x164 x165 x166 : Value) (h : Heap) :
    runCode Try.prog O L f6_c1 k [x0, x1, x2, x3, x4, x5, x6, x7, x8, x9, x10, x11, x12, x13, x14, x15, x16, x17, x18, x19, x20, x21, x22, x23, x24, x25, x26, x27, x28, x29, x30, x31, x32, x33, x34, x35, x36, x37, x38, x39, x40, x41, x42, x43, x44, x45, x46, x47, x48, x49, x50, x51, x52, x53, x54, x55, x56, x57, x58, x59, x60, x61, x62, x63, x64, x65, x66, x67, x68, x69, x70, x71, x72, x73, x74, x75, x76, x77, x78, x79, x80, x81, x82, x83, x84, x85, x86, x87, x88, x89, x90, x91, x92, x93, x94, x95, x96, x97, x98, x99, x100, x101, x102, x103, x104, x105, x106, x107, x108, x109, x110, x111, x112, x113, x114, x115, x116, x117, x118, x119, x120, x121, x122, x123, x124, x125, x126, x127, x128, x129, x130, x131, x132, x133, x134, x135, x136, x137, x138, x139, x140, x141, x142, x143, x144, x145, x146, x147, x148, x149, x150, x151, x152, x153, x154, x155, x156, x157, x158, x159, x160, x161, x162, x163, x164, x165, x166] h = f6_b1 O L k x0 x1 x2 x3 x4 x5 x6 x7 x8 x9 x10 x11 x12 x13 x14 x15 x16 x17 x18 x19 x20 x21 x22 x23 x24 x25 x26 x27 x28 x29 x30 x31 x32 x33 x34 x35 x36 x37 x38 x39 x40 x41 x42 x43 x44 x45 x46 x47 x48 x49 x50 x51 x52 x53 x54 x55 x56 x57 x58 x59 x60 x61 x62 x63 x64 x65 x66 x67 x68 x69 x70 x71 x72 x73 x74 x75 x76 x77 x78 x79 x80 x81 x82 x83 x84 x85 x86 x87 x88 x89 x90 x91 x92 x93 x94 x95 x96 x97 x98 x99 x100 x101 x102 x103 x104 x105 x106 x107 x108 x109 x110 x111 x112 x113 x114 x115 x116 x117 x118 x119 x120 x121 x122 x123 x124 x125 x126 x127 x128 x129 x130 x131 x132 x133 x134 x135 x136 x137 x138 x139 x140 x141 x142 x143 x144 x145 x146 x147 x148 x149 x150 x151 x152 x153 x154 x155 x156 x157 x158 x159 x160 x161 x162 x163 x164 x165 x166 h := by kernel_rfl
noncomputable def f6_c0 : Code := sub [1, 1, 1, 1, 1, 0, 1, 0, 0] (fbody Try.prog 6)
noncomputable def f6_k0 (O : Oracle) (L : Loops (Value × Heap)) : Ex → K (Value × Heap) := (blockK 0 (seqK Try.prog O L (sub [1, 1, 1, 1, 1, 1] (fbody Try.prog 6)) (kRet Try.prog Try.f6)))
noncomputable def f6_e0_0 (O : Oracle) (L : Loops (Value × Heap)) (x0 x1 x2 x3 x4 x5 x6 x7 x8 x9 x10 x11 x12 x13 x14 x15 x16 x17 x18 x19 x20 x21 x22 x23 x24 x25 x26 x27 x28 x29 x30 x31 x32 x33 x34 x35 x36 x37 x38 x39 x40 x41 x42 x43 x44 x45 x46 x47 x48 x49 x50 x51 x52 x53 x54 x55 x56 x57 x58 x59 x60 x61 x62 x63 x64 x65 x66 x67 x68 x69 x70 x71 x72 x73 x74 x75 x76 x77 x78 x79 x80 x81 x82 x83 x84 x85 x86 x87 x88 x89 x90 x91 x92 x93 x94 x95 x96 x97 x98 x99 x100 x101 x102 x103 x104 x105 x106 x107 x108 x109 x110 x111 x112 x113 x114 x115 x116 x117 x118 x119 x120 x121 x122 x123 x124 x125 x126 x127 x128 x129 x130 x131 x132 x133 x134 x135 x136 x137 x138 x139 x140 x141 x142 x143 x144 x145 x146 x147 x148 x149 x150 x151 x152 x153 x154 x155 x156 x157 x158 x159 x160 x161 x162 x163 x164 x165 x166 : Value) (h : Heap) : Option (Value × Heap) :=
  L (runCode Try.prog O L f6_c1) (f6_k1 O L) [x0, x1, x2, x3, x4, x5, x6, x7, x8, x9, x10, x11, x12, x13, x14, x15, x16, (.int .i64 (-1)), x18, x19, x20, x21, x22, x23, x24, x25, x26, x27, x28, x29, x30, x31, x32, x33, x34, x35, x36, x37, x38, x39, x40, x41, x42, x43, x44, x45, x46, x47, x48, x49, x50, x51, x52, x53, x54, x55, x56, x57, x58, x59, x60, x61, x62, x63, x64, x65, x66, x67, x68, x69, x70, x71, x72, x73, x74, x75, x76, x77, x78, x79, x80, x81, x82, x83, x84, x85, x86, x87, x88, x89, x90, x91, x92, x93, x94, x95, x96, x97, x98, x99, x100, x101, x102, x103, x104, x105, x106, x107, x108, x109, x110, x111, x112, x113, x114, x115, x116, x117, x118, x119, x120, x121, x122, x123, x124, x125, x126, x127, x128, x129, x130, x131, x132, x133, x134, x135, x136, x137, x138, x139, x140, x141, x142, x143, x144, x145, x146, x147, x148, x149, x150, x151, x152, x153, x154, x155, x156, x157, x158, x159, x160, x161, x162, x163, x164, x165, x166] h
theorem f6_e0_0_eq (O : Oracle) (L : Loops (Value × Heap)) (x0 x1 x2 x3 x4 x5 x6 x7 x8 x9 x10 x11 x12 x13 x14 x15 x16 x17 x18 x19 x20 x21 x22 x23 x24 x25 x26 x27 x28 x29 x30 x31 x32 x33 x34 x35 x36 x37 x38 x39 x40 x41 x42 x43 x44 x45 x46 x47 x48 x49 x50 x51 x52 x53 x54 x55 x56 x57 x58 x59 x60 x61 x62 x63 x64 x65 x66 x67 x68 x69 x70 x71 x72 x73 x74 x75 x76 x77 x78 x79 x80 x81 x82 x83 x84 x85 x86 x87 x88 x89 x90 x91 x92 x93 x94 x95 x96 x97 x98 x99 x100 x101 x102 x103 x104 x105 x106 x107 x108 x109 x110 x111 x112 x113 x114 x115 x116 x117 x118 x119 x120 x121 x122 x123 x124 x125 x126 x127 x128 x129 x130 x131 x132 x133 x134 x135 x136 x137 x138 x139 x140 x141 x142 x143 x144 x145 x146 x147 x148 x149 x150 x151 x152 x153 x154 x155 x156 x157 x158 x159 x160 x161 x162 x163 x164 x165 x166 : Value) (h : Heap) :
    f6_k0 O L (.exit 0) [x0, x1, x2, x3, x4, x5, x6, x7, x8, x9, x10, x11, x12, x13, x14, x15, x16, x17, x18, x19, x20, x21, x22, x23, x24, x25, x26, x27, x28, x29, x30, x31, x32, x33, x34, x35, x36, x37, x38, x39, x40, x41, x42, x43, x44, x45, x46, x47, x48, x49, x50, x51, x52, x53, x54, x55, x56, x57, x58, x59, x60, x61, x62, x63, x64, x65, x66, x67, x68, x69, x70, x71, x72, x73, x74, x75, x76, x77, x78, x79, x80, x81, x82, x83, x84, x85, x86, x87, x88, x89, x90, x91, x92, x93, x94, x95, x96, x97, x98, x99, x100, x101, x102, x103, x104, x105, x106, x107, x108, x109, x110, x111, x112, x113, x114, x115, x116, x117, x118, x119, x120, x121, x122, x123, x124, x125, x126, x127, x128, x129, x130, x131, x132, x133, x134, x135, x136, x137, x138, x139, x140, x141, x142, x143, x144, x145, x146, x147, x148, x149, x150, x151, x152, x153, x154, x155, x156, x157, x158, x159, x160, x161, x162, x163, x164, x165, x166] h = f6_e0_0 O L x0 x1 x2 x3 x4 x5 x6 x7 x8 x9 x10 x11 x12 x13 x14 x15 x16 x17 x18 x19 x20 x21 x22 x23 x24 x25 x26 x27 x28 x29 x30 x31 x32 x33 x34 x35 x36 x37 x38 x39 x40 x41 x42 x43 x44 x45 x46 x47 x48 x49 x50 x51 x52 x53 x54 x55 x56 x57 x58 x59 x60 x61 x62 x63 x64 x65 x66 x67 x68 x69 x70 x71 x72 x73 x74 x75 x76 x77 x78 x79 x80 x81 x82 x83 x84 x85 x86 x87 x88 x89 x90 x91 x92 x93 x94 x95 x96 x97 x98 x99 x100 x101 x102 x103 x104 x105 x106 x107 x108 x109 x110 x111 x112 x113 x114 x115 x116 x117 x118 x119 x120 x121 x122 x123 x124 x125 x126 x127 x128 x129 x130 x131 x132 x133 x134 x135 x136 x137 x138 x139 x140 x141 x142 x143 x144 x145 x146 x147 x148 x149 x150 x151 x152 x153 x154 x155 x156 x157 x158 x159 x160 x161 x162 x163 x164 x165 x166 h := by kernel_rfl
noncomputable def f6_r0 (O : Oracle) (L : Loops (Value × Heap)) (x0 x1 x2 x3 x4 x5 x6 x7 x8 x9 x10 x11 x12 x13 x14 x15 x16 x17 x18 x19 x20 x21 x22 x23 x24 x25 x26 x27 x28 x29 x30 x31 x32 x33 x34 x35 x36 x37 x38 x39 x40 x41 x42 x43 x44 x45 x46 x47 x48 x49 x50 x51 x52 x53 x54 x55 x56 x57 x58 x59 x60 x61 x62 x63 x64 x65 x66 x67 x68 x69 x70 x71 x72 x73 x74 x75 x76 x77 x78 x79 x80 x81 x82 x83 x84 x85 x86 x87 x88 x89 x90 x91 x92 x93 x94 x95 x96 x97 x98 x99 x100 x101 x102 x103 x104 x105 x106 x107 x108 x109 x110 x111 x112 x113 x114 x115 x116 x117 x118 x119 x120 x121 x122 x123 x124 x125 x126 x127 x128 x129 x130 x131 x132 x133 x134 x135 x136 x137 x138 x139 x140 x141 x142 x143 x144 x145 x146 x147 x148 x149 x150 x151 x152 x153 x154 x155 x156 x157 x158 x159 x160 x161 x162 x163 x164 x165 x166 : Value) (h : Heap) : Option (Value × Heap) :=
  some (oneOf [x4], h)
theorem f6_r0_eq (O : Oracle) (L : Loops (Value × Heap)) (x0 x1 x2 x3 x4 x5 x6 x7 x8 x9 x10 x11 x12 x13 x14 x15 x16 x17 x18 x19 x20 x21 x22 x23 x24 x25 x26 x27 x28 x29 x30 x31 x32 x33 x34 x35 x36 x37 x38 x39 x40 x41 x42 x43 x44 x45 x46 x47 x48 x49 x50 x51 x52 x53 x54 x55 x56 x57 x58 x59 x60 x61 x62 x63 x64 x65 x66 x67 x68 x69 x70 x71 x72 x73 x74 x75 x76 x77 x78 x79 x80 x81 x82 x83 x84 x85 x86 x87 x88 x89 x90 x91 x92 x93 x94 x95 x96 x97 x98 x99 x100 x101 x102 x103 x104 x105 x106 x107 x108 x109 x110 x111 x112 x113 x114 x115 x116 x117 x118 x119 x120 x121 x122 x123 x124 x125 x126 x127 x128 x129 x130 x131 x132 x133 x134 x135 x136 x137 x138 x139 x140 x141 x142 x143 x144 x145 x146 x147 x148 x149 x150 x151 x152 x153 x154 x155 x156 x157 x158 x159 x160 x161 x162 x163 x164 x165 x166 : Value) (h : Heap) :
    f6_k0 O L .ret [x0, x1, x2, x3, x4, x5, x6, x7, x8, x9, x10, x11, x12, x13, x14, x15, x16, x17, x18, x19, x20, x21, x22, x23, x24, x25, x26, x27, x28, x29, x30, x31, x32, x33, x34, x35, x36, x37, x38, x39, x40, x41, x42, x43, x44, x45, x46, x47, x48, x49, x50, x51, x52, x53, x54, x55, x56, x57, x58, x59, x60, x61, x62, x63, x64, x65, x66, x67, x68, x69, x70, x71, x72, x73, x74, x75, x76, x77, x78, x79, x80, x81, x82, x83, x84, x85, x86, x87, x88, x89, x90, x91, x92, x93, x94, x95, x96, x97, x98, x99, x100, x101, x102, x103, x104, x105, x106, x107, x108, x109, x110, x111, x112, x113, x114, x115, x116, x117, x118, x119, x120, x121, x122, x123, x124, x125, x126, x127, x128, x129, x130, x131, x132, x133, x134, x135, x136, x137, x138, x139, x140, x141, x142, x143, x144, x145, x146, x147, x148, x149, x150, x151, x152, x153, x154, x155, x156, x157, x158, x159, x160, x161, x162, x163, x164, x165, x166] h = f6_r0 O L x0 x1 x2 x3 x4 x5 x6 x7 x8 x9 x10 x11 x12 x13 x14 x15 x16 x17 x18 x19 x20 x21 x22 x23 x24 x25 x26 x27 x28 x29 x30 x31 x32 x33 x34 x35 x36 x37 x38 x39 x40 x41 x42 x43 x44 x45 x46 x47 x48 x49 x50 x51 x52 x53 x54 x55 x56 x57 x58 x59 x60 x61 x62 x63 x64 x65 x66 x67 x68 x69 x70 x71 x72 x73 x74 x75 x76 x77 x78 x79 x80 x81 x82 x83 x84 x85 x86 x87 x88 x89 x90 x91 x92 x93 x94 x95 x96 x97 x98 x99 x100 x101 x102 x103 x104 x105 x106 x107 x108 x109 x110 x111 x112 x113 x114 x115 x116 x117 x118 x119 x120 x121 x122 x123 x124 x125 x126 x127 x128 x129 x130 x131 x132 x133 x134 x135 x136 x137 x138 x139 x140 x141 x142 x143 x144 x145 x146 x147 x148 x149 x150 x151 x152 x153 x154 x155 x156 x157 x158 x159 x160 x161 x162 x163 x164 x165 x166 h := by kernel_rfl
noncomputable def f6_b0 (O : Oracle) (L : Loops (Value × Heap)) (k : Ex → K (Value × Heap)) (x0 x1 x2 x3 x4 x5 x6 x7 x8 x9 x10 x11 x12 x13 x14 x15 x16 x17 x18 x19 x20 x21 x22 x23 x24 x25 x26 x27 x28 x29 x30 x31 x32 x33 x34 x35 x36 x37 x38 x39 x40 x41 x42 x43 x44 x45 x46 x47 x48 x49 x50 x51 x52 x53 x54 x55 x56 x57 x58 x59 x60 x61 x62 x63 x64 x65 x66 x67 x68 x69 x70 x71 x72 x73 x74 x75 x76 x77 x78 x79 x80 x81 x82 x83 x84 x85 x86 x87 x88 x89 x90 x91 x92 x93 x94 x95 x96 x97 x98 x99 x100 x101 x102 x103 x104 x105 x106 x107 x108 x109 x110 x111 x112 x113 x114 x115 x116 x117 x118 x119 x120 x121 x122 x123 x124 x125 x126 x127 x128 x129 x130 x131 x132 x133 x134 x135 x136 x137 x138 x139 x140 x141 x142 x143 x144 x145 x146 x147 x148 x149 x150 x151 x152 x153 x154 x155 x156 x157 x158 x159 x160 x161 x162 x163 x164 x165 x166 : Value) (h : Heap) : Option (Value × Heap) :=
  ob ((M.ofOpt (lenSl x1)) h) fun v16 h16 =>
  ob ((M.ofOpt (bin Try.prog .lss 3 x7 v16)) h16) fun v17 h17 =>
  iteV v17 (
  ob ((M.ofOpt (iAddr 6 x1 x7)) h17) fun v18 h18 =>
  ob ((M.ofOpt (fAddr 0 v18)) h18) fun v19 h19 =>
  ob ((ld1 v19) h19) fun v20 h20 =>
  ob ((M.ofOpt (bin Try.prog .rem 5 v20 (.int .u8 4))) h20) fun v21 h21 =>
  ob ((M.ofOpt (bin Try.prog .eql 5 v21 (.int .u8 2))) h21) fun v22 h22 =>
  iteV v22 (
  ob ((M.ofOpt (iAddr 6 x1 x7)) h22) fun v23 h23 =>
  ob ((M.ofOpt (fAddr 5 v23)) h23) fun v24 h24 =>
  ob ((ld1 v24) h24) fun v25 h25 =>
  ifB (true) (
  ob ((O (.func 19) [x5, v25]) h25) fun v26 h26 =>
  ifB (true) (
  ob ((M.ofOpt (iAddr 6 x1 x7)) h26) fun v27 h27 =>
  ob ((M.ofOpt (fAddr 5 v27)) h27) fun v28 h28 =>
  ob ((ld1 v28) h28) fun v29 h29 =>
  ifB (chk ((ld1 v28) h25) v29 && (true)) (
  ob ((O (.func 22) [x6, v29]) h29) fun v30 h30 =>
  ifB (true) (
  ob ((M.ofOpt (bin Try.prog .eql 4 v26 v30)) h30) fun v31 h31 =>
  ob ((M.ofOpt (un Try.prog .not v31)) h31) fun v32 h32 =>
  ob ((gd v32 false (M.ret x5)) h32) fun v33 h33 =>
  ob ((gd v32 false (O (.func 18) [v33])) h33) fun v34 h34 =>
  ob ((gd v32 false (M.ret x6)) h34) fun v35 h35 =>
  ob ((gd v32 false (O (.func 25) [v35])) h35) fun v36 h36 =>
  ob ((gd v32 false (M.ofOpt (bin Try.prog .neq 3 v34 v36))) h36) fun v37 h37 =>
  ob ((M.ofOpt (pick v32 (.bool true) v37)) h37) fun v38 h38 =>
  iteV v38 (
  k .ret [x0, x1, x2, x3, (.bool false), x5, x6, x7, v31, x9, x10, x11, x12, x13, x14, x15, x16, x17, x18, x19, x20, x21, x22, x23, x24, x25, x26, x27, x28, x29, x30, x31, x32, x33, x34, x35, x36, x37, x38, x39, x40, x41, x42, x43, x44, x45, x7, x1, v16, v17, x50, x51, x1, x7, v18, v19, v20, v21, x58, x59, x60, x61, x62, x63, x64, x65, x66, x67, x68, x69, x70, x71, x72, x73, x74, x75, x76, x77, x78, x79, x80, x81, x82, x83, x84, x85, v22, v22, x5, x1, x7, v23, v24, v25, v26, x6, x1, x7, v27, v28, v29, v30, v31, x103, x104, x105, x106, x107, x108, x109, x110, x111, x112, x113, x114, x115, x116, x117, x118, x119, x120, x121, x122, x123, x124, x125, x126, x127, x128, x129, x130, x131, x132, v31, v32, v32, v33, v34, v35, v36, v37, v38, x142, x143, x144, x145, x146, x147, x148, x149, x150, x151, x152, x153, x154, x155, x156, x157, x158, x159, x160, x161, x162, x163, x164, x165, x166] h38) (
  ob ((M.ofOpt (bin Try.prog .add 3 x7 (.int .i64 1))) h38) fun v39 h39 =>
  k .normal [x0, x1, x2, x3, x4, x5, x6, v39, v31, x9, x10, x11, x12, x13, x14, x15, x16, x17, x18, x19, x20, x21, x22, x23, x24, x25, x26, x27, x28, x29, x30, x31, x32, x33, x34, x35, x36, x37, x38, x39, x40, x41, x42, x43, x44, x45, x7, x1, v16, v17, x7, v39, x1, x7, v18, v19, v20, v21, x58, x59, x60, x61, x62, x63, x64, x65, x66, x67, x68, x69, x70, x71, x72, x73, x74, x75, x76, x77, x78, x79, x80, x81, x82, x83, x84, x85, v22, v22, x5, x1, x7, v23, v24, v25, v26, x6, x1, x7, v27, v28, v29, v30, v31, x103, x104, x105, x106, x107, x108, x109, x110, x111, x112, x113, x114, x115, x116, x117, x118, x119, x120, x121, x122, x123, x124, x125, x126, x127, x128, x129, x130, x131, x132, v31, v32, v32, v33, v34, v35, v36, v37, v38, x142, x143, x144, x145, x146, x147, x148, x149, x150, x151, x152, x153, x154, x155, x156, x157, x158, x159, x160, x161, x162, x163, x164, x165, x166] h39)))))) (
  ob ((M.ofOpt (bin Try.prog .eql 5 v21 (.int .u8 3))) h22) fun v40 h40 =>
  iteV v40 (
  ob ((M.ofOpt (iAddr 6 x1 x7)) h40) fun v41 h41 =>
  ob ((M.ofOpt (fAddr 5 v41)) h41) fun v42 h42 =>
  ob ((ld1 v42) h42) fun v43 h43 =>
  ob ((O (.func 17) [x5, v43]) h43) fun v44 h44 =>
  ob ((M.ofOpt (ext 0 v44)) h44) fun v45 h45 =>
  ob ((M.ofOpt (ext 1 v44)) h45) fun v46 h46 =>
  ob ((newB 27 [(.int .i64 0), (.int .i64 0), (.int .i64 0), (.int .u32 0)] .fix) h46) fun v47 h47 =>
  ob ((stN 4 v47 v45) h47) fun v48 h48 =>
  ob ((M.ofOpt (iAddr 6 x1 x7)) h48) fun v49 h49 =>
  ob ((M.ofOpt (fAddr 5 v49)) h49) fun v50 h50 =>
  ob ((ld1 v50) h50) fun v51 h51 =>
  ob ((O (.func 23) [x6, v51]) h51) fun v52 h52 =>
  ob ((M.ofOpt (ext 0 v52)) h52) fun v53 h53 =>
  ob ((M.ofOpt (ext 1 v52)) h53) fun v54 h54 =>
  ob ((newB 27 [(.int .i64 0), (.int .i64 0), (.int .i64 0), (.int .u32 0)] .fix) h54) fun v55 h55 =>
  ob ((stN 4 v55 v53) h55) fun v56 h56 =>
  ob ((ldN 4 v47) h56) fun v57 h57 =>
  ob ((ldN 4 v55) h57) fun v58 h58 =>
  ob ((M.ofOpt (bin Try.prog .eql 27 v57 v58)) h58) fun v59 h59 =>
  ob ((gd v59 true (M.ret v46)) h59) fun v60 h60 =>
  ob ((gd v59 true (M.ret v54)) h60) fun v61 h61 =>
  ob ((gd v59 true (M.ofOpt (bin Try.prog .eql 4 v60 v61))) h61) fun v62 h62 =>
  ob ((M.ofOpt (pick v59 v62 (.bool false))) h62) fun v63 h63 =>
  ob ((M.ofOpt (un Try.prog .not v63)) h63) fun v64 h64 =>
  ob ((gd v64 false (M.ret x5)) h64) fun v65 h65 =>
  ob ((gd v64 false (O (.func 18) [v65])) h65) fun v66 h66 =>
  ob ((gd v64 false (M.ret x6)) h66) fun v67 h67 =>
  ob ((gd v64 false (O (.func 25) [v67])) h67) fun v68 h68 =>
  ob ((gd v64 false (M.ofOpt (bin Try.prog .neq 3 v66 v68))) h68) fun v69 h69 =>
  ob ((M.ofOpt (pick v64 (.bool true) v69)) h69) fun v70 h70 =>
  iteV v70 (
  k .ret [x0, x1, x2, x3, (.bool false), x5, x6, x7, v63, v47, v46, v55, v54, x13, x14, x15, x16, x17, x18, x19, x20, x21, x22, x23, x24, x25, x26, x27, x28, x29, x30, x31, x32, x33, x34, x35, x36, x37, x38, x39, x40, x41, x42, x43, x44, x45, x7, x1, v16, v17, x50, x51, x1, x7, v18, v19, v20, v21, x58, x59, x60, x61, x62, x63, x64, x65, x66, x67, x68, x69, x70, x71, x72, x73, x74, x75, x76, x77, x78, x79, x80, x81, x82, x83, x84, x85, v22, v22, x88, x89, x90, x91, x92, x93, x94, x95, x96, x97, x98, x99, x100, x101, x102, v40, v40, v44, x5, x1, x7, v41, v42, v43, v44, v45, v46, v52, x6, x1, x7, v49, v50, v51, v52, v53, v54, v57, v58, v59, v59, v60, v61, v62, v63, v63, v64, v64, v65, v66, v67, v68, v69, v70, x142, x143, x144, x145, x146, x147, x148, x149, x150, x151, x152, x153, x154, x155, x156, x157, x158, x159, x160, x161, x162, x163, x164, x165, x166] h70) (
  ob ((M.ofOpt (bin Try.prog .add 3 x7 (.int .i64 1))) h70) fun v71 h71 =>
  k .normal [x0, x1, x2, x3, x4, x5, x6, v71, v63, v47, v46, v55, v54, x13, x14, x15, x16, x17, x18, x19, x20, x21, x22, x23, x24, x25, x26, x27, x28, x29, x30, x31, x32, x33, x34, x35, x36, x37, x38, x39, x40, x41, x42, x43, x44, x45, x7, x1, v16, v17, x7, v71, x1, x7, v18, v19, v20, v21, x58, x59, x60, x61, x62, x63, x64, x65, x66, x67, x68, x69, x70, x71, x72, x73, x74, x75, x76, x77, x78, x79, x80, x81, x82, x83, x84, x85, v22, v22, x88, x89, x90, x91, x92, x93, x94, x95, x96, x97, x98, x99, x100, x101, x102, v40, v40, v44, x5, x1, x7, v41, v42, v43, v44, v45, v46, v52, x6, x1, x7, v49, v50, v51, v52, v53, v54, v57, v58, v59, v59, v60, v61, v62, v63, v63, v64, v64, v65, v66, v67, v68, v69, v70, x142, x143, x144, x145, x146, x147, x148, x149, x150, x151, x152, x153, x154, x155, x156, x157, x158, x159, x160, x161, x162, x163, x164, x165, x166] h71)) (
  ob ((M.ofOpt (iAddr 6 x1 x7)) h40) fun v72 h72 =>
  ob ((M.ofOpt (fAddr 1 v72)) h72) fun v73 h73 =>
  ob ((ldN 4 v73) h73) fun v74 h74 =>
  ob ((O (.func 20) [x5, v74]) h74) fun v75 h75 =>
  ob ((M.ofOpt (ext 0 v75)) h75) fun v76 h76 =>
  ob ((M.ofOpt (ext 1 v75)) h76) fun v77 h77 =>
  ob ((M.ofOpt (iAddr 6 x1 x7)) h77) fun v78 h78 =>
  ob ((M.ofOpt (fAddr 1 v78)) h78) fun v79 h79 =>
  ob ((ldN 4 v79) h79) fun v80 h80 =>
  ob ((O (.func 24) [x6, v80]) h80) fun v81 h81 =>
  ob ((M.ofOpt (ext 0 v81)) h81) fun v82 h82 =>
  ob ((M.ofOpt (ext 1 v81)) h82) fun v83 h83 =>
  ob ((M.ofOpt (bin Try.prog .eql 3 v76 v82)) h83) fun v84 h84 =>
  ob ((gd v84 true (M.ret v77)) h84) fun v85 h85 =>
  ob ((gd v84 true (M.ret v83)) h85) fun v86 h86 =>
  ob ((gd v84 true (M.ofOpt (bin Try.prog .eql 4 v85 v86))) h86) fun v87 h87 =>
  ob ((M.ofOpt (pick v84 v87 (.bool false))) h87) fun v88 h88 =>
  ob ((M.ofOpt (un Try.prog .not v88)) h88) fun v89 h89 =>
  ob ((gd v89 false (M.ret x5)) h89) fun v90 h90 =>
  ob ((gd v89 false (O (.func 18) [v90])) h90) fun v91 h91 =>
  ob ((gd v89 false (M.ret x6)) h91) fun v92 h92 =>
  ob ((gd v89 false (O (.func 25) [v92])) h92) fun v93 h93 =>
  ob ((gd v89 false (M.ofOpt (bin Try.prog .neq 3 v91 v93))) h93) fun v94 h94 =>
  ob ((M.ofOpt (pick v89 (.bool true) v94)) h94) fun v95 h95 =>
  iteV v95 (
  k .ret [x0, x1, x2, x3, (.bool false), x5, x6, x7, v88, x9, x10, x11, x12, v76, v77, v82, v83, x17, x18, x19, x20, x21, x22, x23, x24, x25, x26, x27, x28, x29, x30, x31, x32, x33, x34, x35, x36, x37, x38, x39, x40, x41, x42, x43, x44, x45, x7, x1, v16, v17, x50, x51, x1, x7, v18, v19, v20, v21, v75, x5, x1, x7, v72, v73, v74, v75, v76, v77, v81, x6, x1, x7, v78, v79, v80, v81, v82, v83, v76, v82, v84, v84, v85, v86, v87, v88, v22, v22, x88, x89, x90, x91, x92, x93, x94, x95, x96, x97, x98, x99, x100, x101, x102, v40, v40, x105, x106, x107, x108, x109, x110, x111, x112, x113, x114, x115, x116, x117, x118, x119, x120, x121, x122, x123, x124, x125, x126, x127, x128, x129, x130, x131, x132, v88, v89, v89, v90, v91, v92, v93, v94, v95, x142, x143, x144, x145, x146, x147, x148, x149, x150, x151, x152, x153, x154, x155, x156, x157, x158, x159, x160, x161, x162, x163, x164, x165, x166] h95) (
  ob ((M.ofOpt (bin Try.prog .add 3 x7 (.int .i64 1))) h95) fun v96 h96 =>
  k .normal [x0, x1, x2, x3, x4, x5, x6, v96, v88, x9, x10, x11, x12, v76, v77, v82, v83, x17, x18, x19, x20, x21, x22, x23, x24, x25, x26, x27, x28, x29, x30, x31, x32, x33, x34, x35, x36, x37, x38, x39, x40, x41, x42, x43, x44, x45, x7, x1, v16, v17, x7, v96, x1, x7, v18, v19, v20, v21, v75, x5, x1, x7, v72, v73, v74, v75, v76, v77, v81, x6, x1, x7, v78, v79, v80, v81, v82, v83, v76, v82, v84, v84, v85, v86, v87, v88, v22, v22, x88, x89, x90, x91, x92, x93, x94, x95, x96, x97, x98, x99, x100, x101, x102, v40, v40, x105, x106, x107, x108, x109, x110, x111, x112, x113, x114, x115, x116, x117, x118, x119, x120, x121, x122, x123, x124, x125, x126, x127, x128, x129, x130, x131, x132, v88, v89, v89, v90, v91, v92, v93, v94, v95, x142, x143, x144, x145, x146, x147, x148, x149, x150, x151, x152, x153, x154, x155, x156, x157, x158, x159, x160, x161, x162, x163, x164, x165, x166] h96)))) (
  k (.exit 0) [x0, x1, x2, x3, x4, x5, x6, x7, x8, x9, x10, x11, x12, x13, x14, x15, x16, x17, x18, x19, x20, x21, x22, x23, x24, x25, x26, x27, x28, x29, x30, x31, x32, x33, x34, x35, x36, x37, x38, x39, x40, x41, x42, x43, x44, x45, x7, x1, v16, v17, x50, x51, x52, x53, x54, x55, x56, x57, x58, x59, x60, x61, x62, x63, x64, x65, x66, x67, x68, x69, x70, x71, x72, x73, x74, x75, x76, x77, x78, x79, x80, x81, x82, x83, x84, x85, x86, x87, x88, x89, x90, x91, x92, x93, x94, x95, x96, x97, x98, x99, x100, x101, x102, x103, x104, x105, x106, x107, x108, x109, x110, x111, x112, x113, x114, x115, x116, x117, x118, x119, x120, x121, x122, x123, x124, x125, x126, x127, x128, x129, x130, x131, x132, x133, x134, x135, x136, x137, x138, x139, x140, x141, x142, x143, x144, x145, x146, x147, x148, x149, x150, x151, x152, x153, x154, x155, x156, x157, x158, x159, x160, x161, x162, x163, x164, x165, x166] h17)
theorem f6_b0_eq (O : Oracle) (L : Loops (Value × Heap)) (k : Ex → K (Value × Heap)) (x0 x1 x2 x3 x4 x5 x6 x7 x8 x9 x10 x11 x12 x13 x14 x15 x16 x17 x18 x19 x20 x21 x22 x23 x24 x25 x26 x27 x28 x29 x30 x31 x32 x33 x34 x35 x36 x37 x38 x39 x40 x41 x42 x43 x44 x45 x46 x47 x48 x49 x50 x51 x52 x53 x54 x55 x56 x57 x58 x59 x60 x61 x62 x63 x64 x65 x66 x67 x68 x69 x70 x71 x72 x73 x74 x75 x76 x77 x78 x79 x80 x81 x82 x83 x84 x85 x86 x87 x88 x89 x90 x91 x92 x93 x94 x95 x96 x97 x98 x99 x100 x101 x102 x103 x104 x105 x106 x107 x108 x109 x110 x111 x112 x113 x114 x115 x116 x117 x118 x119 x120 x121 x122 x123 x124 x125 x126 x127 x128 x129 x130 x131 x132 x133 x134 x135 x136 x137 x138 x139 x140 x141 x142 x143 x144 x145 x146 x147 x148 x149 x150 x151 x152 x153 x154 x155 x156 x157 x158 x159 x160 x161 x162 x163 x164 x165 x166 : Value) (h : Heap) :
    runCode Try.prog O L f6_c0 k [x0, x1, x2, x3, x4, x5, x6, x7, x8, x9, x10, x11, x12, x13, x14, x15, x16, x17, x18, x19, x20, x21, x22, x23, x24, x25, x26, x27, x28, x29, x30, x31, x32, x33, x34, x35, x36, x37, x38, x39, x40, x41, x42, x43, x44, x45, x46, x47, x48, x49, x50, x51, x52, x53, x54, x55, x56, x57, x58, x59, x60, x61, x62, x63, x64, x65, x66, x67, x68, x69, x70, x71, x72, x73, x74, x75, x76, x77, x78, x79, x80, x81, x82, x83, x84, x85, x86, x87, x88, x89, x90, x91, x92, x93, x94, x95, x96, x97, x98, x99, x100, x101, x102, x103, x104, x105, x106, x107, x108, x109, x110, x111, x112, x113, x114, x115, x116, x117, x118, x119, x120, x121, x122, x123, x124, x125, x126, x127, x128, x129, x130, x131, x132, x133, x134, x135, x136, x137, x138, x139, x140, x141, x142, x143, x144, x145, x146, x147, x148, x149, x150, x151, x152, x153, x154, x155, x156, x157, x158, x159, x160, x161, x162, x163, x164, x165, x166] h = f6_b0 O L k x0 x1 x2 x3 x4 x5 x6 x7 x8 x9 x10 x11 x12 x13 x14 x15 x16 x17 x18 x19 x20 x21 x22 x23 x24 x25 x26 x27 x28 x29 x30 x31 x32 x33 x34 x35 x36 x37 x38 x39 x40 x41 x42 x43 x44 x45 x46 x47 x48 x49 x50 x51 x52 x53 x54 x55 x56 x57 x58 x59 x60 x61 x62 x63 x64 x65 x66 x67 x68 x69 x70 x71 x72 x73 x74 x75 x76 x77 x78 x79 x80 x81 x82 x83 x84 x85 x86 x87 x88 x89 x90 x91 x92 x93 x94 x95 x96 x97 x98 x99 x100 x101 x102 x103 x104 x105 x106 x107 x108 x109 x110 x111 x112 x113 x114 x115 x116 x117 x118 x119 x120 x121 x122 x123 x124 x125 x126 x127 x128 x129 x130 x131 x132 x133 x134 x135 x136 x137 x138 x139 x140 x141 x142 x143 x144 x145 x146 x147 x148 x149 x150 x151 x152 x153 x154 x155 x156 x157 x158 x159 x160 x161 x162 x163 x164 x165 x166 h := by kernel_rfl
noncomputable def f6 (O : Oracle) (L : Loops (Value × Heap)) (a0 a1 : Value) (h : Heap) : Option (Value × Heap) :=
  ob ((M.ofOpt (lenSl a1)) h) fun v0 h0 =>
  ob ((M.ofOpt (bin Try.prog .gtr 3 v0 (.int .i64 200))) h0) fun v1 h1 =>
  ob ((gd v1 false (O (.func 16) [])) h1) fun v2 h2 =>
  ob ((gd v1 false (M.ofOpt (un Try.prog .not v2))) h2) fun v3 h3 =>
  ob ((M.ofOpt (pick v1 (.bool true) v3)) h3) fun v4 h4 =>
  iteV v4 (
  ob ((O (.func 16) []) h4) fun v5 h5 =>
  some (oneOf [v5], h5)) (
  ob ((O (.func 15) [a0]) h4) fun v6 h6 =>
  ob ((O (.func 21) [a0]) h6) fun v7 h7 =>
  ob ((M.ofOpt (bin Try.prog .eql 22 v6 (.pointer none))) h7) fun v8 h8 =>
  ob ((gd v8 false (M.ret v7)) h8) fun v9 h9 =>
  ob ((gd v8 false (M.ofOpt (bin Try.prog .eql 38 v9 (.pointer none)))) h9) fun v10 h10 =>
  ob ((M.ofOpt (pick v8 (.bool true) v10)) h10) fun v11 h11 =>
  iteV v11 (
  ob ((M.ofOpt (bin Try.prog .eql 22 v6 (.pointer none))) h11) fun v12 h12 =>
  ob ((gd v12 true (M.ret v7)) h12) fun v13 h13 =>
  ob ((gd v12 true (M.ofOpt (bin Try.prog .eql 38 v13 (.pointer none)))) h13) fun v14 h14 =>
  ob ((M.ofOpt (pick v12 v14 (.bool false))) h14) fun v15 h15 =>
  some (oneOf [v15], h15)) (
  L (runCode Try.prog O L f6_c0) (f6_k0 O L) [a0, a1, undef, undef, (.bool false), v6, v7, (.int .i64 0), undef, undef, undef, undef, undef, undef, undef, undef, undef, undef, undef, undef, undef, undef, a1, v0, v1, v1, v2, v3, v4, undef, a0, v6, a0, v7, v6, v8, v8, v9, v10, v11, undef, undef, undef, undef, undef, undef, undef, undef, undef, undef, undef, undef, undef, undef, undef, undef, undef, undef, undef, undef, undef, undef, undef, undef, undef, undef, undef, undef, undef, undef, undef, undef, undef, undef, undef, undef, undef, undef, undef, undef, undef, undef, undef, undef, undef, undef, undef, undef, undef, undef, undef, undef, undef, undef, undef, undef, undef, undef, undef, undef, undef, undef, undef, undef, undef, undef, undef, undef, undef, undef, undef, undef, undef, undef, undef, undef, undef, undef, undef, undef, undef, undef, undef, undef, undef, undef, undef, undef, undef, undef, undef, undef, undef, undef, undef, undef, undef, undef, undef, undef, undef, undef, undef, undef, undef, undef, undef, undef, undef, undef, undef, undef, undef, undef, undef, undef, undef, undef, undef, undef, undef, undef, undef, undef, undef, undef, undef] h11))
theorem f6_eq (O : Oracle) (L : Loops (Value × Heap)) (a0 a1 : Value) (h : Heap) :
    body Try.prog O L 6 [a0, a1] h = f6 O L a0 a1 h := by kernel_rfl

/-! 7: shunter/shunterlaw07.PoolKeeps; slots: [(slots, 0), (l, 1), (slots, 2), (l, 3), (n, 5), (p, 6), (has, 7), (what, 8), (full, 9), (i, 10), (k, 11), (k, 12), (is, 13), (k, 14), (x, 15), (is, 16)] -/
noncomputable def f7_c1 : Code := sub [1, 1, 1, 1, 1, 1, 1, 1, 1, 0, 1, 0, 0] (fbody Try.prog 7)
noncomputable def f7_k1 (O : Oracle) (L : Loops (Value × Heap)) : Ex → K (Value × Heap) := (blockK 2 (seqK Try.prog O L (sub [1, 1, 1, 1, 1, 1, 1, 1, 1, 1] (fbody Try.prog 7)) (kRet Try.prog Try.f7)))
noncomputable def f7_e1_2 (O : Oracle) (L : Loops (Value × Heap)) (x0 x1 x2 x3 x4 x5 x6 x7 x8 x9 x10 x11 x12 x13 x14 x15 x16 x17 x18 x19 x20 x21 x22 x23 x24 x25 x26 x27 x28 x29 x30 x31 x32 x33 x34 x35 x36 x37 x38 x39 x40 x41 x42 x43 x44 x45 x46 x47 x48 x49 x50 x51 x52 x53 x54 x55 x56 x57 x58 x59 x60 x61 x62 x63 x64 x65 x66 x67 x68 x69 x70 x71 x72 x73 x74 x75 x76 x77 x78 x79 x80 x81 x82 x83 x84 x85 x86 x87 x88 x89 x90 x91 x92 x93 x94 x95 x96 x97 x98 x99 x100 x101 x102 x103 x104 x105 x106 x107 x108 x109 x110 x111 x112 x113 x114 x115 x116 x117 x118 x119 x120 x121 x122 x123 x124 x125 x126 x127 x128 x129 x130 x131 x132 x133 x134 x135 x136 x137 x138 x139 x140 x141 x142 x143 x144 x145 x146 x147 x148 x149 x150 x151 x152 x153 x154 x155 x156 x157 x158 : Value) (h : Heap) : Option (Value × Heap) :=
  some (oneOf [(.bool true)], h)
theorem f7_e1_2_eq (O : Oracle) (L : Loops (Value × Heap)) (x0 x1 x2 x3 x4 x5 x6 x7 x8 x9 x10 x11 x12 x13 x14 x15 x16 x17 x18 x19 x20 x21 x22 x23 x24 x25 x26 x27 x28 x29 x30 x31 x32 x33 x34 x35 x36 x37 x38 x39 x40 x41 x42 x43 x44 x45 x46 x47 x48 x49 x50 x51 x52 x53 x54 x55 x56 x57 x58 x59 x60 x61 x62 x63 x64 x65 x66 x67 x68 x69 x70 x71 x72 x73 x74 x75 x76 x77 x78 x79 x80 x81 x82 x83 x84 x85 x86 x87 x88 x89 x90 x91 x92 x93 x94 x95 x96 x97 x98 x99 x100 x101 x102 x103 x104 x105 x106 x107 x108 x109 x110 x111 x112 x113 x114 x115 x116 x117 x118 x119 x120 x121 x122 x123 x124 x125 x126 x127 x128 x129 x130 x131 x132 x133 x134 x135 x136 x137 x138 x139 x140 x141 x142 x143 x144 x145 x146 x147 x148 x149 x150 x151 x152 x153 x154 x155 x156 x157 x158 : Value) (h : Heap) :
    f7_k1 O L (.exit 2) [x0, x1, x2, x3, x4, x5, x6, x7, x8, x9, x10, x11, x12, x13, x14, x15, x16, x17, x18, x19, x20, x21, x22, x23, x24, x25, x26, x27, x28, x29, x30, x31, x32, x33, x34, x35, x36, x37, x38, x39, x40, x41, x42, x43, x44, x45, x46, x47, x48, x49, x50, x51, x52, x53, x54, x55, x56, x57, x58, x59, x60, x61, x62, x63, x64, x65, x66, x67, x68, x69, x70, x71, x72, x73, x74, x75, x76, x77, x78, x79, x80, x81, x82, x83, x84, x85, x86, x87, x88, x89, x90, x91, x92, x93, x94, x95, x96, x97, x98, x99, x100, x101, x102, x103, x104, x105, x106, x107, x108, x109, x110, x111, x112, x113, x114, x115, x116, x117, x118, x119, x120, x121, x122, x123, x124, x125, x126, x127, x128, x129, x130, x131, x132, x133, x134, x135, x136, x137, x138, x139, x140, x141, x142, x143, x144, x145, x146, x147, x148, x149, x150, x151, x152, x153, x154, x155, x156, x157, x158] h = f7_e1_2 O L x0 x1 x2 x3 x4 x5 x6 x7 x8 x9 x10 x11 x12 x13 x14 x15 x16 x17 x18 x19 x20 x21 x22 x23 x24 x25 x26 x27 x28 x29 x30 x31 x32 x33 x34 x35 x36 x37 x38 x39 x40 x41 x42 x43 x44 x45 x46 x47 x48 x49 x50 x51 x52 x53 x54 x55 x56 x57 x58 x59 x60 x61 x62 x63 x64 x65 x66 x67 x68 x69 x70 x71 x72 x73 x74 x75 x76 x77 x78 x79 x80 x81 x82 x83 x84 x85 x86 x87 x88 x89 x90 x91 x92 x93 x94 x95 x96 x97 x98 x99 x100 x101 x102 x103 x104 x105 x106 x107 x108 x109 x110 x111 x112 x113 x114 x115 x116 x117 x118 x119 x120 x121 x122 x123 x124 x125 x126 x127 x128 x129 x130 x131 x132 x133 x134 x135 x136 x137 x138 x139 x140 x141 x142 x143 x144 x145 x146 x147 x148 x149 x150 x151 x152 x153 x154 x155 x156 x157 x158 h := by kernel_rfl
noncomputable def f7_r1 (O : Oracle) (L : Loops (Value × Heap)) (x0 x1 x2 x3 x4 x5 x6 x7 x8 x9 x10 x11 x12 x13 x14 x15 x16 x17 x18 x19 x20 x21 x22 x23 x24 x25 x26 x27 x28 x29 x30 x31 x32 x33 x34 x35 x36 x37 x38 x39 x40 x41 x42 x43 x44 x45 x46 x47 x48 x49 x50 x51 x52 x53 x54 x55 x56 x57 x58 x59 x60 x61 x62 x63 x64 x65 x66 x67 x68 x69 x70 x71 x72 x73 x74 x75 x76 x77 x78 x79 x80 x81 x82 x83 x84 x85 x86 x87 x88 x89 x90 x91 x92 x93 x94 x95 x96 x97 x98 x99 x100 x101 x102 x103 x104 x105 x106 x107 x108 x109 x110 x111 x112 x113 x114 x115 x116 x117 x118 x119 x120 x121 x122 x123 x124 x125 x126 x127 x128 x129 x130 x131 x132 x133 x134 x135 x136 x137 x138 x139 x140 x141 x142 x143 x144 x145 x146 x147 x148 x149 x150 x151 x152 x153 x154 x155 x156 x157 x158 : Value) (h : Heap) : Option (Value × Heap) :=
  some (oneOf [x4], h)
theorem f7_r1_eq (O : Oracle) (L : Loops (Value × Heap)) (x0 x1 x2 x3 x4 x5 x6 x7 x8 x9 x10 x11 x12 x13 x14 x15 x16 x17 x18 x19 x20 x21 x22 x23 x24 x25 x26 x27 x28 x29 x30 x31 x32 x33 x34 x35 x36 x37 x38 x39 x40 x41 x42 x43 x44 x45 x46 x47 x48 x49 x50 x51 x52 x53 x54 x55 x56 x57 x58 x59 x60 x61 x62 x63 x64 x65 x66 x67 x68 x69 x70 x71 x72 x73 x74 x75 x76 x77 x78 x79 x80 x81 x82 x83 x84 x85 x86 x87 x88 x89 x90 x91 x92 x93 x94 x95 x96 x97 x98 x99 x100 x101 x102 x103 x104 x105 x106 x107 x108 x109 x110 x111 x112 x113 x114 x115 x116 x117 x118 x119 x120 x121 x122 x123 x124 x125 x126 x127 x128 x129 x130 x131 x132 x133 x134 x135 x136 x137 x138 x139 x140 x141 x142 x143 x144 x145 x146 x147 x148 x149 x150 x151 x152 x153 x154 x155 x156 x157 x158 : Value) (h : Heap) :
    f7_k1 O L .ret [x0, x1, x2, x3, x4, x5, x6, x7, x8, x9, x10, x11, x12, x13, x14, x15, x16, x17, x18, x19, x20, x21, x22, x23, x24, x25, x26, x27, x28, x29, x30, x31, x32, x33, x34, x35, x36, x37, x38, x39, x40, x41, x42, x43, x44, x45, x46, x47, x48, x49, x50, x51, x52, x53, x54, x55, x56, x57, x58, x59, x60, x61, x62, x63, x64, x65, x66, x67, x68, x69, x70, x71, x72, x73, x74, x75, x76, x77, x78, x79, x80, x81, x82, x83, x84, x85, x86, x87, x88, x89, x90, x91, x92, x93, x94, x95, x96, x97, x98, x99, x100, x101, x102, x103, x104, x105, x106, x107, x108, x109, x110, x111, x112, x113, x114, x115, x116, x117, x118, x119, x120, x121, x122, x123, x124, x125, x126, x127, x128, x129, x130, x131, x132, x133, x134, x135, x136, x137, x138, x139, x140, x141, x142, x143, x144, x145, x146, x147, x148, x149, x150, x151, x152, x153, x154, x155, x156, x157, x158] h = f7_r1 O L x0 x1 x2 x3 x4 x5 x6 x7 x8 x9 x10 x11 x12 x13 x14 x15 x16 x17 x18 x19 x20 x21 x22 x23 x24 x25 x26 x27 x28 x29 x30 x31 x32 x33 x34 x35 x36 x37 x38 x39 x40 x41 x42 x43 x44 x45 x46 x47 x48 x49 x50 x51 x52 x53 x54 x55 x56 x57 x58 x59 x60 x61 x62 x63 x64 x65 x66 x67 x68 x69 x70 x71 x72 x73 x74 x75 x76 x77 x78 x79 x80 x81 x82 x83 x84 x85 x86 x87 x88 x89 x90 x91 x92 x93 x94 x95 x96 x97 x98 x99 x100 x101 x102 x103 x104 x105 x106 x107 x108 x109 x110 x111 x112 x113 x114 x115 x116 x117 x118 x119 x120 x121 x122 x123 x124 x125 x126 x127 x128 x129 x130 x131 x132 x133 x134 x135 x136 x137 x138 x139 x140 x141 x142 x143 x144 x145 x146 x147 x148 x149 x150 x151 x152 x153 x154 x155 x156 x157 x158 h := by kernel_rfl
noncomputable def f7_b1 (O : Oracle) (L : Loops (Value × Heap)) (k : Ex → K (Value × Heap)) (x0 x1 x2 x3 x4 x5 x6 x7 x8 x9 x10 x11 x12 x13 x14 x15 x16 x17 x18 x19 x20 x21 x22 x23 x24 x25 x26 x27 x28 x29 x30 x31 x32 x33 x34 x35 x36 x37 x38 x39 x40 x41 x42 x43 x44 x45 x46 x47 x48 x49 x50 x51 x52 x53 x54 x55 x56 x57 x58 x59 x60 x61 x62 x63 x64 x65 x66 x67 x68 x69 x70 x71 x72 x73 x74 x75 x76 x77 x78 x79 x80 x81 x82 x83 x84 x85 x86 x87 x88 x89 x90 x91 x92 x93 x94 x95 x96 x97 x98 x99 x100 x101 x102 x103 x104 x105 x106 x107 x108 x109 x110 x111 x112 x113 x114 x115 x116 x117 x118 x119 x120 x121 x122 x123 x124 x125 x126 x127 x128 x129 x130 x131 x132 x133 x134 x135 x136 x137 x138 x139 x140 x141 x142 x143 x144 x145 x146 x147 x148 x149 x150 x151 x152 x153 x154 x155 x156 x157 x158 : Value) (h : Heap) : Option (Value × Heap) :=
  ob ((M.ofOpt (bin Try.prog .lss 3 x14 x5)) h) fun v81 h81 =>
  iteV v81 (
  ob ((O (.func 17) [x6, x14]) h81) fun v82 h82 =>
  ob ((M.ofOpt (ext 0 v82)) h82) fun v83 h83 =>
  ob ((M.ofOpt (ext 1 v82)) h83) fun v84 h84 =>
  ob ((newB 27 [(.int .i64 0), (.int .i64 0), (.int .i64 0), (.int .u32 0)] .fix) h84) fun v85 h85 =>
  ob ((stN 4 v85 v83) h85) fun v86 h86 =>
  ob ((M.ofOpt (iAddr 1 x7 x14)) h86) fun v87 h87 =>
  ob ((ld1 v87) h87) fun v88 h88 =>
  ifB (true) (
  ob ((M.ofOpt (bin Try.prog .eql 3 v88 (.int .i64 1))) h88) fun v89 h89 =>
  ob ((M.ofOpt (bin Try.prog .neq 4 v84 v89)) h89) fun v90 h90 =>
  ob ((gd v90 false (M.ret v84)) h90) fun v91 h91 =>
  ob ((gd v90 false (M.ret v91)) h91) fun v92 h92 =>
  ob ((gd v92 true (ldN 4 v85)) h92) fun v93 h93 =>
  ifB (true) (
  ob ((gd v92 true (M.ret x8)) h93) fun v94 h94 =>
  ob ((gd v92 true (M.ret x14)) h94) fun v95 h95 =>
  ob ((gd v92 true (M.ofOpt (iAddr 4 v94 v95))) h95) fun v96 h96 =>
  ob ((gd v92 true (ldN 4 v96)) h96) fun v97 h97 =>
  ifB (true) (
  ob ((gd v92 true (M.ofOpt (bin Try.prog .neq 27 v93 v97))) h97) fun v98 h98 =>
  ob ((gd v90 false (M.ofOpt (pick v92 v98 (.bool false)))) h98) fun v99 h99 =>
  ob ((M.ofOpt (pick v90 (.bool true) v99)) h99) fun v100 h100 =>
  iteV v100 (
  k .ret [x0, x1, x2, x3, (.bool false), x5, x6, x7, x8, x9, x10, x11, x12, x13, x14, v85, v84, x17, x18, x19, x20, x21, x22, x23, x24, x25, x26, x27, x28, x29, x30, x31, x32, x33, x34, x35, x36, x37, x38, x39, x40, x41, x42, x43, x44, x45, x46, x47, x48, x49, x50, x51, x52, x53, x54, x55, x56, x57, x58, x59, x60, x61, x62, x63, x64, x65, x66, x67, x68, x69, x70, x71, x72, x73, x74, x75, x76, x77, x78, x79, x80, x81, x82, x83, x84, x85, x86, x87, x88, x89, x90, x91, x92, x93, x94, x95, x96, x97, x98, x99, x100, x101, x102, x103, x104, x105, x106, x107, x108, x109, x110, x111, x112, x113, x114, x115, x116, x117, x118, x119, x120, x121, x122, x123, x124, x125, x126, x127, x128, x129, x14, x5, v81, x133, x134, v82, x6, x14, v82, v83, v84, v84, x7, x14, v87, v88, v89, v90, v90, v91, v92, v93, v94, v95, v96, v97, v98, v99, v100] h100) (
  ob ((M.ofOpt (bin Try.prog .add 3 x14 (.int .i64 1))) h100) fun v101 h101 =>
  k .normal [x0, x1, x2, x3, x4, x5, x6, x7, x8, x9, x10, x11, x12, x13, v101, v85, v84, x17, x18, x19, x20, x21, x22, x23, x24, x25, x26, x27, x28, x29, x30, x31, x32, x33, x34, x35, x36, x37, x38, x39, x40, x41, x42, x43, x44, x45, x46, x47, x48, x49, x50, x51, x52, x53, x54, x55, x56, x57, x58, x59, x60, x61, x62, x63, x64, x65, x66, x67, x68, x69, x70, x71, x72, x73, x74, x75, x76, x77, x78, x79, x80, x81, x82, x83, x84, x85, x86, x87, x88, x89, x90, x91, x92, x93, x94, x95, x96, x97, x98, x99, x100, x101, x102, x103, x104, x105, x106, x107, x108, x109, x110, x111, x112, x113, x114, x115, x116, x117, x118, x119, x120, x121, x122, x123, x124, x125, x126, x127, x128, x129, x14, x5, v81, x14, v101, v82, x6, x14, v82, v83, v84, v84, x7, x14, v87, v88, v89, v90, v90, v91, v92, v93, v94, v95, v96, v97, v98, v99, v100] h101))))) (
  k (.exit 2) [x0, x1, x2, x3, x4, x5, x6, x7, x8, x9, x10, x11, x12, x13, x14, x15, x16, x17, x18, x19, x20, x21, x22, x23, x24, x25, x26, x27, x28, x29, x30, x31, x32, x33, x34, x35, x36, x37, x38, x39, x40, x41, x42, x43, x44, x45, x46, x47, x48, x49, x50, x51, x52, x53, x54, x55, x56, x57, x58, x59, x60, x61, x62, x63, x64, x65, x66, x67, x68, x69, x70, x71, x72, x73, x74, x75, x76, x77, x78, x79, x80, x81, x82, x83, x84, x85, x86, x87, x88, x89, x90, x91, x92, x93, x94, x95, x96, x97, x98, x99, x100, x101, x102, x103, x104, x105, x106, x107, x108, x109, x110, x111, x112, x113, x114, x115, x116, x117, x118, x119, x120, x121, x122, x123, x124, x125, x126, x127, x128, x129, x14, x5, v81, x133, x134, x135, x136, x137, x138, x139, x140, x141, x142, x143, x144, x145, x146, x147, x148, x149, x150, x151, x152, x153, x154, x155, x156, x157, x158] h81)
theorem f7_b1_eq (O : Oracle) (L : Loops (Value × Heap)) (k : Ex → K (Value × Heap)) (x0 x1 x2 x3 x4 x5 x6 x7 x8 x9 x10 x11 x12 x13 x14 x15 x16 x17 x18 x19 x20 x21 x22 x23 x24 x25 x26 x27 x28 x29 x30 x31 x32 x33 x34 x35 x36 x37 x38 x39 x40 x41 x42 x43 x44 x45 x46 x47 x48 x49 x50 x51 x52 x53 x54 x55 x56 x57 x58 x59 x60 x61 x62 x63 x64 x65 x66 x67 x68 x69 x70 x71 x72 x73 x74 x75 x76 x77 x78 x79 x80 x81 x82 x83 x84 x85 x86 x87 x88 x89 x90 x91 x92 x93 x94 x95 x96 x97 x98 x99 x100 x101 x102 x103 x104 x105 x106 x107 x108 x109 x110 x111 x112 x113 x114 x115 x116 x117 x118 x119 x120 x121 x122 x123 x124 x125 x126 x127 x128 x129 x130 x131 x132 x133 x134 x135 x136 x137 x138 x139 x140 x141 x142 x143 x144 x145 x146 x147 x148 x149 x150 x151 x152 x153 x154 x155 x156 x157 x158 : Value) (h : Heap) :
    runCode Try.prog O L f7_c1 k [x0, x1, x2, x3, x4, x5, x6, x7, x8, x9, x10, x11, x12, x13, x14, x15, x16, x17, x18, x19, x20, x21, x22, x23, x24, x25, x26, x27, x28, x29, x30, x31, x32, x33, x34, x35, x36, x37, x38, x39, x40, x41, x42, x43, x44, x45, x46, x47, x48, x49, x50, x51, x52, x53, x54, x55, x56, x57, x58, x59, x60, x61, x62, x63, x64, x65, x66, x67, x68, x69, x70, x71, x72, x73, x74, x75, x76, x77, x78, x79, x80, x81, x82, x83, x84, x85, x86, x87, x88, x89, x90, x91, x92, x93, x94, x95, x96, x97, x98, x99, x100, x101, x102, x103, x104, x105, x106, x107, x108, x109, x110, x111, x112, x113, x114, x115, x116, x117, x118, x119, x120, x121, x122, x123, x124, x125, x126, x127, x128, x129, x130, x131, x132, x133, x134, x135, x136, x137, x138, x139, x140, x141, x142, x143, x144, x145, x146, x147, x148, x149, x150, x151, x152, x153, x154, x155, x156, x157, x158] h = f7_b1 O L k x0 x1 x2 x3 x4 x5 x6 x7 x8 x9 x10 x11 x12 x13 x14 x15 x16 x17 x18 x19 x20 x21 x22 x23 x24 x25 x26 x27 x28 x29 x30 x31 x32 x33 x34 x35 x36 x37 x38 x39 x40 x41 x42 x43 x44 x45 x46 x47 x48 x49 x50 x51 x52 x53 x54 x55 x56 x57 x58 x59 x60 x61 x62 x63 x64 x65 x66 x67 x68 x69 x70 x71 x72 x73 x74 x75 x76 x77 x78 x79 x80 x81 x82 x83 x84 x85 x86 x87 x88 x89 x90 x91 x92 x93 x94 x95 x96 x97 x98 x99 x100 x101 x102 x103 x104 x105 x106 x107 x108 x109 x110 x111 x112 x113 x114 x115 x116 x117 x118 x119 x120 x121 x122 x123 x124 x125 x126 x127 x128 x129 x130 x131 x132 x133 x134 x135 x136 x137 x138 x139 x140 x141 x142 x143 x144 x145 x146 x147 x148 x149 x150 x151 x152 x153 x154 x155 x156 x157 x158 h := by kernel_rfl
noncomputable def f7_c0 : Code := sub [1, 1, 1, 1, 1, 1, 1, 1, 0, 1, 0, 0] (fbody Try.prog 7)
noncomputable def f7_k0 (O : Oracle) (L : Loops (Value × Heap)) : Ex → K (Value × Heap) := (blockK 0 (seqK Try.prog O L (sub [1, 1, 1, 1, 1, 1, 1, 1, 1] (fbody Try.prog 7)) (kRet Try.prog Try.f7)))
noncomputable def f7_e0_0 (O : Oracle) (L : Loops (Value × Heap)) (x0 x1 x2 x3 x4 x5 x6 x7 x8 x9 x10 x11 x12 x13 x14 x15 x16 x17 x18 x19 x20 x21 x22 x23 x24 x25 x26 x27 x28 x29 x30 x31 x32 x33 x34 x35 x36 x37 x38 x39 x40 x41 x42 x43 x44 x45 x46 x47 x48 x49 x50 x51 x52 x53 x54 x55 x56 x57 x58 x59 x60 x61 x62 x63 x64 x65 x66 x67 x68 x69 x70 x71 x72 x73 x74 x75 x76 x77 x78 x79 x80 x81 x82 x83 x84 x85 x86 x87 x88 x89 x90 x91 x92 x93 x94 x95 x96 x97 x98 x99 x100 x101 x102 x103 x104 x105 x106 x107 x108 x109 x110 x111 x112 x113 x114 x115 x116 x117 x118 x119 x120 x121 x122 x123 x124 x125 x126 x127 x128 x129 x130 x131 x132 x133 x134 x135 x136 x137 x138 x139 x140 x141 x142 x143 x144 x145 x146 x147 x148 x149 x150 x151 x152 x153 x154 x155 x156 x157 x158 : Value) (h : Heap) : Option (Value × Heap) :=
  L (runCode Try.prog O L f7_c1) (f7_k1 O L) [x0, x1, x2, x3, x4, x5, x6, x7, x8, x9, x10, x11, x12, x13, (.int .i64 0), x15, x16, x17, x18, x19, x20, x21, x22, x23, x24, x25, x26, x27, x28, x29, x30, x31, x32, x33, x34, x35, x36, x37, x38, x39, x40, x41, x42, x43, x44, x45, x46, x47, x48, x49, x50, x51, x52, x53, x54, x55, x56, x57, x58, x59, x60, x61, x62, x63, x64, x65, x66, x67, x68, x69, x70, x71, x72, x73, x74, x75, x76, x77, x78, x79, x80, x81, x82, x83, x84, x85, x86, x87, x88, x89, x90, x91, x92, x93, x94, x95, x96, x97, x98, x99, x100, x101, x102, x103, x104, x105, x106, x107, x108, x109, x110, x111, x112, x113, x114, x115, x116, x117, x118, x119, x120, x121, x122, x123, x124, x125, x126, x127, x128, x129, x130, x131, x132, x133, x134, x135, x136, x137, x138, x139, x140, x141, x142, x143, x144, x145, x146, x147, x148, x149, x150, x151, x152, x153, x154, x155, x156, x157, x158] h
theorem f7_e0_0_eq (O : Oracle) (L : Loops (Value × Heap)) (x0 x1 x2 x3 x4 x5 x6 x7 x8 x9 x10 x11 x12 x13 x14 x15 x16 x17 x18 x19 x20 x21 x22 x23 x24 x25 x26 x27 x28 x29 x30 x31 x32 x33 x34 x35 x36 x37 x38 x39 x40 x41 x42 x43 x44 x45 x46 x47 x48 x49 x50 x51 x52 x53 x54 x55 x56 x57 x58 x59 x60 x61 x62 x63 x64 x65 x66 x67 x68 x69 x70 x71 x72 x73 x74 x75 x76 x77 x78 x79 x80 x81 x82 x83 x84 x85 x86 x87 x88 x89 x90 x91 x92 x93 x94 x95 x96 x97 x98 x99 x100 x101 x102 x103 x104 x105 x106 x107 x108 x109 x110 x111 x112 x113 x114 x115 x116 x117 x118 x119 x120 x121 x122 x123 x124 x125 x126 x127 x128 x129 x130 x131 x132 x133 x134 x135 x136 x137 x138 x139 x140 x141 x142 x143 x144 x145 x146 x147 x148 x149 x150 x151 x152 x153 x154 x155 x156 x157 x158 : Value) (h : Heap) :
    f7_k0 O L (.exit 0) [x0, x1, x2, x3, x4, x5, x6, x7, x8, x9, x10, x11, x12, x13, x14, x15, x16, x17, x18, x19, x20, x21, x22, x23, x24, x25, x26, x27, x28, x29, x30, x31, x32, x33, x34, x35, x36, x37, x38, x39, x40, x41, x42, x43, x44, x45, x46, x47, x48, x49, x50, x51, x52, x53, x54, x55, x56, x57, x58, x59, x60, x61, x62, x63, x64, x65, x66, x67, x68, x69, x70, x71, x72, x73, x74, x75, x76, x77, x78, x79, x80, x81, x82, x83, x84, x85, x86, x87, x88, x89, x90, x91, x92, x93, x94, x95, x96, x97, x98, x99, x100, x101, x102, x103, x104, x105, x106, x107, x108, x109, x110, x111, x112, x113, x114, x115, x116, x117, x118, x119, x120, x121, x122, x123, x124, x125, x126, x127, x128, x129, x130, x131, x132, x133, x134, x135, x136, x137, x138, x139, x140, x141, x142, x143, x144, x145, x146, x147, x148, x149, x150, x151, x152, x153, x154, x155, x156, x157, x158] h = f7_e0_0 O L x0 x1 x2 x3 x4 x5 x6 x7 x8 x9 x10 x11 x12 x13 x14 x15 x16 x17 x18 x19 x20 x21 x22 x23 x24 x25 x26 x27 x28 x29 x30 x31 x32 x33 x34 x35 x36 x37 x38 x39 x40 x41 x42 x43 x44 x45 x46 x47 x48 x49 x50 x51 x52 x53 x54 x55 x56 x57 x58 x59 x60 x61 x62 x63 x64 x65 x66 x67 x68 x69 x70 x71 x72 x73 x74 x75 x76 x77 x78 x79 x80 x81 x82 x83 x84 x85 x86 x87 x88 x89 x90 x91 x92 x93 x94 x95 x96 x97 x98 x99 x100 x101 x102 x103 x104 x105 x106 x107 x108 x109 x110 x111 x112 x113 x114 x115 x116 x117 x118 x119 x120 x121 x122 x123 x124 x125 x126 x127 x128 x129 x130 x131 x132 x133 x134 x135 x136 x137 x138 x139 x140 x141 x142 x143 x144 x145 x146 x147 x148 x149 x150 x151 x152 x153 x154 x155 x156 x157 x158 h := by kernel_rfl
noncomputable def f7_r0 (O : Oracle) (L : Loops (Value × Heap)) (x0 x1 x2 x3 x4 x5 x6 x7 x8 x9 x10 x11 x12 x13 x14 x15 x16 x17 x18 x19 x20 x21 x22 x23 x24 x25 x26 x27 x28 x29 x30 x31 x32 x33 x34 x35 x36 x37 x38 x39 x40 x41 x42 x43 x44 x45 x46 x47 x48 x49 x50 x51 x52 x53 x54 x55 x56 x57 x58 x59 x60 x61 x62 x63 x64 x65 x66 x67 x68 x69 x70 x71 x72 x73 x74 x75 x76 x77 x78 x79 x80 x81 x82 x83 x84 x85 x86 x87 x88 x89 x90 x91 x92 x93 x94 x95 x96 x97 x98 x99 x100 x101 x102 x103 x104 x105 x106 x107 x108 x109 x110 x111 x112 x113 x114 x115 x116 x117 x118 x119 x120 x121 x122 x123 x124 x125 x126 x127 x128 x129 x130 x131 x132 x133 x134 x135 x136 x137 x138 x139 x140 x141 x142 x143 x144 x145 x146 x147 x148 x149 x150 x151 x152 x153 x154 x155 x156 x157 x158 : Value) (h : Heap) : Option (Value × Heap) :=
  some (oneOf [x4], h)
theorem f7_r0_eq (O : Oracle) (L : Loops (Value × Heap)) (x0 x1 x2 x3 x4 x5 x6 x7 x8 x9 x10 x11 x12 x13 x14 x15 x16 x17 x18 x19 x20 x21 x22 x23 x24 x25 x26 x27 x28 x29 x30 x31 x32 x33 x34 x35 x36 x37 x38 x39 x40 x41 x42 x43 x44 x45 x46 x47 x48 x49 x50 x51 x52 x53 x54 x55 x56 x57 x58 x59 x60 x61 x62 x63 x64 x65 x66 x67 x68 x69 x70 x71 x72 x73 x74 x75 x76 x77 x78 x79 x80 x81 x82 x83 x84 x85 x86 x87 x88 x89 x90 x91 x92 x93 x94 x95 x96 x97 x98 x99 x100 x101 x102 x103 x104 x105 x106 x107 x108 x109 x110 x111 x112 x113 x114 x115 x116 x117 x118 x119 x120 x121 x122 x123 x124 x125 x126 x127 x128 x129 x130 x131 x132 x133 x134 x135 x136 x137 x138 x139 x140 x141 x142 x143 x144 x145 x146 x147 x148 x149 x150 x151 x152 x153 x154 x155 x156 x157 x158 : Value) (h : Heap) :
    f7_k0 O L .ret [x0, x1, x2, x3, x4, x5, x6, x7, x8, x9, x10, x11, x12, x13, x14, x15, x16, x17, x18, x19, x20, x21, x22, x23, x24, x25, x26, x27, x28, x29, x30, x31, x32, x33, x34, x35, x36, x37, x38, x39, x40, x41, x42, x43, x44, x45, x46, x47, x48, x49, x50, x51, x52, x53, x54, x55, x56, x57, x58, x59, x60, x61, x62, x63, x64, x65, x66, x67, x68, x69, x70, x71, x72, x73, x74, x75, x76, x77, x78, x79, x80, x81, x82, x83, x84, x85, x86, x87, x88, x89, x90, x91, x92, x93, x94, x95, x96, x97, x98, x99, x100, x101, x102, x103, x104, x105, x106, x107, x108, x109, x110, x111, x112, x113, x114, x115, x116, x117, x118, x119, x120, x121, x122, x123, x124, x125, x126, x127, x128, x129, x130, x131, x132, x133, x134, x135, x136, x137, x138, x139, x140, x141, x142, x143, x144, x145, x146, x147, x148, x149, x150, x151, x152, x153, x154, x155, x156, x157, x158] h = f7_r0 O L x0 x1 x2 x3 x4 x5 x6 x7 x8 x9 x10 x11 x12 x13 x14 x15 x16 x17 x18 x19 x20 x21 x22 x23 x24 x25 x26 x27 x28 x29 x30 x31 x32 x33 x34 x35 x36 x37 x38 x39 x40 x41 x42 x43 x44 x45 x46 x47 x48 x49 x50 x51 x52 x53 x54 x55 x56 x57 x58 x59 x60 x61 x62 x63 x64 x65 x66 x67 x68 x69 x70 x71 x72 x73 x74 x75 x76 x77 x78 x79 x80 x81 x82 x83 x84 x85 x86 x87 x88 x89 x90 x91 x92 x93 x94 x95 x96 x97 x98 x99 x100 x101 x102 x103 x104 x105 x106 x107 x108 x109 x110 x111 x112 x113 x114 x115 x116 x117 x118 x119 x120 x121 x122 x123 x124 x125 x126 x127 x128 x129 x130 x131 x132 x133 x134 x135 x136 x137 x138 x139 x140 x141 x142 x143 x144 x145 x146 x147 x148 x149 x150 x151 x152 x153 x154 x155 x156 x157 x158 h := by kernel_rfl
noncomputable def f7_b0 (O : Oracle) (L : Loops (Value × Heap)) (k : Ex → K (Value × Heap)) (x0 x1 x2 x3 x4 x5 x6 x7 x8 x9 x10 x11 x12 x13 x14 x15 x16 x17 x18 x19 x20 x21 x22 x23 x24 x25 x26 x27 x28 x29 x30 x31 x32 x33 x34 x35 x36 x37 x38 x39 x40 x41 x42 x43 x44 x45 x46 x47 x48 x49 x50 x51 x52 x53 x54 x55 x56 x57 x58 x59 x60 x61 x62 x63 x64 x65 x66 x67 x68 x69 x70 x71 x72 x73 x74 x75 x76 x77 x78 x79 x80 x81 x82 x83 x84 x85 x86 x87 x88 x89 x90 x91 x92 x93 x94 x95 x96 x97 x98 x99 x100 x101 x102 x103 x104 x105 x106 x107 x108 x109 x110 x111 x112 x113 x114 x115 x116 x117 x118 x119 x120 x121 x122 x123 x124 x125 x126 x127 x128 x129 x130 x131 x132 x133 x134 x135 x136 x137 x138 x139 x140 x141 x142 x143 x144 x145 x146 x147 x148 x149 x150 x151 x152 x153 x154 x155 x156 x157 x158 : Value) (h : Heap) : Option (Value × Heap) :=
  ob ((M.ofOpt (lenSl x1)) h) fun v13 h13 =>
  ob ((M.ofOpt (bin Try.prog .lss 3 x10 v13)) h13) fun v14 h14 =>
  iteV v14 (
  ob ((M.ofOpt (iAddr 6 x1 x10)) h14) fun v15 h15 =>
  ob ((M.ofOpt (fAddr 0 v15)) h15) fun v16 h16 =>
  ob ((ld1 v16) h16) fun v17 h17 =>
  ob ((M.ofOpt (bin Try.prog .rem 5 v17 (.int .u8 4))) h17) fun v18 h18 =>
  ob ((M.ofOpt (bin Try.prog .eql 5 v18 (.int .u8 2))) h18) fun v19 h19 =>
  iteV v19 (
  ob ((M.ofOpt (iAddr 6 x1 x10)) h19) fun v20 h20 =>
  ob ((M.ofOpt (fAddr 5 v20)) h20) fun v21 h21 =>
  ob ((ld1 v21) h21) fun v22 h22 =>
  ob ((M.ofOpt (minmax Try.prog true [v22, (.int .i64 0)])) h22) fun v23 h23 =>
  ob ((M.ofOpt (bin Try.prog .rem 3 v23 x5)) h23) fun v24 h24 =>
  ob ((O (.func 19) [x6, v24]) h24) fun v25 h25 =>
  ifB (true) (
  ob ((M.ofOpt (iAddr 1 x7 v24)) h25) fun v26 h26 =>
  ob ((ld1 v26) h26) fun v27 h27 =>
  ifB (chk ((ld1 v26) h24) v27 && (true)) (
  ob ((M.ofOpt (bin Try.prog .eql 3 v27 (.int .i64 1))) h27) fun v28 h28 =>
  ob ((M.ofOpt (bin Try.prog .neq 4 v25 v28)) h28) fun v29 h29 =>
  iteV v29 (
  k .ret [x0, x1, x2, x3, (.bool false), x5, x6, x7, x8, x9, x10, v24, x12, x13, x14, x15, x16, x17, x18, x19, x20, x21, x22, x23, x24, x25, x26, x27, x28, x29, x30, x31, x32, x33, x34, x35, x36, x10, x1, v13, v14, x41, x42, x1, x10, v15, v16, v17, v18, v19, x1, x10, v20, v21, v22, v23, x5, v24, x6, v24, v25, x7, v24, v26, v27, v28, v29, x67, x68, x69, x70, x71, x72, x73, x74, x75, x76, x77, x78, x79, x80, x81, x82, x83, x84, x85, x86, x87, x88, x89, x90, x91, x92, x93, x94, x95, x96, x97, x98, x99, x100, x101, x102, x103, x104, x105, x106, x107, x108, x109, x110, x111, x112, x113, x114, x115, x116, x117, x118, x119, x120, x121, x122, x123, x124, x125, x126, x127, x128, x129, x130, x131, x132, x133, x134, x135, x136, x137, x138, x139, x140, x141, x142, x143, x144, x145, x146, x147, x148, x149, x150, x151, x152, x153, x154, x155, x156, x157, x158] h29) (
  ob ((M.ofOpt (iAddr 1 x7 v24)) h29) fun v30 h30 =>
  ob ((ld1 v30) h30) fun v31 h31 =>
  ob ((M.ofOpt (bin Try.prog .sub 3 x9 v31)) h31) fun v32 h32 =>
  ob ((M.ofOpt (iAddr 1 x7 v24)) h32) fun v33 h33 =>
  ob ((stN 1 v33 (.int .i64 0)) h33) fun v34 h34 =>
  ob ((O (.func 18) [x6]) h34) fun v35 h35 =>
  ob ((M.ofOpt (bin Try.prog .sub 3 x5 v32)) h35) fun v36 h36 =>
  ob ((M.ofOpt (bin Try.prog .neq 3 v35 v36)) h36) fun v37 h37 =>
  iteV v37 (
  k .ret [x0, x1, x2, x3, (.bool false), x5, x6, x7, x8, v32, x10, v24, x12, x13, x14, x15, x16, x17, x18, x19, x20, x21, x22, x23, x24, x25, x26, x27, x28, x29, x30, x31, x32, x33, x34, x35, x36, x10, x1, v13, v14, x41, x42, x1, x10, v15, v16, v17, v18, v19, x1, x10, v20, v21, v22, v23, x5, v24, x6, v24, v25, x7, v24, v26, v27, v28, v29, x9, x7, v24, v30, v31, v32, x7, v24, v33, x76, x77, x78, x79, x80, x81, x82, x83, x84, x85, x86, x87, x88, x89, x90, x91, x92, x93, x94, x95, x96, x97, x98, x99, x100, x101, x102, x103, x104, x105, x106, x107, x108, x109, x110, x111, x112, x113, x114, x115, x116, x117, x118, x119, x120, x121, x122, x123, x6, v35, x5, v32, v36, v37, x130, x131, x132, x133, x134, x135, x136, x137, x138, x139, x140, x141, x142, x143, x144, x145, x146, x147, x148, x149, x150, x151, x152, x153, x154, x155, x156, x157, x158] h37) (
  ob ((M.ofOpt (bin Try.prog .add 3 x10 (.int .i64 1))) h37) fun v38 h38 =>
  k .normal [x0, x1, x2, x3, x4, x5, x6, x7, x8, v32, v38, v24, x12, x13, x14, x15, x16, x17, x18, x19, x20, x21, x22, x23, x24, x25, x26, x27, x28, x29, x30, x31, x32, x33, x34, x35, x36, x10, x1, v13, v14, x10, v38, x1, x10, v15, v16, v17, v18, v19, x1, x10, v20, v21, v22, v23, x5, v24, x6, v24, v25, x7, v24, v26, v27, v28, v29, x9, x7, v24, v30, v31, v32, x7, v24, v33, x76, x77, x78, x79, x80, x81, x82, x83, x84, x85, x86, x87, x88, x89, x90, x91, x92, x93, x94, x95, x96, x97, x98, x99, x100, x101, x102, x103, x104, x105, x106, x107, x108, x109, x110, x111, x112, x113, x114, x115, x116, x117, x118, x119, x120, x121, x122, x123, x6, v35, x5, v32, v36, v37, x130, x131, x132, x133, x134, x135, x136, x137, x138, x139, x140, x141, x142, x143, x144, x145, x146, x147, x148, x149, x150, x151, x152, x153, x154, x155, x156, x157, x158] h38))))) (
  ob ((M.ofOpt (iAddr 6 x1 x10)) h19) fun v39 h39 =>
  ob ((M.ofOpt (fAddr 1 v39)) h39) fun v40 h40 =>
  ob ((ldN 4 v40) h40) fun v41 h41 =>
  ob ((O (.func 20) [x6, v41]) h41) fun v42 h42 =>
  ob ((M.ofOpt (ext 0 v42)) h42) fun v43 h43 =>
  ob ((M.ofOpt (ext 1 v42)) h43) fun v44 h44 =>
  ob ((M.ofOpt (bin Try.prog .lss 3 x9 x5)) h44) fun v45 h45 =>
  ob ((M.ofOpt (bin Try.prog .neq 4 v44 v45)) h45) fun v46 h46 =>
  ob ((gd v46 false (M.ret v44)) h46) fun v47 h47 =>
  ob ((gd v46 false (M.ret v47)) h47) fun v48 h48 =>
  ob ((gd v48 true (M.ret v43)) h48) fun v49 h49 =>
  ob ((gd v48 true (M.ofOpt (bin Try.prog .lss 3 v49 (.int .i64 0)))) h49) fun v50 h50 =>
  ob ((gd v48 true (M.ret v50)) h50) fun v51 h51 =>
  ob ((gd v51 false (M.ret v43)) h51) fun v52 h52 =>
  ob ((gd v51 false (M.ret x5)) h52) fun v53 h53 =>
  ob ((gd v51 false (M.ofOpt (bin Try.prog .geq 3 v52 v53))) h53) fun v54 h54 =>
  ob ((gd v48 true (M.ofOpt (pick v51 (.bool true) v54))) h54) fun v55 h55 =>
  ob ((gd v48 true (M.ret v55)) h55) fun v56 h56 =>
  ob ((gd v56 false (M.ret x7)) h56) fun v57 h57 =>
  ob ((gd v56 false (M.ret v43)) h57) fun v58 h58 =>
  ob ((gd v56 false (M.ofOpt (iAddr 1 v57 v58))) h58) fun v59 h59 =>
  ob ((gd v56 false (ld1 v59)) h59) fun v60 h60 =>
  ob ((gd v56 false (M.ofOpt (bin Try.prog .eql 3 v60 (.int .i64 1)))) h60) fun v61 h61 =>
  ob ((gd v48 true (M.ofOpt (pick v56 (.bool true) v61))) h61) fun v62 h62 =>
  ob ((gd v46 false (M.ofOpt (pick v48 v62 (.bool false)))) h62) fun v63 h63 =>
  ob ((M.ofOpt (pick v46 (.bool true) v63)) h63) fun v64 h64 =>
  iteV v64 (
  k .ret [x0, x1, x2, x3, (.bool false), x5, x6, x7, x8, x9, x10, x11, v43, v44, x14, x15, x16, x17, x18, x19, x20, x21, x22, x23, x24, x25, x26, x27, x28, x29, x30, x31, x32, x33, x34, x35, x36, x10, x1, v13, v14, x41, x42, x1, x10, v15, v16, v17, v18, v19, x50, x51, x52, x53, x54, x55, x56, x57, x58, x59, x60, x61, x62, x63, x64, x65, x66, x67, x68, x69, x70, x71, x72, x73, x74, x75, v42, x6, x1, x10, v39, v40, v41, v42, v43, v44, v44, x9, x5, v45, v46, v46, v47, v48, v49, v50, v51, v52, v53, v54, v55, v56, v57, v58, v59, v60, v61, v62, v63, v64, x110, x111, x112, x113, x114, x115, x116, x117, x118, x119, x120, x121, x122, x123, x124, x125, x126, x127, x128, x129, x130, x131, x132, x133, x134, x135, x136, x137, x138, x139, x140, x141, x142, x143, x144, x145, x146, x147, x148, x149, x150, x151, x152, x153, x154, x155, x156, x157, x158] h64) (
  iteV v44 (
  ob ((M.ofOpt (iAddr 1 x7 v43)) h64) fun v65 h65 =>
  ob ((stN 1 v65 (.int .i64 1)) h65) fun v66 h66 =>
  ob ((M.ofOpt (iAddr 6 x1 x10)) h66) fun v67 h67 =>
  ob ((M.ofOpt (fAddr 1 v67)) h67) fun v68 h68 =>
  ob ((ldN 4 v68) h68) fun v69 h69 =>
  ob ((M.ofOpt (iAddr 4 x8 v43)) h69) fun v70 h70 =>
  ob ((stN 4 v70 v69) h70) fun v71 h71 =>
  ob ((M.ofOpt (bin Try.prog .add 3 x9 (.int .i64 1))) h71) fun v72 h72 =>
  ob ((O (.func 18) [x6]) h72) fun v73 h73 =>
  ob ((M.ofOpt (bin Try.prog .sub 3 x5 v72)) h73) fun v74 h74 =>
  ob ((M.ofOpt (bin Try.prog .neq 3 v73 v74)) h74) fun v75 h75 =>
  iteV v75 (
  k .ret [x0, x1, x2, x3, (.bool false), x5, x6, x7, x8, v72, x10, x11, v43, v44, x14, x15, x16, x17, x18, x19, x20, x21, x22, x23, x24, x25, x26, x27, x28, x29, x30, x31, x32, x33, x34, x35, x36, x10, x1, v13, v14, x41, x42, x1, x10, v15, v16, v17, v18, v19, x50, x51, x52, x53, x54, x55, x56, x57, x58, x59, x60, x61, x62, x63, x64, x65, x66, x67, x68, x69, x70, x71, x72, x73, x74, x75, v42, x6, x1, x10, v39, v40, v41, v42, v43, v44, v44, x9, x5, v45, v46, v46, v47, v48, v49, v50, v51, v52, v53, v54, v55, v56, v57, v58, v59, v60, v61, v62, v63, v64, v44, x7, v43, v65, x8, v43, x1, x10, v67, v68, v69, v70, x9, v72, x6, v73, x5, v72, v74, v75, x130, x131, x132, x133, x134, x135, x136, x137, x138, x139, x140, x141, x142, x143, x144, x145, x146, x147, x148, x149, x150, x151, x152, x153, x154, x155, x156, x157, x158] h75) (
  ob ((M.ofOpt (bin Try.prog .add 3 x10 (.int .i64 1))) h75) fun v76 h76 =>
  k .normal [x0, x1, x2, x3, x4, x5, x6, x7, x8, v72, v76, x11, v43, v44, x14, x15, x16, x17, x18, x19, x20, x21, x22, x23, x24, x25, x26, x27, x28, x29, x30, x31, x32, x33, x34, x35, x36, x10, x1, v13, v14, x10, v76, x1, x10, v15, v16, v17, v18, v19, x50, x51, x52, x53, x54, x55, x56, x57, x58, x59, x60, x61, x62, x63, x64, x65, x66, x67, x68, x69, x70, x71, x72, x73, x74, x75, v42, x6, x1, x10, v39, v40, v41, v42, v43, v44, v44, x9, x5, v45, v46, v46, v47, v48, v49, v50, v51, v52, v53, v54, v55, v56, v57, v58, v59, v60, v61, v62, v63, v64, v44, x7, v43, v65, x8, v43, x1, x10, v67, v68, v69, v70, x9, v72, x6, v73, x5, v72, v74, v75, x130, x131, x132, x133, x134, x135, x136, x137, x138, x139, x140, x141, x142, x143, x144, x145, x146, x147, x148, x149, x150, x151, x152, x153, x154, x155, x156, x157, x158] h76)) (
  ob ((O (.func 18) [x6]) h64) fun v77 h77 =>
  ob ((M.ofOpt (bin Try.prog .sub 3 x5 x9)) h77) fun v78 h78 =>
  ob ((M.ofOpt (bin Try.prog .neq 3 v77 v78)) h78) fun v79 h79 =>
  iteV v79 (
  k .ret [x0, x1, x2, x3, (.bool false), x5, x6, x7, x8, x9, x10, x11, v43, v44, x14, x15, x16, x17, x18, x19, x20, x21, x22, x23, x24, x25, x26, x27, x28, x29, x30, x31, x32, x33, x34, x35, x36, x10, x1, v13, v14, x41, x42, x1, x10, v15, v16, v17, v18, v19, x50, x51, x52, x53, x54, x55, x56, x57, x58, x59, x60, x61, x62, x63, x64, x65, x66, x67, x68, x69, x70, x71, x72, x73, x74, x75, v42, x6, x1, x10, v39, v40, v41, v42, v43, v44, v44, x9, x5, v45, v46, v46, v47, v48, v49, v50, v51, v52, v53, v54, v55, v56, v57, v58, v59, v60, v61, v62, v63, v64, v44, x111, x112, x113, x114, x115, x116, x117, x118, x119, x120, x121, x122, x123, x6, v77, x5, x9, v78, v79, x130, x131, x132, x133, x134, x135, x136, x137, x138, x139, x140, x141, x142, x143, x144, x145, x146, x147, x148, x149, x150, x151, x152, x153, x154, x155, x156, x157, x158] h79) (
  ob ((M.ofOpt (bin Try.prog .add 3 x10 (.int .i64 1))) h79) fun v80 h80 =>
  k .normal [x0, x1, x2, x3, x4, x5, x6, x7, x8, x9, v80, x11, v43, v44, x14, x15, x16, x17, x18, x19, x20, x21, x22, x23, x24, x25, x26, x27, x28, x29, x30, x31, x32, x33, x34, x35, x36, x10, x1, v13, v14, x10, v80, x1, x10, v15, v16, v17, v18, v19, x50, x51, x52, x53, x54, x55, x56, x57, x58, x59, x60, x61, x62, x63, x64, x65, x66, x67, x68, x69, x70, x71, x72, x73, x74, x75, v42, x6, x1, x10, v39, v40, v41, v42, v43, v44, v44, x9, x5, v45, v46, v46, v47, v48, v49, v50, v51, v52, v53, v54, v55, v56, v57, v58, v59, v60, v61, v62, v63, v64, v44, x111, x112, x113, x114, x115, x116, x117, x118, x119, x120, x121, x122, x123, x6, v77, x5, x9, v78, v79, x130, x131, x132, x133, x134, x135, x136, x137, x138, x139, x140, x141, x142, x143, x144, x145, x146, x147, x148, x149, x150, x151, x152, x153, x154, x155, x156, x157, x158] h80))))) (
  k (.exit 0) [x0, x1, x2, x3, x4, x5, x6, x7, x8, x9, x10, x11, x12, x13, x14, x15, x16, x17, x18, x19, x20, x21, x22, x23, x24, x25, x26, x27, x28, x29, x30, x31, x32, x33, x34, x35, x36, x10, x1, v13, v14, x41, x42, x43, x44, x45, x46, x47, x48, x49, x50, x51, x52, x53, x54, x55, x56, x57, x58, x59, x60, x61, x62, x63, x64, x65, x66, x67, x68, x69, x70, x71, x72, x73, x74, x75, x76, x77, x78, x79, x80, x81, x82, x83, x84, x85, x86, x87, x88, x89, x90, x91, x92, x93, x94, x95, x96, x97, x98, x99, x100, x101, x102, x103, x104, x105, x106, x107, x108, x109, x110, x111, x112, x113, x114, x115, x116, x117, x118, x119, x120, x121, x122, x123, x124, x125, x126, x127, x128, x129, x130, x131, x132, x133, x134, x135, x136, x137, x138, x139, x140, x141, x142, x143, x144, x145, x146, x147, x148, x149, x150, x151, x152, x153, x154, x155, x156, x157, x158] h14)
theorem f7_b0_eq (O : Oracle) (L : Loops (Value × Heap)) (k : Ex → K (Value × Heap)) (x0 x1 x2 x3 x4 x5 x6 x7 x8 x9 x10 x11 x12 x13 x14 x15 x16 x17 x18 x19 x20 x21 x22 x23 x24 x25 x26 x27 x28 x29 x30 x31 x32 x33 x34 x35 x36 x37 x38 x39 x40 x41 x42 x43 x44 x45 x46 x47 x48 x49 x50 x51 x52 x53 x54 x55 x56 x57 x58 x59 x60 x61 x62 x63 x64 x65 x66 x67 x68 x69 x70 x71 x72 x73 x74 x75 x76 x77 x78 x79 x80 x81 x82 x83 x84 x85 x86 x87 x88 x89 x90 x91 x92 x93 x94 x95 x96 x97 x98 x99 x100 x101 x102 x103 x104 x105 x106 x107 x108 x109 x110 x111 x112 x113 x114 x115 x116 x117 x118 x119 x120 x121 x122 x123 x124 x125 x126 x127 x128 x129 x130 x131 x132 x133 x134 x135 x136 x137 x138 x139 x140 x141 x142 x143 x144 x145 x146 x147 x148 x149 x150 x151 x152 x153 x154 x155 x156 x157 x158 : Value) (h : Heap) :
    runCode Try.prog O L f7_c0 k [x0, x1, x2, x3, x4, x5, x6, x7, x8, x9, x10, x11, x12, x13, x14, x15, x16, x17, x18, x19, x20, x21, x22, x23, x24, x25, x26, x27, x28, x29, x30, x31, x32, x33, x34, x35, x36, x37, x38, x39, x40, x41, x42, x43, x44, x45, x46, x47, x48, x49, x50, x51, x52, x53, x54, x55, x56, x57, x58, x59, x60, x61, x62, x63, x64, x65, x66, x67, x68, x69, x70, x71, x72, x73, x74, x75, x76, x77, x78, x79, x80, x81, x82, x83, x84, x85, x86, x87, x88, x89, x90, x91, x92, x93, x94, x95, x96, x97, x98, x99, x100, x101, x102, x103, x104, x105, x106, x107, x108, x109, x110, x111, x112, x113, x114, x115, x116, x117, x118, x119, x120, x121, x122, x123, x124, x125, x126, x127, x128, x129, x130, x131, x132, x133, x134, x135, x136, x137, x138, x139, x140, x141, x142, x143, x144, x145, x146, x147, x148, x149, x150, x151, x152, x153, x154, x155, x156, x157, x158] h = f7_b0 O L k x0 x1 x2 x3 x4 x5 x6 x7 x8 x9 x10 x11 x12 x13 x14 x15 x16 x17 x18 x19 x20 x21 x22 x23 x24 x25 x26 x27 x28 x29 x30 x31 x32 x33 x34 x35 x36 x37 x38 x39 x40 x41 x42 x43 x44 x45 x46 x47 x48 x49 x50 x51 x52 x53 x54 x55 x56 x57 x58 x59 x60 x61 x62 x63 x64 x65 x66 x67 x68 x69 x70 x71 x72 x73 x74 x75 x76 x77 x78 x79 x80 x81 x82 x83 x84 x85 x86 x87 x88 x89 x90 x91 x92 x93 x94 x95 x96 x97 x98 x99 x100 x101 x102 x103 x104 x105 x106 x107 x108 x109 x110 x111 x112 x113 x114 x115 x116 x117 x118 x119 x120 x121 x122 x123 x124 x125 x126 x127 x128 x129 x130 x131 x132 x133 x134 x135 x136 x137 x138 x139 x140 x141 x142 x143 x144 x145 x146 x147 x148 x149 x150 x151 x152 x153 x154 x155 x156 x157 x158 h := by kernel_rfl
noncomputable def f7 (O : Oracle) (L : Loops (Value × Heap)) (a0 a1 : Value) (h : Heap) : Option (Value × Heap) :=
  ob ((M.ofOpt (lenSl a1)) h) fun v0 h0 =>
  ob ((M.ofOpt (bin Try.prog .gtr 3 v0 (.int .i64 200))) h0) fun v1 h1 =>
  ob ((gd v1 false (O (.func 16) [])) h1) fun v2 h2 =>
  ob ((gd v1 false (M.ofOpt (un Try.prog .not v2))) h2) fun v3 h3 =>
  ob ((M.ofOpt (pick v1 (.bool true) v3)) h3) fun v4 h4 =>
  iteV v4 (
  ob ((O (.func 16) []) h4) fun v5 h5 =>
  some (oneOf [v5], h5)) (
  ob ((M.ofOpt (bin Try.prog .rem 5 a0 (.int .u8 200))) h4) fun v6 h6 =>
  ob ((conv Try.prog 5 3 v6) h6) fun v7 h7 =>
  ob ((M.ofOpt (bin Try.prog .add 3 (.int .i64 1) v7)) h7) fun v8 h8 =>
  ob ((O (.func 15) [v8]) h8) fun v9 h9 =>
  ob ((M.ofOpt (bin Try.prog .eql 22 v9 (.pointer none))) h9) fun v10 h10 =>
  iteV v10 (
  some (oneOf [(.bool false)], h10)) (
  ob ((mkSlice 3 1 8 [(.int .i64 0)] v8 v8) h10) fun v11 h11 =>
  ob ((mkSlice 27 4 32 [(.int .i64 0), (.int .i64 0), (.int .i64 0), (.int .u32 0)] v8 v8) h11) fun v12 h12 =>
  L (runCode Try.prog O L f7_c0) (f7_k0 O L) [a0, a1, undef, undef, (.bool false), v8, v9, v11, v12, (.int .i64 0), (.int .i64 0), undef, undef, undef, undef, undef, undef, a1, v0, v1, v1, v2, v3, v4, undef, a0, v6, v7, v8, v8, v9, v9, v10, v8, v11, v8, v12, undef, undef, undef, undef, undef, undef, undef, undef, undef, undef, undef, undef, undef, undef, undef, undef, undef, undef, undef, undef, undef, undef, undef, undef, undef, undef, undef, undef, undef, undef, undef, undef, undef, undef, undef, undef, undef, undef, undef, undef, undef, undef, undef, undef, undef, undef, undef, undef, undef, undef, undef, undef, undef, undef, undef, undef, undef, undef, undef, undef, undef, undef, undef, undef, undef, undef, undef, undef, undef, undef, undef, undef, undef, undef, undef, undef, undef, undef, undef, undef, undef, undef, undef, undef, undef, undef, undef, undef, undef, undef, undef, undef, undef, undef, undef, undef, undef, undef, undef, undef, undef, undef, undef, undef, undef, undef, undef, undef, undef, undef, undef, undef, undef, undef, undef, undef, undef, undef, undef, undef, undef, undef] h12))
theorem f7_eq (O : Oracle) (L : Loops (Value × Heap)) (a0 a1 : Value) (h : Heap) :
    body Try.prog O L 7 [a0, a1] h = f7 O L a0 a1 h := by kernel_rfl

/-! 8: shunter/shunterlaw07.PoolLast; slots: [(l, 0), (l, 1), (p, 3), (i, 4), (order, 5), (i, 6), (k, 7), (i, 8), (k, 9), (is, 10), (_, 11), (is, 12)] -/
noncomputable def f8_c2 : Code := sub [1, 1, 1, 1, 1, 1, 0, 1, 0, 0] (fbody Try.prog 8)
noncomputable def f8_k2 (O : Oracle) (L : Loops (Value × Heap)) : Ex → K (Value × Heap) := (blockK 4 (seqK Try.prog O L (sub [1, 1, 1, 1, 1, 1, 1] (fbody Try.prog 8)) (kRet Try.prog Try.f8)))
noncomputable def f8_e2_4 (O : Oracle) (L : Loops (Value × Heap)) (x0 x1 x2 x3 x4 x5 x6 x7 x8 x9 x10 x11 x12 x13 x14 x15 x16 x17 x18 x19 x20 x21 x22 x23 x24 x25 x26 x27 x28 x29 x30 x31 x32 x33 x34 x35 x36 x37 x38 x39 x40 x41 x42 x43 x44 x45 x46 x47 x48 x49 x50 x51 x52 x53 x54 x55 x56 x57 x58 x59 x60 x61 x62 x63 x64 x65 x66 x67 x68 x69 x70 x71 x72 x73 x74 x75 x76 x77 x78 x79 x80 x81 x82 x83 x84 x85 x86 x87 : Value) (h : Heap) : Option (Value × Heap) :=
  ob ((M.ofOpt (bld Try.prog 27 [])) h) fun v41 h41 =>
  ob ((O (.func 20) [x3, v41]) h41) fun v42 h42 =>
  ob ((M.ofOpt (ext 0 v42)) h42) fun v43 h43 =>
  ob ((M.ofOpt (ext 1 v42)) h43) fun v44 h44 =>
  ob ((O (.func 16) []) h44) fun v45 h45 =>
  ob ((gd v45 true (M.ret v44)) h45) fun v46 h46 =>
  ob ((gd v45 true (M.ofOpt (un Try.prog .not v46))) h46) fun v47 h47 =>
  ob ((M.ofOpt (pick v45 v47 (.bool false))) h47) fun v48 h48 =>
  some (oneOf [v48], h48)
theorem f8_e2_4_eq (O : Oracle) (L : Loops (Value × Heap)) (x0 x1 x2 x3 x4 x5 x6 x7 x8 x9 x10 x11 x12 x13 x14 x15 x16 x17 x18 x19 x20 x21 x22 x23 x24 x25 x26 x27 x28 x29 x30 x31 x32 x33 x34 x35 x36 x37 x38 x39 x40 x41 x42 x43 x44 x45 x46 x47 x48 x49 x50 x51 x52 x53 x54 x55 x56 x57 x58 x59 x60 x61 x62 x63 x64 x65 x66 x67 x68 x69 x70 x71 x72 x73 x74 x75 x76 x77 x78 x79 x80 x81 x82 x83 x84 x85 x86 x87 : Value) (h : Heap) :
    f8_k2 O L (.exit 4) [x0, x1, x2, x3, x4, x5, x6, x7, x8, x9, x10, x11, x12, x13, x14, x15, x16, x17, x18, x19, x20, x21, x22, x23, x24, x25, x26, x27, x28, x29, x30, x31, x32, x33, x34, x35, x36, x37, x38, x39, x40, x41, x42, x43, x44, x45, x46, x47, x48, x49, x50, x51, x52, x53, x54, x55, x56, x57, x58, x59, x60, x61, x62, x63, x64, x65, x66, x67, x68, x69, x70, x71, x72, x73, x74, x75, x76, x77, x78, x79, x80, x81, x82, x83, x84, x85, x86, x87] h = f8_e2_4 O L x0 x1 x2 x3 x4 x5 x6 x7 x8 x9 x10 x11 x12 x13 x14 x15 x16 x17 x18 x19 x20 x21 x22 x23 x24 x25 x26 x27 x28 x29 x30 x31 x32 x33 x34 x35 x36 x37 x38 x39 x40 x41 x42 x43 x44 x45 x46 x47 x48 x49 x50 x51 x52 x53 x54 x55 x56 x57 x58 x59 x60 x61 x62 x63 x64 x65 x66 x67 x68 x69 x70 x71 x72 x73 x74 x75 x76 x77 x78 x79 x80 x81 x82 x83 x84 x85 x86 x87 h := by kernel_rfl
noncomputable def f8_r2 (O : Oracle) (L : Loops (Value × Heap)) (x0 x1 x2 x3 x4 x5 x6 x7 x8 x9 x10 x11 x12 x13 x14 x15 x16 x17 x18 x19 x20 x21 x22 x23 x24 x25 x26 x27 x28 x29 x30 x31 x32 x33 x34 x35 x36 x37 x38 x39 x40 x41 x42 x43 x44 x45 x46 x47 x48 x49 x50 x51 x52 x53 x54 x55 x56 x57 x58 x59 x60 x61 x62 x63 x64 x65 x66 x67 x68 x69 x70 x71 x72 x73 x74 x75 x76 x77 x78 x79 x80 x81 x82 x83 x84 x85 x86 x87 : Value) (h : Heap) : Option (Value × Heap) :=
  some (oneOf [x2], h)
theorem f8_r2_eq (O : Oracle) (L : Loops (Value × Heap)) (x0 x1 x2 x3 x4 x5 x6 x7 x8 x9 x10 x11 x12 x13 x14 x15 x16 x17 x18 x19 x20 x21 x22 x23 x24 x25 x26 x27 x28 x29 x30 x31 x32 x33 x34 x35 x36 x37 x38 x39 x40 x41 x42 x43 x44 x45 x46 x47 x48 x49 x50 x51 x52 x53 x54 x55 x56 x57 x58 x59 x60 x61 x62 x63 x64 x65 x66 x67 x68 x69 x70 x71 x72 x73 x74 x75 x76 x77 x78 x79 x80 x81 x82 x83 x84 x85 x86 x87 : Value) (h : Heap) :
    f8_k2 O L .ret [x0, x1, x2, x3, x4, x5, x6, x7, x8, x9, x10, x11, x12, x13, x14, x15, x16, x17, x18, x19, x20, x21, x22, x23, x24, x25, x26, x27, x28, x29, x30, x31, x32, x33, x34, x35, x36, x37, x38, x39, x40, x41, x42, x43, x44, x45, x46, x47, x48, x49, x50, x51, x52, x53, x54, x55, x56, x57, x58, x59, x60, x61, x62, x63, x64, x65, x66, x67, x68, x69, x70, x71, x72, x73, x74, x75, x76, x77, x78, x79, x80, x81, x82, x83, x84, x85, x86, x87] h = f8_r2 O L x0 x1 x2 x3 x4 x5 x6 x7 x8 x9 x10 x11 x12 x13 x14 x15 x16 x17 x18 x19 x20 x21 x22 x23 x24 x25 x26 x27 x28 x29 x30 x31 x32 x33 x34 x35 x36 x37 x38 x39 x40 x41 x42 x43 x44 x45 x46 x47 x48 x49 x50 x51 x52 x53 x54 x55 x56 x57 x58 x59 x60 x61 x62 x63 x64 x65 x66 x67 x68 x69 x70 x71 x72 x73 x74 x75 x76 x77 x78 x79 x80 x81 x82 x83 x84 x85 x86 x87 h := by kernel_rfl
noncomputable def f8_b2 (O : Oracle) (L : Loops (Value × Heap)) (k : Ex → K (Value × Heap)) (x0 x1 x2 x3 x4 x5 x6 x7 x8 x9 x10 x11 x12 x13 x14 x15 x16 x17 x18 x19 x20 x21 x22 x23 x24 x25 x26 x27 x28 x29 x30 x31 x32 x33 x34 x35 x36 x37 x38 x39 x40 x41 x42 x43 x44 x45 x46 x47 x48 x49 x50 x51 x52 x53 x54 x55 x56 x57 x58 x59 x60 x61 x62 x63 x64 x65 x66 x67 x68 x69 x70 x71 x72 x73 x74 x75 x76 x77 x78 x79 x80 x81 x82 x83 x84 x85 x86 x87 : Value) (h : Heap) : Option (Value × Heap) :=
  ob ((M.ofOpt (bin Try.prog .geq 3 x8 (.int .i64 0))) h) fun v27 h27 =>
  iteV v27 (
  ob ((M.ofOpt (bld Try.prog 27 [])) h27) fun v28 h28 =>
  ob ((O (.func 20) [x3, v28]) h28) fun v29 h29 =>
  ob ((M.ofOpt (ext 0 v29)) h29) fun v30 h30 =>
  ob ((M.ofOpt (ext 1 v29)) h30) fun v31 h31 =>
  ob ((M.ofOpt (un Try.prog .not v31)) h31) fun v32 h32 =>
  ob ((gd v32 false (M.ret v30)) h32) fun v33 h33 =>
  ob ((gd v32 false (M.ret x5)) h33) fun v34 h34 =>
  ob ((gd v32 false (M.ret x8)) h34) fun v35 h35 =>
  ob ((gd v32 false (M.ofOpt (iAddr 1 v34 v35))) h35) fun v36 h36 =>
  ob ((gd v32 false (ld1 v36)) h36) fun v37 h37 =>
  ob ((gd v32 false (M.ofOpt (bin Try.prog .neq 3 v33 v37))) h37) fun v38 h38 =>
  ob ((M.ofOpt (pick v32 (.bool true) v38)) h38) fun v39 h39 =>
  iteV v39 (
  k .ret [x0, x1, (.bool false), x3, x4, x5, x6, x7, x8, v30, v31, x11, x12, x13, x14, x15, x16, x17, x18, x19, x20, x21, x22, x23, x24, x25, x26, x27, x28, x29, x30, x31, x32, x33, x34, x35, x36, x37, x38, x39, x40, x41, x42, x43, x44, x45, x46, x47, x48, x49, x50, x51, x52, x53, x54, x55, x56, x8, v27, x59, x60, v29, x3, v28, v29, v30, v31, v31, v32, v32, v33, v34, v35, v36, v37, v38, v39, x77, x78, x79, x80, x81, x82, x83, x84, x85, x86, x87] h39) (
  ob ((M.ofOpt (bin Try.prog .sub 3 x8 (.int .i64 1))) h39) fun v40 h40 =>
  k .normal [x0, x1, x2, x3, x4, x5, x6, x7, v40, v30, v31, x11, x12, x13, x14, x15, x16, x17, x18, x19, x20, x21, x22, x23, x24, x25, x26, x27, x28, x29, x30, x31, x32, x33, x34, x35, x36, x37, x38, x39, x40, x41, x42, x43, x44, x45, x46, x47, x48, x49, x50, x51, x52, x53, x54, x55, x56, x8, v27, x8, v40, v29, x3, v28, v29, v30, v31, v31, v32, v32, v33, v34, v35, v36, v37, v38, v39, x77, x78, x79, x80, x81, x82, x83, x84, x85, x86, x87] h40)) (
  k (.exit 4) [x0, x1, x2, x3, x4, x5, x6, x7, x8, x9, x10, x11, x12, x13, x14, x15, x16, x17, x18, x19, x20, x21, x22, x23, x24, x25, x26, x27, x28, x29, x30, x31, x32, x33, x34, x35, x36, x37, x38, x39, x40, x41, x42, x43, x44, x45, x46, x47, x48, x49, x50, x51, x52, x53, x54, x55, x56, x8, v27, x59, x60, x61, x62, x63, x64, x65, x66, x67, x68, x69, x70, x71, x72, x73, x74, x75, x76, x77, x78, x79, x80, x81, x82, x83, x84, x85, x86, x87] h27)
theorem f8_b2_eq (O : Oracle) (L : Loops (Value × Heap)) (k : Ex → K (Value × Heap)) (x0 x1 x2 x3 x4 x5 x6 x7 x8 x9 x10 x11 x12 x13 x14 x15 x16 x17 x18 x19 x20 x21 x22 x23 x24 x25 x26 x27 x28 x29 x30 x31 x32 x33 x34 x35 x36 x37 x38 x39 x40 x41 x42 x43 x44 x45 x46 x47 x48 x49 x50 x51 x52 x53 x54 x55 x56 x57 x58 x59 x60 x61 x62 x63 x64 x65 x66 x67 x68 x69 x70 x71 x72 x73 x74 x75 x76 x77 x78 x79 x80 x81 x82 x83 x84 x85 x86 x87 : Value) (h : Heap) :
    runCode Try.prog O L f8_c2 k [x0, x1, x2, x3, x4, x5, x6, x7, x8, x9, x10, x11, x12, x13, x14, x15, x16, x17, x18, x19, x20, x21, x22, x23, x24, x25, x26, x27, x28, x29, x30, x31, x32, x33, x34, x35, x36, x37, x38, x39, x40, x41, x42, x43, x44, x45, x46, x47, x48, x49, x50, x51, x52, x53, x54, x55, x56, x57, x58, x59, x60, x61, x62, x63, x64, x65, x66, x67, x68, x69, x70, x71, x72, x73, x74, x75, x76, x77, x78, x79, x80, x81, x82, x83, x84, x85, x86, x87] h = f8_b2 O L k x0 x1 x2 x3 x4 x5 x6 x7 x8 x9 x10 x11 x12 x13 x14 x15 x16 x17 x18 x19 x20 x21 x22 x23 x24 x25 x26 x27 x28 x29 x30 x31 x32 x33 x34 x35 x36 x37 x38 x39 x40 x41 x42 x43 x44 x45 x46 x47 x48 x49 x50 x51 x52 x53 x54 x55 x56 x57 x58 x59 x60 x61 x62 x63 x64 x65 x66 x67 x68 x69 x70 x71 x72 x73 x74 x75 x76 x77 x78 x79 x80 x81 x82 x83 x84 x85 x86 x87 h := by kernel_rfl
noncomputable def f8_c1 : Code := sub [1, 1, 1, 1, 1, 0, 1, 0, 0] (fbody Try.prog 8)
noncomputable def f8_k1 (O : Oracle) (L : Loops (Value × Heap)) : Ex → K (Value × Heap) := (blockK 2 (seqK Try.prog O L (sub [1, 1, 1, 1, 1, 1] (fbody Try.prog 8)) (kRet Try.prog Try.f8)))
noncomputable def f8_e1_2 (O : Oracle) (L : Loops (Value × Heap)) (x0 x1 x2 x3 x4 x5 x6 x7 x8 x9 x10 x11 x12 x13 x14 x15 x16 x17 x18 x19 x20 x21 x22 x23 x24 x25 x26 x27 x28 x29 x30 x31 x32 x33 x34 x35 x36 x37 x38 x39 x40 x41 x42 x43 x44 x45 x46 x47 x48 x49 x50 x51 x52 x53 x54 x55 x56 x57 x58 x59 x60 x61 x62 x63 x64 x65 x66 x67 x68 x69 x70 x71 x72 x73 x74 x75 x76 x77 x78 x79 x80 x81 x82 x83 x84 x85 x86 x87 : Value) (h : Heap) : Option (Value × Heap) :=
  ob ((M.ofOpt (lenSl x5)) h) fun v25 h25 =>
  ob ((M.ofOpt (bin Try.prog .sub 3 v25 (.int .i64 1))) h25) fun v26 h26 =>
  L (runCode Try.prog O L f8_c2) (f8_k2 O L) [x0, x1, x2, x3, x4, x5, x6, x7, v26, x9, x10, x11, x12, x13, x14, x15, x16, x17, x18, x19, x20, x21, x22, x23, x24, x25, x26, x27, x28, x29, x30, x31, x32, x33, x34, x35, x36, x37, x38, x39, x40, x41, x42, x43, x44, x45, x46, x47, x48, x49, x50, x51, x52, x53, x5, v25, v26, x57, x58, x59, x60, x61, x62, x63, x64, x65, x66, x67, x68, x69, x70, x71, x72, x73, x74, x75, x76, x77, x78, x79, x80, x81, x82, x83, x84, x85, x86, x87] h26
theorem f8_e1_2_eq (O : Oracle) (L : Loops (Value × Heap)) (x0 x1 x2 x3 x4 x5 x6 x7 x8 x9 x10 x11 x12 x13 x14 x15 x16 x17 x18 x19 x20 x21 x22 x23 x24 x25 x26 x27 x28 x29 x30 x31 x32 x33 x34 x35 x36 x37 x38 x39 x40 x41 x42 x43 x44 x45 x46 x47 x48 x49 x50 x51 x52 x53 x54 x55 x56 x57 x58 x59 x60 x61 x62 x63 x64 x65 x66 x67 x68 x69 x70 x71 x72 x73 x74 x75 x76 x77 x78 x79 x80 x81 x82 x83 x84 x85 x86 x87 : Value) (h : Heap) :
    f8_k1 O L (.exit 2) [x0, x1, x2, x3, x4, x5, x6, x7, x8, x9, x10, x11, x12, x13, x14, x15, x16, x17, x18, x19, x20, x21, x22, x23, x24, x25, x26, x27, x28, x29, x30, x31, x32, x33, x34, x35, x36, x37, x38, x39, x40, x41, x42, x43, x44, x45, x46, x47, x48, x49, x50, x51, x52, x53, x54, x55, x56, x57, x58, x59, x60, x61, x62, x63, x64, x65, x66, x67, x68, x69, x70, x71, x72, x73, x74, x75, x76, x77, x78, x79, x80, x81, x82, x83, x84, x85, x86, x87] h = f8_e1_2 O L x0 x1 x2 x3 x4 x5 x6 x7 x8 x9 x10 x11 x12 x13 x14 x15 x16 x17 x18 x19 x20 x21 x22 x23 x24 x25 x26 x27 x28 x29 x30 x31 x32 x33 x34 x35 x36 x37 x38 x39 x40 x41 x42 x43 x44 x45 x46 x47 x48 x49 x50 x51 x52 x53 x54 x55 x56 x57 x58 x59 x60 x61 x62 x63 x64 x65 x66 x67 x68 x69 x70 x71 x72 x73 x74 x75 x76 x77 x78 x79 x80 x81 x82 x83 x84 x85 x86 x87 h := by kernel_rfl
noncomputable def f8_b1 (O : Oracle) (L : Loops (Value × Heap)) (k : Ex → K (Value × Heap)) (x0 x1 x2 x3 x4 x5 x6 x7 x8 x9 x10 x11 x12 x13 x14 x15 x16 x17 x18 x19 x20 x21 x22 x23 x24 x25 x26 x27 x28 x29 x30 x31 x32 x33 x34 x35 x36 x37 x38 x39 x40 x41 x42 x43 x44 x45 x46 x47 x48 x49 x50 x51 x52 x53 x54 x55 x56 x57 x58 x59 x60 x61 x62 x63 x64 x65 x66 x67 x68 x69 x70 x71 x72 x73 x74 x75 x76 x77 x78 x79 x80 x81 x82 x83 x84 x85 x86 x87 : Value) (h : Heap) : Option (Value × Heap) :=
  ob ((M.ofOpt (lenSl x0)) h) fun v14 h14 =>
  ob ((M.ofOpt (bin Try.prog .lss 3 x6 v14)) h14) fun v15 h15 =>
  iteV v15 (
  ob ((M.ofOpt (iAddr 1 x0 x6)) h15) fun v16 h16 =>
  ob ((ld1 v16) h16) fun v17 h17 =>
  ob ((M.ofOpt (bin Try.prog .rem 5 v17 (.int .u8 20))) h17) fun v18 h18 =>
  ob ((conv Try.prog 5 3 v18) h18) fun v19 h19 =>
  ob ((O (.func 19) [x3, v19]) h19) fun v20 h20 =>
  iteV v20 (
  ob ((bldSlice 3 1 1 [(.int .i64 0)] [(0, v19)]) h20) fun v21 h21 =>
  ob ((app 3 1 8 x5 v21) h21) fun v22 h22 =>
  ob ((M.ofOpt (bin Try.prog .add 3 x6 (.int .i64 1))) h22) fun v23 h23 =>
  k .normal [x0, x1, x2, x3, x4, v22, v23, v19, x8, x9, x10, x11, x12, x13, x14, x15, x16, x17, x18, x19, x20, x21, x22, x23, x24, x25, x26, x27, x28, x29, x30, x31, x32, x33, x34, x6, x0, v14, v15, x6, v23, x0, x6, v16, v17, v18, v19, x3, v19, v20, x5, v19, v21, v22, x54, x55, x56, x57, x58, x59, x60, x61, x62, x63, x64, x65, x66, x67, x68, x69, x70, x71, x72, x73, x74, x75, x76, x77, x78, x79, x80, x81, x82, x83, x84, x85, x86, x87] h23) (
  ob ((M.ofOpt (bin Try.prog .add 3 x6 (.int .i64 1))) h20) fun v24 h24 =>
  k .normal [x0, x1, x2, x3, x4, x5, v24, v19, x8, x9, x10, x11, x12, x13, x14, x15, x16, x17, x18, x19, x20, x21, x22, x23, x24, x25, x26, x27, x28, x29, x30, x31, x32, x33, x34, x6, x0, v14, v15, x6, v24, x0, x6, v16, v17, v18, v19, x3, v19, v20, x50, x51, x52, x53, x54, x55, x56, x57, x58, x59, x60, x61, x62, x63, x64, x65, x66, x67, x68, x69, x70, x71, x72, x73, x74, x75, x76, x77, x78, x79, x80, x81, x82, x83, x84, x85, x86, x87] h24)) (
  k (.exit 2) [x0, x1, x2, x3, x4, x5, x6, x7, x8, x9, x10, x11, x12, x13, x14, x15, x16, x17, x18, x19, x20, x21, x22, x23, x24, x25, x26, x27, x28, x29, x30, x31, x32, x33, x34, x6, x0, v14, v15, x39, x40, x41, x42, x43, x44, x45, x46, x47, x48, x49, x50, x51, x52, x53, x54, x55, x56, x57, x58, x59, x60, x61, x62, x63, x64, x65, x66, x67, x68, x69, x70, x71, x72, x73, x74, x75, x76, x77, x78, x79, x80, x81, x82, x83, x84, x85, x86, x87] h15)
theorem f8_b1_eq (O : Oracle) (L : Loops (Value × Heap)) (k : Ex → K (Value × Heap)) (x0 x1 x2 x3 x4 x5 x6 x7 x8 x9 x10 x11 x12 x13 x14 x15 x16 x17 x18 x19 x20 x21 x22 x23 x24 x25 x26 x27 x28 x29 x30 x31 x32 x33 x34 x35 x36 x37 x38 x39 x40 x41 x42 x43 x44 x45 x46 x47 x48 x49 x50 x51 x52 x53 x54 x55 x56 x57 x58 x59 x60 x61 x62 x63 x64 x65 x66 x67 x68 x69 x70 x71 x72 x73 x74 x75 x76 x77 x78 x79 x80 x81 x82 x83 x84 x85 x86 x87 : Value) (h : Heap) :
    runCode Try.prog O L f8_c1 k [x0, x1, x2, x3, x4, x5, x6, x7, x8, x9, x10, x11, x12, x13, x14, x15, x16, x17, x18, x19, x20, x21, x22, x23, x24, x25, x26, x27, x28, x29, x30, x31, x32, x33, x34, x35, x36, x37, x38, x39, x40, x41, x42, x43, x44, x45, x46, x47, x48, x49, x50, x51, x52, x53, x54, x55, x56, x57, x58, x59, x60, x61, x62, x63, x64, x65, x66, x67, x68, x69, x70, x71, x72, x73, x74, x75, x76, x77, x78, x79, x80, x81, x82, x83, x84, x85, x86, x87] h = f8_b1 O L k x0 x1 x2 x3 x4 x5 x6 x7 x8 x9 x10 x11 x12 x13 x14 x15 x16 x17 x18 x19 x20 x21 x22 x23 x24 x25 x26 x27 x28 x29 x30 x31 x32 x33 x34 x35 x36 x37 x38 x39 x40 x41 x42 x43 x44 x45 x46 x47 x48 x49 x50 x51 x52 x53 x54 x55 x56 x57 x58 x59 x60 x61 x62 x63 x64 x65 x66 x67 x68 x69 x70 x71 x72 x73 x74 x75 x76 x77 x78 x79 x80 x81 x82 x83 x84 x85 x86 x87 h := by kernel_rfl
noncomputable def f8_c0 : Code := sub [1, 1, 1, 0, 1, 0, 0] (fbody Try.prog 8)
noncomputable def f8_k0 (O : Oracle) (L : Loops (Value × Heap)) : Ex → K (Value × Heap) := (blockK 0 (seqK Try.prog O L (sub [1, 1, 1, 1] (fbody Try.prog 8)) (kRet Try.prog Try.f8)))
noncomputable def f8_e0_0 (O : Oracle) (L : Loops (Value × Heap)) (x0 x1 x2 x3 x4 x5 x6 x7 x8 x9 x10 x11 x12 x13 x14 x15 x16 x17 x18 x19 x20 x21 x22 x23 x24 x25 x26 x27 x28 x29 x30 x31 x32 x33 x34 x35 x36 x37 x38 x39 x40 x41 x42 x43 x44 x45 x46 x47 x48 x49 x50 x51 x52 x53 x54 x55 x56 x57 x58 x59 x60 x61 x62 x63 x64 x65 x66 x67 x68 x69 x70 x71 x72 x73 x74 x75 x76 x77 x78 x79 x80 x81 x82 x83 x84 x85 x86 x87 : Value) (h : Heap) : Option (Value × Heap) :=
  L (runCode Try.prog O L f8_c1) (f8_k1 O L) [x0, x1, x2, x3, x4, (.slice none 0 0), (.int .i64 0), x7, x8, x9, x10, x11, x12, x13, x14, x15, x16, x17, x18, x19, x20, x21, x22, x23, x24, x25, x26, x27, x28, x29, x30, x31, x32, x33, x34, x35, x36, x37, x38, x39, x40, x41, x42, x43, x44, x45, x46, x47, x48, x49, x50, x51, x52, x53, x54, x55, x56, x57, x58, x59, x60, x61, x62, x63, x64, x65, x66, x67, x68, x69, x70, x71, x72, x73, x74, x75, x76, x77, x78, x79, x80, x81, x82, x83, x84, x85, x86, x87] h
theorem f8_e0_0_eq (O : Oracle) (L : Loops (Value × Heap)) (x0 x1 x2 x3 x4 x5 x6 x7 x8 x9 x10 x11 x12 x13 x14 x15 x16 x17 x18 x19 x20 x21 x22 x23 x24 x25 x26 x27 x28 x29 x30 x31 x32 x33 x34 x35 x36 x37 x38 x39 x40 x41 x42 x43 x44 x45 x46 x47 x48 x49 x50 x51 x52 x53 x54 x55 x56 x57 x58 x59 x60 x61 x62 x63 x64 x65 x66 x67 x68 x69 x70 x71 x72 x73 x74 x75 x76 x77 x78 x79 x80 x81 x82 x83 x84 x85 x86 x87 : Value) (h : Heap) :
    f8_k0 O L (.exit 0) [x0, x1, x2, x3, x4, x5, x6, x7, x8, x9, x10, x11, x12, x13, x14, x15, x16, x17, x18, x19, x20, x21, x22, x23, x24, x25, x26, x27, x28, x29, x30, x31, x32, x33, x34, x35, x36, x37, x38, x39, x40, x41, x42, x43, x44, x45, x46, x47, x48, x49, x50, x51, x52, x53, x54, x55, x56, x57, x58, x59, x60, x61, x62, x63, x64, x65, x66, x67, x68, x69, x70, x71, x72, x73, x74, x75, x76, x77, x78, x79, x80, x81, x82, x83, x84, x85, x86, x87] h = f8_e0_0 O L x0 x1 x2 x3 x4 x5 x6 x7 x8 x9 x10 x11 x12 x13 x14 x15 x16 x17 x18 x19 x20 x21 x22 x23 x24 x25 x26 x27 x28 x29 x30 x31 x32 x33 x34 x35 x36 x37 x38 x39 x40 x41 x42 x43 x44 x45 x46 x47 x48 x49 x50 x51 x52 x53 x54 x55 x56 x57 x58 x59 x60 x61 x62 x63 x64 x65 x66 x67 x68 x69 x70 x71 x72 x73 x74 x75 x76 x77 x78 x79 x80 x81 x82 x83 x84 x85 x86 x87 h := by kernel_rfl
noncomputable def f8_b0 (O : Oracle) (L : Loops (Value × Heap)) (k : Ex → K (Value × Heap)) (x0 x1 x2 x3 x4 x5 x6 x7 x8 x9 x10 x11 x12 x13 x14 x15 x16 x17 x18 x19 x20 x21 x22 x23 x24 x25 x26 x27 x28 x29 x30 x31 x32 x33 x34 x35 x36 x37 x38 x39 x40 x41 x42 x43 x44 x45 x46 x47 x48 x49 x50 x51 x52 x53 x54 x55 x56 x57 x58 x59 x60 x61 x62 x63 x64 x65 x66 x67 x68 x69 x70 x71 x72 x73 x74 x75 x76 x77 x78 x79 x80 x81 x82 x83 x84 x85 x86 x87 : Value) (h : Heap) : Option (Value × Heap) :=
  ob ((M.ofOpt (bin Try.prog .lss 3 x4 (.int .i64 20))) h) fun v9 h9 =>
  iteV v9 (
  ob ((conv Try.prog 3 25 x4) h9) fun v10 h10 =>
  ob ((M.ofOpt (bld Try.prog 27 [(3, v10)])) h10) fun v11 h11 =>
  ob ((O (.func 20) [x3, v11]) h11) fun v12 h12 =>
  ob ((M.ofOpt (bin Try.prog .add 3 x4 (.int .i64 1))) h12) fun v13 h13 =>
  k .normal [x0, x1, x2, x3, v13, x5, x6, x7, x8, x9, x10, x11, x12, x13, x14, x15, x16, x17, x18, x19, x20, x21, x22, x23, x24, x25, x4, v9, x4, v13, x3, x4, v10, v11, v12, x35, x36, x37, x38, x39, x40, x41, x42, x43, x44, x45, x46, x47, x48, x49, x50, x51, x52, x53, x54, x55, x56, x57, x58, x59, x60, x61, x62, x63, x64, x65, x66, x67, x68, x69, x70, x71, x72, x73, x74, x75, x76, x77, x78, x79, x80, x81, x82, x83, x84, x85, x86, x87] h13) (
  k (.exit 0) [x0, x1, x2, x3, x4, x5, x6, x7, x8, x9, x10, x11, x12, x13, x14, x15, x16, x17, x18, x19, x20, x21, x22, x23, x24, x25, x4, v9, x28, x29, x30, x31, x32, x33, x34, x35, x36, x37, x38, x39, x40, x41, x42, x43, x44, x45, x46, x47, x48, x49, x50, x51, x52, x53, x54, x55, x56, x57, x58, x59, x60, x61, x62, x63, x64, x65, x66, x67, x68, x69, x70, x71, x72, x73, x74, x75, x76, x77, x78, x79, x80, x81, x82, x83, x84, x85, x86, x87] h9)
theorem f8_b0_eq (O : Oracle) (L : Loops (Value × Heap)) (k : Ex → K (Value × Heap)) (x0 x1 x2 x3 x4 x5 x6 x7 x8 x9 x10 x11 x12 x13 x14 x15 x16 x17 x18 x19 x20 x21 x22 x23 x24 x25 x26 x27 x28 x29 x30 x31 x32 x33 x34 x35 x36 x37 x38 x39 x40 x41 x42 x43 x44 x45 x46 x47 x48 x49 x50 x51 x52 x53 x54 x55 x56 x57 x58 x59 x60 x61 x62 x63 x64 x65 x66 x67 x68 x69 x70 x71 x72 x73 x74 x75 x76 x77 x78 x79 x80 x81 x82 x83 x84 x85 x86 x87 : Value) (h : Heap) :
    runCode Try.prog O L f8_c0 k [x0, x1, x2, x3, x4, x5, x6, x7, x8, x9, x10, x11, x12, x13, x14, x15, x16, x17, x18, x19, x20, x21, x22, x23, x24, x25, x26, x27, x28, x29, x30, x31, x32, x33, x34, x35, x36, x37, x38, x39, x40, x41, x42, x43, x44, x45, x46, x47, x48, x49, x50, x51, x52, x53, x54, x55, x56, x57, x58, x59, x60, x61, x62, x63, x64, x65, x66, x67, x68, x69, x70, x71, x72, x73, x74, x75, x76, x77, x78, x79, x80, x81, x82, x83, x84, x85, x86, x87] h = f8_b0 O L k x0 x1 x2 x3 x4 x5 x6 x7 x8 x9 x10 x11 x12 x13 x14 x15 x16 x17 x18 x19 x20 x21 x22 x23 x24 x25 x26 x27 x28 x29 x30 x31 x32 x33 x34 x35 x36 x37 x38 x39 x40 x41 x42 x43 x44 x45 x46 x47 x48 x49 x50 x51 x52 x53 x54 x55 x56 x57 x58 x59 x60 x61 x62 x63 x64 x65 x66 x67 x68 x69 x70 x71 x72 x73 x74 x75 x76 x77 x78 x79 x80 x81 x82 x83 x84 x85 x86 x87 h := by kernel_rfl
noncomputable def f8 (O : Oracle) (L : Loops (Value × Heap)) (a0 : Value) (h : Heap) : Option (Value × Heap) :=
  ob ((O (.func 15) [(.int .i64 20)]) h) fun v0 h0 =>
  ob ((M.ofOpt (bin Try.prog .eql 22 v0 (.pointer none))) h0) fun v1 h1 =>
  ob ((gd v1 false (M.ret a0)) h1) fun v2 h2 =>
  ob ((gd v1 false (M.ofOpt (lenSl v2))) h2) fun v3 h3 =>
  ob ((gd v1 false (M.ofOpt (bin Try.prog .gtr 3 v3 (.int .i64 20)))) h3) fun v4 h4 =>
  ob ((M.ofOpt (pick v1 (.bool true) v4)) h4) fun v5 h5 =>
  iteV v5 (
  ob ((M.ofOpt (bin Try.prog .neq 22 v0 (.pointer none))) h5) fun v6 h6 =>
  ob ((gd v6 true (O (.func 16) [])) h6) fun v7 h7 =>
  ob ((M.ofOpt (pick v6 v7 (.bool false))) h7) fun v8 h8 =>
  some (oneOf [v8], h8)) (
  L (runCode Try.prog O L f8_c0) (f8_k0 O L) [a0, undef, (.bool false), v0, (.int .i64 0), undef, undef, undef, undef, undef, undef, undef, undef, v0, v0, v1, v1, v2, v3, v4, v5, undef, undef, undef, undef, undef, undef, undef, undef, undef, undef, undef, undef, undef, undef, undef, undef, undef, undef, undef, undef, undef, undef, undef, undef, undef, undef, undef, undef, undef, undef, undef, undef, undef, undef, undef, undef, undef, undef, undef, undef, undef, undef, undef, undef, undef, undef, undef, undef, undef, undef, undef, undef, undef, undef, undef, undef, undef, undef, undef, undef, undef, undef, undef, undef, undef, undef, undef] h5)
theorem f8_eq (O : Oracle) (L : Loops (Value × Heap)) (a0 : Value) (h : Heap) :
    body Try.prog O L 8 [a0] h = f8 O L a0 h := by kernel_rfl

/-! 21: shunter/shunterref07.New; slots: [(slots, 0), (slots, 1), (p, 3), (i, 4)] -/
noncomputable def f21_c0 : Code := sub [1, 1, 1, 0, 1, 0, 0] (fbody Try.prog 21)
noncomputable def f21_k0 (O : Oracle) (L : Loops (Value × Heap)) : Ex → K (Value × Heap) := (blockK 0 (seqK Try.prog O L (sub [1, 1, 1, 1] (fbody Try.prog 21)) (kRet Try.prog Try.f21)))
noncomputable def f21_e0_0 (O : Oracle) (L : Loops (Value × Heap)) (x0 x1 x2 x3 x4 x5 x6 x7 x8 x9 x10 x11 x12 x13 x14 x15 x16 x17 x18 x19 x20 x21 x22 x23 x24 x25 x26 x27 x28 x29 x30 x31 x32 x33 : Value) (h : Heap) : Option (Value × Heap) :=
  some (oneOf [x3], h)
theorem f21_e0_0_eq (O : Oracle) (L : Loops (Value × Heap)) (x0 x1 x2 x3 x4 x5 x6 x7 x8 x9 x10 x11 x12 x13 x14 x15 x16 x17 x18 x19 x20 x21 x22 x23 x24 x25 x26 x27 x28 x29 x30 x31 x32 x33 : Value) (h : Heap) :
    f21_k0 O L (.exit 0) [x0, x1, x2, x3, x4, x5, x6, x7, x8, x9, x10, x11, x12, x13, x14, x15, x16, x17, x18, x19, x20, x21, x22, x23, x24, x25, x26, x27, x28, x29, x30, x31, x32, x33] h = f21_e0_0 O L x0 x1 x2 x3 x4 x5 x6 x7 x8 x9 x10 x11 x12 x13 x14 x15 x16 x17 x18 x19 x20 x21 x22 x23 x24 x25 x26 x27 x28 x29 x30 x31 x32 x33 h := by kernel_rfl
noncomputable def f21_b0 (O : Oracle) (L : Loops (Value × Heap)) (k : Ex → K (Value × Heap)) (x0 x1 x2 x3 x4 x5 x6 x7 x8 x9 x10 x11 x12 x13 x14 x15 x16 x17 x18 x19 x20 x21 x22 x23 x24 x25 x26 x27 x28 x29 x30 x31 x32 x33 : Value) (h : Heap) : Option (Value × Heap) :=
  ob ((M.ofOpt (bin Try.prog .geq 3 x4 (.int .i64 0))) h) fun v9 h9 =>
  iteV v9 (
  ob ((M.ofOpt (nilChk x3)) h9) fun v10 h10 =>
  ob ((M.ofOpt (fAddr 2 v10)) h10) fun v11 h11 =>
  ob ((ld1 v11) h11) fun v12 h12 =>
  ob ((bldSlice 3 1 1 [(.int .i64 0)] [(0, x4)]) h12) fun v13 h13 =>
  ob ((app 3 1 8 v12 v13) h13) fun v14 h14 =>
  ob ((M.ofOpt (nilChk x3)) h14) fun v15 h15 =>
  ob ((M.ofOpt (fAddr 2 v15)) h15) fun v16 h16 =>
  ob ((stN 1 v16 v14) h16) fun v17 h17 =>
  ob ((M.ofOpt (bin Try.prog .sub 3 x4 (.int .i64 1))) h17) fun v18 h18 =>
  k .normal [x0, x1, x2, x3, v18, x5, x6, x7, x8, x9, x10, x11, x12, x13, x14, x15, x16, x17, x18, x4, v9, x4, v18, x3, x3, v10, v11, v12, x4, v13, v14, v15, v16, x33] h18) (
  k (.exit 0) [x0, x1, x2, x3, x4, x5, x6, x7, x8, x9, x10, x11, x12, x13, x14, x15, x16, x17, x18, x4, v9, x21, x22, x23, x24, x25, x26, x27, x28, x29, x30, x31, x32, x33] h9)
theorem f21_b0_eq (O : Oracle) (L : Loops (Value × Heap)) (k : Ex → K (Value × Heap)) (x0 x1 x2 x3 x4 x5 x6 x7 x8 x9 x10 x11 x12 x13 x14 x15 x16 x17 x18 x19 x20 x21 x22 x23 x24 x25 x26 x27 x28 x29 x30 x31 x32 x33 : Value) (h : Heap) :
    runCode Try.prog O L f21_c0 k [x0, x1, x2, x3, x4, x5, x6, x7, x8, x9, x10, x11, x12, x13, x14, x15, x16, x17, x18, x19, x20, x21, x22, x23, x24, x25, x26, x27, x28, x29, x30, x31, x32, x33] h = f21_b0 O L k x0 x1 x2 x3 x4 x5 x6 x7 x8 x9 x10 x11 x12 x13 x14 x15 x16 x17 x18 x19 x20 x21 x22 x23 x24 x25 x26 x27 x28 x29 x30 x31 x32 x33 h := by kernel_rfl
noncomputable def f21 (O : Oracle) (L : Loops (Value × Heap)) (a0 : Value) (h : Heap) : Option (Value × Heap) :=
  ob ((M.ofOpt (bin Try.prog .lss 3 a0 (.int .i64 1))) h) fun v0 h0 =>
  ob ((gd v0 false (M.ret a0)) h0) fun v1 h1 =>
  ob ((gd v0 false (M.ofOpt (bin Try.prog .gtr 3 v1 (.int .i64 200)))) h1) fun v2 h2 =>
  ob ((M.ofOpt (pick v0 (.bool true) v2)) h2) fun v3 h3 =>
  iteV v3 (
  some (oneOf [(.pointer none)], h3)) (
  ob ((mkSlice 27 4 32 [(.int .i64 0), (.int .i64 0), (.int .i64 0), (.int .u32 0)] a0 a0) h3) fun v4 h4 =>
  ob ((mkSlice 3 1 8 [(.int .i64 0)] a0 a0) h4) fun v5 h5 =>
  ob ((M.ofOpt (bld Try.prog 76 [(0, v4), (1, v5)])) h5) fun v6 h6 =>
  ob ((newB 76 (Value.cells v6).toList .fix) h6) fun v7 h7 =>
  ob ((M.ofOpt (bin Try.prog .sub 3 a0 (.int .i64 1))) h7) fun v8 h8 =>
  L (runCode Try.prog O L f21_c0) (f21_k0 O L) [a0, undef, (.pointer none), v7, v8, a0, v0, v0, v1, v2, v3, a0, v4, a0, v5, v6, v7, a0, v8, undef, undef, undef, undef, undef, undef, undef, undef, undef, undef, undef, undef, undef, undef, undef] h8)
theorem f21_eq (O : Oracle) (L : Loops (Value × Heap)) (a0 : Value) (h : Heap) :
    body Try.prog O L 21 [a0] h = f21 O L a0 h := by kernel_rfl

/-! 22: (*shunter/shunterref07.Pool).Drop; slots: [(p, 0), (slot, 1), (p, 2), (slot, 3)] -/
noncomputable def f22 (O : Oracle) (L : Loops (Value × Heap)) (a0 a1 : Value) (h : Heap) : Option (Value × Heap) :=
  ob ((O (.func 41) [a0, a1]) h) fun v0 h0 =>
  ob ((M.ofOpt (un Try.prog .not v0)) h0) fun v1 h1 =>
  iteV v1 (
  some (oneOf [(.bool false)], h1)) (
  ob ((M.ofOpt (nilChk a0)) h1) fun v2 h2 =>
  ob ((M.ofOpt (fAddr 1 v2)) h2) fun v3 h3 =>
  ob ((ld1 v3) h3) fun v4 h4 =>
  ob ((M.ofOpt (iAddr 1 v4 a1)) h4) fun v5 h5 =>
  ob ((stN 1 v5 (.int .i64 0)) h5) fun v6 h6 =>
  ob ((M.ofOpt (nilChk a0)) h6) fun v7 h7 =>
  ob ((M.ofOpt (fAddr 2 v7)) h7) fun v8 h8 =>
  ob ((ld1 v8) h8) fun v9 h9 =>
  ob ((bldSlice 3 1 1 [(.int .i64 0)] [(0, a1)]) h9) fun v10 h10 =>
  ob ((app 3 1 8 v9 v10) h10) fun v11 h11 =>
  ob ((M.ofOpt (nilChk a0)) h11) fun v12 h12 =>
  ob ((M.ofOpt (fAddr 2 v12)) h12) fun v13 h13 =>
  ob ((stN 1 v13 v11) h13) fun v14 h14 =>
  some (oneOf [(.bool true)], h14))
theorem f22_eq (O : Oracle) (L : Loops (Value × Heap)) (a0 a1 : Value) (h : Heap) :
    body Try.prog O L 22 [a0, a1] h = f22 O L a0 a1 h := by kernel_rfl

/-! 23: (*shunter/shunterref07.Pool).Get; slots: [(p, 0), (slot, 1), (p, 2), (slot, 3)] -/
noncomputable def f23 (O : Oracle) (L : Loops (Value × Heap)) (a0 a1 : Value) (h : Heap) : Option (Value × Heap) :=
  ob ((newB 27 [(.int .i64 0), (.int .i64 0), (.int .i64 0), (.int .u32 0)] .fix) h) fun v0 h0 =>
  ob ((O (.func 41) [a0, a1]) h0) fun v1 h1 =>
  ob ((M.ofOpt (un Try.prog .not v1)) h1) fun v2 h2 =>
  iteV v2 (
  ob ((M.ofOpt (bld Try.prog 27 [])) h2) fun v3 h3 =>
  ob ((stN 4 v0 v3) h3) fun v4 h4 =>
  ob ((ldN 4 v0) h4) fun w5 _ => some (oneOf [w5, (.bool false)], h4)) (
  ob ((M.ofOpt (nilChk a0)) h2) fun v6 h6 =>
  ob ((M.ofOpt (fAddr 0 v6)) h6) fun v7 h7 =>
  ob ((ld1 v7) h7) fun v8 h8 =>
  ob ((M.ofOpt (iAddr 4 v8 a1)) h8) fun v9 h9 =>
  ob ((ldN 4 v9) h9) fun v10 h10 =>
  ob ((stN 4 v0 v10) h10) fun v11 h11 =>
  ob ((ldN 4 v0) h11) fun w12 _ => some (oneOf [w12, (.bool true)], h11))
theorem f23_eq (O : Oracle) (L : Loops (Value × Heap)) (a0 a1 : Value) (h : Heap) :
    body Try.prog O L 23 [a0, a1] h = f23 O L a0 a1 h := by kernel_rfl

/-! 24: (*shunter/shunterref07.Pool).Put; slots: [(p, 0), (x, 1), (p, 2), (x, 3), (n, 6), (k, 7)] -/
noncomputable def f24 (O : Oracle) (L : Loops (Value × Heap)) (a0 a1 : Value) (h : Heap) : Option (Value × Heap) :=
  ob ((newB 27 (Value.cells a1).toList .fix) h) fun v0 h0 =>
  ob ((M.ofOpt (nilChk a0)) h0) fun v1 h1 =>
  ob ((M.ofOpt (fAddr 2 v1)) h1) fun v2 h2 =>
  ob ((ld1 v2) h2) fun v3 h3 =>
  ob ((M.ofOpt (lenSl v3)) h3) fun v4 h4 =>
  ob ((M.ofOpt (bin Try.prog .eql 3 v4 (.int .i64 0))) h4) fun v5 h5 =>
  iteV v5 (
  some (oneOf [(.int .i64 0), (.bool false)], h5)) (
  ob ((M.ofOpt (nilChk a0)) h5) fun v6 h6 =>
  ob ((M.ofOpt (fAddr 2 v6)) h6) fun v7 h7 =>
  ob ((ld1 v7) h7) fun v8 h8 =>
  ob ((M.ofOpt (bin Try.prog .sub 3 v4 (.int .i64 1))) h8) fun v9 h9 =>
  ob ((M.ofOpt (iAddr 1 v8 v9)) h9) fun v10 h10 =>
  ob ((ld1 v10) h10) fun v11 h11 =>
  ob ((M.ofOpt (nilChk a0)) h11) fun v12 h12 =>
  ob ((M.ofOpt (fAddr 2 v12)) h12) fun v13 h13 =>
  ob ((ld1 v13) h13) fun v14 h14 =>
  ob ((M.ofOpt (bin Try.prog .sub 3 v4 (.int .i64 1))) h14) fun v15 h15 =>
  ob ((slc Try.prog 1 v14 none (some v15) none) h15) fun v16 h16 =>
  ob ((M.ofOpt (nilChk a0)) h16) fun v17 h17 =>
  ob ((M.ofOpt (fAddr 2 v17)) h17) fun v18 h18 =>
  ob ((stN 1 v18 v16) h18) fun v19 h19 =>
  ob ((M.ofOpt (nilChk a0)) h19) fun v20 h20 =>
  ob ((M.ofOpt (fAddr 0 v20)) h20) fun v21 h21 =>
  ob ((ld1 v21) h21) fun v22 h22 =>
  ifB (true) (
  ob ((ldN 4 v0) h22) fun v23 h23 =>
  ifB (true) (
  ob ((M.ofOpt (iAddr 4 v22 v11)) h23) fun v24 h24 =>
  ob ((stN 4 v24 v23) h24) fun v25 h25 =>
  ifB (true) (
  ob ((M.ofOpt (nilChk a0)) h25) fun v26 h26 =>
  ob ((M.ofOpt (fAddr 1 v26)) h26) fun v27 h27 =>
  ob ((ld1 v27) h27) fun v28 h28 =>
  ob ((M.ofOpt (iAddr 1 v28 v11)) h28) fun v29 h29 =>
  ob ((stN 1 v29 (.int .i64 1)) h29) fun v30 h30 =>
  some (oneOf [v11, (.bool true)], h30)))))
theorem f24_eq (O : Oracle) (L : Loops (Value × Heap)) (a0 a1 : Value) (h : Heap) :
    body Try.prog O L 24 [a0, a1] h = f24 O L a0 a1 h := by kernel_rfl

/-! 25: (*shunter/shunterref07.Pool).Free; slots: [(p, 0), (p, 1)] -/
noncomputable def f25 (O : Oracle) (L : Loops (Value × Heap)) (a0 : Value) (h : Heap) : Option (Value × Heap) :=
  ob ((M.ofOpt (nilChk a0)) h) fun v0 h0 =>
  ob ((M.ofOpt (fAddr 2 v0)) h0) fun v1 h1 =>
  ob ((ld1 v1) h1) fun v2 h2 =>
  ob ((M.ofOpt (lenSl v2)) h2) fun v3 h3 =>
  some (oneOf [v3], h3)
theorem f25_eq (O : Oracle) (L : Loops (Value × Heap)) (a0 : Value) (h : Heap) :
    body Try.prog O L 25 [a0] h = f25 O L a0 h := by kernel_rfl

/-! 41: (*shunter/shunterref07.Pool).has; slots: [(p, 0), (slot, 1), (p, 2), (slot, 3)] -/
noncomputable def f41 (O : Oracle) (L : Loops (Value × Heap)) (a0 a1 : Value) (h : Heap) : Option (Value × Heap) :=
  ob ((M.ofOpt (bin Try.prog .geq 3 a1 (.int .i64 0))) h) fun v0 h0 =>
  ob ((gd v0 true (M.ret a1)) h0) fun v1 h1 =>
  ob ((gd v0 true (M.ret a0)) h1) fun v2 h2 =>
  ob ((gd v0 true (M.ofOpt (nilChk v2))) h2) fun v3 h3 =>
  ob ((gd v0 true (M.ofOpt (fAddr 0 v3))) h3) fun v4 h4 =>
  ob ((gd v0 true (ld1 v4)) h4) fun v5 h5 =>
  ob ((gd v0 true (M.ofOpt (lenSl v5))) h5) fun v6 h6 =>
  ob ((gd v0 true (M.ofOpt (bin Try.prog .lss 3 v1 v6))) h6) fun v7 h7 =>
  ob ((M.ofOpt (pick v0 v7 (.bool false))) h7) fun v8 h8 =>
  ob ((gd v8 true (M.ret a0)) h8) fun v9 h9 =>
  ob ((gd v8 true (M.ofOpt (nilChk v9))) h9) fun v10 h10 =>
  ob ((gd v8 true (M.ofOpt (fAddr 1 v10))) h10) fun v11 h11 =>
  ob ((gd v8 true (ld1 v11)) h11) fun v12 h12 =>
  ob ((gd v8 true (M.ret a1)) h12) fun v13 h13 =>
  ob ((gd v8 true (M.ofOpt (iAddr 1 v12 v13))) h13) fun v14 h14 =>
  ob ((gd v8 true (ld1 v14)) h14) fun v15 h15 =>
  ob ((gd v8 true (M.ofOpt (bin Try.prog .eql 3 v15 (.int .i64 1)))) h15) fun v16 h16 =>
  ob ((M.ofOpt (pick v8 v16 (.bool false))) h16) fun v17 h17 =>
  some (oneOf [v17], h17)
theorem f41_eq (O : Oracle) (L : Loops (Value × Heap)) (a0 a1 : Value) (h : Heap) :
    body Try.prog O L 41 [a0, a1] h = f41 O L a0 a1 h := by kernel_rfl

/-! 45: shunter/shunterref04.clone; slots: [(b, 0), (b, 1), (out, 3)] -/
noncomputable def f45 (O : Oracle) (L : Loops (Value × Heap)) (a0 : Value) (h : Heap) : Option (Value × Heap) :=
  ob ((app 5 1 1 (.slice none 0 0) a0) h) fun v0 h0 =>
  some (oneOf [v0], h0)
theorem f45_eq (O : Oracle) (L : Loops (Value × Heap)) (a0 : Value) (h : Heap) :
    body Try.prog O L 45 [a0] h = f45 O L a0 h := by kernel_rfl

end Go.Proofs.Ytebcibedkcjbcaa
