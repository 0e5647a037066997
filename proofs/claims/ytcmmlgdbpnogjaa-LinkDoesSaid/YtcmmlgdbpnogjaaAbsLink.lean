/-
  SHALLOW FORMS, written by a program of this claim's (Gen): each with its equation.
-/
import Derived.Test.YtcmmlgdbpnogjaaAbsSim
import Derived.Test.YtcmmlgdbpnogjaaProg
import Derived.KernelRfl
set_option linter.unusedVariables false
set_option maxRecDepth 100000
namespace Go.Proofs.Ytcmmlgdbpnogjaa
open Go.Abs
/-! 15: shunter/shunterlaw04.heavy; slots: [(l, 0), (l, 1), (n, 3), (i, 4)] -/
noncomputable def f15_c0 : Code := sub [1, 1, 0, 1, 0, 0] (fbody Try.prog 15)
noncomputable def f15_k0 (O : Oracle) (L : Loops (Value × Heap)) : Ex → K (Value × Heap) := (blockK 0 (seqK Try.prog O L (sub [1, 1, 1] (fbody Try.prog 15)) (kRet Try.prog Try.f15)))
noncomputable def f15_e0_0 (O : Oracle) (L : Loops (Value × Heap)) (x0 x1 x2 x3 x4 x5 x6 x7 x8 x9 x10 x11 x12 x13 x14 x15 x16 x17 x18 x19 x20 x21 x22 x23 x24 x25 : Value) (h : Heap) : Option (Value × Heap) :=
  ob ((M.ofOpt (lenSl x0)) h) fun v8 h8 =>
  ob ((M.ofOpt (bin Try.prog .gtr 3 v8 (.int .i64 100))) h8) fun v9 h9 =>
  ob ((gd v9 false (M.ret x3)) h9) fun v10 h10 =>
  ob ((gd v9 false (M.ofOpt (bin Try.prog .gtr 3 v10 (.int .i64 3000)))) h10) fun v11 h11 =>
  ob ((M.ofOpt (pick v9 (.bool true) v11)) h11) fun v12 h12 =>
  some (oneOf [v12], h12)
theorem f15_e0_0_eq (O : Oracle) (L : Loops (Value × Heap)) (x0 x1 x2 x3 x4 x5 x6 x7 x8 x9 x10 x11 x12 x13 x14 x15 x16 x17 x18 x19 x20 x21 x22 x23 x24 x25 : Value) (h : Heap) :
    f15_k0 O L (.exit 0) [x0, x1, x2, x3, x4, x5, x6, x7, x8, x9, x10, x11, x12, x13, x14, x15, x16, x17, x18, x19, x20, x21, x22, x23, x24, x25] h = f15_e0_0 O L x0 x1 x2 x3 x4 x5 x6 x7 x8 x9 x10 x11 x12 x13 x14 x15 x16 x17 x18 x19 x20 x21 x22 x23 x24 x25 h := by kernel_rfl
noncomputable def f15_b0 (O : Oracle) (L : Loops (Value × Heap)) (k : Ex → K (Value × Heap)) (x0 x1 x2 x3 x4 x5 x6 x7 x8 x9 x10 x11 x12 x13 x14 x15 x16 x17 x18 x19 x20 x21 x22 x23 x24 x25 : Value) (h : Heap) : Option (Value × Heap) :=
  ob ((M.ofOpt (lenSl x0)) h) fun v0 h0 =>
  ob ((M.ofOpt (bin Try.prog .lss 3 x4 v0)) h0) fun v1 h1 =>
  iteV v1 (
  ob ((M.ofOpt (iAddr 5 x0 x4)) h1) fun v2 h2 =>
  ob ((M.ofOpt (fAddr 1 v2)) h2) fun v3 h3 =>
  ob ((ld1 v3) h3) fun v4 h4 =>
  ob ((M.ofOpt (lenSl v4)) h4) fun v5 h5 =>
  ob ((M.ofOpt (bin Try.prog .add 3 x3 v5)) h5) fun v6 h6 =>
  ob ((M.ofOpt (bin Try.prog .add 3 x4 (.int .i64 1))) h6) fun v7 h7 =>
  k .normal [x0, x1, x2, v6, v7, x4, x0, v0, v1, x4, v7, x3, x0, x4, v2, v3, v4, v5, v6, x19, x20, x21, x22, x23, x24, x25] h7) (
  k (.exit 0) [x0, x1, x2, x3, x4, x4, x0, v0, v1, x9, x10, x11, x12, x13, x14, x15, x16, x17, x18, x19, x20, x21, x22, x23, x24, x25] h1)
theorem f15_b0_eq (O : Oracle) (L : Loops (Value × Heap)) (k : Ex → K (Value × Heap)) (x0 x1 x2 x3 x4 x5 x6 x7 x8 x9 x10 x11 x12 x13 x14 x15 x16 x17 x18 x19 x20 x21 x22 x23 x24 x25 : Value) (h : Heap) :
    runCode Try.prog O L f15_c0 k [x0, x1, x2, x3, x4, x5, x6, x7, x8, x9, x10, x11, x12, x13, x14, x15, x16, x17, x18, x19, x20, x21, x22, x23, x24, x25] h = f15_b0 O L k x0 x1 x2 x3 x4 x5 x6 x7 x8 x9 x10 x11 x12 x13 x14 x15 x16 x17 x18 x19 x20 x21 x22 x23 x24 x25 h := by kernel_rfl
noncomputable def f15 (O : Oracle) (L : Loops (Value × Heap)) (a0 : Value) (h : Heap) : Option (Value × Heap) :=
  L (runCode Try.prog O L f15_c0) (f15_k0 O L) [a0, undef, (.bool false), (.int .i64 0), (.int .i64 0), undef, undef, undef, undef, undef, undef, undef, undef, undef, undef, undef, undef, undef, undef, undef, undef, undef, undef, undef, undef, undef] h
theorem f15_eq (O : Oracle) (L : Loops (Value × Heap)) (a0 : Value) (h : Heap) :
    body Try.prog O L 15 [a0] h = f15 O L a0 h := by kernel_rfl

/-! 17: shunter/link.New; slots: [(room, 0), (room, 1)] -/
noncomputable def f17 (O : Oracle) (L : Loops (Value × Heap)) (a0 : Value) (h : Heap) : Option (Value × Heap) :=
  ob ((M.ofOpt (bin Try.prog .lss 3 a0 (.int .i64 1))) h) fun v0 h0 =>
  ob ((gd v0 false (M.ret a0)) h0) fun v1 h1 =>
  ob ((gd v0 false (M.ofOpt (bin Try.prog .gtr 3 v1 (.int .i64 64)))) h1) fun v2 h2 =>
  ob ((M.ofOpt (pick v0 (.bool true) v2)) h2) fun v3 h3 =>
  iteV v3 (
  some (oneOf [(.pointer none)], h3)) (
  ob ((M.ofOpt (bld Try.prog 72 [(1, a0)])) h3) fun v4 h4 =>
  ob ((newB 72 (Value.cells v4).toList .fix) h4) fun v5 h5 =>
  some (oneOf [v5], h5))
theorem f17_eq (O : Oracle) (L : Loops (Value × Heap)) (a0 : Value) (h : Heap) :
    body Try.prog O L 17 [a0] h = f17 O L a0 h := by kernel_rfl

/-! 18: (*shunter/link.Link).All; slots: [(l, 0), (l, 1), (out, 3), (_, 4), (b, 5)] -/
noncomputable def f18_c0 : Code := sub [1, 1, 0, 1, 0, 0] (fbody Try.prog 18)
noncomputable def f18_k0 (O : Oracle) (L : Loops (Value × Heap)) : Ex → K (Value × Heap) := (blockK 0 (seqK Try.prog O L (sub [1, 1, 1] (fbody Try.prog 18)) (kRet Try.prog Try.f18)))
noncomputable def f18_e0_0 (O : Oracle) (L : Loops (Value × Heap)) (x0 x1 x2 x3 x4 x5 x6 x7 x8 x9 x10 x11 x12 x13 x14 x15 x16 x17 x18 x19 x20 x21 : Value) (h : Heap) : Option (Value × Heap) :=
  some (oneOf [x3], h)
theorem f18_e0_0_eq (O : Oracle) (L : Loops (Value × Heap)) (x0 x1 x2 x3 x4 x5 x6 x7 x8 x9 x10 x11 x12 x13 x14 x15 x16 x17 x18 x19 x20 x21 : Value) (h : Heap) :
    f18_k0 O L (.exit 0) [x0, x1, x2, x3, x4, x5, x6, x7, x8, x9, x10, x11, x12, x13, x14, x15, x16, x17, x18, x19, x20, x21] h = f18_e0_0 O L x0 x1 x2 x3 x4 x5 x6 x7 x8 x9 x10 x11 x12 x13 x14 x15 x16 x17 x18 x19 x20 x21 h := by kernel_rfl
noncomputable def f18_b0 (O : Oracle) (L : Loops (Value × Heap)) (k : Ex → K (Value × Heap)) (x0 x1 x2 x3 x4 x5 x6 x7 x8 x9 x10 x11 x12 x13 x14 x15 x16 x17 x18 x19 x20 x21 : Value) (h : Heap) : Option (Value × Heap) :=
  ob ((M.ofOpt (bin Try.prog .lss 3 x11 x10)) h) fun v4 h4 =>
  iteV v4 (
  ob ((M.ofOpt (iAddr 1 x9 x11)) h4) fun v5 h5 =>
  ob ((ld1 v5) h5) fun v6 h6 =>
  ob ((O (.func 42) [v6]) h6) fun v7 h7 =>
  ob ((bldSlice 29 1 1 [(.slice none 0 0)] [(0, v7)]) h7) fun v8 h8 =>
  ob ((app 29 1 24 x3 v8) h8) fun v9 h9 =>
  ob ((M.ofOpt (bin Try.prog .add 3 x11 (.int .i64 1))) h9) fun v10 h10 =>
  k .normal [x0, x1, x2, v9, x4, v6, x6, x7, x8, x9, x10, v10, v4, v5, v6, x3, v6, v7, v8, v9, v10, x21] h10) (
  k (.exit 0) [x0, x1, x2, x3, x4, x5, x6, x7, x8, x9, x10, x11, v4, x13, x14, x15, x16, x17, x18, x19, x20, x21] h4)
theorem f18_b0_eq (O : Oracle) (L : Loops (Value × Heap)) (k : Ex → K (Value × Heap)) (x0 x1 x2 x3 x4 x5 x6 x7 x8 x9 x10 x11 x12 x13 x14 x15 x16 x17 x18 x19 x20 x21 : Value) (h : Heap) :
    runCode Try.prog O L f18_c0 k [x0, x1, x2, x3, x4, x5, x6, x7, x8, x9, x10, x11, x12, x13, x14, x15, x16, x17, x18, x19, x20, x21] h = f18_b0 O L k x0 x1 x2 x3 x4 x5 x6 x7 x8 x9 x10 x11 x12 x13 x14 x15 x16 x17 x18 x19 x20 x21 h := by kernel_rfl
noncomputable def f18 (O : Oracle) (L : Loops (Value × Heap)) (a0 : Value) (h : Heap) : Option (Value × Heap) :=
  ob ((M.ofOpt (nilChk a0)) h) fun v0 h0 =>
  ob ((M.ofOpt (fAddr 0 v0)) h0) fun v1 h1 =>
  ob ((ld1 v1) h1) fun v2 h2 =>
  ob ((M.ofOpt (lenSl v2)) h2) fun v3 h3 =>
  L (runCode Try.prog O L f18_c0) (f18_k0 O L) [a0, undef, (.slice none 0 0), (.slice none 0 0), undef, undef, a0, v0, v1, v2, v3, (.int .i64 0), undef, undef, undef, undef, undef, undef, undef, undef, undef, undef] h3
theorem f18_eq (O : Oracle) (L : Loops (Value × Heap)) (a0 : Value) (h : Heap) :
    body Try.prog O L 18 [a0] h = f18 O L a0 h := by kernel_rfl

/-! 19: (*shunter/link.Link).Send; slots: [(l, 0), (b, 1), (l, 2), (b, 3)] -/
noncomputable def f19 (O : Oracle) (L : Loops (Value × Heap)) (a0 a1 : Value) (h : Heap) : Option (Value × Heap) :=
  ob ((M.ofOpt (nilChk a0)) h) fun v0 h0 =>
  ob ((M.ofOpt (fAddr 0 v0)) h0) fun v1 h1 =>
  ob ((ld1 v1) h1) fun v2 h2 =>
  ifB (true) (
  ob ((M.ofOpt (lenSl v2)) h2) fun v3 h3 =>
  ob ((M.ofOpt (nilChk a0)) h3) fun v4 h4 =>
  ob ((M.ofOpt (fAddr 1 v4)) h4) fun v5 h5 =>
  ob ((ld1 v5) h5) fun v6 h6 =>
  ifB (true) (
  ob ((M.ofOpt (bin Try.prog .eql 3 v3 v6)) h6) fun v7 h7 =>
  iteV v7 (
  some (oneOf [(.bool false)], h7)) (
  ob ((M.ofOpt (nilChk a0)) h7) fun v8 h8 =>
  ob ((M.ofOpt (fAddr 0 v8)) h8) fun v9 h9 =>
  ob ((ld1 v9) h9) fun v10 h10 =>
  ifB (true) (
  ob ((O (.func 42) [a1]) h10) fun v11 h11 =>
  ifB (chk ((ld1 v9) h11) v10 && (true)) (
  ob ((bldSlice 29 1 1 [(.slice none 0 0)] [(0, v11)]) h11) fun v12 h12 =>
  ob ((app 29 1 24 v10 v12) h12) fun v13 h13 =>
  ifB (true) (
  ob ((M.ofOpt (nilChk a0)) h13) fun v14 h14 =>
  ob ((M.ofOpt (fAddr 0 v14)) h14) fun v15 h15 =>
  ob ((stN 1 v15 v13) h15) fun v16 h16 =>
  ifB (true) (
  some (oneOf [(.bool true)], h16))))))))
theorem f19_eq (O : Oracle) (L : Loops (Value × Heap)) (a0 a1 : Value) (h : Heap) :
    body Try.prog O L 19 [a0, a1] h = f19 O L a0 a1 h := by kernel_rfl

/-! 20: (*shunter/link.Link).Take; slots: [(l, 0), (i, 1), (l, 2), (i, 3), (b, 6), (is, 7)] -/
noncomputable def f20 (O : Oracle) (L : Loops (Value × Heap)) (a0 a1 : Value) (h : Heap) : Option (Value × Heap) :=
  ob ((O (.func 43) [a0, a1]) h) fun v0 h0 =>
  ob ((M.ofOpt (ext 0 v0)) h0) fun v1 h1 =>
  ob ((M.ofOpt (ext 1 v0)) h1) fun v2 h2 =>
  iteV v2 (
  ob ((M.ofOpt (nilChk a0)) h2) fun v3 h3 =>
  ob ((M.ofOpt (fAddr 0 v3)) h3) fun v4 h4 =>
  ob ((ld1 v4) h4) fun v5 h5 =>
  ob ((M.ofOpt (bin Try.prog .add 3 a1 (.int .i64 1))) h5) fun v6 h6 =>
  ob ((O (.func 44) [v5, a1, v6]) h6) fun v7 h7 =>
  ob ((M.ofOpt (nilChk a0)) h7) fun v8 h8 =>
  ob ((M.ofOpt (fAddr 0 v8)) h8) fun v9 h9 =>
  ob ((stN 1 v9 v7) h9) fun v10 h10 =>
  some (oneOf [v1, v2], h10)) (
  some (oneOf [v1, v2], h2))
theorem f20_eq (O : Oracle) (L : Loops (Value × Heap)) (a0 a1 : Value) (h : Heap) :
    body Try.prog O L 20 [a0, a1] h = f20 O L a0 a1 h := by kernel_rfl

/-! 21: (*shunter/link.Link).Twice; slots: [(l, 0), (i, 1), (l, 2), (i, 3), (b, 5), (is, 6)] -/
noncomputable def f21 (O : Oracle) (L : Loops (Value × Heap)) (a0 a1 : Value) (h : Heap) : Option (Value × Heap) :=
  ob ((O (.func 43) [a0, a1]) h) fun v0 h0 =>
  ob ((M.ofOpt (ext 0 v0)) h0) fun v1 h1 =>
  ob ((M.ofOpt (ext 1 v0)) h1) fun v2 h2 =>
  ob ((gd v2 true (M.ret a0)) h2) fun v3 h3 =>
  ob ((gd v2 true (M.ret v1)) h3) fun v4 h4 =>
  ob ((gd v2 true (O (.func 19) [v3, v4])) h4) fun v5 h5 =>
  ob ((M.ofOpt (pick v2 v5 (.bool false))) h5) fun v6 h6 =>
  some (oneOf [v6], h6)
theorem f21_eq (O : Oracle) (L : Loops (Value × Heap)) (a0 a1 : Value) (h : Heap) :
    body Try.prog O L 21 [a0, a1] h = f21 O L a0 a1 h := by kernel_rfl

/-! 22: (*shunter/link.Link).Bend; slots: [(l, 0), (i, 1), (at, 2), (x, 3), (l, 4), (i, 5), (at, 6), (x, 7), (b, 9), (is, 10)] -/
noncomputable def f22 (O : Oracle) (L : Loops (Value × Heap)) (a0 a1 a2 a3 : Value) (h : Heap) : Option (Value × Heap) :=
  ob ((O (.func 43) [a0, a1]) h) fun v0 h0 =>
  ob ((M.ofOpt (ext 0 v0)) h0) fun v1 h1 =>
  ob ((M.ofOpt (ext 1 v0)) h1) fun v2 h2 =>
  ob ((M.ofOpt (un Try.prog .not v2)) h2) fun v3 h3 =>
  ob ((gd v3 false (M.ret a2)) h3) fun v4 h4 =>
  ob ((gd v3 false (M.ofOpt (bin Try.prog .lss 3 v4 (.int .i64 0)))) h4) fun v5 h5 =>
  ob ((M.ofOpt (pick v3 (.bool true) v5)) h5) fun v6 h6 =>
  ob ((gd v6 false (M.ret a3)) h6) fun v7 h7 =>
  ob ((gd v6 false (M.ofOpt (bin Try.prog .eql 5 v7 (.int .u8 0)))) h7) fun v8 h8 =>
  ob ((M.ofOpt (pick v6 (.bool true) v8)) h8) fun v9 h9 =>
  ob ((gd v9 false (M.ret v1)) h9) fun v10 h10 =>
  ob ((gd v9 false (M.ofOpt (lenSl v10))) h10) fun v11 h11 =>
  ob ((gd v9 false (M.ofOpt (bin Try.prog .eql 3 v11 (.int .i64 0)))) h11) fun v12 h12 =>
  ob ((M.ofOpt (pick v9 (.bool true) v12)) h12) fun v13 h13 =>
  iteV v13 (
  some (oneOf [(.bool false)], h13)) (
  ob ((M.ofOpt (lenSl v1)) h13) fun v14 h14 =>
  ob ((M.ofOpt (bin Try.prog .rem 3 a2 v14)) h14) fun v15 h15 =>
  ob ((M.ofOpt (iAddr 1 v1 v15)) h15) fun v16 h16 =>
  ob ((ld1 v16) h16) fun v17 h17 =>
  ob ((M.ofOpt (bin Try.prog .xor 5 v17 a3)) h17) fun v18 h18 =>
  ob ((M.ofOpt (iAddr 1 v1 v15)) h18) fun v19 h19 =>
  ob ((stN 1 v19 v18) h19) fun v20 h20 =>
  some (oneOf [(.bool true)], h20))
theorem f22_eq (O : Oracle) (L : Loops (Value × Heap)) (a0 a1 a2 a3 : Value) (h : Heap) :
    body Try.prog O L 22 [a0, a1, a2, a3] h = f22 O L a0 a1 a2 a3 h := by kernel_rfl

/-! 23: shunter/shunterref04.New; slots: [(room, 0), (room, 1)] -/
noncomputable def f23 (O : Oracle) (L : Loops (Value × Heap)) (a0 : Value) (h : Heap) : Option (Value × Heap) :=
  ob ((M.ofOpt (bin Try.prog .lss 3 a0 (.int .i64 1))) h) fun v0 h0 =>
  ob ((gd v0 false (M.ret a0)) h0) fun v1 h1 =>
  ob ((gd v0 false (M.ofOpt (bin Try.prog .gtr 3 v1 (.int .i64 64)))) h1) fun v2 h2 =>
  ob ((M.ofOpt (pick v0 (.bool true) v2)) h2) fun v3 h3 =>
  iteV v3 (
  some (oneOf [(.pointer none)], h3)) (
  ob ((M.ofOpt (bld Try.prog 44 [(1, a0)])) h3) fun v4 h4 =>
  ob ((newB 44 (Value.cells v4).toList .fix) h4) fun v5 h5 =>
  some (oneOf [v5], h5))
theorem f23_eq (O : Oracle) (L : Loops (Value × Heap)) (a0 : Value) (h : Heap) :
    body Try.prog O L 23 [a0] h = f23 O L a0 h := by kernel_rfl

/-! 24: (*shunter/shunterref04.Link).Take; slots: [(l, 0), (i, 1), (l, 2), (i, 3), (b, 6), (rest, 7)] -/
noncomputable def f24 (O : Oracle) (L : Loops (Value × Heap)) (a0 a1 : Value) (h : Heap) : Option (Value × Heap) :=
  ob ((M.ofOpt (bin Try.prog .lss 3 a1 (.int .i64 0))) h) fun v0 h0 =>
  ob ((gd v0 false (M.ret a1)) h0) fun v1 h1 =>
  ob ((gd v0 false (M.ret a0)) h1) fun v2 h2 =>
  ob ((gd v0 false (M.ofOpt (nilChk v2))) h2) fun v3 h3 =>
  ob ((gd v0 false (M.ofOpt (fAddr 0 v3))) h3) fun v4 h4 =>
  ob ((gd v0 false (ld1 v4)) h4) fun v5 h5 =>
  ob ((gd v0 false (M.ofOpt (lenSl v5))) h5) fun v6 h6 =>
  ob ((gd v0 false (M.ofOpt (bin Try.prog .geq 3 v1 v6))) h6) fun v7 h7 =>
  ob ((M.ofOpt (pick v0 (.bool true) v7)) h7) fun v8 h8 =>
  iteV v8 (
  some (oneOf [(.slice none 0 0), (.bool false)], h8)) (
  ob ((M.ofOpt (nilChk a0)) h8) fun v9 h9 =>
  ob ((M.ofOpt (fAddr 0 v9)) h9) fun v10 h10 =>
  ob ((ld1 v10) h10) fun v11 h11 =>
  ob ((M.ofOpt (iAddr 1 v11 a1)) h11) fun v12 h12 =>
  ob ((ld1 v12) h12) fun v13 h13 =>
  ob ((M.ofOpt (nilChk a0)) h13) fun v14 h14 =>
  ob ((M.ofOpt (fAddr 0 v14)) h14) fun v15 h15 =>
  ob ((ld1 v15) h15) fun v16 h16 =>
  ob ((slc Try.prog 1 v16 none (some a1) none) h16) fun v17 h17 =>
  ob ((app 29 1 24 (.slice none 0 0) v17) h17) fun v18 h18 =>
  ob ((M.ofOpt (nilChk a0)) h18) fun v19 h19 =>
  ob ((M.ofOpt (fAddr 0 v19)) h19) fun v20 h20 =>
  ob ((ld1 v20) h20) fun v21 h21 =>
  ob ((M.ofOpt (bin Try.prog .add 3 a1 (.int .i64 1))) h21) fun v22 h22 =>
  ob ((slc Try.prog 1 v21 (some v22) none none) h22) fun v23 h23 =>
  ob ((app 29 1 24 v18 v23) h23) fun v24 h24 =>
  ob ((M.ofOpt (nilChk a0)) h24) fun v25 h25 =>
  ob ((M.ofOpt (fAddr 0 v25)) h25) fun v26 h26 =>
  ob ((stN 1 v26 v24) h26) fun v27 h27 =>
  some (oneOf [v13, (.bool true)], h27))
theorem f24_eq (O : Oracle) (L : Loops (Value × Heap)) (a0 a1 : Value) (h : Heap) :
    body Try.prog O L 24 [a0, a1] h = f24 O L a0 a1 h := by kernel_rfl

/-! 25: (*shunter/shunterref04.Link).Twice; slots: [(l, 0), (i, 1), (l, 2), (i, 3)] -/
noncomputable def f25 (O : Oracle) (L : Loops (Value × Heap)) (a0 a1 : Value) (h : Heap) : Option (Value × Heap) :=
  ob ((M.ofOpt (bin Try.prog .geq 3 a1 (.int .i64 0))) h) fun v0 h0 =>
  ob ((gd v0 true (M.ret a1)) h0) fun v1 h1 =>
  ob ((gd v0 true (M.ret a0)) h1) fun v2 h2 =>
  ob ((gd v0 true (M.ofOpt (nilChk v2))) h2) fun v3 h3 =>
  ob ((gd v0 true (M.ofOpt (fAddr 0 v3))) h3) fun v4 h4 =>
  ob ((gd v0 true (ld1 v4)) h4) fun v5 h5 =>
  ob ((gd v0 true (M.ofOpt (lenSl v5))) h5) fun v6 h6 =>
  ob ((gd v0 true (M.ofOpt (bin Try.prog .lss 3 v1 v6))) h6) fun v7 h7 =>
  ob ((M.ofOpt (pick v0 v7 (.bool false))) h7) fun v8 h8 =>
  ob ((gd v8 true (M.ret a0)) h8) fun v9 h9 =>
  ob ((gd v8 true (M.ret a0)) h9) fun v10 h10 =>
  ob ((gd v8 true (M.ofOpt (nilChk v10))) h10) fun v11 h11 =>
  ob ((gd v8 true (M.ofOpt (fAddr 0 v11))) h11) fun v12 h12 =>
  ob ((gd v8 true (ld1 v12)) h12) fun v13 h13 =>
  ob ((gd v8 true (M.ret a1)) h13) fun v14 h14 =>
  ob ((gd v8 true (M.ofOpt (iAddr 1 v13 v14))) h14) fun v15 h15 =>
  ob ((gd v8 true (ld1 v15)) h15) fun v16 h16 =>
  ob ((gd v8 true (O (.func 27) [v9, v16])) h16) fun v17 h17 =>
  ob ((M.ofOpt (pick v8 v17 (.bool false))) h17) fun v18 h18 =>
  some (oneOf [v18], h18)
theorem f25_eq (O : Oracle) (L : Loops (Value × Heap)) (a0 a1 : Value) (h : Heap) :
    body Try.prog O L 25 [a0, a1] h = f25 O L a0 a1 h := by kernel_rfl

/-! 26: (*shunter/shunterref04.Link).Bend; slots: [(l, 0), (i, 1), (at, 2), (x, 3), (l, 4), (i, 5), (at, 6), (x, 7), (b, 9), (k, 10)] -/
noncomputable def f26 (O : Oracle) (L : Loops (Value × Heap)) (a0 a1 a2 a3 : Value) (h : Heap) : Option (Value × Heap) :=
  ob ((M.ofOpt (bin Try.prog .lss 3 a1 (.int .i64 0))) h) fun v0 h0 =>
  ob ((gd v0 false (M.ret a1)) h0) fun v1 h1 =>
  ob ((gd v0 false (M.ret a0)) h1) fun v2 h2 =>
  ob ((gd v0 false (M.ofOpt (nilChk v2))) h2) fun v3 h3 =>
  ob ((gd v0 false (M.ofOpt (fAddr 0 v3))) h3) fun v4 h4 =>
  ob ((gd v0 false (ld1 v4)) h4) fun v5 h5 =>
  ob ((gd v0 false (M.ofOpt (lenSl v5))) h5) fun v6 h6 =>
  ob ((gd v0 false (M.ofOpt (bin Try.prog .geq 3 v1 v6))) h6) fun v7 h7 =>
  ob ((M.ofOpt (pick v0 (.bool true) v7)) h7) fun v8 h8 =>
  ob ((gd v8 false (M.ret a2)) h8) fun v9 h9 =>
  ob ((gd v8 false (M.ofOpt (bin Try.prog .lss 3 v9 (.int .i64 0)))) h9) fun v10 h10 =>
  ob ((M.ofOpt (pick v8 (.bool true) v10)) h10) fun v11 h11 =>
  ob ((gd v11 false (M.ret a3)) h11) fun v12 h12 =>
  ob ((gd v11 false (M.ofOpt (bin Try.prog .eql 5 v12 (.int .u8 0)))) h12) fun v13 h13 =>
  ob ((M.ofOpt (pick v11 (.bool true) v13)) h13) fun v14 h14 =>
  ob ((gd v14 false (M.ret a0)) h14) fun v15 h15 =>
  ob ((gd v14 false (M.ofOpt (nilChk v15))) h15) fun v16 h16 =>
  ob ((gd v14 false (M.ofOpt (fAddr 0 v16))) h16) fun v17 h17 =>
  ob ((gd v14 false (ld1 v17)) h17) fun v18 h18 =>
  ob ((gd v14 false (M.ret a1)) h18) fun v19 h19 =>
  ob ((gd v14 false (M.ofOpt (iAddr 1 v18 v19))) h19) fun v20 h20 =>
  ob ((gd v14 false (ld1 v20)) h20) fun v21 h21 =>
  ob ((gd v14 false (M.ofOpt (lenSl v21))) h21) fun v22 h22 =>
  ob ((gd v14 false (M.ofOpt (bin Try.prog .eql 3 v22 (.int .i64 0)))) h22) fun v23 h23 =>
  ob ((M.ofOpt (pick v14 (.bool true) v23)) h23) fun v24 h24 =>
  iteV v24 (
  some (oneOf [(.bool false)], h24)) (
  ob ((M.ofOpt (nilChk a0)) h24) fun v25 h25 =>
  ob ((M.ofOpt (fAddr 0 v25)) h25) fun v26 h26 =>
  ob ((ld1 v26) h26) fun v27 h27 =>
  ob ((M.ofOpt (iAddr 1 v27 a1)) h27) fun v28 h28 =>
  ob ((ld1 v28) h28) fun v29 h29 =>
  ob ((O (.func 45) [v29]) h29) fun v30 h30 =>
  ob ((M.ofOpt (lenSl v30)) h30) fun v31 h31 =>
  ob ((M.ofOpt (bin Try.prog .rem 3 a2 v31)) h31) fun v32 h32 =>
  ob ((M.ofOpt (iAddr 1 v30 v32)) h32) fun v33 h33 =>
  ob ((ld1 v33) h33) fun v34 h34 =>
  ob ((M.ofOpt (bin Try.prog .xor 5 v34 a3)) h34) fun v35 h35 =>
  ob ((M.ofOpt (iAddr 1 v30 v32)) h35) fun v36 h36 =>
  ob ((stN 1 v36 v35) h36) fun v37 h37 =>
  ob ((M.ofOpt (nilChk a0)) h37) fun v38 h38 =>
  ob ((M.ofOpt (fAddr 0 v38)) h38) fun v39 h39 =>
  ob ((ld1 v39) h39) fun v40 h40 =>
  ob ((M.ofOpt (iAddr 1 v40 a1)) h40) fun v41 h41 =>
  ob ((stN 1 v41 v30) h41) fun v42 h42 =>
  some (oneOf [(.bool true)], h42))
theorem f26_eq (O : Oracle) (L : Loops (Value × Heap)) (a0 a1 a2 a3 : Value) (h : Heap) :
    body Try.prog O L 26 [a0, a1, a2, a3] h = f26 O L a0 a1 a2 a3 h := by kernel_rfl

/-! 27: (*shunter/shunterref04.Link).Send; slots: [(l, 0), (b, 1), (l, 2), (b, 3)] -/
noncomputable def f27 (O : Oracle) (L : Loops (Value × Heap)) (a0 a1 : Value) (h : Heap) : Option (Value × Heap) :=
  ob ((M.ofOpt (nilChk a0)) h) fun v0 h0 =>
  ob ((M.ofOpt (fAddr 0 v0)) h0) fun v1 h1 =>
  ob ((ld1 v1) h1) fun v2 h2 =>
  ifB (true) (
  ob ((M.ofOpt (lenSl v2)) h2) fun v3 h3 =>
  ob ((M.ofOpt (nilChk a0)) h3) fun v4 h4 =>
  ob ((M.ofOpt (fAddr 1 v4)) h4) fun v5 h5 =>
  ob ((ld1 v5) h5) fun v6 h6 =>
  ifB (true) (
  ob ((M.ofOpt (bin Try.prog .geq 3 v3 v6)) h6) fun v7 h7 =>
  iteV v7 (
  some (oneOf [(.bool false)], h7)) (
  ob ((M.ofOpt (nilChk a0)) h7) fun v8 h8 =>
  ob ((M.ofOpt (fAddr 0 v8)) h8) fun v9 h9 =>
  ob ((ld1 v9) h9) fun v10 h10 =>
  ifB (true) (
  ob ((O (.func 45) [a1]) h10) fun v11 h11 =>
  ifB (chk ((ld1 v9) h11) v10 && (true)) (
  ob ((bldSlice 29 1 1 [(.slice none 0 0)] [(0, v11)]) h11) fun v12 h12 =>
  ob ((app 29 1 24 v10 v12) h12) fun v13 h13 =>
  ifB (true) (
  ob ((M.ofOpt (nilChk a0)) h13) fun v14 h14 =>
  ob ((M.ofOpt (fAddr 0 v14)) h14) fun v15 h15 =>
  ob ((stN 1 v15 v13) h15) fun v16 h16 =>
  ifB (true) (
  some (oneOf [(.bool true)], h16))))))))
theorem f27_eq (O : Oracle) (L : Loops (Value × Heap)) (a0 a1 : Value) (h : Heap) :
    body Try.prog O L 27 [a0, a1] h = f27 O L a0 a1 h := by kernel_rfl

/-! 28: shunter/shunterref04.Same; slots: [(a, 0), (b, 1), (a, 2), (b, 3), (i, 5)] -/
noncomputable def f28_c0 : Code := sub [1, 1, 0, 1, 0, 0] (fbody Try.prog 28)
noncomputable def f28_k0 (O : Oracle) (L : Loops (Value × Heap)) : Ex → K (Value × Heap) := (blockK 0 (seqK Try.prog O L (sub [1, 1, 1] (fbody Try.prog 28)) (kRet Try.prog Try.f28)))
noncomputable def f28_e0_0 (O : Oracle) (L : Loops (Value × Heap)) (x0 x1 x2 x3 x4 x5 x6 x7 x8 x9 x10 x11 x12 x13 x14 x15 x16 x17 x18 x19 x20 x21 x22 x23 x24 x25 x26 x27 : Value) (h : Heap) : Option (Value × Heap) :=
  some (oneOf [(.bool true)], h)
theorem f28_e0_0_eq (O : Oracle) (L : Loops (Value × Heap)) (x0 x1 x2 x3 x4 x5 x6 x7 x8 x9 x10 x11 x12 x13 x14 x15 x16 x17 x18 x19 x20 x21 x22 x23 x24 x25 x26 x27 : Value) (h : Heap) :
    f28_k0 O L (.exit 0) [x0, x1, x2, x3, x4, x5, x6, x7, x8, x9, x10, x11, x12, x13, x14, x15, x16, x17, x18, x19, x20, x21, x22, x23, x24, x25, x26, x27] h = f28_e0_0 O L x0 x1 x2 x3 x4 x5 x6 x7 x8 x9 x10 x11 x12 x13 x14 x15 x16 x17 x18 x19 x20 x21 x22 x23 x24 x25 x26 x27 h := by kernel_rfl
noncomputable def f28_r0 (O : Oracle) (L : Loops (Value × Heap)) (x0 x1 x2 x3 x4 x5 x6 x7 x8 x9 x10 x11 x12 x13 x14 x15 x16 x17 x18 x19 x20 x21 x22 x23 x24 x25 x26 x27 : Value) (h : Heap) : Option (Value × Heap) :=
  some (oneOf [x4], h)
theorem f28_r0_eq (O : Oracle) (L : Loops (Value × Heap)) (x0 x1 x2 x3 x4 x5 x6 x7 x8 x9 x10 x11 x12 x13 x14 x15 x16 x17 x18 x19 x20 x21 x22 x23 x24 x25 x26 x27 : Value) (h : Heap) :
    f28_k0 O L .ret [x0, x1, x2, x3, x4, x5, x6, x7, x8, x9, x10, x11, x12, x13, x14, x15, x16, x17, x18, x19, x20, x21, x22, x23, x24, x25, x26, x27] h = f28_r0 O L x0 x1 x2 x3 x4 x5 x6 x7 x8 x9 x10 x11 x12 x13 x14 x15 x16 x17 x18 x19 x20 x21 x22 x23 x24 x25 x26 x27 h := by kernel_rfl
noncomputable def f28_b0 (O : Oracle) (L : Loops (Value × Heap)) (k : Ex → K (Value × Heap)) (x0 x1 x2 x3 x4 x5 x6 x7 x8 x9 x10 x11 x12 x13 x14 x15 x16 x17 x18 x19 x20 x21 x22 x23 x24 x25 x26 x27 : Value) (h : Heap) : Option (Value × Heap) :=
  ob ((M.ofOpt (lenSl x0)) h) fun v3 h3 =>
  ob ((M.ofOpt (bin Try.prog .lss 3 x5 v3)) h3) fun v4 h4 =>
  iteV v4 (
  ob ((M.ofOpt (iAddr 1 x0 x5)) h4) fun v5 h5 =>
  ob ((ld1 v5) h5) fun v6 h6 =>
  ifB (true) (
  ob ((conv Try.prog 29 9 v6) h6) fun v7 h7 =>
  ifB (true) (
  ob ((M.ofOpt (iAddr 1 x1 x5)) h7) fun v8 h8 =>
  ob ((ld1 v8) h8) fun v9 h9 =>
  ifB (true) (
  ob ((conv Try.prog 29 9 v9) h9) fun v10 h10 =>
  ifB (true) (
  ob ((M.ofOpt (bin Try.prog .neq 9 v7 v10)) h10) fun v11 h11 =>
  iteV v11 (
  k .ret [x0, x1, x2, x3, (.bool false), x5, x6, x7, x8, x9, x10, x5, x0, v3, v4, x15, x16, x0, x5, v5, v6, v7, x1, x5, v8, v9, v10, v11] h11) (
  ob ((M.ofOpt (bin Try.prog .add 3 x5 (.int .i64 1))) h11) fun v12 h12 =>
  k .normal [x0, x1, x2, x3, x4, v12, x6, x7, x8, x9, x10, x5, x0, v3, v4, x5, v12, x0, x5, v5, v6, v7, x1, x5, v8, v9, v10, v11] h12)))))) (
  k (.exit 0) [x0, x1, x2, x3, x4, x5, x6, x7, x8, x9, x10, x5, x0, v3, v4, x15, x16, x17, x18, x19, x20, x21, x22, x23, x24, x25, x26, x27] h4)
theorem f28_b0_eq (O : Oracle) (L : Loops (Value × Heap)) (k : Ex → K (Value × Heap)) (x0 x1 x2 x3 x4 x5 x6 x7 x8 x9 x10 x11 x12 x13 x14 x15 x16 x17 x18 x19 x20 x21 x22 x23 x24 x25 x26 x27 : Value) (h : Heap) :
    runCode Try.prog O L f28_c0 k [x0, x1, x2, x3, x4, x5, x6, x7, x8, x9, x10, x11, x12, x13, x14, x15, x16, x17, x18, x19, x20, x21, x22, x23, x24, x25, x26, x27] h = f28_b0 O L k x0 x1 x2 x3 x4 x5 x6 x7 x8 x9 x10 x11 x12 x13 x14 x15 x16 x17 x18 x19 x20 x21 x22 x23 x24 x25 x26 x27 h := by kernel_rfl
noncomputable def f28 (O : Oracle) (L : Loops (Value × Heap)) (a0 a1 : Value) (h : Heap) : Option (Value × Heap) :=
  ob ((M.ofOpt (lenSl a0)) h) fun v0 h0 =>
  ob ((M.ofOpt (lenSl a1)) h0) fun v1 h1 =>
  ob ((M.ofOpt (bin Try.prog .neq 3 v0 v1)) h1) fun v2 h2 =>
  iteV v2 (
  some (oneOf [(.bool false)], h2)) (
  L (runCode Try.prog O L f28_c0) (f28_k0 O L) [a0, a1, undef, undef, (.bool false), (.int .i64 0), a0, v0, a1, v1, v2, undef, undef, undef, undef, undef, undef, undef, undef, undef, undef, undef, undef, undef, undef, undef, undef, undef] h2)
theorem f28_eq (O : Oracle) (L : Loops (Value × Heap)) (a0 a1 : Value) (h : Heap) :
    body Try.prog O L 28 [a0, a1] h = f28 O L a0 a1 h := by kernel_rfl

/-! 42: bytes.Clone; slots: [(b, 0), (b, 1)] -/
noncomputable def f42 (O : Oracle) (L : Loops (Value × Heap)) (a0 : Value) (h : Heap) : Option (Value × Heap) :=
  ob ((M.ofOpt (bin Try.prog .eql 29 a0 (.slice none 0 0))) h) fun v0 h0 =>
  iteV v0 (
  some (oneOf [(.slice none 0 0)], h0)) (
  ob ((bldSlice 5 1 0 [(.int .u8 0)] []) h0) fun v1 h1 =>
  ob ((app 5 1 1 v1 a0) h1) fun v2 h2 =>
  some (oneOf [v2], h2))
theorem f42_eq (O : Oracle) (L : Loops (Value × Heap)) (a0 : Value) (h : Heap) :
    body Try.prog O L 42 [a0] h = f42 O L a0 h := by kernel_rfl

/-! 43: (*shunter/link.Link).at; slots: [(l, 0), (i, 1), (l, 2), (i, 3)] -/
noncomputable def f43 (O : Oracle) (L : Loops (Value × Heap)) (a0 a1 : Value) (h : Heap) : Option (Value × Heap) :=
  ob ((M.ofOpt (bin Try.prog .lss 3 a1 (.int .i64 0))) h) fun v0 h0 =>
  ob ((gd v0 false (M.ret a1)) h0) fun v1 h1 =>
  ob ((gd v0 false (M.ret a0)) h1) fun v2 h2 =>
  ob ((gd v0 false (M.ofOpt (nilChk v2))) h2) fun v3 h3 =>
  ob ((gd v0 false (M.ofOpt (fAddr 0 v3))) h3) fun v4 h4 =>
  ob ((gd v0 false (ld1 v4)) h4) fun v5 h5 =>
  ob ((gd v0 false (M.ofOpt (lenSl v5))) h5) fun v6 h6 =>
  ob ((gd v0 false (M.ofOpt (bin Try.prog .geq 3 v1 v6))) h6) fun v7 h7 =>
  ob ((M.ofOpt (pick v0 (.bool true) v7)) h7) fun v8 h8 =>
  iteV v8 (
  some (oneOf [(.slice none 0 0), (.bool false)], h8)) (
  ob ((M.ofOpt (nilChk a0)) h8) fun v9 h9 =>
  ob ((M.ofOpt (fAddr 0 v9)) h9) fun v10 h10 =>
  ob ((ld1 v10) h10) fun v11 h11 =>
  ob ((M.ofOpt (iAddr 1 v11 a1)) h11) fun v12 h12 =>
  ob ((ld1 v12) h12) fun v13 h13 =>
  some (oneOf [v13, (.bool true)], h13))
theorem f43_eq (O : Oracle) (L : Loops (Value × Heap)) (a0 a1 : Value) (h : Heap) :
    body Try.prog O L 43 [a0, a1] h = f43 O L a0 a1 h := by kernel_rfl

/-! 44: slices.Delete[[][]byte,[]byte]; slots: [(s, 0), (i, 1), (j, 2), (s, 3), (i, 4), (j, 5), (oldlen, 7)] -/
noncomputable def f44 (O : Oracle) (L : Loops (Value × Heap)) (a0 a1 a2 : Value) (h : Heap) : Option (Value × Heap) :=
  ob ((M.ofOpt (lenSl a0)) h) fun v0 h0 =>
  ob ((slc Try.prog 1 a0 (some a1) (some a2) (some v0)) h0) fun v1 h1 =>
  ob ((M.ofOpt (bin Try.prog .eql 3 a1 a2)) h1) fun v2 h2 =>
  iteV v2 (
  some (oneOf [a0], h2)) (
  ob ((M.ofOpt (lenSl a0)) h2) fun v3 h3 =>
  ob ((slc Try.prog 1 a0 none (some a1) none) h3) fun v4 h4 =>
  ifB (true) (
  ob ((slc Try.prog 1 a0 (some a2) none none) h4) fun v5 h5 =>
  ifB (true) (
  ob ((app 29 1 24 v4 v5) h5) fun v6 h6 =>
  ifB (true) (
  ob ((M.ofOpt (lenSl v6)) h6) fun v7 h7 =>
  ob ((slc Try.prog 1 v6 (some v7) (some v3) none) h7) fun v8 h8 =>
  ob ((clr 1 [(.slice none 0 0)] v8) h8) fun v9 h9 =>
  some (oneOf [v6], h9)))))
theorem f44_eq (O : Oracle) (L : Loops (Value × Heap)) (a0 a1 a2 : Value) (h : Heap) :
    body Try.prog O L 44 [a0, a1, a2] h = f44 O L a0 a1 a2 h := by kernel_rfl

/-! 45: shunter/shunterref04.clone; slots: [(b, 0), (b, 1), (out, 3)] -/
noncomputable def f45 (O : Oracle) (L : Loops (Value × Heap)) (a0 : Value) (h : Heap) : Option (Value × Heap) :=
  ob ((app 5 1 1 (.slice none 0 0) a0) h) fun v0 h0 =>
  some (oneOf [v0], h0)
theorem f45_eq (O : Oracle) (L : Loops (Value × Heap)) (a0 : Value) (h : Heap) :
    body Try.prog O L 45 [a0] h = f45 O L a0 h := by kernel_rfl

/-! 3: shunter/shunterlaw04.LinkRoom; slots: [(room, 0), (l, 1), (room, 2), (l, 3), (a, 5), (i, 6), (was, 7), (is, 8), (_, 9), (is, 10)] -/
noncomputable def f3_c0 : Code := sub [1, 1, 1, 1, 0, 1, 0, 0] (fbody Try.prog 3)
noncomputable def f3_k0 (O : Oracle) (L : Loops (Value × Heap)) : Ex → K (Value × Heap) := (blockK 0 (seqK Try.prog O L (sub [1, 1, 1, 1, 1] (fbody Try.prog 3)) (kRet Try.prog Try.f3)))
noncomputable def f3_e0_0 (O : Oracle) (L : Loops (Value × Heap)) (x0 x1 x2 x3 x4 x5 x6 x7 x8 x9 x10 x11 x12 x13 x14 x15 x16 x17 x18 x19 x20 x21 x22 x23 x24 x25 x26 x27 x28 x29 x30 x31 x32 x33 x34 x35 x36 x37 x38 x39 x40 x41 x42 x43 x44 x45 x46 x47 x48 x49 x50 x51 x52 x53 x54 x55 x56 x57 x58 x59 x60 x61 x62 x63 x64 x65 x66 x67 x68 x69 x70 x71 x72 x73 x74 x75 x76 x77 x78 x79 x80 x81 x82 x83 x84 x85 x86 x87 x88 x89 x90 x91 x92 x93 x94 x95 x96 x97 x98 x99 x100 x101 x102 x103 x104 x105 : Value) (h : Heap) : Option (Value × Heap) :=
  ob ((M.ofOpt (bin Try.prog .geq 3 x0 (.int .i64 1))) h) fun v56 h56 =>
  ob ((gd v56 true (M.ret x0)) h56) fun v57 h57 =>
  ob ((gd v56 true (M.ofOpt (bin Try.prog .leq 3 v57 (.int .i64 64)))) h57) fun v58 h58 =>
  ob ((M.ofOpt (pick v56 v58 (.bool false))) h58) fun v59 h59 =>
  ob ((gd v59 true (M.ret x5)) h59) fun v60 h60 =>
  ob ((gd v59 true (O (.func 18) [v60])) h60) fun v61 h61 =>
  ob ((gd v59 true (M.ofOpt (lenSl v61))) h61) fun v62 h62 =>
  ob ((gd v59 true (M.ret x0)) h62) fun v63 h63 =>
  ob ((gd v59 true (M.ofOpt (bin Try.prog .leq 3 v62 v63))) h63) fun v64 h64 =>
  ob ((M.ofOpt (pick v59 v64 (.bool false))) h64) fun v65 h65 =>
  some (oneOf [v65], h65)
theorem f3_e0_0_eq (O : Oracle) (L : Loops (Value × Heap)) (x0 x1 x2 x3 x4 x5 x6 x7 x8 x9 x10 x11 x12 x13 x14 x15 x16 x17 x18 x19 x20 x21 x22 x23 x24 x25 x26 x27 x28 x29 x30 x31 x32 x33 x34 x35 x36 x37 x38 x39 x40 x41 x42 x43 x44 x45 x46 x47 x48 x49 x50 x51 x52 x53 x54 x55 x56 x57 x58 x59 x60 x61 x62 x63 x64 x65 x66 x67 x68 x69 x70 x71 x72 x73 x74 x75 x76 x77 x78 x79 x80 x81 x82 x83 x84 x85 x86 x87 x88 x89 x90 x91 x92 x93 x94 x95 x96 x97 x98 x99 x100 x101 x102 x103 x104 x105 : Value) (h : Heap) :
    f3_k0 O L (.exit 0) [x0, x1, x2, x3, x4, x5, x6, x7, x8, x9, x10, x11, x12, x13, x14, x15, x16, x17, x18, x19, x20, x21, x22, x23, x24, x25, x26, x27, x28, x29, x30, x31, x32, x33, x34, x35, x36, x37, x38, x39, x40, x41, x42, x43, x44, x45, x46, x47, x48, x49, x50, x51, x52, x53, x54, x55, x56, x57, x58, x59, x60, x61, x62, x63, x64, x65, x66, x67, x68, x69, x70, x71, x72, x73, x74, x75, x76, x77, x78, x79, x80, x81, x82, x83, x84, x85, x86, x87, x88, x89, x90, x91, x92, x93, x94, x95, x96, x97, x98, x99, x100, x101, x102, x103, x104, x105] h = f3_e0_0 O L x0 x1 x2 x3 x4 x5 x6 x7 x8 x9 x10 x11 x12 x13 x14 x15 x16 x17 x18 x19 x20 x21 x22 x23 x24 x25 x26 x27 x28 x29 x30 x31 x32 x33 x34 x35 x36 x37 x38 x39 x40 x41 x42 x43 x44 x45 x46 x47 x48 x49 x50 x51 x52 x53 x54 x55 x56 x57 x58 x59 x60 x61 x62 x63 x64 x65 x66 x67 x68 x69 x70 x71 x72 x73 x74 x75 x76 x77 x78 x79 x80 x81 x82 x83 x84 x85 x86 x87 x88 x89 x90 x91 x92 x93 x94 x95 x96 x97 x98 x99 x100 x101 x102 x103 x104 x105 h := by kernel_rfl
noncomputable def f3_r0 (O : Oracle) (L : Loops (Value × Heap)) (x0 x1 x2 x3 x4 x5 x6 x7 x8 x9 x10 x11 x12 x13 x14 x15 x16 x17 x18 x19 x20 x21 x22 x23 x24 x25 x26 x27 x28 x29 x30 x31 x32 x33 x34 x35 x36 x37 x38 x39 x40 x41 x42 x43 x44 x45 x46 x47 x48 x49 x50 x51 x52 x53 x54 x55 x56 x57 x58 x59 x60 x61 x62 x63 x64 x65 x66 x67 x68 x69 x70 x71 x72 x73 x74 x75 x76 x77 x78 x79 x80 x81 x82 x83 x84 x85 x86 x87 x88 x89 x90 x91 x92 x93 x94 x95 x96 x97 x98 x99 x100 x101 x102 x103 x104 x105 : Value) (h : Heap) : Option (Value × Heap) :=
  some (oneOf [x4], h)
theorem f3_r0_eq (O : Oracle) (L : Loops (Value × Heap)) (x0 x1 x2 x3 x4 x5 x6 x7 x8 x9 x10 x11 x12 x13 x14 x15 x16 x17 x18 x19 x20 x21 x22 x23 x24 x25 x26 x27 x28 x29 x30 x31 x32 x33 x34 x35 x36 x37 x38 x39 x40 x41 x42 x43 x44 x45 x46 x47 x48 x49 x50 x51 x52 x53 x54 x55 x56 x57 x58 x59 x60 x61 x62 x63 x64 x65 x66 x67 x68 x69 x70 x71 x72 x73 x74 x75 x76 x77 x78 x79 x80 x81 x82 x83 x84 x85 x86 x87 x88 x89 x90 x91 x92 x93 x94 x95 x96 x97 x98 x99 x100 x101 x102 x103 x104 x105 : Value) (h : Heap) :
    f3_k0 O L .ret [x0, x1, x2, x3, x4, x5, x6, x7, x8, x9, x10, x11, x12, x13, x14, x15, x16, x17, x18, x19, x20, x21, x22, x23, x24, x25, x26, x27, x28, x29, x30, x31, x32, x33, x34, x35, x36, x37, x38, x39, x40, x41, x42, x43, x44, x45, x46, x47, x48, x49, x50, x51, x52, x53, x54, x55, x56, x57, x58, x59, x60, x61, x62, x63, x64, x65, x66, x67, x68, x69, x70, x71, x72, x73, x74, x75, x76, x77, x78, x79, x80, x81, x82, x83, x84, x85, x86, x87, x88, x89, x90, x91, x92, x93, x94, x95, x96, x97, x98, x99, x100, x101, x102, x103, x104, x105] h = f3_r0 O L x0 x1 x2 x3 x4 x5 x6 x7 x8 x9 x10 x11 x12 x13 x14 x15 x16 x17 x18 x19 x20 x21 x22 x23 x24 x25 x26 x27 x28 x29 x30 x31 x32 x33 x34 x35 x36 x37 x38 x39 x40 x41 x42 x43 x44 x45 x46 x47 x48 x49 x50 x51 x52 x53 x54 x55 x56 x57 x58 x59 x60 x61 x62 x63 x64 x65 x66 x67 x68 x69 x70 x71 x72 x73 x74 x75 x76 x77 x78 x79 x80 x81 x82 x83 x84 x85 x86 x87 x88 x89 x90 x91 x92 x93 x94 x95 x96 x97 x98 x99 x100 x101 x102 x103 x104 x105 h := by kernel_rfl
noncomputable def f3_b0 (O : Oracle) (L : Loops (Value × Heap)) (k : Ex → K (Value × Heap)) (x0 x1 x2 x3 x4 x5 x6 x7 x8 x9 x10 x11 x12 x13 x14 x15 x16 x17 x18 x19 x20 x21 x22 x23 x24 x25 x26 x27 x28 x29 x30 x31 x32 x33 x34 x35 x36 x37 x38 x39 x40 x41 x42 x43 x44 x45 x46 x47 x48 x49 x50 x51 x52 x53 x54 x55 x56 x57 x58 x59 x60 x61 x62 x63 x64 x65 x66 x67 x68 x69 x70 x71 x72 x73 x74 x75 x76 x77 x78 x79 x80 x81 x82 x83 x84 x85 x86 x87 x88 x89 x90 x91 x92 x93 x94 x95 x96 x97 x98 x99 x100 x101 x102 x103 x104 x105 : Value) (h : Heap) : Option (Value × Heap) :=
  ob ((M.ofOpt (lenSl x1)) h) fun v11 h11 =>
  ob ((M.ofOpt (bin Try.prog .lss 3 x6 v11)) h11) fun v12 h12 =>
  iteV v12 (
  ob ((O (.func 18) [x5]) h12) fun v13 h13 =>
  ob ((M.ofOpt (lenSl v13)) h13) fun v14 h14 =>
  ob ((M.ofOpt (iAddr 5 x1 x6)) h14) fun v15 h15 =>
  ob ((M.ofOpt (fAddr 0 v15)) h15) fun v16 h16 =>
  ob ((ld1 v16) h16) fun v17 h17 =>
  ob ((M.ofOpt (bin Try.prog .rem 5 v17 (.int .u8 2))) h17) fun v18 h18 =>
  ob ((M.ofOpt (bin Try.prog .eql 5 v18 (.int .u8 0))) h18) fun v19 h19 =>
  iteV v19 (
  ob ((M.ofOpt (iAddr 5 x1 x6)) h19) fun v20 h20 =>
  ob ((M.ofOpt (fAddr 1 v20)) h20) fun v21 h21 =>
  ob ((ld1 v21) h21) fun v22 h22 =>
  ob ((O (.func 19) [x5, v22]) h22) fun v23 h23 =>
  ob ((M.ofOpt (bin Try.prog .lss 3 v14 x0)) h23) fun v24 h24 =>
  ob ((M.ofOpt (bin Try.prog .neq 4 v23 v24)) h24) fun v25 h25 =>
  ob ((gd v25 false (M.ret x5)) h25) fun v26 h26 =>
  ob ((gd v25 false (O (.func 18) [v26])) h26) fun v27 h27 =>
  ob ((gd v25 false (M.ofOpt (lenSl v27))) h27) fun v28 h28 =>
  ob ((gd v25 false (M.ret v14)) h28) fun v29 h29 =>
  ob ((gd v25 false (M.ofOpt (bin Try.prog .add 3 v29 (.int .i64 1)))) h29) fun v30 h30 =>
  ob ((gd v25 false (M.ret x0)) h30) fun v31 h31 =>
  ob ((gd v25 false (M.ofOpt (minmax Try.prog false [v30, v31]))) h31) fun v32 h32 =>
  ob ((gd v25 false (M.ofOpt (bin Try.prog .neq 3 v28 v32))) h32) fun v33 h33 =>
  ob ((M.ofOpt (pick v25 (.bool true) v33)) h33) fun v34 h34 =>
  iteV v34 (
  k .ret [x0, x1, x2, x3, (.bool false), x5, x6, v14, v23, x9, x10, x11, x12, x13, x14, x15, x16, x17, x18, x19, x20, x21, x22, x23, x24, x25, x26, x27, x6, x1, v11, v12, x32, x33, x5, v13, v14, x1, x6, v15, v16, v17, v18, v19, x5, x1, x6, v20, v21, v22, v23, v23, v14, x0, v24, v25, v25, v26, v27, v28, v29, v30, v31, v32, v33, v34, x66, x67, x68, x69, x70, x71, x72, x73, x74, x75, x76, x77, x78, x79, x80, x81, x82, x83, x84, x85, x86, x87, x88, x89, x90, x91, x92, x93, x94, x95, x96, x97, x98, x99, x100, x101, x102, x103, x104, x105] h34) (
  ob ((M.ofOpt (bin Try.prog .add 3 x6 (.int .i64 1))) h34) fun v35 h35 =>
  k .normal [x0, x1, x2, x3, x4, x5, v35, v14, v23, x9, x10, x11, x12, x13, x14, x15, x16, x17, x18, x19, x20, x21, x22, x23, x24, x25, x26, x27, x6, x1, v11, v12, x6, v35, x5, v13, v14, x1, x6, v15, v16, v17, v18, v19, x5, x1, x6, v20, v21, v22, v23, v23, v14, x0, v24, v25, v25, v26, v27, v28, v29, v30, v31, v32, v33, v34, x66, x67, x68, x69, x70, x71, x72, x73, x74, x75, x76, x77, x78, x79, x80, x81, x82, x83, x84, x85, x86, x87, x88, x89, x90, x91, x92, x93, x94, x95, x96, x97, x98, x99, x100, x101, x102, x103, x104, x105] h35)) (
  ob ((M.ofOpt (iAddr 5 x1 x6)) h19) fun v36 h36 =>
  ob ((M.ofOpt (fAddr 2 v36)) h36) fun v37 h37 =>
  ob ((ld1 v37) h37) fun v38 h38 =>
  ob ((O (.func 20) [x5, v38]) h38) fun v39 h39 =>
  ob ((M.ofOpt (ext 0 v39)) h39) fun v40 h40 =>
  ob ((M.ofOpt (ext 1 v39)) h40) fun v41 h41 =>
  ob ((M.ofOpt (iAddr 5 x1 x6)) h41) fun v42 h42 =>
  ob ((M.ofOpt (fAddr 2 v42)) h42) fun v43 h43 =>
  ob ((ld1 v43) h43) fun v44 h44 =>
  ob ((M.ofOpt (bin Try.prog .geq 3 v44 (.int .i64 0))) h44) fun v45 h45 =>
  ob ((gd v45 true (M.ret x1)) h45) fun v46 h46 =>
  ob ((gd v45 true (M.ret x6)) h46) fun v47 h47 =>
  ob ((gd v45 true (M.ofOpt (iAddr 5 v46 v47))) h47) fun v48 h48 =>
  ob ((gd v45 true (M.ofOpt (fAddr 2 v48))) h48) fun v49 h49 =>
  ob ((gd v45 true (ld1 v49)) h49) fun v50 h50 =>
  ob ((gd v45 true (M.ret v14)) h50) fun v51 h51 =>
  ob ((gd v45 true (M.ofOpt (bin Try.prog .lss 3 v50 v51))) h51) fun v52 h52 =>
  ob ((M.ofOpt (pick v45 v52 (.bool false))) h52) fun v53 h53 =>
  ob ((M.ofOpt (bin Try.prog .neq 4 v41 v53)) h53) fun v54 h54 =>
  iteV v54 (
  k .ret [x0, x1, x2, x3, (.bool false), x5, x6, v14, x8, v40, v41, x11, x12, x13, x14, x15, x16, x17, x18, x19, x20, x21, x22, x23, x24, x25, x26, x27, x6, x1, v11, v12, x32, x33, x5, v13, v14, x1, x6, v15, v16, v17, v18, v19, x44, x45, x46, x47, x48, x49, x50, x51, x52, x53, x54, x55, x56, x57, x58, x59, x60, x61, x62, x63, x64, x65, v39, x5, x1, x6, v36, v37, v38, v39, v40, v41, v41, x1, x6, v42, v43, v44, v45, v45, v46, v47, v48, v49, v50, v51, v52, v53, v54, x93, x94, x95, x96, x97, x98, x99, x100, x101, x102, x103, x104, x105] h54) (
  ob ((M.ofOpt (bin Try.prog .add 3 x6 (.int .i64 1))) h54) fun v55 h55 =>
  k .normal [x0, x1, x2, x3, x4, x5, v55, v14, x8, v40, v41, x11, x12, x13, x14, x15, x16, x17, x18, x19, x20, x21, x22, x23, x24, x25, x26, x27, x6, x1, v11, v12, x6, v55, x5, v13, v14, x1, x6, v15, v16, v17, v18, v19, x44, x45, x46, x47, x48, x49, x50, x51, x52, x53, x54, x55, x56, x57, x58, x59, x60, x61, x62, x63, x64, x65, v39, x5, x1, x6, v36, v37, v38, v39, v40, v41, v41, x1, x6, v42, v43, v44, v45, v45, v46, v47, v48, v49, v50, v51, v52, v53, v54, x93, x94, x95, x96, x97, x98, x99, x100, x101, x102, x103, x104, x105] h55))) (
  k (.exit 0) [x0, x1, x2, x3, x4, x5, x6, x7, x8, x9, x10, x11, x12, x13, x14, x15, x16, x17, x18, x19, x20, x21, x22, x23, x24, x25, x26, x27, x6, x1, v11, v12, x32, x33, x34, x35, x36, x37, x38, x39, x40, x41, x42, x43, x44, x45, x46, x47, x48, x49, x50, x51, x52, x53, x54, x55, x56, x57, x58, x59, x60, x61, x62, x63, x64, x65, x66, x67, x68, x69, x70, x71, x72, x73, x74, x75, x76, x77, x78, x79, x80, x81, x82, x83, x84, x85, x86, x87, x88, x89, x90, x91, x92, x93, x94, x95, x96, x97, x98, x99, x100, x101, x102, x103, x104, x105] h12)
theorem f3_b0_eq (O : Oracle) (L : Loops (Value × Heap)) (k : Ex → K (Value × Heap)) (x0 x1 x2 x3 x4 x5 x6 x7 x8 x9 x10 x11 x12 x13 x14 x15 x16 x17 x18 x19 x20 x21 x22 x23 x24 x25 x26 x27 x28 x29 x30 x31 x32 x33 x34 x35 x36 x37 x38 x39 x40 x41 x42 x43 x44 x45 x46 x47 x48 x49 x50 x51 x52 x53 x54 x55 x56 x57 x58 x59 x60 x61 x62 x63 x64 x65 x66 x67 x68 x69 x70 x71 x72 x73 x74 x75 x76 x77 x78 x79 x80 x81 x82 x83 x84 x85 x86 x87 x88 x89 x90 x91 x92 x93 x94 x95 x96 x97 x98 x99 x100 x101 x102 x103 x104 x105 : Value) (h : Heap) :
    runCode Try.prog O L f3_c0 k [x0, x1, x2, x3, x4, x5, x6, x7, x8, x9, x10, x11, x12, x13, x14, x15, x16, x17, x18, x19, x20, x21, x22, x23, x24, x25, x26, x27, x28, x29, x30, x31, x32, x33, x34, x35, x36, x37, x38, x39, x40, x41, x42, x43, x44, x45, x46, x47, x48, x49, x50, x51, x52, x53, x54, x55, x56, x57, x58, x59, x60, x61, x62, x63, x64, x65, x66, x67, x68, x69, x70, x71, x72, x73, x74, x75, x76, x77, x78, x79, x80, x81, x82, x83, x84, x85, x86, x87, x88, x89, x90, x91, x92, x93, x94, x95, x96, x97, x98, x99, x100, x101, x102, x103, x104, x105] h = f3_b0 O L k x0 x1 x2 x3 x4 x5 x6 x7 x8 x9 x10 x11 x12 x13 x14 x15 x16 x17 x18 x19 x20 x21 x22 x23 x24 x25 x26 x27 x28 x29 x30 x31 x32 x33 x34 x35 x36 x37 x38 x39 x40 x41 x42 x43 x44 x45 x46 x47 x48 x49 x50 x51 x52 x53 x54 x55 x56 x57 x58 x59 x60 x61 x62 x63 x64 x65 x66 x67 x68 x69 x70 x71 x72 x73 x74 x75 x76 x77 x78 x79 x80 x81 x82 x83 x84 x85 x86 x87 x88 x89 x90 x91 x92 x93 x94 x95 x96 x97 x98 x99 x100 x101 x102 x103 x104 x105 h := by kernel_rfl
noncomputable def f3 (O : Oracle) (L : Loops (Value × Heap)) (a0 a1 : Value) (h : Heap) : Option (Value × Heap) :=
  ob ((O (.func 15) [a1]) h) fun v0 h0 =>
  ob ((gd v0 false (O (.func 16) [])) h0) fun v1 h1 =>
  ob ((gd v0 false (M.ofOpt (un Try.prog .not v1))) h1) fun v2 h2 =>
  ob ((M.ofOpt (pick v0 (.bool true) v2)) h2) fun v3 h3 =>
  iteV v3 (
  ob ((O (.func 16) []) h3) fun v4 h4 =>
  some (oneOf [v4], h4)) (
  ob ((O (.func 17) [a0]) h3) fun v5 h5 =>
  ob ((M.ofOpt (bin Try.prog .eql 25 v5 (.pointer none))) h5) fun v6 h6 =>
  iteV v6 (
  ob ((M.ofOpt (bin Try.prog .lss 3 a0 (.int .i64 1))) h6) fun v7 h7 =>
  ob ((gd v7 false (M.ret a0)) h7) fun v8 h8 =>
  ob ((gd v7 false (M.ofOpt (bin Try.prog .gtr 3 v8 (.int .i64 64)))) h8) fun v9 h9 =>
  ob ((M.ofOpt (pick v7 (.bool true) v9)) h9) fun v10 h10 =>
  some (oneOf [v10], h10)) (
  L (runCode Try.prog O L f3_c0) (f3_k0 O L) [a0, a1, undef, undef, (.bool false), v5, (.int .i64 0), undef, undef, undef, undef, a1, v0, v0, v1, v2, v3, undef, a0, v5, v5, v6, undef, undef, undef, undef, undef, undef, undef, undef, undef, undef, undef, undef, undef, undef, undef, undef, undef, undef, undef, undef, undef, undef, undef, undef, undef, undef, undef, undef, undef, undef, undef, undef, undef, undef, undef, undef, undef, undef, undef, undef, undef, undef, undef, undef, undef, undef, undef, undef, undef, undef, undef, undef, undef, undef, undef, undef, undef, undef, undef, undef, undef, undef, undef, undef, undef, undef, undef, undef, undef, undef, undef, undef, undef, undef, undef, undef, undef, undef, undef, undef, undef, undef, undef, undef] h6))
theorem f3_eq (O : Oracle) (L : Loops (Value × Heap)) (a0 a1 : Value) (h : Heap) :
    body Try.prog O L 3 [a0, a1] h = f3 O L a0 a1 h := by kernel_rfl

/-! 4: shunter/shunterlaw04.LinkTakes; slots: [(l, 0), (i, 1), (l, 2), (i, 3), (a, 5), (k, 6), (was, 7), (k, 8), (b, 9), (is, 10), (now, 11), (j, 12), (x, 13)] -/
noncomputable def f4_c1 : Code := sub [1, 1, 1, 1, 1, 1, 1, 1, 1, 1, 0, 1, 0, 0] (fbody Try.prog 4)
noncomputable def f4_k1 (O : Oracle) (L : Loops (Value × Heap)) : Ex → K (Value × Heap) := (blockK 2 (seqK Try.prog O L (sub [1, 1, 1, 1, 1, 1, 1, 1, 1, 1, 1] (fbody Try.prog 4)) (kRet Try.prog Try.f4)))
noncomputable def f4_e1_2 (O : Oracle) (L : Loops (Value × Heap)) (x0 x1 x2 x3 x4 x5 x6 x7 x8 x9 x10 x11 x12 x13 x14 x15 x16 x17 x18 x19 x20 x21 x22 x23 x24 x25 x26 x27 x28 x29 x30 x31 x32 x33 x34 x35 x36 x37 x38 x39 x40 x41 x42 x43 x44 x45 x46 x47 x48 x49 x50 x51 x52 x53 x54 x55 x56 x57 x58 x59 x60 x61 x62 x63 x64 x65 x66 x67 x68 x69 x70 x71 x72 x73 x74 x75 x76 x77 x78 x79 x80 x81 x82 x83 x84 x85 x86 x87 x88 x89 x90 x91 x92 x93 x94 x95 x96 x97 x98 x99 : Value) (h : Heap) : Option (Value × Heap) :=
  some (oneOf [(.bool true)], h)
theorem f4_e1_2_eq (O : Oracle) (L : Loops (Value × Heap)) (x0 x1 x2 x3 x4 x5 x6 x7 x8 x9 x10 x11 x12 x13 x14 x15 x16 x17 x18 x19 x20 x21 x22 x23 x24 x25 x26 x27 x28 x29 x30 x31 x32 x33 x34 x35 x36 x37 x38 x39 x40 x41 x42 x43 x44 x45 x46 x47 x48 x49 x50 x51 x52 x53 x54 x55 x56 x57 x58 x59 x60 x61 x62 x63 x64 x65 x66 x67 x68 x69 x70 x71 x72 x73 x74 x75 x76 x77 x78 x79 x80 x81 x82 x83 x84 x85 x86 x87 x88 x89 x90 x91 x92 x93 x94 x95 x96 x97 x98 x99 : Value) (h : Heap) :
    f4_k1 O L (.exit 2) [x0, x1, x2, x3, x4, x5, x6, x7, x8, x9, x10, x11, x12, x13, x14, x15, x16, x17, x18, x19, x20, x21, x22, x23, x24, x25, x26, x27, x28, x29, x30, x31, x32, x33, x34, x35, x36, x37, x38, x39, x40, x41, x42, x43, x44, x45, x46, x47, x48, x49, x50, x51, x52, x53, x54, x55, x56, x57, x58, x59, x60, x61, x62, x63, x64, x65, x66, x67, x68, x69, x70, x71, x72, x73, x74, x75, x76, x77, x78, x79, x80, x81, x82, x83, x84, x85, x86, x87, x88, x89, x90, x91, x92, x93, x94, x95, x96, x97, x98, x99] h = f4_e1_2 O L x0 x1 x2 x3 x4 x5 x6 x7 x8 x9 x10 x11 x12 x13 x14 x15 x16 x17 x18 x19 x20 x21 x22 x23 x24 x25 x26 x27 x28 x29 x30 x31 x32 x33 x34 x35 x36 x37 x38 x39 x40 x41 x42 x43 x44 x45 x46 x47 x48 x49 x50 x51 x52 x53 x54 x55 x56 x57 x58 x59 x60 x61 x62 x63 x64 x65 x66 x67 x68 x69 x70 x71 x72 x73 x74 x75 x76 x77 x78 x79 x80 x81 x82 x83 x84 x85 x86 x87 x88 x89 x90 x91 x92 x93 x94 x95 x96 x97 x98 x99 h := by kernel_rfl
noncomputable def f4_r1 (O : Oracle) (L : Loops (Value × Heap)) (x0 x1 x2 x3 x4 x5 x6 x7 x8 x9 x10 x11 x12 x13 x14 x15 x16 x17 x18 x19 x20 x21 x22 x23 x24 x25 x26 x27 x28 x29 x30 x31 x32 x33 x34 x35 x36 x37 x38 x39 x40 x41 x42 x43 x44 x45 x46 x47 x48 x49 x50 x51 x52 x53 x54 x55 x56 x57 x58 x59 x60 x61 x62 x63 x64 x65 x66 x67 x68 x69 x70 x71 x72 x73 x74 x75 x76 x77 x78 x79 x80 x81 x82 x83 x84 x85 x86 x87 x88 x89 x90 x91 x92 x93 x94 x95 x96 x97 x98 x99 : Value) (h : Heap) : Option (Value × Heap) :=
  some (oneOf [x4], h)
theorem f4_r1_eq (O : Oracle) (L : Loops (Value × Heap)) (x0 x1 x2 x3 x4 x5 x6 x7 x8 x9 x10 x11 x12 x13 x14 x15 x16 x17 x18 x19 x20 x21 x22 x23 x24 x25 x26 x27 x28 x29 x30 x31 x32 x33 x34 x35 x36 x37 x38 x39 x40 x41 x42 x43 x44 x45 x46 x47 x48 x49 x50 x51 x52 x53 x54 x55 x56 x57 x58 x59 x60 x61 x62 x63 x64 x65 x66 x67 x68 x69 x70 x71 x72 x73 x74 x75 x76 x77 x78 x79 x80 x81 x82 x83 x84 x85 x86 x87 x88 x89 x90 x91 x92 x93 x94 x95 x96 x97 x98 x99 : Value) (h : Heap) :
    f4_k1 O L .ret [x0, x1, x2, x3, x4, x5, x6, x7, x8, x9, x10, x11, x12, x13, x14, x15, x16, x17, x18, x19, x20, x21, x22, x23, x24, x25, x26, x27, x28, x29, x30, x31, x32, x33, x34, x35, x36, x37, x38, x39, x40, x41, x42, x43, x44, x45, x46, x47, x48, x49, x50, x51, x52, x53, x54, x55, x56, x57, x58, x59, x60, x61, x62, x63, x64, x65, x66, x67, x68, x69, x70, x71, x72, x73, x74, x75, x76, x77, x78, x79, x80, x81, x82, x83, x84, x85, x86, x87, x88, x89, x90, x91, x92, x93, x94, x95, x96, x97, x98, x99] h = f4_r1 O L x0 x1 x2 x3 x4 x5 x6 x7 x8 x9 x10 x11 x12 x13 x14 x15 x16 x17 x18 x19 x20 x21 x22 x23 x24 x25 x26 x27 x28 x29 x30 x31 x32 x33 x34 x35 x36 x37 x38 x39 x40 x41 x42 x43 x44 x45 x46 x47 x48 x49 x50 x51 x52 x53 x54 x55 x56 x57 x58 x59 x60 x61 x62 x63 x64 x65 x66 x67 x68 x69 x70 x71 x72 x73 x74 x75 x76 x77 x78 x79 x80 x81 x82 x83 x84 x85 x86 x87 x88 x89 x90 x91 x92 x93 x94 x95 x96 x97 x98 x99 h := by kernel_rfl
noncomputable def f4_b1 (O : Oracle) (L : Loops (Value × Heap)) (k : Ex → K (Value × Heap)) (x0 x1 x2 x3 x4 x5 x6 x7 x8 x9 x10 x11 x12 x13 x14 x15 x16 x17 x18 x19 x20 x21 x22 x23 x24 x25 x26 x27 x28 x29 x30 x31 x32 x33 x34 x35 x36 x37 x38 x39 x40 x41 x42 x43 x44 x45 x46 x47 x48 x49 x50 x51 x52 x53 x54 x55 x56 x57 x58 x59 x60 x61 x62 x63 x64 x65 x66 x67 x68 x69 x70 x71 x72 x73 x74 x75 x76 x77 x78 x79 x80 x81 x82 x83 x84 x85 x86 x87 x88 x89 x90 x91 x92 x93 x94 x95 x96 x97 x98 x99 : Value) (h : Heap) : Option (Value × Heap) :=
  ob ((M.ofOpt (lenSl x11)) h) fun v43 h43 =>
  ob ((M.ofOpt (bin Try.prog .lss 3 x12 v43)) h43) fun v44 h44 =>
  iteV v44 (
  ob ((M.ofOpt (bin Try.prog .geq 3 x12 x8)) h44) fun v45 h45 =>
  iteV v45 (
  ob ((M.ofOpt (bin Try.prog .add 3 x12 (.int .i64 1))) h45) fun v46 h46 =>
  ob ((M.ofOpt (iAddr 1 x11 x12)) h46) fun v47 h47 =>
  ob ((ld1 v47) h47) fun v48 h48 =>
  ifB (true) (
  ob ((conv Try.prog 29 9 v48) h48) fun v49 h49 =>
  ifB (true) (
  ob ((M.ofOpt (iAddr 1 x7 v46)) h49) fun v50 h50 =>
  ob ((ld1 v50) h50) fun v51 h51 =>
  ifB (true) (
  ob ((conv Try.prog 29 9 v51) h51) fun v52 h52 =>
  ifB (true) (
  ob ((M.ofOpt (bin Try.prog .neq 9 v49 v52)) h52) fun v53 h53 =>
  iteV v53 (
  k .ret [x0, x1, x2, x3, (.bool false), x5, x6, x7, x8, x9, x10, x11, x12, v46, x14, x15, x16, x17, x18, x19, x20, x21, x22, x23, x24, x25, x26, x27, x28, x29, x30, x31, x32, x33, x34, x35, x36, x37, x38, x39, x40, x41, x42, x43, x44, x45, x46, x47, x48, x49, x50, x51, x52, x53, x54, x55, x56, x57, x58, x59, x60, x61, x62, x63, x64, x65, x66, x67, x68, x69, x70, x71, x72, x73, x74, x75, x76, x12, x11, v43, v44, x81, x82, x12, x12, x8, v45, x12, v46, x11, x12, v47, v48, v49, x7, v46, v50, v51, v52, v53] h53) (
  ob ((M.ofOpt (bin Try.prog .add 3 x12 (.int .i64 1))) h53) fun v54 h54 =>
  k .normal [x0, x1, x2, x3, x4, x5, x6, x7, x8, x9, x10, x11, v54, v46, x14, x15, x16, x17, x18, x19, x20, x21, x22, x23, x24, x25, x26, x27, x28, x29, x30, x31, x32, x33, x34, x35, x36, x37, x38, x39, x40, x41, x42, x43, x44, x45, x46, x47, x48, x49, x50, x51, x52, x53, x54, x55, x56, x57, x58, x59, x60, x61, x62, x63, x64, x65, x66, x67, x68, x69, x70, x71, x72, x73, x74, x75, x76, x12, x11, v43, v44, x12, v54, x12, x12, x8, v45, x12, v46, x11, x12, v47, v48, v49, x7, v46, v50, v51, v52, v53] h54)))))) (
  ob ((M.ofOpt (iAddr 1 x11 x12)) h45) fun v55 h55 =>
  ob ((ld1 v55) h55) fun v56 h56 =>
  ifB (true) (
  ob ((conv Try.prog 29 9 v56) h56) fun v57 h57 =>
  ifB (true) (
  ob ((M.ofOpt (iAddr 1 x7 x12)) h57) fun v58 h58 =>
  ob ((ld1 v58) h58) fun v59 h59 =>
  ifB (true) (
  ob ((conv Try.prog 29 9 v59) h59) fun v60 h60 =>
  ifB (true) (
  ob ((M.ofOpt (bin Try.prog .neq 9 v57 v60)) h60) fun v61 h61 =>
  iteV v61 (
  k .ret [x0, x1, x2, x3, (.bool false), x5, x6, x7, x8, x9, x10, x11, x12, x12, x14, x15, x16, x17, x18, x19, x20, x21, x22, x23, x24, x25, x26, x27, x28, x29, x30, x31, x32, x33, x34, x35, x36, x37, x38, x39, x40, x41, x42, x43, x44, x45, x46, x47, x48, x49, x50, x51, x52, x53, x54, x55, x56, x57, x58, x59, x60, x61, x62, x63, x64, x65, x66, x67, x68, x69, x70, x71, x72, x73, x74, x75, x76, x12, x11, v43, v44, x81, x82, x12, x12, x8, v45, x87, x88, x11, x12, v55, v56, v57, x7, x12, v58, v59, v60, v61] h61) (
  ob ((M.ofOpt (bin Try.prog .add 3 x12 (.int .i64 1))) h61) fun v62 h62 =>
  k .normal [x0, x1, x2, x3, x4, x5, x6, x7, x8, x9, x10, x11, v62, x12, x14, x15, x16, x17, x18, x19, x20, x21, x22, x23, x24, x25, x26, x27, x28, x29, x30, x31, x32, x33, x34, x35, x36, x37, x38, x39, x40, x41, x42, x43, x44, x45, x46, x47, x48, x49, x50, x51, x52, x53, x54, x55, x56, x57, x58, x59, x60, x61, x62, x63, x64, x65, x66, x67, x68, x69, x70, x71, x72, x73, x74, x75, x76, x12, x11, v43, v44, x12, v62, x12, x12, x8, v45, x87, x88, x11, x12, v55, v56, v57, x7, x12, v58, v59, v60, v61] h62))))))) (
  k (.exit 2) [x0, x1, x2, x3, x4, x5, x6, x7, x8, x9, x10, x11, x12, x13, x14, x15, x16, x17, x18, x19, x20, x21, x22, x23, x24, x25, x26, x27, x28, x29, x30, x31, x32, x33, x34, x35, x36, x37, x38, x39, x40, x41, x42, x43, x44, x45, x46, x47, x48, x49, x50, x51, x52, x53, x54, x55, x56, x57, x58, x59, x60, x61, x62, x63, x64, x65, x66, x67, x68, x69, x70, x71, x72, x73, x74, x75, x76, x12, x11, v43, v44, x81, x82, x83, x84, x85, x86, x87, x88, x89, x90, x91, x92, x93, x94, x95, x96, x97, x98, x99] h44)
theorem f4_b1_eq (O : Oracle) (L : Loops (Value × Heap)) (k : Ex → K (Value × Heap)) (x0 x1 x2 x3 x4 x5 x6 x7 x8 x9 x10 x11 x12 x13 x14 x15 x16 x17 x18 x19 x20 x21 x22 x23 x24 x25 x26 x27 x28 x29 x30 x31 x32 x33 x34 x35 x36 x37 x38 x39 x40 x41 x42 x43 x44 x45 x46 x47 x48 x49 x50 x51 x52 x53 x54 x55 x56 x57 x58 x59 x60 x61 x62 x63 x64 x65 x66 x67 x68 x69 x70 x71 x72 x73 x74 x75 x76 x77 x78 x79 x80 x81 x82 x83 x84 x85 x86 x87 x88 x89 x90 x91 x92 x93 x94 x95 x96 x97 x98 x99 : Value) (h : Heap) :
    runCode Try.prog O L f4_c1 k [x0, x1, x2, x3, x4, x5, x6, x7, x8, x9, x10, x11, x12, x13, x14, x15, x16, x17, x18, x19, x20, x21, x22, x23, x24, x25, x26, x27, x28, x29, x30, x31, x32, x33, x34, x35, x36, x37, x38, x39, x40, x41, x42, x43, x44, x45, x46, x47, x48, x49, x50, x51, x52, x53, x54, x55, x56, x57, x58, x59, x60, x61, x62, x63, x64, x65, x66, x67, x68, x69, x70, x71, x72, x73, x74, x75, x76, x77, x78, x79, x80, x81, x82, x83, x84, x85, x86, x87, x88, x89, x90, x91, x92, x93, x94, x95, x96, x97, x98, x99] h = f4_b1 O L k x0 x1 x2 x3 x4 x5 x6 x7 x8 x9 x10 x11 x12 x13 x14 x15 x16 x17 x18 x19 x20 x21 x22 x23 x24 x25 x26 x27 x28 x29 x30 x31 x32 x33 x34 x35 x36 x37 x38 x39 x40 x41 x42 x43 x44 x45 x46 x47 x48 x49 x50 x51 x52 x53 x54 x55 x56 x57 x58 x59 x60 x61 x62 x63 x64 x65 x66 x67 x68 x69 x70 x71 x72 x73 x74 x75 x76 x77 x78 x79 x80 x81 x82 x83 x84 x85 x86 x87 x88 x89 x90 x91 x92 x93 x94 x95 x96 x97 x98 x99 h := by kernel_rfl
noncomputable def f4_c0 : Code := sub [1, 1, 1, 1, 0, 1, 0, 0] (fbody Try.prog 4)
noncomputable def f4_k0 (O : Oracle) (L : Loops (Value × Heap)) : Ex → K (Value × Heap) := (blockK 0 (seqK Try.prog O L (sub [1, 1, 1, 1, 1] (fbody Try.prog 4)) (kRet Try.prog Try.f4)))
noncomputable def f4_e0_0 (O : Oracle) (L : Loops (Value × Heap)) (x0 x1 x2 x3 x4 x5 x6 x7 x8 x9 x10 x11 x12 x13 x14 x15 x16 x17 x18 x19 x20 x21 x22 x23 x24 x25 x26 x27 x28 x29 x30 x31 x32 x33 x34 x35 x36 x37 x38 x39 x40 x41 x42 x43 x44 x45 x46 x47 x48 x49 x50 x51 x52 x53 x54 x55 x56 x57 x58 x59 x60 x61 x62 x63 x64 x65 x66 x67 x68 x69 x70 x71 x72 x73 x74 x75 x76 x77 x78 x79 x80 x81 x82 x83 x84 x85 x86 x87 x88 x89 x90 x91 x92 x93 x94 x95 x96 x97 x98 x99 : Value) (h : Heap) : Option (Value × Heap) :=
  ob ((O (.func 18) [x5]) h) fun v18 h18 =>
  ob ((conv Try.prog 5 3 x1) h18) fun v19 h19 =>
  ob ((M.ofOpt (lenSl v18)) h19) fun v20 h20 =>
  ob ((M.ofOpt (bin Try.prog .rem 3 v19 v20)) h20) fun v21 h21 =>
  ob ((O (.func 20) [x5, v21]) h21) fun v22 h22 =>
  ob ((M.ofOpt (ext 0 v22)) h22) fun v23 h23 =>
  ob ((M.ofOpt (ext 1 v22)) h23) fun v24 h24 =>
  ob ((O (.func 18) [x5]) h24) fun v25 h25 =>
  ob ((M.ofOpt (un Try.prog .not v24)) h25) fun v26 h26 =>
  ob ((gd v26 false (M.ret v23)) h26) fun v27 h27 =>
  ob ((gd v26 false (conv Try.prog 29 9 v27)) h27) fun v28 h28 =>
  ifB (true) (
  ob ((gd v26 false (M.ret v18)) h28) fun v29 h29 =>
  ob ((gd v26 false (M.ret v21)) h29) fun v30 h30 =>
  ob ((gd v26 false (M.ofOpt (iAddr 1 v29 v30))) h30) fun v31 h31 =>
  ob ((gd v26 false (ld1 v31)) h31) fun v32 h32 =>
  ifB (true) (
  ob ((gd v26 false (conv Try.prog 29 9 v32)) h32) fun v33 h33 =>
  ifB (true) (
  ob ((gd v26 false (M.ofOpt (bin Try.prog .neq 9 v28 v33))) h33) fun v34 h34 =>
  ob ((M.ofOpt (pick v26 (.bool true) v34)) h34) fun v35 h35 =>
  ob ((gd v35 false (M.ret v25)) h35) fun v36 h36 =>
  ob ((gd v35 false (M.ofOpt (lenSl v36))) h36) fun v37 h37 =>
  ob ((gd v35 false (M.ret v18)) h37) fun v38 h38 =>
  ob ((gd v35 false (M.ofOpt (lenSl v38))) h38) fun v39 h39 =>
  ob ((gd v35 false (M.ofOpt (bin Try.prog .sub 3 v39 (.int .i64 1)))) h39) fun v40 h40 =>
  ob ((gd v35 false (M.ofOpt (bin Try.prog .neq 3 v37 v40))) h40) fun v41 h41 =>
  ob ((M.ofOpt (pick v35 (.bool true) v41)) h41) fun v42 h42 =>
  iteV v42 (
  some (oneOf [(.bool false)], h42)) (
  L (runCode Try.prog O L f4_c1) (f4_k1 O L) [x0, x1, x2, x3, x4, x5, x6, v18, v21, v23, v24, v25, (.int .i64 0), x13, x14, x15, x16, x17, x18, x19, x20, x21, x22, x23, x24, x25, x26, x27, x28, x29, x30, x31, x32, x33, x34, x35, x36, x37, x38, x39, x40, x41, x5, v18, x1, v19, v18, v20, v21, v22, x5, v21, v22, v23, v24, x5, v25, v24, v26, v26, v27, v28, v29, v30, v31, v32, v33, v34, v35, v35, v36, v37, v38, v39, v40, v41, v42, x77, x78, x79, x80, x81, x82, x83, x84, x85, x86, x87, x88, x89, x90, x91, x92, x93, x94, x95, x96, x97, x98, x99] h42))))
theorem f4_e0_0_eq (O : Oracle) (L : Loops (Value × Heap)) (x0 x1 x2 x3 x4 x5 x6 x7 x8 x9 x10 x11 x12 x13 x14 x15 x16 x17 x18 x19 x20 x21 x22 x23 x24 x25 x26 x27 x28 x29 x30 x31 x32 x33 x34 x35 x36 x37 x38 x39 x40 x41 x42 x43 x44 x45 x46 x47 x48 x49 x50 x51 x52 x53 x54 x55 x56 x57 x58 x59 x60 x61 x62 x63 x64 x65 x66 x67 x68 x69 x70 x71 x72 x73 x74 x75 x76 x77 x78 x79 x80 x81 x82 x83 x84 x85 x86 x87 x88 x89 x90 x91 x92 x93 x94 x95 x96 x97 x98 x99 : Value) (h : Heap) :
    f4_k0 O L (.exit 0) [x0, x1, x2, x3, x4, x5, x6, x7, x8, x9, x10, x11, x12, x13, x14, x15, x16, x17, x18, x19, x20, x21, x22, x23, x24, x25, x26, x27, x28, x29, x30, x31, x32, x33, x34, x35, x36, x37, x38, x39, x40, x41, x42, x43, x44, x45, x46, x47, x48, x49, x50, x51, x52, x53, x54, x55, x56, x57, x58, x59, x60, x61, x62, x63, x64, x65, x66, x67, x68, x69, x70, x71, x72, x73, x74, x75, x76, x77, x78, x79, x80, x81, x82, x83, x84, x85, x86, x87, x88, x89, x90, x91, x92, x93, x94, x95, x96, x97, x98, x99] h = f4_e0_0 O L x0 x1 x2 x3 x4 x5 x6 x7 x8 x9 x10 x11 x12 x13 x14 x15 x16 x17 x18 x19 x20 x21 x22 x23 x24 x25 x26 x27 x28 x29 x30 x31 x32 x33 x34 x35 x36 x37 x38 x39 x40 x41 x42 x43 x44 x45 x46 x47 x48 x49 x50 x51 x52 x53 x54 x55 x56 x57 x58 x59 x60 x61 x62 x63 x64 x65 x66 x67 x68 x69 x70 x71 x72 x73 x74 x75 x76 x77 x78 x79 x80 x81 x82 x83 x84 x85 x86 x87 x88 x89 x90 x91 x92 x93 x94 x95 x96 x97 x98 x99 h := by kernel_rfl
noncomputable def f4_b0 (O : Oracle) (L : Loops (Value × Heap)) (k : Ex → K (Value × Heap)) (x0 x1 x2 x3 x4 x5 x6 x7 x8 x9 x10 x11 x12 x13 x14 x15 x16 x17 x18 x19 x20 x21 x22 x23 x24 x25 x26 x27 x28 x29 x30 x31 x32 x33 x34 x35 x36 x37 x38 x39 x40 x41 x42 x43 x44 x45 x46 x47 x48 x49 x50 x51 x52 x53 x54 x55 x56 x57 x58 x59 x60 x61 x62 x63 x64 x65 x66 x67 x68 x69 x70 x71 x72 x73 x74 x75 x76 x77 x78 x79 x80 x81 x82 x83 x84 x85 x86 x87 x88 x89 x90 x91 x92 x93 x94 x95 x96 x97 x98 x99 : Value) (h : Heap) : Option (Value × Heap) :=
  ob ((M.ofOpt (lenSl x0)) h) fun v11 h11 =>
  ob ((M.ofOpt (bin Try.prog .lss 3 x6 v11)) h11) fun v12 h12 =>
  iteV v12 (
  ob ((M.ofOpt (iAddr 5 x0 x6)) h12) fun v13 h13 =>
  ob ((M.ofOpt (fAddr 1 v13)) h13) fun v14 h14 =>
  ob ((ld1 v14) h14) fun v15 h15 =>
  ob ((O (.func 19) [x5, v15]) h15) fun v16 h16 =>
  ob ((M.ofOpt (bin Try.prog .add 3 x6 (.int .i64 1))) h16) fun v17 h17 =>
  k .normal [x0, x1, x2, x3, x4, x5, v17, x7, x8, x9, x10, x11, x12, x13, x14, x15, x16, x17, x18, x19, x20, x21, x22, x23, x24, x25, x26, x27, x28, x6, x0, v11, v12, x6, v17, x5, x0, x6, v13, v14, v15, v16, x42, x43, x44, x45, x46, x47, x48, x49, x50, x51, x52, x53, x54, x55, x56, x57, x58, x59, x60, x61, x62, x63, x64, x65, x66, x67, x68, x69, x70, x71, x72, x73, x74, x75, x76, x77, x78, x79, x80, x81, x82, x83, x84, x85, x86, x87, x88, x89, x90, x91, x92, x93, x94, x95, x96, x97, x98, x99] h17) (
  k (.exit 0) [x0, x1, x2, x3, x4, x5, x6, x7, x8, x9, x10, x11, x12, x13, x14, x15, x16, x17, x18, x19, x20, x21, x22, x23, x24, x25, x26, x27, x28, x6, x0, v11, v12, x33, x34, x35, x36, x37, x38, x39, x40, x41, x42, x43, x44, x45, x46, x47, x48, x49, x50, x51, x52, x53, x54, x55, x56, x57, x58, x59, x60, x61, x62, x63, x64, x65, x66, x67, x68, x69, x70, x71, x72, x73, x74, x75, x76, x77, x78, x79, x80, x81, x82, x83, x84, x85, x86, x87, x88, x89, x90, x91, x92, x93, x94, x95, x96, x97, x98, x99] h12)
theorem f4_b0_eq (O : Oracle) (L : Loops (Value × Heap)) (k : Ex → K (Value × Heap)) (x0 x1 x2 x3 x4 x5 x6 x7 x8 x9 x10 x11 x12 x13 x14 x15 x16 x17 x18 x19 x20 x21 x22 x23 x24 x25 x26 x27 x28 x29 x30 x31 x32 x33 x34 x35 x36 x37 x38 x39 x40 x41 x42 x43 x44 x45 x46 x47 x48 x49 x50 x51 x52 x53 x54 x55 x56 x57 x58 x59 x60 x61 x62 x63 x64 x65 x66 x67 x68 x69 x70 x71 x72 x73 x74 x75 x76 x77 x78 x79 x80 x81 x82 x83 x84 x85 x86 x87 x88 x89 x90 x91 x92 x93 x94 x95 x96 x97 x98 x99 : Value) (h : Heap) :
    runCode Try.prog O L f4_c0 k [x0, x1, x2, x3, x4, x5, x6, x7, x8, x9, x10, x11, x12, x13, x14, x15, x16, x17, x18, x19, x20, x21, x22, x23, x24, x25, x26, x27, x28, x29, x30, x31, x32, x33, x34, x35, x36, x37, x38, x39, x40, x41, x42, x43, x44, x45, x46, x47, x48, x49, x50, x51, x52, x53, x54, x55, x56, x57, x58, x59, x60, x61, x62, x63, x64, x65, x66, x67, x68, x69, x70, x71, x72, x73, x74, x75, x76, x77, x78, x79, x80, x81, x82, x83, x84, x85, x86, x87, x88, x89, x90, x91, x92, x93, x94, x95, x96, x97, x98, x99] h = f4_b0 O L k x0 x1 x2 x3 x4 x5 x6 x7 x8 x9 x10 x11 x12 x13 x14 x15 x16 x17 x18 x19 x20 x21 x22 x23 x24 x25 x26 x27 x28 x29 x30 x31 x32 x33 x34 x35 x36 x37 x38 x39 x40 x41 x42 x43 x44 x45 x46 x47 x48 x49 x50 x51 x52 x53 x54 x55 x56 x57 x58 x59 x60 x61 x62 x63 x64 x65 x66 x67 x68 x69 x70 x71 x72 x73 x74 x75 x76 x77 x78 x79 x80 x81 x82 x83 x84 x85 x86 x87 x88 x89 x90 x91 x92 x93 x94 x95 x96 x97 x98 x99 h := by kernel_rfl
noncomputable def f4 (O : Oracle) (L : Loops (Value × Heap)) (a0 a1 : Value) (h : Heap) : Option (Value × Heap) :=
  ob ((O (.func 15) [a0]) h) fun v0 h0 =>
  ob ((gd v0 false (M.ret a0)) h0) fun v1 h1 =>
  ob ((gd v0 false (M.ofOpt (lenSl v1))) h1) fun v2 h2 =>
  ob ((gd v0 false (M.ofOpt (bin Try.prog .eql 3 v2 (.int .i64 0)))) h2) fun v3 h3 =>
  ob ((M.ofOpt (pick v0 (.bool true) v3)) h3) fun v4 h4 =>
  ob ((gd v4 false (O (.func 16) [])) h4) fun v5 h5 =>
  ob ((gd v4 false (M.ofOpt (un Try.prog .not v5))) h5) fun v6 h6 =>
  ob ((M.ofOpt (pick v4 (.bool true) v6)) h6) fun v7 h7 =>
  iteV v7 (
  ob ((O (.func 16) []) h7) fun v8 h8 =>
  some (oneOf [v8], h8)) (
  ob ((O (.func 17) [(.int .i64 64)]) h7) fun v9 h9 =>
  ob ((M.ofOpt (bin Try.prog .eql 25 v9 (.pointer none))) h9) fun v10 h10 =>
  iteV v10 (
  some (oneOf [(.bool false)], h10)) (
  L (runCode Try.prog O L f4_c0) (f4_k0 O L) [a0, a1, undef, undef, (.bool false), v9, (.int .i64 0), undef, undef, undef, undef, undef, undef, undef, a0, v0, v0, v1, v2, v3, v4, v4, v5, v6, v7, undef, v9, v9, v10, undef, undef, undef, undef, undef, undef, undef, undef, undef, undef, undef, undef, undef, undef, undef, undef, undef, undef, undef, undef, undef, undef, undef, undef, undef, undef, undef, undef, undef, undef, undef, undef, undef, undef, undef, undef, undef, undef, undef, undef, undef, undef, undef, undef, undef, undef, undef, undef, undef, undef, undef, undef, undef, undef, undef, undef, undef, undef, undef, undef, undef, undef, undef, undef, undef, undef, undef, undef, undef, undef, undef] h10))
theorem f4_eq (O : Oracle) (L : Loops (Value × Heap)) (a0 a1 : Value) (h : Heap) :
    body Try.prog O L 4 [a0, a1] h = f4 O L a0 a1 h := by kernel_rfl

/-! 5: shunter/shunterlaw04.LinkNone; slots: [(l, 0), (far, 1), (x, 2), (l, 3), (far, 4), (x, 5), (a, 7), (k, 8), (n, 9), (_, 10), (p, 11), (_, 12), (q, 13)] -/
noncomputable def f5_c0 : Code := sub [1, 1, 1, 1, 0, 1, 0, 0] (fbody Try.prog 5)
noncomputable def f5_k0 (O : Oracle) (L : Loops (Value × Heap)) : Ex → K (Value × Heap) := (blockK 0 (seqK Try.prog O L (sub [1, 1, 1, 1, 1] (fbody Try.prog 5)) (kRet Try.prog Try.f5)))
noncomputable def f5_e0_0 (O : Oracle) (L : Loops (Value × Heap)) (x0 x1 x2 x3 x4 x5 x6 x7 x8 x9 x10 x11 x12 x13 x14 x15 x16 x17 x18 x19 x20 x21 x22 x23 x24 x25 x26 x27 x28 x29 x30 x31 x32 x33 x34 x35 x36 x37 x38 x39 x40 x41 x42 x43 x44 x45 x46 x47 x48 x49 x50 x51 x52 x53 x54 x55 x56 x57 x58 x59 x60 x61 x62 x63 x64 x65 x66 x67 x68 x69 x70 x71 x72 x73 x74 x75 x76 x77 x78 x79 x80 x81 x82 x83 x84 x85 x86 x87 x88 x89 x90 x91 x92 x93 x94 x95 x96 : Value) (h : Heap) : Option (Value × Heap) :=
  ob ((O (.func 18) [x7]) h) fun v14 h14 =>
  ob ((M.ofOpt (lenSl v14)) h14) fun v15 h15 =>
  ob ((conv Try.prog 5 3 x1) h15) fun v16 h16 =>
  ob ((M.ofOpt (bin Try.prog .add 3 v15 v16)) h16) fun v17 h17 =>
  ob ((O (.func 20) [x7, v17]) h17) fun v18 h18 =>
  ob ((M.ofOpt (ext 0 v18)) h18) fun v19 h19 =>
  ob ((M.ofOpt (ext 1 v18)) h19) fun v20 h20 =>
  ob ((O (.func 20) [x7, (.int .i64 (-1))]) h20) fun v21 h21 =>
  ob ((M.ofOpt (ext 0 v21)) h21) fun v22 h22 =>
  ob ((M.ofOpt (ext 1 v21)) h22) fun v23 h23 =>
  ob ((M.ofOpt (un Try.prog .not v20)) h23) fun v24 h24 =>
  ob ((gd v24 true (M.ret v23)) h24) fun v25 h25 =>
  ob ((gd v24 true (M.ofOpt (un Try.prog .not v25))) h25) fun v26 h26 =>
  ob ((M.ofOpt (pick v24 v26 (.bool false))) h26) fun v27 h27 =>
  ob ((gd v27 true (M.ret x7)) h27) fun v28 h28 =>
  ob ((gd v27 true (M.ret v15)) h28) fun v29 h29 =>
  ob ((gd v27 true (M.ret x1)) h29) fun v30 h30 =>
  ob ((gd v27 true (conv Try.prog 5 3 v30)) h30) fun v31 h31 =>
  ob ((gd v27 true (M.ofOpt (bin Try.prog .add 3 v29 v31))) h31) fun v32 h32 =>
  ob ((gd v27 true (O (.func 21) [v28, v32])) h32) fun v33 h33 =>
  ob ((gd v27 true (M.ofOpt (un Try.prog .not v33))) h33) fun v34 h34 =>
  ob ((M.ofOpt (pick v27 v34 (.bool false))) h34) fun v35 h35 =>
  ob ((gd v35 true (M.ret x7)) h35) fun v36 h36 =>
  ob ((gd v35 true (M.ret v15)) h36) fun v37 h37 =>
  ob ((gd v35 true (M.ret x1)) h37) fun v38 h38 =>
  ob ((gd v35 true (conv Try.prog 5 3 v38)) h38) fun v39 h39 =>
  ob ((gd v35 true (M.ofOpt (bin Try.prog .add 3 v37 v39))) h39) fun v40 h40 =>
  ob ((gd v35 true (M.ret x2)) h40) fun v41 h41 =>
  ob ((gd v35 true (O (.func 22) [v36, v40, (.int .i64 0), v41])) h41) fun v42 h42 =>
  ob ((gd v35 true (M.ofOpt (un Try.prog .not v42))) h42) fun v43 h43 =>
  ob ((M.ofOpt (pick v35 v43 (.bool false))) h43) fun v44 h44 =>
  ob ((gd v44 true (M.ret x7)) h44) fun v45 h45 =>
  ob ((gd v44 true (M.ret x2)) h45) fun v46 h46 =>
  ob ((gd v44 true (O (.func 22) [v45, (.int .i64 0), (.int .i64 (-1)), v46])) h46) fun v47 h47 =>
  ob ((gd v44 true (M.ofOpt (un Try.prog .not v47))) h47) fun v48 h48 =>
  ob ((M.ofOpt (pick v44 v48 (.bool false))) h48) fun v49 h49 =>
  ob ((gd v49 true (M.ret x7)) h49) fun v50 h50 =>
  ob ((gd v49 true (O (.func 22) [v50, (.int .i64 0), (.int .i64 0), (.int .u8 0)])) h50) fun v51 h51 =>
  ob ((gd v49 true (M.ofOpt (un Try.prog .not v51))) h51) fun v52 h52 =>
  ob ((M.ofOpt (pick v49 v52 (.bool false))) h52) fun v53 h53 =>
  ob ((gd v53 true (M.ret x7)) h53) fun v54 h54 =>
  ob ((gd v53 true (O (.func 18) [v54])) h54) fun v55 h55 =>
  ob ((gd v53 true (M.ofOpt (lenSl v55))) h55) fun v56 h56 =>
  ob ((gd v53 true (M.ret v15)) h56) fun v57 h57 =>
  ob ((gd v53 true (M.ofOpt (bin Try.prog .eql 3 v56 v57))) h57) fun v58 h58 =>
  ob ((M.ofOpt (pick v53 v58 (.bool false))) h58) fun v59 h59 =>
  some (oneOf [v59], h59)
theorem f5_e0_0_eq (O : Oracle) (L : Loops (Value × Heap)) (x0 x1 x2 x3 x4 x5 x6 x7 x8 x9 x10 x11 x12 x13 x14 x15 x16 x17 x18 x19 x20 x21 x22 x23 x24 x25 x26 x27 x28 x29 x30 x31 x32 x33 x34 x35 x36 x37 x38 x39 x40 x41 x42 x43 x44 x45 x46 x47 x48 x49 x50 x51 x52 x53 x54 x55 x56 x57 x58 x59 x60 x61 x62 x63 x64 x65 x66 x67 x68 x69 x70 x71 x72 x73 x74 x75 x76 x77 x78 x79 x80 x81 x82 x83 x84 x85 x86 x87 x88 x89 x90 x91 x92 x93 x94 x95 x96 : Value) (h : Heap) :
    f5_k0 O L (.exit 0) [x0, x1, x2, x3, x4, x5, x6, x7, x8, x9, x10, x11, x12, x13, x14, x15, x16, x17, x18, x19, x20, x21, x22, x23, x24, x25, x26, x27, x28, x29, x30, x31, x32, x33, x34, x35, x36, x37, x38, x39, x40, x41, x42, x43, x44, x45, x46, x47, x48, x49, x50, x51, x52, x53, x54, x55, x56, x57, x58, x59, x60, x61, x62, x63, x64, x65, x66, x67, x68, x69, x70, x71, x72, x73, x74, x75, x76, x77, x78, x79, x80, x81, x82, x83, x84, x85, x86, x87, x88, x89, x90, x91, x92, x93, x94, x95, x96] h = f5_e0_0 O L x0 x1 x2 x3 x4 x5 x6 x7 x8 x9 x10 x11 x12 x13 x14 x15 x16 x17 x18 x19 x20 x21 x22 x23 x24 x25 x26 x27 x28 x29 x30 x31 x32 x33 x34 x35 x36 x37 x38 x39 x40 x41 x42 x43 x44 x45 x46 x47 x48 x49 x50 x51 x52 x53 x54 x55 x56 x57 x58 x59 x60 x61 x62 x63 x64 x65 x66 x67 x68 x69 x70 x71 x72 x73 x74 x75 x76 x77 x78 x79 x80 x81 x82 x83 x84 x85 x86 x87 x88 x89 x90 x91 x92 x93 x94 x95 x96 h := by kernel_rfl
noncomputable def f5_b0 (O : Oracle) (L : Loops (Value × Heap)) (k : Ex → K (Value × Heap)) (x0 x1 x2 x3 x4 x5 x6 x7 x8 x9 x10 x11 x12 x13 x14 x15 x16 x17 x18 x19 x20 x21 x22 x23 x24 x25 x26 x27 x28 x29 x30 x31 x32 x33 x34 x35 x36 x37 x38 x39 x40 x41 x42 x43 x44 x45 x46 x47 x48 x49 x50 x51 x52 x53 x54 x55 x56 x57 x58 x59 x60 x61 x62 x63 x64 x65 x66 x67 x68 x69 x70 x71 x72 x73 x74 x75 x76 x77 x78 x79 x80 x81 x82 x83 x84 x85 x86 x87 x88 x89 x90 x91 x92 x93 x94 x95 x96 : Value) (h : Heap) : Option (Value × Heap) :=
  ob ((M.ofOpt (lenSl x0)) h) fun v7 h7 =>
  ob ((M.ofOpt (bin Try.prog .lss 3 x8 v7)) h7) fun v8 h8 =>
  iteV v8 (
  ob ((M.ofOpt (iAddr 5 x0 x8)) h8) fun v9 h9 =>
  ob ((M.ofOpt (fAddr 1 v9)) h9) fun v10 h10 =>
  ob ((ld1 v10) h10) fun v11 h11 =>
  ob ((O (.func 19) [x7, v11]) h11) fun v12 h12 =>
  ob ((M.ofOpt (bin Try.prog .add 3 x8 (.int .i64 1))) h12) fun v13 h13 =>
  k .normal [x0, x1, x2, x3, x4, x5, x6, x7, v13, x9, x10, x11, x12, x13, x14, x15, x16, x17, x18, x19, x20, x21, x22, x23, x8, x0, v7, v8, x8, v13, x7, x0, x8, v9, v10, v11, v12, x37, x38, x39, x40, x41, x42, x43, x44, x45, x46, x47, x48, x49, x50, x51, x52, x53, x54, x55, x56, x57, x58, x59, x60, x61, x62, x63, x64, x65, x66, x67, x68, x69, x70, x71, x72, x73, x74, x75, x76, x77, x78, x79, x80, x81, x82, x83, x84, x85, x86, x87, x88, x89, x90, x91, x92, x93, x94, x95, x96] h13) (
  k (.exit 0) [x0, x1, x2, x3, x4, x5, x6, x7, x8, x9, x10, x11, x12, x13, x14, x15, x16, x17, x18, x19, x20, x21, x22, x23, x8, x0, v7, v8, x28, x29, x30, x31, x32, x33, x34, x35, x36, x37, x38, x39, x40, x41, x42, x43, x44, x45, x46, x47, x48, x49, x50, x51, x52, x53, x54, x55, x56, x57, x58, x59, x60, x61, x62, x63, x64, x65, x66, x67, x68, x69, x70, x71, x72, x73, x74, x75, x76, x77, x78, x79, x80, x81, x82, x83, x84, x85, x86, x87, x88, x89, x90, x91, x92, x93, x94, x95, x96] h8)
theorem f5_b0_eq (O : Oracle) (L : Loops (Value × Heap)) (k : Ex → K (Value × Heap)) (x0 x1 x2 x3 x4 x5 x6 x7 x8 x9 x10 x11 x12 x13 x14 x15 x16 x17 x18 x19 x20 x21 x22 x23 x24 x25 x26 x27 x28 x29 x30 x31 x32 x33 x34 x35 x36 x37 x38 x39 x40 x41 x42 x43 x44 x45 x46 x47 x48 x49 x50 x51 x52 x53 x54 x55 x56 x57 x58 x59 x60 x61 x62 x63 x64 x65 x66 x67 x68 x69 x70 x71 x72 x73 x74 x75 x76 x77 x78 x79 x80 x81 x82 x83 x84 x85 x86 x87 x88 x89 x90 x91 x92 x93 x94 x95 x96 : Value) (h : Heap) :
    runCode Try.prog O L f5_c0 k [x0, x1, x2, x3, x4, x5, x6, x7, x8, x9, x10, x11, x12, x13, x14, x15, x16, x17, x18, x19, x20, x21, x22, x23, x24, x25, x26, x27, x28, x29, x30, x31, x32, x33, x34, x35, x36, x37, x38, x39, x40, x41, x42, x43, x44, x45, x46, x47, x48, x49, x50, x51, x52, x53, x54, x55, x56, x57, x58, x59, x60, x61, x62, x63, x64, x65, x66, x67, x68, x69, x70, x71, x72, x73, x74, x75, x76, x77, x78, x79, x80, x81, x82, x83, x84, x85, x86, x87, x88, x89, x90, x91, x92, x93, x94, x95, x96] h = f5_b0 O L k x0 x1 x2 x3 x4 x5 x6 x7 x8 x9 x10 x11 x12 x13 x14 x15 x16 x17 x18 x19 x20 x21 x22 x23 x24 x25 x26 x27 x28 x29 x30 x31 x32 x33 x34 x35 x36 x37 x38 x39 x40 x41 x42 x43 x44 x45 x46 x47 x48 x49 x50 x51 x52 x53 x54 x55 x56 x57 x58 x59 x60 x61 x62 x63 x64 x65 x66 x67 x68 x69 x70 x71 x72 x73 x74 x75 x76 x77 x78 x79 x80 x81 x82 x83 x84 x85 x86 x87 x88 x89 x90 x91 x92 x93 x94 x95 x96 h := by kernel_rfl
noncomputable def f5 (O : Oracle) (L : Loops (Value × Heap)) (a0 a1 a2 : Value) (h : Heap) : Option (Value × Heap) :=
  ob ((O (.func 15) [a0]) h) fun v0 h0 =>
  ob ((gd v0 false (O (.func 16) [])) h0) fun v1 h1 =>
  ob ((gd v0 false (M.ofOpt (un Try.prog .not v1))) h1) fun v2 h2 =>
  ob ((M.ofOpt (pick v0 (.bool true) v2)) h2) fun v3 h3 =>
  iteV v3 (
  ob ((O (.func 16) []) h3) fun v4 h4 =>
  some (oneOf [v4], h4)) (
  ob ((O (.func 17) [(.int .i64 64)]) h3) fun v5 h5 =>
  ob ((M.ofOpt (bin Try.prog .eql 25 v5 (.pointer none))) h5) fun v6 h6 =>
  iteV v6 (
  some (oneOf [(.bool false)], h6)) (
  L (runCode Try.prog O L f5_c0) (f5_k0 O L) [a0, a1, a2, undef, undef, undef, (.bool false), v5, (.int .i64 0), undef, undef, undef, undef, undef, a0, v0, v0, v1, v2, v3, undef, v5, v5, v6, undef, undef, undef, undef, undef, undef, undef, undef, undef, undef, undef, undef, undef, undef, undef, undef, undef, undef, undef, undef, undef, undef, undef, undef, undef, undef, undef, undef, undef, undef, undef, undef, undef, undef, undef, undef, undef, undef, undef, undef, undef, undef, undef, undef, undef, undef, undef, undef, undef, undef, undef, undef, undef, undef, undef, undef, undef, undef, undef, undef, undef, undef, undef, undef, undef, undef, undef, undef, undef, undef, undef, undef, undef] h6))
theorem f5_eq (O : Oracle) (L : Loops (Value × Heap)) (a0 a1 a2 : Value) (h : Heap) :
    body Try.prog O L 5 [a0, a1, a2] h = f5 O L a0 a1 a2 h := by kernel_rfl

/-! 6: shunter/shunterlaw04.LinkDoes; slots: [(room, 0), (l, 1), (room, 2), (l, 3), (a, 5), (r, 6), (i, 7), (o, 8), (ok, 9), (x, 10), (is, 11), (y, 12), (was, 13)] -/
noncomputable def f6_c0 : Code := sub [1, 1, 1, 1, 1, 0, 1, 0, 0] (fbody Try.prog 6)
noncomputable def f6_k0 (O : Oracle) (L : Loops (Value × Heap)) : Ex → K (Value × Heap) := (blockK 0 (seqK Try.prog O L (sub [1, 1, 1, 1, 1, 1] (fbody Try.prog 6)) (kRet Try.prog Try.f6)))
noncomputable def f6_e0_0 (O : Oracle) (L : Loops (Value × Heap)) (x0 x1 x2 x3 x4 x5 x6 x7 x8 x9 x10 x11 x12 x13 x14 x15 x16 x17 x18 x19 x20 x21 x22 x23 x24 x25 x26 x27 x28 x29 x30 x31 x32 x33 x34 x35 x36 x37 x38 x39 x40 x41 x42 x43 x44 x45 x46 x47 x48 x49 x50 x51 x52 x53 x54 x55 x56 x57 x58 x59 x60 x61 x62 x63 x64 x65 x66 x67 x68 x69 x70 x71 x72 x73 x74 x75 x76 x77 x78 x79 x80 x81 x82 x83 x84 x85 x86 x87 x88 x89 x90 x91 x92 x93 x94 x95 x96 x97 x98 x99 x100 x101 x102 x103 x104 x105 x106 x107 x108 x109 x110 x111 x112 x113 x114 x115 x116 x117 x118 x119 x120 x121 x122 x123 x124 x125 x126 x127 : Value) (h : Heap) : Option (Value × Heap) :=
  some (oneOf [(.bool true)], h)
theorem f6_e0_0_eq (O : Oracle) (L : Loops (Value × Heap)) (x0 x1 x2 x3 x4 x5 x6 x7 x8 x9 x10 x11 x12 x13 x14 x15 x16 x17 x18 x19 x20 x21 x22 x23 x24 x25 x26 x27 x28 x29 x30 x31 x32 x33 x34 x35 x36 x37 x38 x39 x40 x41 x42 x43 x44 x45 x46 x47 x48 x49 x50 x51 x52 x53 x54 x55 x56 x57 x58 x59 x60 x61 x62 x63 x64 x65 x66 x67 x68 x69 x70 x71 x72 x73 x74 x75 x76 x77 x78 x79 x80 x81 x82 x83 x84 x85 x86 x87 x88 x89 x90 x91 x92 x93 x94 x95 x96 x97 x98 x99 x100 x101 x102 x103 x104 x105 x106 x107 x108 x109 x110 x111 x112 x113 x114 x115 x116 x117 x118 x119 x120 x121 x122 x123 x124 x125 x126 x127 : Value) (h : Heap) :
    f6_k0 O L (.exit 0) [x0, x1, x2, x3, x4, x5, x6, x7, x8, x9, x10, x11, x12, x13, x14, x15, x16, x17, x18, x19, x20, x21, x22, x23, x24, x25, x26, x27, x28, x29, x30, x31, x32, x33, x34, x35, x36, x37, x38, x39, x40, x41, x42, x43, x44, x45, x46, x47, x48, x49, x50, x51, x52, x53, x54, x55, x56, x57, x58, x59, x60, x61, x62, x63, x64, x65, x66, x67, x68, x69, x70, x71, x72, x73, x74, x75, x76, x77, x78, x79, x80, x81, x82, x83, x84, x85, x86, x87, x88, x89, x90, x91, x92, x93, x94, x95, x96, x97, x98, x99, x100, x101, x102, x103, x104, x105, x106, x107, x108, x109, x110, x111, x112, x113, x114, x115, x116, x117, x118, x119, x120, x121, x122, x123, x124, x125, x126, x127] h = f6_e0_0 O L x0 x1 x2 x3 x4 x5 x6 x7 x8 x9 x10 x11 x12 x13 x14 x15 x16 x17 x18 x19 x20 x21 x22 x23 x24 x25 x26 x27 x28 x29 x30 x31 x32 x33 x34 x35 x36 x37 x38 x39 x40 x41 x42 x43 x44 x45 x46 x47 x48 x49 x50 x51 x52 x53 x54 x55 x56 x57 x58 x59 x60 x61 x62 x63 x64 x65 x66 x67 x68 x69 x70 x71 x72 x73 x74 x75 x76 x77 x78 x79 x80 x81 x82 x83 x84 x85 x86 x87 x88 x89 x90 x91 x92 x93 x94 x95 x96 x97 x98 x99 x100 x101 x102 x103 x104 x105 x106 x107 x108 x109 x110 x111 x112 x113 x114 x115 x116 x117 x118 x119 x120 x121 x122 x123 x124 x125 x126 x127 h := by kernel_rfl
noncomputable def f6_r0 (O : Oracle) (L : Loops (Value × Heap)) (x0 x1 x2 x3 x4 x5 x6 x7 x8 x9 x10 x11 x12 x13 x14 x15 x16 x17 x18 x19 x20 x21 x22 x23 x24 x25 x26 x27 x28 x29 x30 x31 x32 x33 x34 x35 x36 x37 x38 x39 x40 x41 x42 x43 x44 x45 x46 x47 x48 x49 x50 x51 x52 x53 x54 x55 x56 x57 x58 x59 x60 x61 x62 x63 x64 x65 x66 x67 x68 x69 x70 x71 x72 x73 x74 x75 x76 x77 x78 x79 x80 x81 x82 x83 x84 x85 x86 x87 x88 x89 x90 x91 x92 x93 x94 x95 x96 x97 x98 x99 x100 x101 x102 x103 x104 x105 x106 x107 x108 x109 x110 x111 x112 x113 x114 x115 x116 x117 x118 x119 x120 x121 x122 x123 x124 x125 x126 x127 : Value) (h : Heap) : Option (Value × Heap) :=
  some (oneOf [x4], h)
theorem f6_r0_eq (O : Oracle) (L : Loops (Value × Heap)) (x0 x1 x2 x3 x4 x5 x6 x7 x8 x9 x10 x11 x12 x13 x14 x15 x16 x17 x18 x19 x20 x21 x22 x23 x24 x25 x26 x27 x28 x29 x30 x31 x32 x33 x34 x35 x36 x37 x38 x39 x40 x41 x42 x43 x44 x45 x46 x47 x48 x49 x50 x51 x52 x53 x54 x55 x56 x57 x58 x59 x60 x61 x62 x63 x64 x65 x66 x67 x68 x69 x70 x71 x72 x73 x74 x75 x76 x77 x78 x79 x80 x81 x82 x83 x84 x85 x86 x87 x88 x89 x90 x91 x92 x93 x94 x95 x96 x97 x98 x99 x100 x101 x102 x103 x104 x105 x106 x107 x108 x109 x110 x111 x112 x113 x114 x115 x116 x117 x118 x119 x120 x121 x122 x123 x124 x125 x126 x127 : Value) (h : Heap) :
    f6_k0 O L .ret [x0, x1, x2, x3, x4, x5, x6, x7, x8, x9, x10, x11, x12, x13, x14, x15, x16, x17, x18, x19, x20, x21, x22, x23, x24, x25, x26, x27, x28, x29, x30, x31, x32, x33, x34, x35, x36, x37, x38, x39, x40, x41, x42, x43, x44, x45, x46, x47, x48, x49, x50, x51, x52, x53, x54, x55, x56, x57, x58, x59, x60, x61, x62, x63, x64, x65, x66, x67, x68, x69, x70, x71, x72, x73, x74, x75, x76, x77, x78, x79, x80, x81, x82, x83, x84, x85, x86, x87, x88, x89, x90, x91, x92, x93, x94, x95, x96, x97, x98, x99, x100, x101, x102, x103, x104, x105, x106, x107, x108, x109, x110, x111, x112, x113, x114, x115, x116, x117, x118, x119, x120, x121, x122, x123, x124, x125, x126, x127] h = f6_r0 O L x0 x1 x2 x3 x4 x5 x6 x7 x8 x9 x10 x11 x12 x13 x14 x15 x16 x17 x18 x19 x20 x21 x22 x23 x24 x25 x26 x27 x28 x29 x30 x31 x32 x33 x34 x35 x36 x37 x38 x39 x40 x41 x42 x43 x44 x45 x46 x47 x48 x49 x50 x51 x52 x53 x54 x55 x56 x57 x58 x59 x60 x61 x62 x63 x64 x65 x66 x67 x68 x69 x70 x71 x72 x73 x74 x75 x76 x77 x78 x79 x80 x81 x82 x83 x84 x85 x86 x87 x88 x89 x90 x91 x92 x93 x94 x95 x96 x97 x98 x99 x100 x101 x102 x103 x104 x105 x106 x107 x108 x109 x110 x111 x112 x113 x114 x115 x116 x117 x118 x119 x120 x121 x122 x123 x124 x125 x126 x127 h := by kernel_rfl
noncomputable def f6_b0 (O : Oracle) (L : Loops (Value × Heap)) (k : Ex → K (Value × Heap)) (x0 x1 x2 x3 x4 x5 x6 x7 x8 x9 x10 x11 x12 x13 x14 x15 x16 x17 x18 x19 x20 x21 x22 x23 x24 x25 x26 x27 x28 x29 x30 x31 x32 x33 x34 x35 x36 x37 x38 x39 x40 x41 x42 x43 x44 x45 x46 x47 x48 x49 x50 x51 x52 x53 x54 x55 x56 x57 x58 x59 x60 x61 x62 x63 x64 x65 x66 x67 x68 x69 x70 x71 x72 x73 x74 x75 x76 x77 x78 x79 x80 x81 x82 x83 x84 x85 x86 x87 x88 x89 x90 x91 x92 x93 x94 x95 x96 x97 x98 x99 x100 x101 x102 x103 x104 x105 x106 x107 x108 x109 x110 x111 x112 x113 x114 x115 x116 x117 x118 x119 x120 x121 x122 x123 x124 x125 x126 x127 : Value) (h : Heap) : Option (Value × Heap) :=
  ob ((M.ofOpt (lenSl x1)) h) fun v15 h15 =>
  ob ((M.ofOpt (bin Try.prog .lss 3 x7 v15)) h15) fun v16 h16 =>
  iteV v16 (
  ob ((M.ofOpt (iAddr 5 x1 x7)) h16) fun v17 h17 =>
  ob ((ldN 5 v17) h17) fun v18 h18 =>
  ob ((newB 31 [(.int .u8 0), (.slice none 0 0), (.int .i64 0), (.int .i64 0), (.int .u8 0)] .fix) h18) fun v19 h19 =>
  ob ((stN 5 v19 v18) h19) fun v20 h20 =>
  ob ((M.ofOpt (fAddr 0 v19)) h20) fun v21 h21 =>
  ob ((ld1 v21) h21) fun v22 h22 =>
  ob ((M.ofOpt (bin Try.prog .rem 5 v22 (.int .u8 7))) h22) fun v23 h23 =>
  ob ((M.ofOpt (bin Try.prog .eql 5 v23 (.int .u8 3))) h23) fun v24 h24 =>
  iteV v24 (
  ob ((M.ofOpt (fAddr 2 v19)) h24) fun v25 h25 =>
  ob ((ld1 v25) h25) fun v26 h26 =>
  ob ((O (.func 20) [x5, v26]) h26) fun v27 h27 =>
  ob ((M.ofOpt (ext 0 v27)) h27) fun v28 h28 =>
  ob ((M.ofOpt (ext 1 v27)) h28) fun v29 h29 =>
  ob ((M.ofOpt (fAddr 2 v19)) h29) fun v30 h30 =>
  ob ((ld1 v30) h30) fun v31 h31 =>
  ob ((O (.func 24) [x6, v31]) h31) fun v32 h32 =>
  ob ((M.ofOpt (ext 0 v32)) h32) fun v33 h33 =>
  ob ((M.ofOpt (ext 1 v32)) h33) fun v34 h34 =>
  ob ((M.ofOpt (bin Try.prog .eql 4 v29 v34)) h34) fun v35 h35 =>
  ob ((gd v35 true (M.ret v28)) h35) fun v36 h36 =>
  ob ((gd v35 true (conv Try.prog 29 9 v36)) h36) fun v37 h37 =>
  ob ((gd v35 true (M.ret v33)) h37) fun v38 h38 =>
  ob ((gd v35 true (conv Try.prog 29 9 v38)) h38) fun v39 h39 =>
  ob ((gd v35 true (M.ofOpt (bin Try.prog .eql 9 v37 v39))) h39) fun v40 h40 =>
  ob ((M.ofOpt (pick v35 v40 (.bool false))) h40) fun v41 h41 =>
  ob ((M.ofOpt (un Try.prog .not v41)) h41) fun v42 h42 =>
  ob ((gd v42 false (M.ret x5)) h42) fun v43 h43 =>
  ob ((gd v42 false (O (.func 18) [v43])) h43) fun v44 h44 =>
  ifB (true) (
  ob ((gd v42 false (M.ret x6)) h44) fun v45 h45 =>
  ob ((gd v42 false (M.ofOpt (nilChk v45))) h45) fun v46 h46 =>
  ob ((gd v42 false (M.ofOpt (fAddr 0 v46))) h46) fun v47 h47 =>
  ob ((gd v42 false (ld1 v47)) h47) fun v48 h48 =>
  ifB (chk ((gd v42 false (ld1 v47)) h43) v48 && (true)) (
  ob ((gd v42 false (O (.func 28) [v44, v48])) h48) fun v49 h49 =>
  ifB (true) (
  ob ((gd v42 false (M.ofOpt (un Try.prog .not v49))) h49) fun v50 h50 =>
  ob ((M.ofOpt (pick v42 (.bool true) v50)) h50) fun v51 h51 =>
  iteV v51 (
  k .ret [x0, x1, x2, x3, (.bool false), x5, x6, x7, v19, v41, v28, v29, v33, v34, x14, x15, x16, x17, x18, x19, x20, x21, x22, x23, x24, x25, x26, x27, x28, x29, x30, x31, x32, x33, x34, x35, x36, x7, x1, v15, v16, x41, x42, x1, x7, v17, v18, v21, v22, v23, x50, x51, x52, x53, x54, x55, x56, x57, x58, v24, v24, v27, x5, v25, v26, v27, v28, v29, v32, x6, v30, v31, v32, v33, v34, v29, v34, v35, v35, v36, v37, v38, v39, v40, v41, x85, x86, x87, x88, x89, x90, x91, x92, x93, x94, x95, x96, x97, x98, x99, x100, x101, x102, x103, x104, x105, x106, x107, x108, x109, x110, x111, x112, x113, x114, x115, v41, v42, v42, v43, v44, v45, v46, v47, v48, v49, v50, v51] h51) (
  ob ((M.ofOpt (bin Try.prog .add 3 x7 (.int .i64 1))) h51) fun v52 h52 =>
  k .normal [x0, x1, x2, x3, x4, x5, x6, v52, v19, v41, v28, v29, v33, v34, x14, x15, x16, x17, x18, x19, x20, x21, x22, x23, x24, x25, x26, x27, x28, x29, x30, x31, x32, x33, x34, x35, x36, x7, x1, v15, v16, x7, v52, x1, x7, v17, v18, v21, v22, v23, x50, x51, x52, x53, x54, x55, x56, x57, x58, v24, v24, v27, x5, v25, v26, v27, v28, v29, v32, x6, v30, v31, v32, v33, v34, v29, v34, v35, v35, v36, v37, v38, v39, v40, v41, x85, x86, x87, x88, x89, x90, x91, x92, x93, x94, x95, x96, x97, x98, x99, x100, x101, x102, x103, x104, x105, x106, x107, x108, x109, x110, x111, x112, x113, x114, x115, v41, v42, v42, v43, v44, v45, v46, v47, v48, v49, v50, v51] h52))))) (
  ob ((M.ofOpt (bin Try.prog .eql 5 v23 (.int .u8 4))) h24) fun v53 h53 =>
  iteV v53 (
  ob ((M.ofOpt (fAddr 2 v19)) h53) fun v54 h54 =>
  ob ((ld1 v54) h54) fun v55 h55 =>
  ifB (true) (
  ob ((O (.func 21) [x5, v55]) h55) fun v56 h56 =>
  ifB (true) (
  ob ((M.ofOpt (fAddr 2 v19)) h56) fun v57 h57 =>
  ob ((ld1 v57) h57) fun v58 h58 =>
  ifB (chk ((ld1 v57) h55) v58 && (true)) (
  ob ((O (.func 25) [x6, v58]) h58) fun v59 h59 =>
  ifB (true) (
  ob ((M.ofOpt (bin Try.prog .eql 4 v56 v59)) h59) fun v60 h60 =>
  ob ((M.ofOpt (un Try.prog .not v60)) h60) fun v61 h61 =>
  ob ((gd v61 false (M.ret x5)) h61) fun v62 h62 =>
  ob ((gd v61 false (O (.func 18) [v62])) h62) fun v63 h63 =>
  ifB (true) (
  ob ((gd v61 false (M.ret x6)) h63) fun v64 h64 =>
  ob ((gd v61 false (M.ofOpt (nilChk v64))) h64) fun v65 h65 =>
  ob ((gd v61 false (M.ofOpt (fAddr 0 v65))) h65) fun v66 h66 =>
  ob ((gd v61 false (ld1 v66)) h66) fun v67 h67 =>
  ifB (chk ((gd v61 false (ld1 v66)) h62) v67 && (true)) (
  ob ((gd v61 false (O (.func 28) [v63, v67])) h67) fun v68 h68 =>
  ifB (true) (
  ob ((gd v61 false (M.ofOpt (un Try.prog .not v68))) h68) fun v69 h69 =>
  ob ((M.ofOpt (pick v61 (.bool true) v69)) h69) fun v70 h70 =>
  iteV v70 (
  k .ret [x0, x1, x2, x3, (.bool false), x5, x6, x7, v19, v60, x10, x11, x12, x13, x14, x15, x16, x17, x18, x19, x20, x21, x22, x23, x24, x25, x26, x27, x28, x29, x30, x31, x32, x33, x34, x35, x36, x7, x1, v15, v16, x41, x42, x1, x7, v17, v18, v21, v22, v23, x50, x51, x52, x53, x54, x55, x56, x57, x58, v24, v24, x61, x62, x63, x64, x65, x66, x67, x68, x69, x70, x71, x72, x73, x74, x75, x76, x77, x78, x79, x80, x81, x82, x83, x84, v53, v53, x5, v54, v55, v56, x6, v57, v58, v59, v60, x96, x97, x98, x99, x100, x101, x102, x103, x104, x105, x106, x107, x108, x109, x110, x111, x112, x113, x114, x115, v60, v61, v61, v62, v63, v64, v65, v66, v67, v68, v69, v70] h70) (
  ob ((M.ofOpt (bin Try.prog .add 3 x7 (.int .i64 1))) h70) fun v71 h71 =>
  k .normal [x0, x1, x2, x3, x4, x5, x6, v71, v19, v60, x10, x11, x12, x13, x14, x15, x16, x17, x18, x19, x20, x21, x22, x23, x24, x25, x26, x27, x28, x29, x30, x31, x32, x33, x34, x35, x36, x7, x1, v15, v16, x7, v71, x1, x7, v17, v18, v21, v22, v23, x50, x51, x52, x53, x54, x55, x56, x57, x58, v24, v24, x61, x62, x63, x64, x65, x66, x67, x68, x69, x70, x71, x72, x73, x74, x75, x76, x77, x78, x79, x80, x81, x82, x83, x84, v53, v53, x5, v54, v55, v56, x6, v57, v58, v59, v60, x96, x97, x98, x99, x100, x101, x102, x103, x104, x105, x106, x107, x108, x109, x110, x111, x112, x113, x114, x115, v60, v61, v61, v62, v63, v64, v65, v66, v67, v68, v69, v70] h71))))))))) (
  ob ((M.ofOpt (bin Try.prog .eql 5 v23 (.int .u8 5))) h53) fun v72 h72 =>
  iteV v72 (
  iteV v72 (
  ob ((M.ofOpt (fAddr 2 v19)) h72) fun v73 h73 =>
  ob ((ld1 v73) h73) fun v74 h74 =>
  ifB (true) (
  ob ((M.ofOpt (fAddr 3 v19)) h74) fun v75 h75 =>
  ob ((ld1 v75) h75) fun v76 h76 =>
  ifB (true) (
  ob ((M.ofOpt (fAddr 4 v19)) h76) fun v77 h77 =>
  ob ((ld1 v77) h77) fun v78 h78 =>
  ifB (true) (
  ob ((O (.func 22) [x5, v74, v76, v78]) h78) fun v79 h79 =>
  ifB (true) (
  ob ((M.ofOpt (fAddr 2 v19)) h79) fun v80 h80 =>
  ob ((ld1 v80) h80) fun v81 h81 =>
  ifB (chk ((ld1 v80) h78) v81 && (true)) (
  ob ((M.ofOpt (fAddr 3 v19)) h81) fun v82 h82 =>
  ob ((ld1 v82) h82) fun v83 h83 =>
  ifB (chk ((ld1 v82) h78) v83 && (true)) (
  ob ((M.ofOpt (fAddr 4 v19)) h83) fun v84 h84 =>
  ob ((ld1 v84) h84) fun v85 h85 =>
  ifB (chk ((ld1 v84) h78) v85 && (true)) (
  ob ((O (.func 26) [x6, v81, v83, v85]) h85) fun v86 h86 =>
  ifB (true) (
  ob ((M.ofOpt (bin Try.prog .eql 4 v79 v86)) h86) fun v87 h87 =>
  ob ((M.ofOpt (un Try.prog .not v87)) h87) fun v88 h88 =>
  ob ((gd v88 false (M.ret x5)) h88) fun v89 h89 =>
  ob ((gd v88 false (O (.func 18) [v89])) h89) fun v90 h90 =>
  ifB (true) (
  ob ((gd v88 false (M.ret x6)) h90) fun v91 h91 =>
  ob ((gd v88 false (M.ofOpt (nilChk v91))) h91) fun v92 h92 =>
  ob ((gd v88 false (M.ofOpt (fAddr 0 v92))) h92) fun v93 h93 =>
  ob ((gd v88 false (ld1 v93)) h93) fun v94 h94 =>
  ifB (chk ((gd v88 false (ld1 v93)) h89) v94 && (true)) (
  ob ((gd v88 false (O (.func 28) [v90, v94])) h94) fun v95 h95 =>
  ifB (true) (
  ob ((gd v88 false (M.ofOpt (un Try.prog .not v95))) h95) fun v96 h96 =>
  ob ((M.ofOpt (pick v88 (.bool true) v96)) h96) fun v97 h97 =>
  iteV v97 (
  k .ret [x0, x1, x2, x3, (.bool false), x5, x6, x7, v19, v87, x10, x11, x12, x13, x14, x15, x16, x17, x18, x19, x20, x21, x22, x23, x24, x25, x26, x27, x28, x29, x30, x31, x32, x33, x34, x35, x36, x7, x1, v15, v16, x41, x42, x1, x7, v17, v18, v21, v22, v23, x50, x51, x52, x53, x54, x55, x56, x57, x58, v24, v24, x61, x62, x63, x64, x65, x66, x67, x68, x69, x70, x71, x72, x73, x74, x75, x76, x77, x78, x79, x80, x81, x82, x83, x84, v53, v53, x87, x88, x89, x90, x91, x92, x93, x94, x95, v72, v72, x98, x5, v73, v74, v75, v76, v77, v78, v79, x6, v80, v81, v82, v83, v84, v85, v86, v87, v87, v88, v88, v89, v90, v91, v92, v93, v94, v95, v96, v97] h97) (
  ob ((M.ofOpt (bin Try.prog .add 3 x7 (.int .i64 1))) h97) fun v98 h98 =>
  k .normal [x0, x1, x2, x3, x4, x5, x6, v98, v19, v87, x10, x11, x12, x13, x14, x15, x16, x17, x18, x19, x20, x21, x22, x23, x24, x25, x26, x27, x28, x29, x30, x31, x32, x33, x34, x35, x36, x7, x1, v15, v16, x7, v98, x1, x7, v17, v18, v21, v22, v23, x50, x51, x52, x53, x54, x55, x56, x57, x58, v24, v24, x61, x62, x63, x64, x65, x66, x67, x68, x69, x70, x71, x72, x73, x74, x75, x76, x77, x78, x79, x80, x81, x82, x83, x84, v53, v53, x87, x88, x89, x90, x91, x92, x93, x94, x95, v72, v72, x98, x5, v73, v74, v75, v76, v77, v78, v79, x6, v80, v81, v82, v83, v84, v85, v86, v87, v87, v88, v88, v89, v90, v91, v92, v93, v94, v95, v96, v97] h98))))))))))))) (
  ob ((M.ofOpt (fAddr 1 v19)) h72) fun v99 h99 =>
  ob ((ld1 v99) h99) fun v100 h100 =>
  ifB (true) (
  ob ((O (.func 19) [x5, v100]) h100) fun v101 h101 =>
  ifB (true) (
  ob ((M.ofOpt (fAddr 1 v19)) h101) fun v102 h102 =>
  ob ((ld1 v102) h102) fun v103 h103 =>
  ifB (chk ((ld1 v102) h100) v103 && (true)) (
  ob ((O (.func 27) [x6, v103]) h103) fun v104 h104 =>
  ifB (true) (
  ob ((M.ofOpt (bin Try.prog .eql 4 v101 v104)) h104) fun v105 h105 =>
  ob ((M.ofOpt (un Try.prog .not v105)) h105) fun v106 h106 =>
  ob ((gd v106 false (M.ret x5)) h106) fun v107 h107 =>
  ob ((gd v106 false (O (.func 18) [v107])) h107) fun v108 h108 =>
  ifB (true) (
  ob ((gd v106 false (M.ret x6)) h108) fun v109 h109 =>
  ob ((gd v106 false (M.ofOpt (nilChk v109))) h109) fun v110 h110 =>
  ob ((gd v106 false (M.ofOpt (fAddr 0 v110))) h110) fun v111 h111 =>
  ob ((gd v106 false (ld1 v111)) h111) fun v112 h112 =>
  ifB (chk ((gd v106 false (ld1 v111)) h107) v112 && (true)) (
  ob ((gd v106 false (O (.func 28) [v108, v112])) h112) fun v113 h113 =>
  ifB (true) (
  ob ((gd v106 false (M.ofOpt (un Try.prog .not v113))) h113) fun v114 h114 =>
  ob ((M.ofOpt (pick v106 (.bool true) v114)) h114) fun v115 h115 =>
  iteV v115 (
  k .ret [x0, x1, x2, x3, (.bool false), x5, x6, x7, v19, v105, x10, x11, x12, x13, x14, x15, x16, x17, x18, x19, x20, x21, x22, x23, x24, x25, x26, x27, x28, x29, x30, x31, x32, x33, x34, x35, x36, x7, x1, v15, v16, x41, x42, x1, x7, v17, v18, v21, v22, v23, x5, v99, v100, v101, x6, v102, v103, v104, v105, v24, v24, x61, x62, x63, x64, x65, x66, x67, x68, x69, x70, x71, x72, x73, x74, x75, x76, x77, x78, x79, x80, x81, x82, x83, x84, v53, v53, x87, x88, x89, x90, x91, x92, x93, x94, x95, v72, v72, x98, x99, x100, x101, x102, x103, x104, x105, x106, x107, x108, x109, x110, x111, x112, x113, x114, x115, v105, v106, v106, v107, v108, v109, v110, v111, v112, v113, v114, v115] h115) (
  ob ((M.ofOpt (bin Try.prog .add 3 x7 (.int .i64 1))) h115) fun v116 h116 =>
  k .normal [x0, x1, x2, x3, x4, x5, x6, v116, v19, v105, x10, x11, x12, x13, x14, x15, x16, x17, x18, x19, x20, x21, x22, x23, x24, x25, x26, x27, x28, x29, x30, x31, x32, x33, x34, x35, x36, x7, x1, v15, v16, x7, v116, x1, x7, v17, v18, v21, v22, v23, x5, v99, v100, v101, x6, v102, v103, v104, v105, v24, v24, x61, x62, x63, x64, x65, x66, x67, x68, x69, x70, x71, x72, x73, x74, x75, x76, x77, x78, x79, x80, x81, x82, x83, x84, v53, v53, x87, x88, x89, x90, x91, x92, x93, x94, x95, v72, v72, x98, x99, x100, x101, x102, x103, x104, x105, x106, x107, x108, x109, x110, x111, x112, x113, x114, x115, v105, v106, v106, v107, v108, v109, v110, v111, v112, v113, v114, v115] h116)))))))))) (
  ob ((M.ofOpt (bin Try.prog .eql 5 v23 (.int .u8 6))) h72) fun v117 h117 =>
  iteV v117 (
  ob ((M.ofOpt (fAddr 2 v19)) h117) fun v118 h118 =>
  ob ((ld1 v118) h118) fun v119 h119 =>
  ifB (true) (
  ob ((M.ofOpt (fAddr 3 v19)) h119) fun v120 h120 =>
  ob ((ld1 v120) h120) fun v121 h121 =>
  ifB (true) (
  ob ((M.ofOpt (fAddr 4 v19)) h121) fun v122 h122 =>
  ob ((ld1 v122) h122) fun v123 h123 =>
  ifB (true) (
  ob ((O (.func 22) [x5, v119, v121, v123]) h123) fun v124 h124 =>
  ifB (true) (
  ob ((M.ofOpt (fAddr 2 v19)) h124) fun v125 h125 =>
  ob ((ld1 v125) h125) fun v126 h126 =>
  ifB (chk ((ld1 v125) h123) v126 && (true)) (
  ob ((M.ofOpt (fAddr 3 v19)) h126) fun v127 h127 =>
  ob ((ld1 v127) h127) fun v128 h128 =>
  ifB (chk ((ld1 v127) h123) v128 && (true)) (
  ob ((M.ofOpt (fAddr 4 v19)) h128) fun v129 h129 =>
  ob ((ld1 v129) h129) fun v130 h130 =>
  ifB (chk ((ld1 v129) h123) v130 && (true)) (
  ob ((O (.func 26) [x6, v126, v128, v130]) h130) fun v131 h131 =>
  ifB (true) (
  ob ((M.ofOpt (bin Try.prog .eql 4 v124 v131)) h131) fun v132 h132 =>
  ob ((M.ofOpt (un Try.prog .not v132)) h132) fun v133 h133 =>
  ob ((gd v133 false (M.ret x5)) h133) fun v134 h134 =>
  ob ((gd v133 false (O (.func 18) [v134])) h134) fun v135 h135 =>
  ifB (true) (
  ob ((gd v133 false (M.ret x6)) h135) fun v136 h136 =>
  ob ((gd v133 false (M.ofOpt (nilChk v136))) h136) fun v137 h137 =>
  ob ((gd v133 false (M.ofOpt (fAddr 0 v137))) h137) fun v138 h138 =>
  ob ((gd v133 false (ld1 v138)) h138) fun v139 h139 =>
  ifB (chk ((gd v133 false (ld1 v138)) h134) v139 && (true)) (
  ob ((gd v133 false (O (.func 28) [v135, v139])) h139) fun v140 h140 =>
  ifB (true) (
  ob ((gd v133 false (M.ofOpt (un Try.prog .not v140))) h140) fun v141 h141 =>
  ob ((M.ofOpt (pick v133 (.bool true) v141)) h141) fun v142 h142 =>
  iteV v142 (
  k .ret [x0, x1, x2, x3, (.bool false), x5, x6, x7, v19, v132, x10, x11, x12, x13, x14, x15, x16, x17, x18, x19, x20, x21, x22, x23, x24, x25, x26, x27, x28, x29, x30, x31, x32, x33, x34, x35, x36, x7, x1, v15, v16, x41, x42, x1, x7, v17, v18, v21, v22, v23, x50, x51, x52, x53, x54, x55, x56, x57, x58, v24, v24, x61, x62, x63, x64, x65, x66, x67, x68, x69, x70, x71, x72, x73, x74, x75, x76, x77, x78, x79, x80, x81, x82, x83, x84, v53, v53, x87, x88, x89, x90, x91, x92, x93, x94, x95, v117, v72, v117, x5, v118, v119, v120, v121, v122, v123, v124, x6, v125, v126, v127, v128, v129, v130, v131, v132, v132, v133, v133, v134, v135, v136, v137, v138, v139, v140, v141, v142] h142) (
  ob ((M.ofOpt (bin Try.prog .add 3 x7 (.int .i64 1))) h142) fun v143 h143 =>
  k .normal [x0, x1, x2, x3, x4, x5, x6, v143, v19, v132, x10, x11, x12, x13, x14, x15, x16, x17, x18, x19, x20, x21, x22, x23, x24, x25, x26, x27, x28, x29, x30, x31, x32, x33, x34, x35, x36, x7, x1, v15, v16, x7, v143, x1, x7, v17, v18, v21, v22, v23, x50, x51, x52, x53, x54, x55, x56, x57, x58, v24, v24, x61, x62, x63, x64, x65, x66, x67, x68, x69, x70, x71, x72, x73, x74, x75, x76, x77, x78, x79, x80, x81, x82, x83, x84, v53, v53, x87, x88, x89, x90, x91, x92, x93, x94, x95, v117, v72, v117, x5, v118, v119, v120, v121, v122, v123, v124, x6, v125, v126, v127, v128, v129, v130, v131, v132, v132, v133, v133, v134, v135, v136, v137, v138, v139, v140, v141, v142] h143))))))))))))) (
  ob ((M.ofOpt (fAddr 1 v19)) h117) fun v144 h144 =>
  ob ((ld1 v144) h144) fun v145 h145 =>
  ifB (true) (
  ob ((O (.func 19) [x5, v145]) h145) fun v146 h146 =>
  ifB (true) (
  ob ((M.ofOpt (fAddr 1 v19)) h146) fun v147 h147 =>
  ob ((ld1 v147) h147) fun v148 h148 =>
  ifB (chk ((ld1 v147) h145) v148 && (true)) (
  ob ((O (.func 27) [x6, v148]) h148) fun v149 h149 =>
  ifB (true) (
  ob ((M.ofOpt (bin Try.prog .eql 4 v146 v149)) h149) fun v150 h150 =>
  ob ((M.ofOpt (un Try.prog .not v150)) h150) fun v151 h151 =>
  ob ((gd v151 false (M.ret x5)) h151) fun v152 h152 =>
  ob ((gd v151 false (O (.func 18) [v152])) h152) fun v153 h153 =>
  ifB (true) (
  ob ((gd v151 false (M.ret x6)) h153) fun v154 h154 =>
  ob ((gd v151 false (M.ofOpt (nilChk v154))) h154) fun v155 h155 =>
  ob ((gd v151 false (M.ofOpt (fAddr 0 v155))) h155) fun v156 h156 =>
  ob ((gd v151 false (ld1 v156)) h156) fun v157 h157 =>
  ifB (chk ((gd v151 false (ld1 v156)) h152) v157 && (true)) (
  ob ((gd v151 false (O (.func 28) [v153, v157])) h157) fun v158 h158 =>
  ifB (true) (
  ob ((gd v151 false (M.ofOpt (un Try.prog .not v158))) h158) fun v159 h159 =>
  ob ((M.ofOpt (pick v151 (.bool true) v159)) h159) fun v160 h160 =>
  iteV v160 (
  k .ret [x0, x1, x2, x3, (.bool false), x5, x6, x7, v19, v150, x10, x11, x12, x13, x14, x15, x16, x17, x18, x19, x20, x21, x22, x23, x24, x25, x26, x27, x28, x29, x30, x31, x32, x33, x34, x35, x36, x7, x1, v15, v16, x41, x42, x1, x7, v17, v18, v21, v22, v23, x5, v144, v145, v146, x6, v147, v148, v149, v150, v24, v24, x61, x62, x63, x64, x65, x66, x67, x68, x69, x70, x71, x72, x73, x74, x75, x76, x77, x78, x79, x80, x81, x82, x83, x84, v53, v53, x87, x88, x89, x90, x91, x92, x93, x94, x95, v117, v72, v117, x99, x100, x101, x102, x103, x104, x105, x106, x107, x108, x109, x110, x111, x112, x113, x114, x115, v150, v151, v151, v152, v153, v154, v155, v156, v157, v158, v159, v160] h160) (
  ob ((M.ofOpt (bin Try.prog .add 3 x7 (.int .i64 1))) h160) fun v161 h161 =>
  k .normal [x0, x1, x2, x3, x4, x5, x6, v161, v19, v150, x10, x11, x12, x13, x14, x15, x16, x17, x18, x19, x20, x21, x22, x23, x24, x25, x26, x27, x28, x29, x30, x31, x32, x33, x34, x35, x36, x7, x1, v15, v16, x7, v161, x1, x7, v17, v18, v21, v22, v23, x5, v144, v145, v146, x6, v147, v148, v149, v150, v24, v24, x61, x62, x63, x64, x65, x66, x67, x68, x69, x70, x71, x72, x73, x74, x75, x76, x77, x78, x79, x80, x81, x82, x83, x84, v53, v53, x87, x88, x89, x90, x91, x92, x93, x94, x95, v117, v72, v117, x99, x100, x101, x102, x103, x104, x105, x106, x107, x108, x109, x110, x111, x112, x113, x114, x115, v150, v151, v151, v152, v153, v154, v155, v156, v157, v158, v159, v160] h161))))))))))))) (
  k (.exit 0) [x0, x1, x2, x3, x4, x5, x6, x7, x8, x9, x10, x11, x12, x13, x14, x15, x16, x17, x18, x19, x20, x21, x22, x23, x24, x25, x26, x27, x28, x29, x30, x31, x32, x33, x34, x35, x36, x7, x1, v15, v16, x41, x42, x43, x44, x45, x46, x47, x48, x49, x50, x51, x52, x53, x54, x55, x56, x57, x58, x59, x60, x61, x62, x63, x64, x65, x66, x67, x68, x69, x70, x71, x72, x73, x74, x75, x76, x77, x78, x79, x80, x81, x82, x83, x84, x85, x86, x87, x88, x89, x90, x91, x92, x93, x94, x95, x96, x97, x98, x99, x100, x101, x102, x103, x104, x105, x106, x107, x108, x109, x110, x111, x112, x113, x114, x115, x116, x117, x118, x119, x120, x121, x122, x123, x124, x125, x126, x127] h16)
theorem f6_b0_eq (O : Oracle) (L : Loops (Value × Heap)) (k : Ex → K (Value × Heap)) (x0 x1 x2 x3 x4 x5 x6 x7 x8 x9 x10 x11 x12 x13 x14 x15 x16 x17 x18 x19 x20 x21 x22 x23 x24 x25 x26 x27 x28 x29 x30 x31 x32 x33 x34 x35 x36 x37 x38 x39 x40 x41 x42 x43 x44 x45 x46 x47 x48 x49 x50 x51 x52 x53 x54 x55 x56 x57 x58 x59 x60 x61 x62 x63 x64 x65 x66 x67 x68 x69 x70 x71 x72 x73 x74 x75 x76 x77 x78 x79 x80 x81 x82 x83 x84 x85 x86 x87 x88 x89 x90 x91 x92 x93 x94 x95 x96 x97 x98 x99 x100 x101 x102 x103 x104 x105 x106 x107 x108 x109 x110 x111 x112 x113 x114 x115 x116 x117 x118 x119 x120 x121 x122 x123 x124 x125 x126 x127 : Value) (h : Heap) :
    runCode Try.prog O L f6_c0 k [x0, x1, x2, x3, x4, x5, x6, x7, x8, x9, x10, x11, x12, x13, x14, x15, x16, x17, x18, x19, x20, x21, x22, x23, x24, x25, x26, x27, x28, x29, x30, x31, x32, x33, x34, x35, x36, x37, x38, x39, x40, x41, x42, x43, x44, x45, x46, x47, x48, x49, x50, x51, x52, x53, x54, x55, x56, x57, x58, x59, x60, x61, x62, x63, x64, x65, x66, x67, x68, x69, x70, x71, x72, x73, x74, x75, x76, x77, x78, x79, x80, x81, x82, x83, x84, x85, x86, x87, x88, x89, x90, x91, x92, x93, x94, x95, x96, x97, x98, x99, x100, x101, x102, x103, x104, x105, x106, x107, x108, x109, x110, x111, x112, x113, x114, x115, x116, x117, x118, x119, x120, x121, x122, x123, x124, x125, x126, x127] h = f6_b0 O L k x0 x1 x2 x3 x4 x5 x6 x7 x8 x9 x10 x11 x12 x13 x14 x15 x16 x17 x18 x19 x20 x21 x22 x23 x24 x25 x26 x27 x28 x29 x30 x31 x32 x33 x34 x35 x36 x37 x38 x39 x40 x41 x42 x43 x44 x45 x46 x47 x48 x49 x50 x51 x52 x53 x54 x55 x56 x57 x58 x59 x60 x61 x62 x63 x64 x65 x66 x67 x68 x69 x70 x71 x72 x73 x74 x75 x76 x77 x78 x79 x80 x81 x82 x83 x84 x85 x86 x87 x88 x89 x90 x91 x92 x93 x94 x95 x96 x97 x98 x99 x100 x101 x102 x103 x104 x105 x106 x107 x108 x109 x110 x111 x112 x113 x114 x115 x116 x117 x118 x119 x120 x121 x122 x123 x124 x125 x126 x127 h := by kernel_rfl
noncomputable def f6 (O : Oracle) (L : Loops (Value × Heap)) (a0 a1 : Value) (h : Heap) : Option (Value × Heap) :=
  ob ((O (.func 15) [a1]) h) fun v0 h0 =>
  ob ((gd v0 false (O (.func 16) [])) h0) fun v1 h1 =>
  ob ((gd v0 false (M.ofOpt (un Try.prog .not v1))) h1) fun v2 h2 =>
  ob ((M.ofOpt (pick v0 (.bool true) v2)) h2) fun v3 h3 =>
  iteV v3 (
  ob ((O (.func 16) []) h3) fun v4 h4 =>
  some (oneOf [v4], h4)) (
  ob ((O (.func 17) [a0]) h3) fun v5 h5 =>
  ob ((O (.func 23) [a0]) h5) fun v6 h6 =>
  ob ((M.ofOpt (bin Try.prog .eql 25 v5 (.pointer none))) h6) fun v7 h7 =>
  ob ((gd v7 false (M.ret v6)) h7) fun v8 h8 =>
  ob ((gd v7 false (M.ofOpt (bin Try.prog .eql 40 v8 (.pointer none)))) h8) fun v9 h9 =>
  ob ((M.ofOpt (pick v7 (.bool true) v9)) h9) fun v10 h10 =>
  iteV v10 (
  ob ((M.ofOpt (bin Try.prog .eql 25 v5 (.pointer none))) h10) fun v11 h11 =>
  ob ((gd v11 true (M.ret v6)) h11) fun v12 h12 =>
  ob ((gd v11 true (M.ofOpt (bin Try.prog .eql 40 v12 (.pointer none)))) h12) fun v13 h13 =>
  ob ((M.ofOpt (pick v11 v13 (.bool false))) h13) fun v14 h14 =>
  some (oneOf [v14], h14)) (
  L (runCode Try.prog O L f6_c0) (f6_k0 O L) [a0, a1, undef, undef, (.bool false), v5, v6, (.int .i64 0), undef, undef, undef, undef, undef, undef, a1, v0, v0, v1, v2, v3, undef, a0, v5, a0, v6, v5, v7, v7, v8, v9, v10, undef, undef, undef, undef, undef, undef, undef, undef, undef, undef, undef, undef, undef, undef, undef, undef, undef, undef, undef, undef, undef, undef, undef, undef, undef, undef, undef, undef, undef, undef, undef, undef, undef, undef, undef, undef, undef, undef, undef, undef, undef, undef, undef, undef, undef, undef, undef, undef, undef, undef, undef, undef, undef, undef, undef, undef, undef, undef, undef, undef, undef, undef, undef, undef, undef, undef, undef, undef, undef, undef, undef, undef, undef, undef, undef, undef, undef, undef, undef, undef, undef, undef, undef, undef, undef, undef, undef, undef, undef, undef, undef, undef, undef, undef, undef, undef, undef] h10))
theorem f6_eq (O : Oracle) (L : Loops (Value × Heap)) (a0 a1 : Value) (h : Heap) :
    body Try.prog O L 6 [a0, a1] h = f6 O L a0 a1 h := by kernel_rfl

/-! 7: shunter/shunterlaw04.LinkKeeps; slots: [(l, 0), (room, 1), (l, 2), (room, 3), (n, 5), (a, 6), (i, 7), (all, 8), (i, 9), (k, 10), (i, 11), (b, 12), (is, 13), (_, 14), (is, 15)] -/
noncomputable def f7_c3 : Code := sub [1, 1, 1, 1, 1, 1, 1, 1, 0, 1, 0, 0] (fbody Try.prog 7)
noncomputable def f7_k3 (O : Oracle) (L : Loops (Value × Heap)) : Ex → K (Value × Heap) := (blockK 6 (seqK Try.prog O L (sub [1, 1, 1, 1, 1, 1, 1, 1, 1] (fbody Try.prog 7)) (kRet Try.prog Try.f7)))
noncomputable def f7_e3_6 (O : Oracle) (L : Loops (Value × Heap)) (x0 x1 x2 x3 x4 x5 x6 x7 x8 x9 x10 x11 x12 x13 x14 x15 x16 x17 x18 x19 x20 x21 x22 x23 x24 x25 x26 x27 x28 x29 x30 x31 x32 x33 x34 x35 x36 x37 x38 x39 x40 x41 x42 x43 x44 x45 x46 x47 x48 x49 x50 x51 x52 x53 x54 x55 x56 x57 x58 x59 x60 x61 x62 x63 x64 x65 x66 x67 x68 x69 x70 x71 x72 x73 x74 x75 x76 x77 x78 x79 x80 x81 x82 x83 x84 x85 x86 x87 x88 x89 x90 x91 x92 x93 x94 x95 x96 x97 x98 x99 x100 x101 x102 x103 : Value) (h : Heap) : Option (Value × Heap) :=
  ob ((O (.func 20) [x6, (.int .i64 0)]) h) fun v50 h50 =>
  ob ((M.ofOpt (ext 0 v50)) h50) fun v51 h51 =>
  ob ((M.ofOpt (ext 1 v50)) h51) fun v52 h52 =>
  ob ((M.ofOpt (un Try.prog .not v52)) h52) fun v53 h53 =>
  some (oneOf [v53], h53)
theorem f7_e3_6_eq (O : Oracle) (L : Loops (Value × Heap)) (x0 x1 x2 x3 x4 x5 x6 x7 x8 x9 x10 x11 x12 x13 x14 x15 x16 x17 x18 x19 x20 x21 x22 x23 x24 x25 x26 x27 x28 x29 x30 x31 x32 x33 x34 x35 x36 x37 x38 x39 x40 x41 x42 x43 x44 x45 x46 x47 x48 x49 x50 x51 x52 x53 x54 x55 x56 x57 x58 x59 x60 x61 x62 x63 x64 x65 x66 x67 x68 x69 x70 x71 x72 x73 x74 x75 x76 x77 x78 x79 x80 x81 x82 x83 x84 x85 x86 x87 x88 x89 x90 x91 x92 x93 x94 x95 x96 x97 x98 x99 x100 x101 x102 x103 : Value) (h : Heap) :
    f7_k3 O L (.exit 6) [x0, x1, x2, x3, x4, x5, x6, x7, x8, x9, x10, x11, x12, x13, x14, x15, x16, x17, x18, x19, x20, x21, x22, x23, x24, x25, x26, x27, x28, x29, x30, x31, x32, x33, x34, x35, x36, x37, x38, x39, x40, x41, x42, x43, x44, x45, x46, x47, x48, x49, x50, x51, x52, x53, x54, x55, x56, x57, x58, x59, x60, x61, x62, x63, x64, x65, x66, x67, x68, x69, x70, x71, x72, x73, x74, x75, x76, x77, x78, x79, x80, x81, x82, x83, x84, x85, x86, x87, x88, x89, x90, x91, x92, x93, x94, x95, x96, x97, x98, x99, x100, x101, x102, x103] h = f7_e3_6 O L x0 x1 x2 x3 x4 x5 x6 x7 x8 x9 x10 x11 x12 x13 x14 x15 x16 x17 x18 x19 x20 x21 x22 x23 x24 x25 x26 x27 x28 x29 x30 x31 x32 x33 x34 x35 x36 x37 x38 x39 x40 x41 x42 x43 x44 x45 x46 x47 x48 x49 x50 x51 x52 x53 x54 x55 x56 x57 x58 x59 x60 x61 x62 x63 x64 x65 x66 x67 x68 x69 x70 x71 x72 x73 x74 x75 x76 x77 x78 x79 x80 x81 x82 x83 x84 x85 x86 x87 x88 x89 x90 x91 x92 x93 x94 x95 x96 x97 x98 x99 x100 x101 x102 x103 h := by kernel_rfl
noncomputable def f7_r3 (O : Oracle) (L : Loops (Value × Heap)) (x0 x1 x2 x3 x4 x5 x6 x7 x8 x9 x10 x11 x12 x13 x14 x15 x16 x17 x18 x19 x20 x21 x22 x23 x24 x25 x26 x27 x28 x29 x30 x31 x32 x33 x34 x35 x36 x37 x38 x39 x40 x41 x42 x43 x44 x45 x46 x47 x48 x49 x50 x51 x52 x53 x54 x55 x56 x57 x58 x59 x60 x61 x62 x63 x64 x65 x66 x67 x68 x69 x70 x71 x72 x73 x74 x75 x76 x77 x78 x79 x80 x81 x82 x83 x84 x85 x86 x87 x88 x89 x90 x91 x92 x93 x94 x95 x96 x97 x98 x99 x100 x101 x102 x103 : Value) (h : Heap) : Option (Value × Heap) :=
  some (oneOf [x4], h)
theorem f7_r3_eq (O : Oracle) (L : Loops (Value × Heap)) (x0 x1 x2 x3 x4 x5 x6 x7 x8 x9 x10 x11 x12 x13 x14 x15 x16 x17 x18 x19 x20 x21 x22 x23 x24 x25 x26 x27 x28 x29 x30 x31 x32 x33 x34 x35 x36 x37 x38 x39 x40 x41 x42 x43 x44 x45 x46 x47 x48 x49 x50 x51 x52 x53 x54 x55 x56 x57 x58 x59 x60 x61 x62 x63 x64 x65 x66 x67 x68 x69 x70 x71 x72 x73 x74 x75 x76 x77 x78 x79 x80 x81 x82 x83 x84 x85 x86 x87 x88 x89 x90 x91 x92 x93 x94 x95 x96 x97 x98 x99 x100 x101 x102 x103 : Value) (h : Heap) :
    f7_k3 O L .ret [x0, x1, x2, x3, x4, x5, x6, x7, x8, x9, x10, x11, x12, x13, x14, x15, x16, x17, x18, x19, x20, x21, x22, x23, x24, x25, x26, x27, x28, x29, x30, x31, x32, x33, x34, x35, x36, x37, x38, x39, x40, x41, x42, x43, x44, x45, x46, x47, x48, x49, x50, x51, x52, x53, x54, x55, x56, x57, x58, x59, x60, x61, x62, x63, x64, x65, x66, x67, x68, x69, x70, x71, x72, x73, x74, x75, x76, x77, x78, x79, x80, x81, x82, x83, x84, x85, x86, x87, x88, x89, x90, x91, x92, x93, x94, x95, x96, x97, x98, x99, x100, x101, x102, x103] h = f7_r3 O L x0 x1 x2 x3 x4 x5 x6 x7 x8 x9 x10 x11 x12 x13 x14 x15 x16 x17 x18 x19 x20 x21 x22 x23 x24 x25 x26 x27 x28 x29 x30 x31 x32 x33 x34 x35 x36 x37 x38 x39 x40 x41 x42 x43 x44 x45 x46 x47 x48 x49 x50 x51 x52 x53 x54 x55 x56 x57 x58 x59 x60 x61 x62 x63 x64 x65 x66 x67 x68 x69 x70 x71 x72 x73 x74 x75 x76 x77 x78 x79 x80 x81 x82 x83 x84 x85 x86 x87 x88 x89 x90 x91 x92 x93 x94 x95 x96 x97 x98 x99 x100 x101 x102 x103 h := by kernel_rfl
noncomputable def f7_b3 (O : Oracle) (L : Loops (Value × Heap)) (k : Ex → K (Value × Heap)) (x0 x1 x2 x3 x4 x5 x6 x7 x8 x9 x10 x11 x12 x13 x14 x15 x16 x17 x18 x19 x20 x21 x22 x23 x24 x25 x26 x27 x28 x29 x30 x31 x32 x33 x34 x35 x36 x37 x38 x39 x40 x41 x42 x43 x44 x45 x46 x47 x48 x49 x50 x51 x52 x53 x54 x55 x56 x57 x58 x59 x60 x61 x62 x63 x64 x65 x66 x67 x68 x69 x70 x71 x72 x73 x74 x75 x76 x77 x78 x79 x80 x81 x82 x83 x84 x85 x86 x87 x88 x89 x90 x91 x92 x93 x94 x95 x96 x97 x98 x99 x100 x101 x102 x103 : Value) (h : Heap) : Option (Value × Heap) :=
  ob ((M.ofOpt (lenSl x0)) h) fun v32 h32 =>
  ob ((M.ofOpt (minmax Try.prog false [v32, x5])) h32) fun v33 h33 =>
  ob ((M.ofOpt (bin Try.prog .lss 3 x11 v33)) h33) fun v34 h34 =>
  iteV v34 (
  ob ((O (.func 20) [x6, (.int .i64 0)]) h34) fun v35 h35 =>
  ob ((M.ofOpt (ext 0 v35)) h35) fun v36 h36 =>
  ob ((M.ofOpt (ext 1 v35)) h36) fun v37 h37 =>
  ob ((M.ofOpt (un Try.prog .not v37)) h37) fun v38 h38 =>
  ob ((gd v38 false (M.ret v36)) h38) fun v39 h39 =>
  ob ((gd v38 false (conv Try.prog 29 9 v39)) h39) fun v40 h40 =>
  ifB (true) (
  ob ((gd v38 false (M.ret x0)) h40) fun v41 h41 =>
  ob ((gd v38 false (M.ret x11)) h41) fun v42 h42 =>
  ob ((gd v38 false (M.ofOpt (iAddr 5 v41 v42))) h42) fun v43 h43 =>
  ob ((gd v38 false (M.ofOpt (fAddr 1 v43))) h43) fun v44 h44 =>
  ob ((gd v38 false (ld1 v44)) h44) fun v45 h45 =>
  ifB (true) (
  ob ((gd v38 false (conv Try.prog 29 9 v45)) h45) fun v46 h46 =>
  ifB (true) (
  ob ((gd v38 false (M.ofOpt (bin Try.prog .neq 9 v40 v46))) h46) fun v47 h47 =>
  ob ((M.ofOpt (pick v38 (.bool true) v47)) h47) fun v48 h48 =>
  iteV v48 (
  k .ret [x0, x1, x2, x3, (.bool false), x5, x6, x7, x8, x9, x10, x11, v36, v37, x14, x15, x16, x17, x18, x19, x20, x21, x22, x23, x24, x25, x26, x27, x28, x29, x30, x31, x32, x33, x34, x35, x36, x37, x38, x39, x40, x41, x42, x43, x44, x45, x46, x47, x48, x49, x50, x51, x52, x53, x54, x55, x56, x57, x58, x59, x60, x61, x62, x63, x64, x65, x66, x67, x68, x69, x70, x11, x0, v32, x5, v33, v34, x77, x78, v35, x6, v35, v36, v37, v37, v38, v38, v39, v40, v41, v42, v43, v44, v45, v46, v47, v48, x97, x98, x99, x100, x101, x102, x103] h48) (
  ob ((M.ofOpt (bin Try.prog .add 3 x11 (.int .i64 1))) h48) fun v49 h49 =>
  k .normal [x0, x1, x2, x3, x4, x5, x6, x7, x8, x9, x10, v49, v36, v37, x14, x15, x16, x17, x18, x19, x20, x21, x22, x23, x24, x25, x26, x27, x28, x29, x30, x31, x32, x33, x34, x35, x36, x37, x38, x39, x40, x41, x42, x43, x44, x45, x46, x47, x48, x49, x50, x51, x52, x53, x54, x55, x56, x57, x58, x59, x60, x61, x62, x63, x64, x65, x66, x67, x68, x69, x70, x11, x0, v32, x5, v33, v34, x11, v49, v35, x6, v35, v36, v37, v37, v38, v38, v39, v40, v41, v42, v43, v44, v45, v46, v47, v48, x97, x98, x99, x100, x101, x102, x103] h49))))) (
  k (.exit 6) [x0, x1, x2, x3, x4, x5, x6, x7, x8, x9, x10, x11, x12, x13, x14, x15, x16, x17, x18, x19, x20, x21, x22, x23, x24, x25, x26, x27, x28, x29, x30, x31, x32, x33, x34, x35, x36, x37, x38, x39, x40, x41, x42, x43, x44, x45, x46, x47, x48, x49, x50, x51, x52, x53, x54, x55, x56, x57, x58, x59, x60, x61, x62, x63, x64, x65, x66, x67, x68, x69, x70, x11, x0, v32, x5, v33, v34, x77, x78, x79, x80, x81, x82, x83, x84, x85, x86, x87, x88, x89, x90, x91, x92, x93, x94, x95, x96, x97, x98, x99, x100, x101, x102, x103] h34)
theorem f7_b3_eq (O : Oracle) (L : Loops (Value × Heap)) (k : Ex → K (Value × Heap)) (x0 x1 x2 x3 x4 x5 x6 x7 x8 x9 x10 x11 x12 x13 x14 x15 x16 x17 x18 x19 x20 x21 x22 x23 x24 x25 x26 x27 x28 x29 x30 x31 x32 x33 x34 x35 x36 x37 x38 x39 x40 x41 x42 x43 x44 x45 x46 x47 x48 x49 x50 x51 x52 x53 x54 x55 x56 x57 x58 x59 x60 x61 x62 x63 x64 x65 x66 x67 x68 x69 x70 x71 x72 x73 x74 x75 x76 x77 x78 x79 x80 x81 x82 x83 x84 x85 x86 x87 x88 x89 x90 x91 x92 x93 x94 x95 x96 x97 x98 x99 x100 x101 x102 x103 : Value) (h : Heap) :
    runCode Try.prog O L f7_c3 k [x0, x1, x2, x3, x4, x5, x6, x7, x8, x9, x10, x11, x12, x13, x14, x15, x16, x17, x18, x19, x20, x21, x22, x23, x24, x25, x26, x27, x28, x29, x30, x31, x32, x33, x34, x35, x36, x37, x38, x39, x40, x41, x42, x43, x44, x45, x46, x47, x48, x49, x50, x51, x52, x53, x54, x55, x56, x57, x58, x59, x60, x61, x62, x63, x64, x65, x66, x67, x68, x69, x70, x71, x72, x73, x74, x75, x76, x77, x78, x79, x80, x81, x82, x83, x84, x85, x86, x87, x88, x89, x90, x91, x92, x93, x94, x95, x96, x97, x98, x99, x100, x101, x102, x103] h = f7_b3 O L k x0 x1 x2 x3 x4 x5 x6 x7 x8 x9 x10 x11 x12 x13 x14 x15 x16 x17 x18 x19 x20 x21 x22 x23 x24 x25 x26 x27 x28 x29 x30 x31 x32 x33 x34 x35 x36 x37 x38 x39 x40 x41 x42 x43 x44 x45 x46 x47 x48 x49 x50 x51 x52 x53 x54 x55 x56 x57 x58 x59 x60 x61 x62 x63 x64 x65 x66 x67 x68 x69 x70 x71 x72 x73 x74 x75 x76 x77 x78 x79 x80 x81 x82 x83 x84 x85 x86 x87 x88 x89 x90 x91 x92 x93 x94 x95 x96 x97 x98 x99 x100 x101 x102 x103 h := by kernel_rfl
noncomputable def f7_c2 : Code := sub [1, 1, 1, 1, 1, 1, 1, 0, 1, 0, 0, 1, 0, 0, 1, 0, 0] (fbody Try.prog 7)
noncomputable def f7_k2 (O : Oracle) (L : Loops (Value × Heap)) (k : Ex → K (Value × Heap)) : Ex → K (Value × Heap) := (blockK 4 (blockK 3 (seqK Try.prog O L (sub [1, 1, 1, 1, 1, 1, 1, 0, 1, 0, 0, 1, 1] (fbody Try.prog 7)) k)))
noncomputable def f7_e2_4 (O : Oracle) (L : Loops (Value × Heap)) (k : Ex → K (Value × Heap)) (x0 x1 x2 x3 x4 x5 x6 x7 x8 x9 x10 x11 x12 x13 x14 x15 x16 x17 x18 x19 x20 x21 x22 x23 x24 x25 x26 x27 x28 x29 x30 x31 x32 x33 x34 x35 x36 x37 x38 x39 x40 x41 x42 x43 x44 x45 x46 x47 x48 x49 x50 x51 x52 x53 x54 x55 x56 x57 x58 x59 x60 x61 x62 x63 x64 x65 x66 x67 x68 x69 x70 x71 x72 x73 x74 x75 x76 x77 x78 x79 x80 x81 x82 x83 x84 x85 x86 x87 x88 x89 x90 x91 x92 x93 x94 x95 x96 x97 x98 x99 x100 x101 x102 x103 : Value) (h : Heap) : Option (Value × Heap) :=
  ob ((M.ofOpt (bin Try.prog .add 3 x9 (.int .i64 1))) h) fun v31 h31 =>
  k .normal [x0, x1, x2, x3, x4, x5, x6, x7, x8, v31, x10, x11, x12, x13, x14, x15, x16, x17, x18, x19, x20, x21, x22, x23, x24, x25, x26, x27, x28, x29, x30, x31, x32, x33, x34, x35, x36, x37, x38, x39, x40, x41, x42, x43, x44, x45, x46, x47, x48, x49, x50, x51, x52, x53, x9, v31, x56, x57, x58, x59, x60, x61, x62, x63, x64, x65, x66, x67, x68, x69, x70, x71, x72, x73, x74, x75, x76, x77, x78, x79, x80, x81, x82, x83, x84, x85, x86, x87, x88, x89, x90, x91, x92, x93, x94, x95, x96, x97, x98, x99, x100, x101, x102, x103] h31
theorem f7_e2_4_eq (O : Oracle) (L : Loops (Value × Heap)) (k : Ex → K (Value × Heap)) (x0 x1 x2 x3 x4 x5 x6 x7 x8 x9 x10 x11 x12 x13 x14 x15 x16 x17 x18 x19 x20 x21 x22 x23 x24 x25 x26 x27 x28 x29 x30 x31 x32 x33 x34 x35 x36 x37 x38 x39 x40 x41 x42 x43 x44 x45 x46 x47 x48 x49 x50 x51 x52 x53 x54 x55 x56 x57 x58 x59 x60 x61 x62 x63 x64 x65 x66 x67 x68 x69 x70 x71 x72 x73 x74 x75 x76 x77 x78 x79 x80 x81 x82 x83 x84 x85 x86 x87 x88 x89 x90 x91 x92 x93 x94 x95 x96 x97 x98 x99 x100 x101 x102 x103 : Value) (h : Heap) :
    f7_k2 O L k (.exit 4) [x0, x1, x2, x3, x4, x5, x6, x7, x8, x9, x10, x11, x12, x13, x14, x15, x16, x17, x18, x19, x20, x21, x22, x23, x24, x25, x26, x27, x28, x29, x30, x31, x32, x33, x34, x35, x36, x37, x38, x39, x40, x41, x42, x43, x44, x45, x46, x47, x48, x49, x50, x51, x52, x53, x54, x55, x56, x57, x58, x59, x60, x61, x62, x63, x64, x65, x66, x67, x68, x69, x70, x71, x72, x73, x74, x75, x76, x77, x78, x79, x80, x81, x82, x83, x84, x85, x86, x87, x88, x89, x90, x91, x92, x93, x94, x95, x96, x97, x98, x99, x100, x101, x102, x103] h = f7_e2_4 O L k x0 x1 x2 x3 x4 x5 x6 x7 x8 x9 x10 x11 x12 x13 x14 x15 x16 x17 x18 x19 x20 x21 x22 x23 x24 x25 x26 x27 x28 x29 x30 x31 x32 x33 x34 x35 x36 x37 x38 x39 x40 x41 x42 x43 x44 x45 x46 x47 x48 x49 x50 x51 x52 x53 x54 x55 x56 x57 x58 x59 x60 x61 x62 x63 x64 x65 x66 x67 x68 x69 x70 x71 x72 x73 x74 x75 x76 x77 x78 x79 x80 x81 x82 x83 x84 x85 x86 x87 x88 x89 x90 x91 x92 x93 x94 x95 x96 x97 x98 x99 x100 x101 x102 x103 h := by kernel_rfl
noncomputable def f7_b2 (O : Oracle) (L : Loops (Value × Heap)) (k : Ex → K (Value × Heap)) (x0 x1 x2 x3 x4 x5 x6 x7 x8 x9 x10 x11 x12 x13 x14 x15 x16 x17 x18 x19 x20 x21 x22 x23 x24 x25 x26 x27 x28 x29 x30 x31 x32 x33 x34 x35 x36 x37 x38 x39 x40 x41 x42 x43 x44 x45 x46 x47 x48 x49 x50 x51 x52 x53 x54 x55 x56 x57 x58 x59 x60 x61 x62 x63 x64 x65 x66 x67 x68 x69 x70 x71 x72 x73 x74 x75 x76 x77 x78 x79 x80 x81 x82 x83 x84 x85 x86 x87 x88 x89 x90 x91 x92 x93 x94 x95 x96 x97 x98 x99 x100 x101 x102 x103 : Value) (h : Heap) : Option (Value × Heap) :=
  ob ((M.ofOpt (iAddr 1 x8 x9)) h) fun v22 h22 =>
  ob ((ld1 v22) h22) fun v23 h23 =>
  ob ((M.ofOpt (lenSl v23)) h23) fun v24 h24 =>
  ob ((M.ofOpt (bin Try.prog .lss 3 x10 v24)) h24) fun v25 h25 =>
  iteV v25 (
  ob ((M.ofOpt (iAddr 1 x8 x9)) h25) fun v26 h26 =>
  ob ((ld1 v26) h26) fun v27 h27 =>
  ob ((M.ofOpt (iAddr 1 v27 x10)) h27) fun v28 h28 =>
  ob ((stN 1 v28 (.int .u8 255)) h28) fun v29 h29 =>
  ob ((M.ofOpt (bin Try.prog .add 3 x10 (.int .i64 1))) h29) fun v30 h30 =>
  k .normal [x0, x1, x2, x3, x4, x5, x6, x7, x8, x9, v30, x11, x12, x13, x14, x15, x16, x17, x18, x19, x20, x21, x22, x23, x24, x25, x26, x27, x28, x29, x30, x31, x32, x33, x34, x35, x36, x37, x38, x39, x40, x41, x42, x43, x44, x45, x46, x47, x48, x49, x50, x51, x52, x53, x54, x55, x10, x8, x9, v22, v23, v24, v25, x10, v30, x8, x9, v26, v27, x10, v28, x71, x72, x73, x74, x75, x76, x77, x78, x79, x80, x81, x82, x83, x84, x85, x86, x87, x88, x89, x90, x91, x92, x93, x94, x95, x96, x97, x98, x99, x100, x101, x102, x103] h30) (
  k (.exit 4) [x0, x1, x2, x3, x4, x5, x6, x7, x8, x9, x10, x11, x12, x13, x14, x15, x16, x17, x18, x19, x20, x21, x22, x23, x24, x25, x26, x27, x28, x29, x30, x31, x32, x33, x34, x35, x36, x37, x38, x39, x40, x41, x42, x43, x44, x45, x46, x47, x48, x49, x50, x51, x52, x53, x54, x55, x10, x8, x9, v22, v23, v24, v25, x63, x64, x65, x66, x67, x68, x69, x70, x71, x72, x73, x74, x75, x76, x77, x78, x79, x80, x81, x82, x83, x84, x85, x86, x87, x88, x89, x90, x91, x92, x93, x94, x95, x96, x97, x98, x99, x100, x101, x102, x103] h25)
theorem f7_b2_eq (O : Oracle) (L : Loops (Value × Heap)) (k : Ex → K (Value × Heap)) (x0 x1 x2 x3 x4 x5 x6 x7 x8 x9 x10 x11 x12 x13 x14 x15 x16 x17 x18 x19 x20 x21 x22 x23 x24 x25 x26 x27 x28 x29 x30 x31 x32 x33 x34 x35 x36 x37 x38 x39 x40 x41 x42 x43 x44 x45 x46 x47 x48 x49 x50 x51 x52 x53 x54 x55 x56 x57 x58 x59 x60 x61 x62 x63 x64 x65 x66 x67 x68 x69 x70 x71 x72 x73 x74 x75 x76 x77 x78 x79 x80 x81 x82 x83 x84 x85 x86 x87 x88 x89 x90 x91 x92 x93 x94 x95 x96 x97 x98 x99 x100 x101 x102 x103 : Value) (h : Heap) :
    runCode Try.prog O L f7_c2 k [x0, x1, x2, x3, x4, x5, x6, x7, x8, x9, x10, x11, x12, x13, x14, x15, x16, x17, x18, x19, x20, x21, x22, x23, x24, x25, x26, x27, x28, x29, x30, x31, x32, x33, x34, x35, x36, x37, x38, x39, x40, x41, x42, x43, x44, x45, x46, x47, x48, x49, x50, x51, x52, x53, x54, x55, x56, x57, x58, x59, x60, x61, x62, x63, x64, x65, x66, x67, x68, x69, x70, x71, x72, x73, x74, x75, x76, x77, x78, x79, x80, x81, x82, x83, x84, x85, x86, x87, x88, x89, x90, x91, x92, x93, x94, x95, x96, x97, x98, x99, x100, x101, x102, x103] h = f7_b2 O L k x0 x1 x2 x3 x4 x5 x6 x7 x8 x9 x10 x11 x12 x13 x14 x15 x16 x17 x18 x19 x20 x21 x22 x23 x24 x25 x26 x27 x28 x29 x30 x31 x32 x33 x34 x35 x36 x37 x38 x39 x40 x41 x42 x43 x44 x45 x46 x47 x48 x49 x50 x51 x52 x53 x54 x55 x56 x57 x58 x59 x60 x61 x62 x63 x64 x65 x66 x67 x68 x69 x70 x71 x72 x73 x74 x75 x76 x77 x78 x79 x80 x81 x82 x83 x84 x85 x86 x87 x88 x89 x90 x91 x92 x93 x94 x95 x96 x97 x98 x99 x100 x101 x102 x103 h := by kernel_rfl
noncomputable def f7_c1 : Code := sub [1, 1, 1, 1, 1, 1, 1, 0, 1, 0, 0] (fbody Try.prog 7)
noncomputable def f7_k1 (O : Oracle) (L : Loops (Value × Heap)) : Ex → K (Value × Heap) := (blockK 2 (seqK Try.prog O L (sub [1, 1, 1, 1, 1, 1, 1, 1] (fbody Try.prog 7)) (kRet Try.prog Try.f7)))
noncomputable def f7_e1_2 (O : Oracle) (L : Loops (Value × Heap)) (x0 x1 x2 x3 x4 x5 x6 x7 x8 x9 x10 x11 x12 x13 x14 x15 x16 x17 x18 x19 x20 x21 x22 x23 x24 x25 x26 x27 x28 x29 x30 x31 x32 x33 x34 x35 x36 x37 x38 x39 x40 x41 x42 x43 x44 x45 x46 x47 x48 x49 x50 x51 x52 x53 x54 x55 x56 x57 x58 x59 x60 x61 x62 x63 x64 x65 x66 x67 x68 x69 x70 x71 x72 x73 x74 x75 x76 x77 x78 x79 x80 x81 x82 x83 x84 x85 x86 x87 x88 x89 x90 x91 x92 x93 x94 x95 x96 x97 x98 x99 x100 x101 x102 x103 : Value) (h : Heap) : Option (Value × Heap) :=
  L (runCode Try.prog O L f7_c3) (f7_k3 O L) [x0, x1, x2, x3, x4, x5, x6, x7, x8, x9, x10, (.int .i64 0), x12, x13, x14, x15, x16, x17, x18, x19, x20, x21, x22, x23, x24, x25, x26, x27, x28, x29, x30, x31, x32, x33, x34, x35, x36, x37, x38, x39, x40, x41, x42, x43, x44, x45, x46, x47, x48, x49, x50, x51, x52, x53, x54, x55, x56, x57, x58, x59, x60, x61, x62, x63, x64, x65, x66, x67, x68, x69, x70, x71, x72, x73, x74, x75, x76, x77, x78, x79, x80, x81, x82, x83, x84, x85, x86, x87, x88, x89, x90, x91, x92, x93, x94, x95, x96, x97, x98, x99, x100, x101, x102, x103] h
theorem f7_e1_2_eq (O : Oracle) (L : Loops (Value × Heap)) (x0 x1 x2 x3 x4 x5 x6 x7 x8 x9 x10 x11 x12 x13 x14 x15 x16 x17 x18 x19 x20 x21 x22 x23 x24 x25 x26 x27 x28 x29 x30 x31 x32 x33 x34 x35 x36 x37 x38 x39 x40 x41 x42 x43 x44 x45 x46 x47 x48 x49 x50 x51 x52 x53 x54 x55 x56 x57 x58 x59 x60 x61 x62 x63 x64 x65 x66 x67 x68 x69 x70 x71 x72 x73 x74 x75 x76 x77 x78 x79 x80 x81 x82 x83 x84 x85 x86 x87 x88 x89 x90 x91 x92 x93 x94 x95 x96 x97 x98 x99 x100 x101 x102 x103 : Value) (h : Heap) :
    f7_k1 O L (.exit 2) [x0, x1, x2, x3, x4, x5, x6, x7, x8, x9, x10, x11, x12, x13, x14, x15, x16, x17, x18, x19, x20, x21, x22, x23, x24, x25, x26, x27, x28, x29, x30, x31, x32, x33, x34, x35, x36, x37, x38, x39, x40, x41, x42, x43, x44, x45, x46, x47, x48, x49, x50, x51, x52, x53, x54, x55, x56, x57, x58, x59, x60, x61, x62, x63, x64, x65, x66, x67, x68, x69, x70, x71, x72, x73, x74, x75, x76, x77, x78, x79, x80, x81, x82, x83, x84, x85, x86, x87, x88, x89, x90, x91, x92, x93, x94, x95, x96, x97, x98, x99, x100, x101, x102, x103] h = f7_e1_2 O L x0 x1 x2 x3 x4 x5 x6 x7 x8 x9 x10 x11 x12 x13 x14 x15 x16 x17 x18 x19 x20 x21 x22 x23 x24 x25 x26 x27 x28 x29 x30 x31 x32 x33 x34 x35 x36 x37 x38 x39 x40 x41 x42 x43 x44 x45 x46 x47 x48 x49 x50 x51 x52 x53 x54 x55 x56 x57 x58 x59 x60 x61 x62 x63 x64 x65 x66 x67 x68 x69 x70 x71 x72 x73 x74 x75 x76 x77 x78 x79 x80 x81 x82 x83 x84 x85 x86 x87 x88 x89 x90 x91 x92 x93 x94 x95 x96 x97 x98 x99 x100 x101 x102 x103 h := by kernel_rfl
noncomputable def f7_b1 (O : Oracle) (L : Loops (Value × Heap)) (k : Ex → K (Value × Heap)) (x0 x1 x2 x3 x4 x5 x6 x7 x8 x9 x10 x11 x12 x13 x14 x15 x16 x17 x18 x19 x20 x21 x22 x23 x24 x25 x26 x27 x28 x29 x30 x31 x32 x33 x34 x35 x36 x37 x38 x39 x40 x41 x42 x43 x44 x45 x46 x47 x48 x49 x50 x51 x52 x53 x54 x55 x56 x57 x58 x59 x60 x61 x62 x63 x64 x65 x66 x67 x68 x69 x70 x71 x72 x73 x74 x75 x76 x77 x78 x79 x80 x81 x82 x83 x84 x85 x86 x87 x88 x89 x90 x91 x92 x93 x94 x95 x96 x97 x98 x99 x100 x101 x102 x103 : Value) (h : Heap) : Option (Value × Heap) :=
  ob ((M.ofOpt (lenSl x8)) h) fun v20 h20 =>
  ob ((M.ofOpt (bin Try.prog .lss 3 x9 v20)) h20) fun v21 h21 =>
  iteV v21 (
  L (runCode Try.prog O L f7_c2) (f7_k2 O L k) [x0, x1, x2, x3, x4, x5, x6, x7, x8, x9, (.int .i64 0), x11, x12, x13, x14, x15, x16, x17, x18, x19, x20, x21, x22, x23, x24, x25, x26, x27, x28, x29, x30, x31, x32, x33, x34, x35, x36, x37, x38, x39, x40, x41, x42, x43, x44, x45, x46, x47, x48, x49, x9, x8, v20, v21, x54, x55, x56, x57, x58, x59, x60, x61, x62, x63, x64, x65, x66, x67, x68, x69, x70, x71, x72, x73, x74, x75, x76, x77, x78, x79, x80, x81, x82, x83, x84, x85, x86, x87, x88, x89, x90, x91, x92, x93, x94, x95, x96, x97, x98, x99, x100, x101, x102, x103] h21) (
  k (.exit 2) [x0, x1, x2, x3, x4, x5, x6, x7, x8, x9, x10, x11, x12, x13, x14, x15, x16, x17, x18, x19, x20, x21, x22, x23, x24, x25, x26, x27, x28, x29, x30, x31, x32, x33, x34, x35, x36, x37, x38, x39, x40, x41, x42, x43, x44, x45, x46, x47, x48, x49, x9, x8, v20, v21, x54, x55, x56, x57, x58, x59, x60, x61, x62, x63, x64, x65, x66, x67, x68, x69, x70, x71, x72, x73, x74, x75, x76, x77, x78, x79, x80, x81, x82, x83, x84, x85, x86, x87, x88, x89, x90, x91, x92, x93, x94, x95, x96, x97, x98, x99, x100, x101, x102, x103] h21)
theorem f7_b1_eq (O : Oracle) (L : Loops (Value × Heap)) (k : Ex → K (Value × Heap)) (x0 x1 x2 x3 x4 x5 x6 x7 x8 x9 x10 x11 x12 x13 x14 x15 x16 x17 x18 x19 x20 x21 x22 x23 x24 x25 x26 x27 x28 x29 x30 x31 x32 x33 x34 x35 x36 x37 x38 x39 x40 x41 x42 x43 x44 x45 x46 x47 x48 x49 x50 x51 x52 x53 x54 x55 x56 x57 x58 x59 x60 x61 x62 x63 x64 x65 x66 x67 x68 x69 x70 x71 x72 x73 x74 x75 x76 x77 x78 x79 x80 x81 x82 x83 x84 x85 x86 x87 x88 x89 x90 x91 x92 x93 x94 x95 x96 x97 x98 x99 x100 x101 x102 x103 : Value) (h : Heap) :
    runCode Try.prog O L f7_c1 k [x0, x1, x2, x3, x4, x5, x6, x7, x8, x9, x10, x11, x12, x13, x14, x15, x16, x17, x18, x19, x20, x21, x22, x23, x24, x25, x26, x27, x28, x29, x30, x31, x32, x33, x34, x35, x36, x37, x38, x39, x40, x41, x42, x43, x44, x45, x46, x47, x48, x49, x50, x51, x52, x53, x54, x55, x56, x57, x58, x59, x60, x61, x62, x63, x64, x65, x66, x67, x68, x69, x70, x71, x72, x73, x74, x75, x76, x77, x78, x79, x80, x81, x82, x83, x84, x85, x86, x87, x88, x89, x90, x91, x92, x93, x94, x95, x96, x97, x98, x99, x100, x101, x102, x103] h = f7_b1 O L k x0 x1 x2 x3 x4 x5 x6 x7 x8 x9 x10 x11 x12 x13 x14 x15 x16 x17 x18 x19 x20 x21 x22 x23 x24 x25 x26 x27 x28 x29 x30 x31 x32 x33 x34 x35 x36 x37 x38 x39 x40 x41 x42 x43 x44 x45 x46 x47 x48 x49 x50 x51 x52 x53 x54 x55 x56 x57 x58 x59 x60 x61 x62 x63 x64 x65 x66 x67 x68 x69 x70 x71 x72 x73 x74 x75 x76 x77 x78 x79 x80 x81 x82 x83 x84 x85 x86 x87 x88 x89 x90 x91 x92 x93 x94 x95 x96 x97 x98 x99 x100 x101 x102 x103 h := by kernel_rfl
noncomputable def f7_c0 : Code := sub [1, 1, 1, 1, 1, 0, 1, 0, 0] (fbody Try.prog 7)
noncomputable def f7_k0 (O : Oracle) (L : Loops (Value × Heap)) : Ex → K (Value × Heap) := (blockK 0 (seqK Try.prog O L (sub [1, 1, 1, 1, 1, 1] (fbody Try.prog 7)) (kRet Try.prog Try.f7)))
noncomputable def f7_e0_0 (O : Oracle) (L : Loops (Value × Heap)) (x0 x1 x2 x3 x4 x5 x6 x7 x8 x9 x10 x11 x12 x13 x14 x15 x16 x17 x18 x19 x20 x21 x22 x23 x24 x25 x26 x27 x28 x29 x30 x31 x32 x33 x34 x35 x36 x37 x38 x39 x40 x41 x42 x43 x44 x45 x46 x47 x48 x49 x50 x51 x52 x53 x54 x55 x56 x57 x58 x59 x60 x61 x62 x63 x64 x65 x66 x67 x68 x69 x70 x71 x72 x73 x74 x75 x76 x77 x78 x79 x80 x81 x82 x83 x84 x85 x86 x87 x88 x89 x90 x91 x92 x93 x94 x95 x96 x97 x98 x99 x100 x101 x102 x103 : Value) (h : Heap) : Option (Value × Heap) :=
  ob ((O (.func 18) [x6]) h) fun v19 h19 =>
  L (runCode Try.prog O L f7_c1) (f7_k1 O L) [x0, x1, x2, x3, x4, x5, x6, x7, v19, (.int .i64 0), x10, x11, x12, x13, x14, x15, x16, x17, x18, x19, x20, x21, x22, x23, x24, x25, x26, x27, x28, x29, x30, x31, x32, x33, x34, x35, x36, x37, x38, x39, x40, x41, x42, x43, x44, x45, x46, x47, x6, v19, x50, x51, x52, x53, x54, x55, x56, x57, x58, x59, x60, x61, x62, x63, x64, x65, x66, x67, x68, x69, x70, x71, x72, x73, x74, x75, x76, x77, x78, x79, x80, x81, x82, x83, x84, x85, x86, x87, x88, x89, x90, x91, x92, x93, x94, x95, x96, x97, x98, x99, x100, x101, x102, x103] h19
theorem f7_e0_0_eq (O : Oracle) (L : Loops (Value × Heap)) (x0 x1 x2 x3 x4 x5 x6 x7 x8 x9 x10 x11 x12 x13 x14 x15 x16 x17 x18 x19 x20 x21 x22 x23 x24 x25 x26 x27 x28 x29 x30 x31 x32 x33 x34 x35 x36 x37 x38 x39 x40 x41 x42 x43 x44 x45 x46 x47 x48 x49 x50 x51 x52 x53 x54 x55 x56 x57 x58 x59 x60 x61 x62 x63 x64 x65 x66 x67 x68 x69 x70 x71 x72 x73 x74 x75 x76 x77 x78 x79 x80 x81 x82 x83 x84 x85 x86 x87 x88 x89 x90 x91 x92 x93 x94 x95 x96 x97 x98 x99 x100 x101 x102 x103 : Value) (h : Heap) :
    f7_k0 O L (.exit 0) [x0, x1, x2, x3, x4, x5, x6, x7, x8, x9, x10, x11, x12, x13, x14, x15, x16, x17, x18, x19, x20, x21, x22, x23, x24, x25, x26, x27, x28, x29, x30, x31, x32, x33, x34, x35, x36, x37, x38, x39, x40, x41, x42, x43, x44, x45, x46, x47, x48, x49, x50, x51, x52, x53, x54, x55, x56, x57, x58, x59, x60, x61, x62, x63, x64, x65, x66, x67, x68, x69, x70, x71, x72, x73, x74, x75, x76, x77, x78, x79, x80, x81, x82, x83, x84, x85, x86, x87, x88, x89, x90, x91, x92, x93, x94, x95, x96, x97, x98, x99, x100, x101, x102, x103] h = f7_e0_0 O L x0 x1 x2 x3 x4 x5 x6 x7 x8 x9 x10 x11 x12 x13 x14 x15 x16 x17 x18 x19 x20 x21 x22 x23 x24 x25 x26 x27 x28 x29 x30 x31 x32 x33 x34 x35 x36 x37 x38 x39 x40 x41 x42 x43 x44 x45 x46 x47 x48 x49 x50 x51 x52 x53 x54 x55 x56 x57 x58 x59 x60 x61 x62 x63 x64 x65 x66 x67 x68 x69 x70 x71 x72 x73 x74 x75 x76 x77 x78 x79 x80 x81 x82 x83 x84 x85 x86 x87 x88 x89 x90 x91 x92 x93 x94 x95 x96 x97 x98 x99 x100 x101 x102 x103 h := by kernel_rfl
noncomputable def f7_r0 (O : Oracle) (L : Loops (Value × Heap)) (x0 x1 x2 x3 x4 x5 x6 x7 x8 x9 x10 x11 x12 x13 x14 x15 x16 x17 x18 x19 x20 x21 x22 x23 x24 x25 x26 x27 x28 x29 x30 x31 x32 x33 x34 x35 x36 x37 x38 x39 x40 x41 x42 x43 x44 x45 x46 x47 x48 x49 x50 x51 x52 x53 x54 x55 x56 x57 x58 x59 x60 x61 x62 x63 x64 x65 x66 x67 x68 x69 x70 x71 x72 x73 x74 x75 x76 x77 x78 x79 x80 x81 x82 x83 x84 x85 x86 x87 x88 x89 x90 x91 x92 x93 x94 x95 x96 x97 x98 x99 x100 x101 x102 x103 : Value) (h : Heap) : Option (Value × Heap) :=
  some (oneOf [x4], h)
theorem f7_r0_eq (O : Oracle) (L : Loops (Value × Heap)) (x0 x1 x2 x3 x4 x5 x6 x7 x8 x9 x10 x11 x12 x13 x14 x15 x16 x17 x18 x19 x20 x21 x22 x23 x24 x25 x26 x27 x28 x29 x30 x31 x32 x33 x34 x35 x36 x37 x38 x39 x40 x41 x42 x43 x44 x45 x46 x47 x48 x49 x50 x51 x52 x53 x54 x55 x56 x57 x58 x59 x60 x61 x62 x63 x64 x65 x66 x67 x68 x69 x70 x71 x72 x73 x74 x75 x76 x77 x78 x79 x80 x81 x82 x83 x84 x85 x86 x87 x88 x89 x90 x91 x92 x93 x94 x95 x96 x97 x98 x99 x100 x101 x102 x103 : Value) (h : Heap) :
    f7_k0 O L .ret [x0, x1, x2, x3, x4, x5, x6, x7, x8, x9, x10, x11, x12, x13, x14, x15, x16, x17, x18, x19, x20, x21, x22, x23, x24, x25, x26, x27, x28, x29, x30, x31, x32, x33, x34, x35, x36, x37, x38, x39, x40, x41, x42, x43, x44, x45, x46, x47, x48, x49, x50, x51, x52, x53, x54, x55, x56, x57, x58, x59, x60, x61, x62, x63, x64, x65, x66, x67, x68, x69, x70, x71, x72, x73, x74, x75, x76, x77, x78, x79, x80, x81, x82, x83, x84, x85, x86, x87, x88, x89, x90, x91, x92, x93, x94, x95, x96, x97, x98, x99, x100, x101, x102, x103] h = f7_r0 O L x0 x1 x2 x3 x4 x5 x6 x7 x8 x9 x10 x11 x12 x13 x14 x15 x16 x17 x18 x19 x20 x21 x22 x23 x24 x25 x26 x27 x28 x29 x30 x31 x32 x33 x34 x35 x36 x37 x38 x39 x40 x41 x42 x43 x44 x45 x46 x47 x48 x49 x50 x51 x52 x53 x54 x55 x56 x57 x58 x59 x60 x61 x62 x63 x64 x65 x66 x67 x68 x69 x70 x71 x72 x73 x74 x75 x76 x77 x78 x79 x80 x81 x82 x83 x84 x85 x86 x87 x88 x89 x90 x91 x92 x93 x94 x95 x96 x97 x98 x99 x100 x101 x102 x103 h := by kernel_rfl
noncomputable def f7_b0 (O : Oracle) (L : Loops (Value × Heap)) (k : Ex → K (Value × Heap)) (x0 x1 x2 x3 x4 x5 x6 x7 x8 x9 x10 x11 x12 x13 x14 x15 x16 x17 x18 x19 x20 x21 x22 x23 x24 x25 x26 x27 x28 x29 x30 x31 x32 x33 x34 x35 x36 x37 x38 x39 x40 x41 x42 x43 x44 x45 x46 x47 x48 x49 x50 x51 x52 x53 x54 x55 x56 x57 x58 x59 x60 x61 x62 x63 x64 x65 x66 x67 x68 x69 x70 x71 x72 x73 x74 x75 x76 x77 x78 x79 x80 x81 x82 x83 x84 x85 x86 x87 x88 x89 x90 x91 x92 x93 x94 x95 x96 x97 x98 x99 x100 x101 x102 x103 : Value) (h : Heap) : Option (Value × Heap) :=
  ob ((M.ofOpt (lenSl x0)) h) fun v10 h10 =>
  ob ((M.ofOpt (bin Try.prog .lss 3 x7 v10)) h10) fun v11 h11 =>
  iteV v11 (
  ob ((M.ofOpt (iAddr 5 x0 x7)) h11) fun v12 h12 =>
  ob ((M.ofOpt (fAddr 1 v12)) h12) fun v13 h13 =>
  ob ((ld1 v13) h13) fun v14 h14 =>
  ob ((O (.func 19) [x6, v14]) h14) fun v15 h15 =>
  ob ((M.ofOpt (bin Try.prog .lss 3 x7 x5)) h15) fun v16 h16 =>
  ob ((M.ofOpt (bin Try.prog .neq 4 v15 v16)) h16) fun v17 h17 =>
  iteV v17 (
  k .ret [x0, x1, x2, x3, (.bool false), x5, x6, x7, x8, x9, x10, x11, x12, x13, x14, x15, x16, x17, x18, x19, x20, x21, x22, x23, x24, x25, x26, x27, x28, x29, x30, x7, x0, v10, v11, x35, x36, x6, x0, x7, v12, v13, v14, v15, x7, x5, v16, v17, x48, x49, x50, x51, x52, x53, x54, x55, x56, x57, x58, x59, x60, x61, x62, x63, x64, x65, x66, x67, x68, x69, x70, x71, x72, x73, x74, x75, x76, x77, x78, x79, x80, x81, x82, x83, x84, x85, x86, x87, x88, x89, x90, x91, x92, x93, x94, x95, x96, x97, x98, x99, x100, x101, x102, x103] h17) (
  ob ((M.ofOpt (bin Try.prog .add 3 x7 (.int .i64 1))) h17) fun v18 h18 =>
  k .normal [x0, x1, x2, x3, x4, x5, x6, v18, x8, x9, x10, x11, x12, x13, x14, x15, x16, x17, x18, x19, x20, x21, x22, x23, x24, x25, x26, x27, x28, x29, x30, x7, x0, v10, v11, x7, v18, x6, x0, x7, v12, v13, v14, v15, x7, x5, v16, v17, x48, x49, x50, x51, x52, x53, x54, x55, x56, x57, x58, x59, x60, x61, x62, x63, x64, x65, x66, x67, x68, x69, x70, x71, x72, x73, x74, x75, x76, x77, x78, x79, x80, x81, x82, x83, x84, x85, x86, x87, x88, x89, x90, x91, x92, x93, x94, x95, x96, x97, x98, x99, x100, x101, x102, x103] h18)) (
  k (.exit 0) [x0, x1, x2, x3, x4, x5, x6, x7, x8, x9, x10, x11, x12, x13, x14, x15, x16, x17, x18, x19, x20, x21, x22, x23, x24, x25, x26, x27, x28, x29, x30, x7, x0, v10, v11, x35, x36, x37, x38, x39, x40, x41, x42, x43, x44, x45, x46, x47, x48, x49, x50, x51, x52, x53, x54, x55, x56, x57, x58, x59, x60, x61, x62, x63, x64, x65, x66, x67, x68, x69, x70, x71, x72, x73, x74, x75, x76, x77, x78, x79, x80, x81, x82, x83, x84, x85, x86, x87, x88, x89, x90, x91, x92, x93, x94, x95, x96, x97, x98, x99, x100, x101, x102, x103] h11)
theorem f7_b0_eq (O : Oracle) (L : Loops (Value × Heap)) (k : Ex → K (Value × Heap)) (x0 x1 x2 x3 x4 x5 x6 x7 x8 x9 x10 x11 x12 x13 x14 x15 x16 x17 x18 x19 x20 x21 x22 x23 x24 x25 x26 x27 x28 x29 x30 x31 x32 x33 x34 x35 x36 x37 x38 x39 x40 x41 x42 x43 x44 x45 x46 x47 x48 x49 x50 x51 x52 x53 x54 x55 x56 x57 x58 x59 x60 x61 x62 x63 x64 x65 x66 x67 x68 x69 x70 x71 x72 x73 x74 x75 x76 x77 x78 x79 x80 x81 x82 x83 x84 x85 x86 x87 x88 x89 x90 x91 x92 x93 x94 x95 x96 x97 x98 x99 x100 x101 x102 x103 : Value) (h : Heap) :
    runCode Try.prog O L f7_c0 k [x0, x1, x2, x3, x4, x5, x6, x7, x8, x9, x10, x11, x12, x13, x14, x15, x16, x17, x18, x19, x20, x21, x22, x23, x24, x25, x26, x27, x28, x29, x30, x31, x32, x33, x34, x35, x36, x37, x38, x39, x40, x41, x42, x43, x44, x45, x46, x47, x48, x49, x50, x51, x52, x53, x54, x55, x56, x57, x58, x59, x60, x61, x62, x63, x64, x65, x66, x67, x68, x69, x70, x71, x72, x73, x74, x75, x76, x77, x78, x79, x80, x81, x82, x83, x84, x85, x86, x87, x88, x89, x90, x91, x92, x93, x94, x95, x96, x97, x98, x99, x100, x101, x102, x103] h = f7_b0 O L k x0 x1 x2 x3 x4 x5 x6 x7 x8 x9 x10 x11 x12 x13 x14 x15 x16 x17 x18 x19 x20 x21 x22 x23 x24 x25 x26 x27 x28 x29 x30 x31 x32 x33 x34 x35 x36 x37 x38 x39 x40 x41 x42 x43 x44 x45 x46 x47 x48 x49 x50 x51 x52 x53 x54 x55 x56 x57 x58 x59 x60 x61 x62 x63 x64 x65 x66 x67 x68 x69 x70 x71 x72 x73 x74 x75 x76 x77 x78 x79 x80 x81 x82 x83 x84 x85 x86 x87 x88 x89 x90 x91 x92 x93 x94 x95 x96 x97 x98 x99 x100 x101 x102 x103 h := by kernel_rfl
noncomputable def f7 (O : Oracle) (L : Loops (Value × Heap)) (a0 a1 : Value) (h : Heap) : Option (Value × Heap) :=
  ob ((O (.func 15) [a0]) h) fun v0 h0 =>
  ob ((gd v0 false (O (.func 16) [])) h0) fun v1 h1 =>
  ob ((gd v0 false (M.ofOpt (un Try.prog .not v1))) h1) fun v2 h2 =>
  ob ((M.ofOpt (pick v0 (.bool true) v2)) h2) fun v3 h3 =>
  iteV v3 (
  ob ((O (.func 16) []) h3) fun v4 h4 =>
  some (oneOf [v4], h4)) (
  ob ((M.ofOpt (bin Try.prog .rem 5 a1 (.int .u8 64))) h3) fun v5 h5 =>
  ob ((conv Try.prog 5 3 v5) h5) fun v6 h6 =>
  ob ((M.ofOpt (bin Try.prog .add 3 (.int .i64 1) v6)) h6) fun v7 h7 =>
  ob ((O (.func 17) [v7]) h7) fun v8 h8 =>
  ob ((M.ofOpt (bin Try.prog .eql 25 v8 (.pointer none))) h8) fun v9 h9 =>
  iteV v9 (
  some (oneOf [(.bool false)], h9)) (
  L (runCode Try.prog O L f7_c0) (f7_k0 O L) [a0, a1, undef, undef, (.bool false), v7, v8, (.int .i64 0), undef, undef, undef, undef, undef, undef, undef, undef, a0, v0, v0, v1, v2, v3, undef, a1, v5, v6, v7, v7, v8, v8, v9, undef, undef, undef, undef, undef, undef, undef, undef, undef, undef, undef, undef, undef, undef, undef, undef, undef, undef, undef, undef, undef, undef, undef, undef, undef, undef, undef, undef, undef, undef, undef, undef, undef, undef, undef, undef, undef, undef, undef, undef, undef, undef, undef, undef, undef, undef, undef, undef, undef, undef, undef, undef, undef, undef, undef, undef, undef, undef, undef, undef, undef, undef, undef, undef, undef, undef, undef, undef, undef, undef, undef, undef, undef] h9))
theorem f7_eq (O : Oracle) (L : Loops (Value × Heap)) (a0 a1 : Value) (h : Heap) :
    body Try.prog O L 7 [a0, a1] h = f7 O L a0 a1 h := by kernel_rfl

/-! 8: shunter/shunterlaw04.LinkBends; slots: [(l, 0), (i, 1), (at, 2), (x, 3), (l, 4), (i, 5), (at, 6), (x, 7), (a, 9), (k, 10), (was, 11), (k, 12), (one, 13), (mid, 14), (two, 15)] -/
noncomputable def f8_c0 : Code := sub [1, 1, 1, 1, 0, 1, 0, 0] (fbody Try.prog 8)
noncomputable def f8_k0 (O : Oracle) (L : Loops (Value × Heap)) : Ex → K (Value × Heap) := (blockK 0 (seqK Try.prog O L (sub [1, 1, 1, 1, 1] (fbody Try.prog 8)) (kRet Try.prog Try.f8)))
noncomputable def f8_e0_0 (O : Oracle) (L : Loops (Value × Heap)) (x0 x1 x2 x3 x4 x5 x6 x7 x8 x9 x10 x11 x12 x13 x14 x15 x16 x17 x18 x19 x20 x21 x22 x23 x24 x25 x26 x27 x28 x29 x30 x31 x32 x33 x34 x35 x36 x37 x38 x39 x40 x41 x42 x43 x44 x45 x46 x47 x48 x49 x50 x51 x52 x53 x54 x55 x56 x57 x58 x59 x60 x61 x62 x63 x64 x65 x66 x67 x68 x69 x70 x71 x72 x73 x74 x75 x76 x77 x78 x79 x80 x81 x82 x83 x84 x85 x86 x87 x88 x89 x90 x91 x92 x93 : Value) (h : Heap) : Option (Value × Heap) :=
  ob ((O (.func 18) [x9]) h) fun v18 h18 =>
  ob ((conv Try.prog 5 3 x1) h18) fun v19 h19 =>
  ob ((M.ofOpt (lenSl v18)) h19) fun v20 h20 =>
  ob ((M.ofOpt (bin Try.prog .rem 3 v19 v20)) h20) fun v21 h21 =>
  ob ((conv Try.prog 5 3 x2) h21) fun v22 h22 =>
  ob ((O (.func 22) [x9, v21, v22, x3]) h22) fun v23 h23 =>
  ob ((O (.func 18) [x9]) h23) fun v24 h24 =>
  ob ((conv Try.prog 5 3 x2) h24) fun v25 h25 =>
  ob ((O (.func 22) [x9, v21, v25, x3]) h25) fun v26 h26 =>
  ob ((M.ofOpt (bin Try.prog .neq 5 x3 (.int .u8 0))) h26) fun v27 h27 =>
  ob ((gd v27 true (M.ret v18)) h27) fun v28 h28 =>
  ob ((gd v27 true (M.ret v21)) h28) fun v29 h29 =>
  ob ((gd v27 true (M.ofOpt (iAddr 1 v28 v29))) h29) fun v30 h30 =>
  ob ((gd v27 true (ld1 v30)) h30) fun v31 h31 =>
  ob ((gd v27 true (M.ofOpt (lenSl v31))) h31) fun v32 h32 =>
  ob ((gd v27 true (M.ofOpt (bin Try.prog .gtr 3 v32 (.int .i64 0)))) h32) fun v33 h33 =>
  ob ((M.ofOpt (pick v27 v33 (.bool false))) h33) fun v34 h34 =>
  ob ((M.ofOpt (bin Try.prog .neq 4 v23 v34)) h34) fun v35 h35 =>
  ob ((gd v35 false (M.ret v26)) h35) fun v36 h36 =>
  ob ((gd v35 false (M.ret v23)) h36) fun v37 h37 =>
  ob ((gd v35 false (M.ofOpt (bin Try.prog .neq 4 v36 v37))) h37) fun v38 h38 =>
  ob ((M.ofOpt (pick v35 (.bool true) v38)) h38) fun v39 h39 =>
  ob ((gd v39 false (M.ret v18)) h39) fun v40 h40 =>
  ob ((gd v39 false (M.ret x9)) h40) fun v41 h41 =>
  ob ((gd v39 false (O (.func 18) [v41])) h41) fun v42 h42 =>
  ob ((gd v39 false (O (.func 28) [v40, v42])) h42) fun v43 h43 =>
  ob ((gd v39 false (M.ofOpt (un Try.prog .not v43))) h43) fun v44 h44 =>
  ob ((M.ofOpt (pick v39 (.bool true) v44)) h44) fun v45 h45 =>
  iteV v45 (
  some (oneOf [(.bool false)], h45)) (
  ob ((O (.func 28) [v18, v24]) h45) fun v46 h46 =>
  ob ((M.ofOpt (bin Try.prog .neq 4 v46 v23)) h46) fun v47 h47 =>
  some (oneOf [v47], h47))
theorem f8_e0_0_eq (O : Oracle) (L : Loops (Value × Heap)) (x0 x1 x2 x3 x4 x5 x6 x7 x8 x9 x10 x11 x12 x13 x14 x15 x16 x17 x18 x19 x20 x21 x22 x23 x24 x25 x26 x27 x28 x29 x30 x31 x32 x33 x34 x35 x36 x37 x38 x39 x40 x41 x42 x43 x44 x45 x46 x47 x48 x49 x50 x51 x52 x53 x54 x55 x56 x57 x58 x59 x60 x61 x62 x63 x64 x65 x66 x67 x68 x69 x70 x71 x72 x73 x74 x75 x76 x77 x78 x79 x80 x81 x82 x83 x84 x85 x86 x87 x88 x89 x90 x91 x92 x93 : Value) (h : Heap) :
    f8_k0 O L (.exit 0) [x0, x1, x2, x3, x4, x5, x6, x7, x8, x9, x10, x11, x12, x13, x14, x15, x16, x17, x18, x19, x20, x21, x22, x23, x24, x25, x26, x27, x28, x29, x30, x31, x32, x33, x34, x35, x36, x37, x38, x39, x40, x41, x42, x43, x44, x45, x46, x47, x48, x49, x50, x51, x52, x53, x54, x55, x56, x57, x58, x59, x60, x61, x62, x63, x64, x65, x66, x67, x68, x69, x70, x71, x72, x73, x74, x75, x76, x77, x78, x79, x80, x81, x82, x83, x84, x85, x86, x87, x88, x89, x90, x91, x92, x93] h = f8_e0_0 O L x0 x1 x2 x3 x4 x5 x6 x7 x8 x9 x10 x11 x12 x13 x14 x15 x16 x17 x18 x19 x20 x21 x22 x23 x24 x25 x26 x27 x28 x29 x30 x31 x32 x33 x34 x35 x36 x37 x38 x39 x40 x41 x42 x43 x44 x45 x46 x47 x48 x49 x50 x51 x52 x53 x54 x55 x56 x57 x58 x59 x60 x61 x62 x63 x64 x65 x66 x67 x68 x69 x70 x71 x72 x73 x74 x75 x76 x77 x78 x79 x80 x81 x82 x83 x84 x85 x86 x87 x88 x89 x90 x91 x92 x93 h := by kernel_rfl
noncomputable def f8_b0 (O : Oracle) (L : Loops (Value × Heap)) (k : Ex → K (Value × Heap)) (x0 x1 x2 x3 x4 x5 x6 x7 x8 x9 x10 x11 x12 x13 x14 x15 x16 x17 x18 x19 x20 x21 x22 x23 x24 x25 x26 x27 x28 x29 x30 x31 x32 x33 x34 x35 x36 x37 x38 x39 x40 x41 x42 x43 x44 x45 x46 x47 x48 x49 x50 x51 x52 x53 x54 x55 x56 x57 x58 x59 x60 x61 x62 x63 x64 x65 x66 x67 x68 x69 x70 x71 x72 x73 x74 x75 x76 x77 x78 x79 x80 x81 x82 x83 x84 x85 x86 x87 x88 x89 x90 x91 x92 x93 : Value) (h : Heap) : Option (Value × Heap) :=
  ob ((M.ofOpt (lenSl x0)) h) fun v11 h11 =>
  ob ((M.ofOpt (bin Try.prog .lss 3 x10 v11)) h11) fun v12 h12 =>
  iteV v12 (
  ob ((M.ofOpt (iAddr 5 x0 x10)) h12) fun v13 h13 =>
  ob ((M.ofOpt (fAddr 1 v13)) h13) fun v14 h14 =>
  ob ((ld1 v14) h14) fun v15 h15 =>
  ob ((O (.func 19) [x9, v15]) h15) fun v16 h16 =>
  ob ((M.ofOpt (bin Try.prog .add 3 x10 (.int .i64 1))) h16) fun v17 h17 =>
  k .normal [x0, x1, x2, x3, x4, x5, x6, x7, x8, x9, v17, x11, x12, x13, x14, x15, x16, x17, x18, x19, x20, x21, x22, x23, x24, x25, x26, x27, x28, x29, x30, x10, x0, v11, v12, x10, v17, x9, x0, x10, v13, v14, v15, v16, x44, x45, x46, x47, x48, x49, x50, x51, x52, x53, x54, x55, x56, x57, x58, x59, x60, x61, x62, x63, x64, x65, x66, x67, x68, x69, x70, x71, x72, x73, x74, x75, x76, x77, x78, x79, x80, x81, x82, x83, x84, x85, x86, x87, x88, x89, x90, x91, x92, x93] h17) (
  k (.exit 0) [x0, x1, x2, x3, x4, x5, x6, x7, x8, x9, x10, x11, x12, x13, x14, x15, x16, x17, x18, x19, x20, x21, x22, x23, x24, x25, x26, x27, x28, x29, x30, x10, x0, v11, v12, x35, x36, x37, x38, x39, x40, x41, x42, x43, x44, x45, x46, x47, x48, x49, x50, x51, x52, x53, x54, x55, x56, x57, x58, x59, x60, x61, x62, x63, x64, x65, x66, x67, x68, x69, x70, x71, x72, x73, x74, x75, x76, x77, x78, x79, x80, x81, x82, x83, x84, x85, x86, x87, x88, x89, x90, x91, x92, x93] h12)
theorem f8_b0_eq (O : Oracle) (L : Loops (Value × Heap)) (k : Ex → K (Value × Heap)) (x0 x1 x2 x3 x4 x5 x6 x7 x8 x9 x10 x11 x12 x13 x14 x15 x16 x17 x18 x19 x20 x21 x22 x23 x24 x25 x26 x27 x28 x29 x30 x31 x32 x33 x34 x35 x36 x37 x38 x39 x40 x41 x42 x43 x44 x45 x46 x47 x48 x49 x50 x51 x52 x53 x54 x55 x56 x57 x58 x59 x60 x61 x62 x63 x64 x65 x66 x67 x68 x69 x70 x71 x72 x73 x74 x75 x76 x77 x78 x79 x80 x81 x82 x83 x84 x85 x86 x87 x88 x89 x90 x91 x92 x93 : Value) (h : Heap) :
    runCode Try.prog O L f8_c0 k [x0, x1, x2, x3, x4, x5, x6, x7, x8, x9, x10, x11, x12, x13, x14, x15, x16, x17, x18, x19, x20, x21, x22, x23, x24, x25, x26, x27, x28, x29, x30, x31, x32, x33, x34, x35, x36, x37, x38, x39, x40, x41, x42, x43, x44, x45, x46, x47, x48, x49, x50, x51, x52, x53, x54, x55, x56, x57, x58, x59, x60, x61, x62, x63, x64, x65, x66, x67, x68, x69, x70, x71, x72, x73, x74, x75, x76, x77, x78, x79, x80, x81, x82, x83, x84, x85, x86, x87, x88, x89, x90, x91, x92, x93] h = f8_b0 O L k x0 x1 x2 x3 x4 x5 x6 x7 x8 x9 x10 x11 x12 x13 x14 x15 x16 x17 x18 x19 x20 x21 x22 x23 x24 x25 x26 x27 x28 x29 x30 x31 x32 x33 x34 x35 x36 x37 x38 x39 x40 x41 x42 x43 x44 x45 x46 x47 x48 x49 x50 x51 x52 x53 x54 x55 x56 x57 x58 x59 x60 x61 x62 x63 x64 x65 x66 x67 x68 x69 x70 x71 x72 x73 x74 x75 x76 x77 x78 x79 x80 x81 x82 x83 x84 x85 x86 x87 x88 x89 x90 x91 x92 x93 h := by kernel_rfl
noncomputable def f8 (O : Oracle) (L : Loops (Value × Heap)) (a0 a1 a2 a3 : Value) (h : Heap) : Option (Value × Heap) :=
  ob ((O (.func 15) [a0]) h) fun v0 h0 =>
  ob ((gd v0 false (M.ret a0)) h0) fun v1 h1 =>
  ob ((gd v0 false (M.ofOpt (lenSl v1))) h1) fun v2 h2 =>
  ob ((gd v0 false (M.ofOpt (bin Try.prog .eql 3 v2 (.int .i64 0)))) h2) fun v3 h3 =>
  ob ((M.ofOpt (pick v0 (.bool true) v3)) h3) fun v4 h4 =>
  ob ((gd v4 false (O (.func 16) [])) h4) fun v5 h5 =>
  ob ((gd v4 false (M.ofOpt (un Try.prog .not v5))) h5) fun v6 h6 =>
  ob ((M.ofOpt (pick v4 (.bool true) v6)) h6) fun v7 h7 =>
  iteV v7 (
  ob ((O (.func 16) []) h7) fun v8 h8 =>
  some (oneOf [v8], h8)) (
  ob ((O (.func 17) [(.int .i64 64)]) h7) fun v9 h9 =>
  ob ((M.ofOpt (bin Try.prog .eql 25 v9 (.pointer none))) h9) fun v10 h10 =>
  iteV v10 (
  some (oneOf [(.bool false)], h10)) (
  L (runCode Try.prog O L f8_c0) (f8_k0 O L) [a0, a1, a2, a3, undef, undef, undef, undef, (.bool false), v9, (.int .i64 0), undef, undef, undef, undef, undef, a0, v0, v0, v1, v2, v3, v4, v4, v5, v6, v7, undef, v9, v9, v10, undef, undef, undef, undef, undef, undef, undef, undef, undef, undef, undef, undef, undef, undef, undef, undef, undef, undef, undef, undef, undef, undef, undef, undef, undef, undef, undef, undef, undef, undef, undef, undef, undef, undef, undef, undef, undef, undef, undef, undef, undef, undef, undef, undef, undef, undef, undef, undef, undef, undef, undef, undef, undef, undef, undef, undef, undef, undef, undef, undef, undef, undef, undef] h10))
theorem f8_eq (O : Oracle) (L : Loops (Value × Heap)) (a0 a1 a2 a3 : Value) (h : Heap) :
    body Try.prog O L 8 [a0, a1, a2, a3] h = f8 O L a0 a1 a2 a3 h := by kernel_rfl

/-! 9: shunter/shunterlaw04.LinkTwice; slots: [(l, 0), (i, 1), (room, 2), (l, 3), (i, 4), (room, 5), (n, 7), (a, 8), (k, 9), (was, 10), (k, 11), (is, 12), (now, 13)] -/
noncomputable def f9_c0 : Code := sub [1, 1, 1, 1, 1, 0, 1, 0, 0] (fbody Try.prog 9)
noncomputable def f9_k0 (O : Oracle) (L : Loops (Value × Heap)) : Ex → K (Value × Heap) := (blockK 0 (seqK Try.prog O L (sub [1, 1, 1, 1, 1, 1] (fbody Try.prog 9)) (kRet Try.prog Try.f9)))
noncomputable def f9_e0_0 (O : Oracle) (L : Loops (Value × Heap)) (x0 x1 x2 x3 x4 x5 x6 x7 x8 x9 x10 x11 x12 x13 x14 x15 x16 x17 x18 x19 x20 x21 x22 x23 x24 x25 x26 x27 x28 x29 x30 x31 x32 x33 x34 x35 x36 x37 x38 x39 x40 x41 x42 x43 x44 x45 x46 x47 x48 x49 x50 x51 x52 x53 x54 x55 x56 x57 x58 x59 x60 x61 x62 x63 x64 x65 x66 x67 x68 x69 x70 x71 x72 x73 x74 x75 x76 x77 x78 x79 x80 x81 x82 x83 x84 x85 x86 x87 x88 x89 x90 x91 x92 x93 x94 x95 x96 x97 x98 x99 x100 : Value) (h : Heap) : Option (Value × Heap) :=
  ob ((O (.func 18) [x8]) h) fun v21 h21 =>
  ob ((conv Try.prog 5 3 x1) h21) fun v22 h22 =>
  ob ((M.ofOpt (lenSl v21)) h22) fun v23 h23 =>
  ob ((M.ofOpt (bin Try.prog .rem 3 v22 v23)) h23) fun v24 h24 =>
  ob ((O (.func 21) [x8, v24]) h24) fun v25 h25 =>
  ob ((O (.func 18) [x8]) h25) fun v26 h26 =>
  ob ((M.ofOpt (lenSl v21)) h26) fun v27 h27 =>
  ob ((M.ofOpt (bin Try.prog .eql 3 v27 x7)) h27) fun v28 h28 =>
  iteV v28 (
  ob ((M.ofOpt (un Try.prog .not v25)) h28) fun v29 h29 =>
  ob ((gd v29 true (M.ret v21)) h29) fun v30 h30 =>
  ob ((gd v29 true (M.ret v26)) h30) fun v31 h31 =>
  ob ((gd v29 true (O (.func 28) [v30, v31])) h31) fun v32 h32 =>
  ob ((M.ofOpt (pick v29 v32 (.bool false))) h32) fun v33 h33 =>
  some (oneOf [v33], h33)) (
  ob ((gd v25 true (M.ret v26)) h28) fun v34 h34 =>
  ob ((gd v25 true (M.ofOpt (lenSl v34))) h34) fun v35 h35 =>
  ob ((gd v25 true (M.ret v21)) h35) fun v36 h36 =>
  ob ((gd v25 true (M.ofOpt (lenSl v36))) h36) fun v37 h37 =>
  ob ((gd v25 true (M.ofOpt (bin Try.prog .add 3 v37 (.int .i64 1)))) h37) fun v38 h38 =>
  ob ((gd v25 true (M.ofOpt (bin Try.prog .eql 3 v35 v38))) h38) fun v39 h39 =>
  ob ((M.ofOpt (pick v25 v39 (.bool false))) h39) fun v40 h40 =>
  ob ((gd v40 true (M.ret v26)) h40) fun v41 h41 =>
  ob ((gd v40 true (M.ret v21)) h41) fun v42 h42 =>
  ob ((gd v40 true (M.ofOpt (lenSl v42))) h42) fun v43 h43 =>
  ob ((gd v40 true (slc Try.prog 1 v41 none (some v43) none)) h43) fun v44 h44 =>
  ifB (true) (
  ob ((gd v40 true (M.ret v21)) h44) fun v45 h45 =>
  ob ((gd v40 true (O (.func 28) [v44, v45])) h45) fun v46 h46 =>
  ifB (true) (
  ob ((M.ofOpt (pick v40 v46 (.bool false))) h46) fun v47 h47 =>
  ob ((gd v47 true (M.ret v26)) h47) fun v48 h48 =>
  ob ((gd v47 true (M.ret v21)) h48) fun v49 h49 =>
  ob ((gd v47 true (M.ofOpt (lenSl v49))) h49) fun v50 h50 =>
  ob ((gd v47 true (M.ofOpt (iAddr 1 v48 v50))) h50) fun v51 h51 =>
  ob ((gd v47 true (ld1 v51)) h51) fun v52 h52 =>
  ifB (true) (
  ob ((gd v47 true (conv Try.prog 29 9 v52)) h52) fun v53 h53 =>
  ifB (true) (
  ob ((gd v47 true (M.ret v21)) h53) fun v54 h54 =>
  ob ((gd v47 true (M.ret v24)) h54) fun v55 h55 =>
  ob ((gd v47 true (M.ofOpt (iAddr 1 v54 v55))) h55) fun v56 h56 =>
  ob ((gd v47 true (ld1 v56)) h56) fun v57 h57 =>
  ifB (true) (
  ob ((gd v47 true (conv Try.prog 29 9 v57)) h57) fun v58 h58 =>
  ifB (true) (
  ob ((gd v47 true (M.ofOpt (bin Try.prog .eql 9 v53 v58))) h58) fun v59 h59 =>
  ob ((M.ofOpt (pick v47 v59 (.bool false))) h59) fun v60 h60 =>
  some (oneOf [v60], h60))))))))
theorem f9_e0_0_eq (O : Oracle) (L : Loops (Value × Heap)) (x0 x1 x2 x3 x4 x5 x6 x7 x8 x9 x10 x11 x12 x13 x14 x15 x16 x17 x18 x19 x20 x21 x22 x23 x24 x25 x26 x27 x28 x29 x30 x31 x32 x33 x34 x35 x36 x37 x38 x39 x40 x41 x42 x43 x44 x45 x46 x47 x48 x49 x50 x51 x52 x53 x54 x55 x56 x57 x58 x59 x60 x61 x62 x63 x64 x65 x66 x67 x68 x69 x70 x71 x72 x73 x74 x75 x76 x77 x78 x79 x80 x81 x82 x83 x84 x85 x86 x87 x88 x89 x90 x91 x92 x93 x94 x95 x96 x97 x98 x99 x100 : Value) (h : Heap) :
    f9_k0 O L (.exit 0) [x0, x1, x2, x3, x4, x5, x6, x7, x8, x9, x10, x11, x12, x13, x14, x15, x16, x17, x18, x19, x20, x21, x22, x23, x24, x25, x26, x27, x28, x29, x30, x31, x32, x33, x34, x35, x36, x37, x38, x39, x40, x41, x42, x43, x44, x45, x46, x47, x48, x49, x50, x51, x52, x53, x54, x55, x56, x57, x58, x59, x60, x61, x62, x63, x64, x65, x66, x67, x68, x69, x70, x71, x72, x73, x74, x75, x76, x77, x78, x79, x80, x81, x82, x83, x84, x85, x86, x87, x88, x89, x90, x91, x92, x93, x94, x95, x96, x97, x98, x99, x100] h = f9_e0_0 O L x0 x1 x2 x3 x4 x5 x6 x7 x8 x9 x10 x11 x12 x13 x14 x15 x16 x17 x18 x19 x20 x21 x22 x23 x24 x25 x26 x27 x28 x29 x30 x31 x32 x33 x34 x35 x36 x37 x38 x39 x40 x41 x42 x43 x44 x45 x46 x47 x48 x49 x50 x51 x52 x53 x54 x55 x56 x57 x58 x59 x60 x61 x62 x63 x64 x65 x66 x67 x68 x69 x70 x71 x72 x73 x74 x75 x76 x77 x78 x79 x80 x81 x82 x83 x84 x85 x86 x87 x88 x89 x90 x91 x92 x93 x94 x95 x96 x97 x98 x99 x100 h := by kernel_rfl
noncomputable def f9_b0 (O : Oracle) (L : Loops (Value × Heap)) (k : Ex → K (Value × Heap)) (x0 x1 x2 x3 x4 x5 x6 x7 x8 x9 x10 x11 x12 x13 x14 x15 x16 x17 x18 x19 x20 x21 x22 x23 x24 x25 x26 x27 x28 x29 x30 x31 x32 x33 x34 x35 x36 x37 x38 x39 x40 x41 x42 x43 x44 x45 x46 x47 x48 x49 x50 x51 x52 x53 x54 x55 x56 x57 x58 x59 x60 x61 x62 x63 x64 x65 x66 x67 x68 x69 x70 x71 x72 x73 x74 x75 x76 x77 x78 x79 x80 x81 x82 x83 x84 x85 x86 x87 x88 x89 x90 x91 x92 x93 x94 x95 x96 x97 x98 x99 x100 : Value) (h : Heap) : Option (Value × Heap) :=
  ob ((M.ofOpt (lenSl x0)) h) fun v14 h14 =>
  ob ((M.ofOpt (bin Try.prog .lss 3 x9 v14)) h14) fun v15 h15 =>
  iteV v15 (
  ob ((M.ofOpt (iAddr 5 x0 x9)) h15) fun v16 h16 =>
  ob ((M.ofOpt (fAddr 1 v16)) h16) fun v17 h17 =>
  ob ((ld1 v17) h17) fun v18 h18 =>
  ob ((O (.func 19) [x8, v18]) h18) fun v19 h19 =>
  ob ((M.ofOpt (bin Try.prog .add 3 x9 (.int .i64 1))) h19) fun v20 h20 =>
  k .normal [x0, x1, x2, x3, x4, x5, x6, x7, x8, v20, x10, x11, x12, x13, x14, x15, x16, x17, x18, x19, x20, x21, x22, x23, x24, x25, x26, x27, x28, x29, x30, x31, x32, x33, x9, x0, v14, v15, x9, v20, x8, x0, x9, v16, v17, v18, v19, x47, x48, x49, x50, x51, x52, x53, x54, x55, x56, x57, x58, x59, x60, x61, x62, x63, x64, x65, x66, x67, x68, x69, x70, x71, x72, x73, x74, x75, x76, x77, x78, x79, x80, x81, x82, x83, x84, x85, x86, x87, x88, x89, x90, x91, x92, x93, x94, x95, x96, x97, x98, x99, x100] h20) (
  k (.exit 0) [x0, x1, x2, x3, x4, x5, x6, x7, x8, x9, x10, x11, x12, x13, x14, x15, x16, x17, x18, x19, x20, x21, x22, x23, x24, x25, x26, x27, x28, x29, x30, x31, x32, x33, x9, x0, v14, v15, x38, x39, x40, x41, x42, x43, x44, x45, x46, x47, x48, x49, x50, x51, x52, x53, x54, x55, x56, x57, x58, x59, x60, x61, x62, x63, x64, x65, x66, x67, x68, x69, x70, x71, x72, x73, x74, x75, x76, x77, x78, x79, x80, x81, x82, x83, x84, x85, x86, x87, x88, x89, x90, x91, x92, x93, x94, x95, x96, x97, x98, x99, x100] h15)
theorem f9_b0_eq (O : Oracle) (L : Loops (Value × Heap)) (k : Ex → K (Value × Heap)) (x0 x1 x2 x3 x4 x5 x6 x7 x8 x9 x10 x11 x12 x13 x14 x15 x16 x17 x18 x19 x20 x21 x22 x23 x24 x25 x26 x27 x28 x29 x30 x31 x32 x33 x34 x35 x36 x37 x38 x39 x40 x41 x42 x43 x44 x45 x46 x47 x48 x49 x50 x51 x52 x53 x54 x55 x56 x57 x58 x59 x60 x61 x62 x63 x64 x65 x66 x67 x68 x69 x70 x71 x72 x73 x74 x75 x76 x77 x78 x79 x80 x81 x82 x83 x84 x85 x86 x87 x88 x89 x90 x91 x92 x93 x94 x95 x96 x97 x98 x99 x100 : Value) (h : Heap) :
    runCode Try.prog O L f9_c0 k [x0, x1, x2, x3, x4, x5, x6, x7, x8, x9, x10, x11, x12, x13, x14, x15, x16, x17, x18, x19, x20, x21, x22, x23, x24, x25, x26, x27, x28, x29, x30, x31, x32, x33, x34, x35, x36, x37, x38, x39, x40, x41, x42, x43, x44, x45, x46, x47, x48, x49, x50, x51, x52, x53, x54, x55, x56, x57, x58, x59, x60, x61, x62, x63, x64, x65, x66, x67, x68, x69, x70, x71, x72, x73, x74, x75, x76, x77, x78, x79, x80, x81, x82, x83, x84, x85, x86, x87, x88, x89, x90, x91, x92, x93, x94, x95, x96, x97, x98, x99, x100] h = f9_b0 O L k x0 x1 x2 x3 x4 x5 x6 x7 x8 x9 x10 x11 x12 x13 x14 x15 x16 x17 x18 x19 x20 x21 x22 x23 x24 x25 x26 x27 x28 x29 x30 x31 x32 x33 x34 x35 x36 x37 x38 x39 x40 x41 x42 x43 x44 x45 x46 x47 x48 x49 x50 x51 x52 x53 x54 x55 x56 x57 x58 x59 x60 x61 x62 x63 x64 x65 x66 x67 x68 x69 x70 x71 x72 x73 x74 x75 x76 x77 x78 x79 x80 x81 x82 x83 x84 x85 x86 x87 x88 x89 x90 x91 x92 x93 x94 x95 x96 x97 x98 x99 x100 h := by kernel_rfl
noncomputable def f9 (O : Oracle) (L : Loops (Value × Heap)) (a0 a1 a2 : Value) (h : Heap) : Option (Value × Heap) :=
  ob ((O (.func 15) [a0]) h) fun v0 h0 =>
  ob ((gd v0 false (M.ret a0)) h0) fun v1 h1 =>
  ob ((gd v0 false (M.ofOpt (lenSl v1))) h1) fun v2 h2 =>
  ob ((gd v0 false (M.ofOpt (bin Try.prog .eql 3 v2 (.int .i64 0)))) h2) fun v3 h3 =>
  ob ((M.ofOpt (pick v0 (.bool true) v3)) h3) fun v4 h4 =>
  ob ((gd v4 false (O (.func 16) [])) h4) fun v5 h5 =>
  ob ((gd v4 false (M.ofOpt (un Try.prog .not v5))) h5) fun v6 h6 =>
  ob ((M.ofOpt (pick v4 (.bool true) v6)) h6) fun v7 h7 =>
  iteV v7 (
  ob ((O (.func 16) []) h7) fun v8 h8 =>
  some (oneOf [v8], h8)) (
  ob ((M.ofOpt (bin Try.prog .rem 5 a2 (.int .u8 64))) h7) fun v9 h9 =>
  ob ((conv Try.prog 5 3 v9) h9) fun v10 h10 =>
  ob ((M.ofOpt (bin Try.prog .add 3 (.int .i64 1) v10)) h10) fun v11 h11 =>
  ob ((O (.func 17) [v11]) h11) fun v12 h12 =>
  ob ((M.ofOpt (bin Try.prog .eql 25 v12 (.pointer none))) h12) fun v13 h13 =>
  iteV v13 (
  some (oneOf [(.bool false)], h13)) (
  L (runCode Try.prog O L f9_c0) (f9_k0 O L) [a0, a1, a2, undef, undef, undef, (.bool false), v11, v12, (.int .i64 0), undef, undef, undef, undef, a0, v0, v0, v1, v2, v3, v4, v4, v5, v6, v7, undef, a2, v9, v10, v11, v11, v12, v12, v13, undef, undef, undef, undef, undef, undef, undef, undef, undef, undef, undef, undef, undef, undef, undef, undef, undef, undef, undef, undef, undef, undef, undef, undef, undef, undef, undef, undef, undef, undef, undef, undef, undef, undef, undef, undef, undef, undef, undef, undef, undef, undef, undef, undef, undef, undef, undef, undef, undef, undef, undef, undef, undef, undef, undef, undef, undef, undef, undef, undef, undef, undef, undef, undef, undef, undef, undef] h13))
theorem f9_eq (O : Oracle) (L : Loops (Value × Heap)) (a0 a1 a2 : Value) (h : Heap) :
    body Try.prog O L 9 [a0, a1, a2] h = f9 O L a0 a1 a2 h := by kernel_rfl

end Go.Proofs.Ytcmmlgdbpnogjaa
