/-
  PARTS OF THIS CLAIM'S PROOF, laid together by a program of mine out of texts written from templates.
-/
import Derived.Test.YtdobnaldfmpimaaAbsSim
import Derived.Test.YtdobnaldfmpimaaProg
import Derived.KernelRfl
import Derived.Test.YtdobnaldfmpimaaAbsM2
import Derived.Test.YtdobnaldfmpimaaAbsGraph
set_option linter.unusedVariables false
set_option maxRecDepth 100000
namespace Go.Proofs.Ytdobnaldfmpimaa
open Go.Abs
noncomputable def f23 (O : Oracle) (L : Loops (Value × Heap)) (h : Heap) : Option (Value × Heap) :=
  ob ((O (.func 46) [(.bool true)]) h) fun v0 h0 =>
  ob ((O (.func 25) [v0, (.int .i64 0), (.int .i64 2)]) h0) fun v1 h1 =>
  ob ((O (.func 46) [(.bool true)]) h1) fun v2 h2 =>
  ob ((O (.func 24) [v2]) h2) fun v3 h3 =>
  ob ((M.ofOpt (bin Try.prog .eql 30 v3 (.int .u16 140))) h3) fun v4 h4 =>
  ob ((gd v4 true (O (.func 46) [(.bool false)])) h4) fun v5 h5 =>
  ob ((gd v4 true (O (.func 24) [v5])) h5) fun v6 h6 =>
  ob ((gd v4 true (M.ofOpt (bin Try.prog .eql 30 v6 (.int .u16 0)))) h6) fun v7 h7 =>
  ob ((M.ofOpt (pick v4 v7 (.bool false))) h7) fun v8 h8 =>
  ob ((gd v8 true (M.ret v1)) h8) fun v9 h9 =>
  ob ((gd v8 true (M.ofOpt (lenSl v9))) h9) fun v10 h10 =>
  ob ((gd v8 true (M.ofOpt (bin Try.prog .eql 3 v10 (.int .i64 3)))) h10) fun v11 h11 =>
  ob ((M.ofOpt (pick v8 v11 (.bool false))) h11) fun v12 h12 =>
  ob ((gd v12 true (M.ret v1)) h12) fun v13 h13 =>
  ob ((gd v12 true (M.ofOpt (iAddr 1 v13 (.int .i64 1)))) h13) fun v14 h14 =>
  ob ((gd v12 true (ld1 v14)) h14) fun v15 h15 =>
  ob ((gd v12 true (M.ofOpt (bin Try.prog .eql 3 v15 (.int .i64 1)))) h15) fun v16 h16 =>
  ob ((M.ofOpt (pick v12 v16 (.bool false))) h16) fun v17 h17 =>
  ob ((gd v17 true (O (.func 46) [(.bool true)])) h17) fun v18 h18 =>
  ob ((gd v17 true (O (.func 26) [v18])) h18) fun v19 h19 =>
  ob ((gd v17 true (M.ofOpt (lenSl v19))) h19) fun v20 h20 =>
  ob ((gd v17 true (M.ofOpt (bin Try.prog .eql 3 v20 (.int .i64 6)))) h20) fun v21 h21 =>
  ob ((M.ofOpt (pick v17 v21 (.bool false))) h21) fun v22 h22 =>
  some (oneOf [v22], h22)
theorem f23_eq (O : Oracle) (L : Loops (Value × Heap)) (h : Heap) :
    body Try.prog O L 23 [] h = f23 O L h := by kernel_rfl
noncomputable def f24_c2 : Code := sub [1, 1, 1, 1, 1, 0, 1, 0, 0] (fbody Try.prog 24)
noncomputable def f24_k2 (O : Oracle) (L : Loops (Value × Heap)) : Ex → K (Value × Heap) := (blockK 4 (seqK Try.prog O L (sub [1, 1, 1, 1, 1, 1] (fbody Try.prog 24)) (kRet Try.prog Try.f24)))
noncomputable def f24_e2_4 (O : Oracle) (L : Loops (Value × Heap)) (x0 x1 x2 x3 x4 x5 x6 x7 x8 x9 x10 x11 x12 x13 x14 x15 x16 x17 x18 x19 x20 x21 x22 x23 x24 x25 x26 x27 x28 x29 x30 x31 x32 x33 x34 x35 x36 x37 x38 x39 x40 x41 x42 x43 x44 x45 x46 x47 x48 x49 x50 x51 x52 x53 x54 x55 x56 x57 x58 x59 x60 x61 x62 x63 x64 x65 x66 x67 x68 x69 x70 : Value) (h : Heap) : Option (Value × Heap) :=
  some (oneOf [(.int .u16 0)], h)
theorem f24_e2_4_eq (O : Oracle) (L : Loops (Value × Heap)) (x0 x1 x2 x3 x4 x5 x6 x7 x8 x9 x10 x11 x12 x13 x14 x15 x16 x17 x18 x19 x20 x21 x22 x23 x24 x25 x26 x27 x28 x29 x30 x31 x32 x33 x34 x35 x36 x37 x38 x39 x40 x41 x42 x43 x44 x45 x46 x47 x48 x49 x50 x51 x52 x53 x54 x55 x56 x57 x58 x59 x60 x61 x62 x63 x64 x65 x66 x67 x68 x69 x70 : Value) (h : Heap) :
    f24_k2 O L (.exit 4) [x0, x1, x2, x3, x4, x5, x6, x7, x8, x9, x10, x11, x12, x13, x14, x15, x16, x17, x18, x19, x20, x21, x22, x23, x24, x25, x26, x27, x28, x29, x30, x31, x32, x33, x34, x35, x36, x37, x38, x39, x40, x41, x42, x43, x44, x45, x46, x47, x48, x49, x50, x51, x52, x53, x54, x55, x56, x57, x58, x59, x60, x61, x62, x63, x64, x65, x66, x67, x68, x69, x70] h = f24_e2_4 O L x0 x1 x2 x3 x4 x5 x6 x7 x8 x9 x10 x11 x12 x13 x14 x15 x16 x17 x18 x19 x20 x21 x22 x23 x24 x25 x26 x27 x28 x29 x30 x31 x32 x33 x34 x35 x36 x37 x38 x39 x40 x41 x42 x43 x44 x45 x46 x47 x48 x49 x50 x51 x52 x53 x54 x55 x56 x57 x58 x59 x60 x61 x62 x63 x64 x65 x66 x67 x68 x69 x70 h := by kernel_rfl
noncomputable def f24_r2 (O : Oracle) (L : Loops (Value × Heap)) (x0 x1 x2 x3 x4 x5 x6 x7 x8 x9 x10 x11 x12 x13 x14 x15 x16 x17 x18 x19 x20 x21 x22 x23 x24 x25 x26 x27 x28 x29 x30 x31 x32 x33 x34 x35 x36 x37 x38 x39 x40 x41 x42 x43 x44 x45 x46 x47 x48 x49 x50 x51 x52 x53 x54 x55 x56 x57 x58 x59 x60 x61 x62 x63 x64 x65 x66 x67 x68 x69 x70 : Value) (h : Heap) : Option (Value × Heap) :=
  some (oneOf [x2], h)
theorem f24_r2_eq (O : Oracle) (L : Loops (Value × Heap)) (x0 x1 x2 x3 x4 x5 x6 x7 x8 x9 x10 x11 x12 x13 x14 x15 x16 x17 x18 x19 x20 x21 x22 x23 x24 x25 x26 x27 x28 x29 x30 x31 x32 x33 x34 x35 x36 x37 x38 x39 x40 x41 x42 x43 x44 x45 x46 x47 x48 x49 x50 x51 x52 x53 x54 x55 x56 x57 x58 x59 x60 x61 x62 x63 x64 x65 x66 x67 x68 x69 x70 : Value) (h : Heap) :
    f24_k2 O L .ret [x0, x1, x2, x3, x4, x5, x6, x7, x8, x9, x10, x11, x12, x13, x14, x15, x16, x17, x18, x19, x20, x21, x22, x23, x24, x25, x26, x27, x28, x29, x30, x31, x32, x33, x34, x35, x36, x37, x38, x39, x40, x41, x42, x43, x44, x45, x46, x47, x48, x49, x50, x51, x52, x53, x54, x55, x56, x57, x58, x59, x60, x61, x62, x63, x64, x65, x66, x67, x68, x69, x70] h = f24_r2 O L x0 x1 x2 x3 x4 x5 x6 x7 x8 x9 x10 x11 x12 x13 x14 x15 x16 x17 x18 x19 x20 x21 x22 x23 x24 x25 x26 x27 x28 x29 x30 x31 x32 x33 x34 x35 x36 x37 x38 x39 x40 x41 x42 x43 x44 x45 x46 x47 x48 x49 x50 x51 x52 x53 x54 x55 x56 x57 x58 x59 x60 x61 x62 x63 x64 x65 x66 x67 x68 x69 x70 h := by kernel_rfl
noncomputable def f24_b2 (O : Oracle) (L : Loops (Value × Heap)) (k : Ex → K (Value × Heap)) (x0 x1 x2 x3 x4 x5 x6 x7 x8 x9 x10 x11 x12 x13 x14 x15 x16 x17 x18 x19 x20 x21 x22 x23 x24 x25 x26 x27 x28 x29 x30 x31 x32 x33 x34 x35 x36 x37 x38 x39 x40 x41 x42 x43 x44 x45 x46 x47 x48 x49 x50 x51 x52 x53 x54 x55 x56 x57 x58 x59 x60 x61 x62 x63 x64 x65 x66 x67 x68 x69 x70 : Value) (h : Heap) : Option (Value × Heap) :=
  ob ((M.ofOpt (bin Try.prog .lss 3 x54 x53)) h) fun v33 h33 =>
  iteV v33 (
  ob ((M.ofOpt (nilChk x8)) h33) fun v34 h34 =>
  ob ((M.ofOpt (fAddr 0 v34)) h34) fun v35 h35 =>
  ob ((ld1 v35) h35) fun v36 h36 =>
  ob ((M.ofOpt (iAddr 1 v36 x54)) h36) fun v37 h37 =>
  ob ((ld1 v37) h37) fun v38 h38 =>
  ob ((M.ofOpt (bin Try.prog .eql 3 v38 (.int .i64 0))) h38) fun v39 h39 =>
  ob ((gd v39 true (M.ret x8)) h39) fun v40 h40 =>
  ob ((gd v39 true (M.ret x54)) h40) fun v41 h41 =>
  ob ((gd v39 true (O (.func 48) [v40, v41])) h41) fun v42 h42 =>
  ob ((M.ofOpt (pick v39 v42 (.bool false))) h42) fun v43 h43 =>
  iteV v43 (
  k .ret [x0, x1, (.int .u16 140), x3, x4, x5, x6, x7, x8, x54, x10, x11, x12, x13, x14, x15, x16, x17, x18, x19, x20, x21, x22, x23, x24, x25, x26, x27, x28, x29, x30, x31, x32, x33, x34, x35, x36, x37, x38, x39, x40, x41, x42, x43, x44, x45, x46, x47, x48, x49, x50, x51, x52, x53, x54, v33, x54, x8, v34, v35, v36, x54, v37, v38, v39, v39, v40, v41, v42, v43, x70] h43) (
  ob ((M.ofOpt (bin Try.prog .add 3 x54 (.int .i64 1))) h43) fun v44 h44 =>
  k .normal [x0, x1, x2, x3, x4, x5, x6, x7, x8, x54, x10, x11, x12, x13, x14, x15, x16, x17, x18, x19, x20, x21, x22, x23, x24, x25, x26, x27, x28, x29, x30, x31, x32, x33, x34, x35, x36, x37, x38, x39, x40, x41, x42, x43, x44, x45, x46, x47, x48, x49, x50, x51, x52, x53, v44, v33, x54, x8, v34, v35, v36, x54, v37, v38, v39, v39, v40, v41, v42, v43, v44] h44)) (
  k (.exit 4) [x0, x1, x2, x3, x4, x5, x6, x7, x8, x9, x10, x11, x12, x13, x14, x15, x16, x17, x18, x19, x20, x21, x22, x23, x24, x25, x26, x27, x28, x29, x30, x31, x32, x33, x34, x35, x36, x37, x38, x39, x40, x41, x42, x43, x44, x45, x46, x47, x48, x49, x50, x51, x52, x53, x54, v33, x56, x57, x58, x59, x60, x61, x62, x63, x64, x65, x66, x67, x68, x69, x70] h33)
theorem f24_b2_eq (O : Oracle) (L : Loops (Value × Heap)) (k : Ex → K (Value × Heap)) (x0 x1 x2 x3 x4 x5 x6 x7 x8 x9 x10 x11 x12 x13 x14 x15 x16 x17 x18 x19 x20 x21 x22 x23 x24 x25 x26 x27 x28 x29 x30 x31 x32 x33 x34 x35 x36 x37 x38 x39 x40 x41 x42 x43 x44 x45 x46 x47 x48 x49 x50 x51 x52 x53 x54 x55 x56 x57 x58 x59 x60 x61 x62 x63 x64 x65 x66 x67 x68 x69 x70 : Value) (h : Heap) :
    runCode Try.prog O L f24_c2 k [x0, x1, x2, x3, x4, x5, x6, x7, x8, x9, x10, x11, x12, x13, x14, x15, x16, x17, x18, x19, x20, x21, x22, x23, x24, x25, x26, x27, x28, x29, x30, x31, x32, x33, x34, x35, x36, x37, x38, x39, x40, x41, x42, x43, x44, x45, x46, x47, x48, x49, x50, x51, x52, x53, x54, x55, x56, x57, x58, x59, x60, x61, x62, x63, x64, x65, x66, x67, x68, x69, x70] h = f24_b2 O L k x0 x1 x2 x3 x4 x5 x6 x7 x8 x9 x10 x11 x12 x13 x14 x15 x16 x17 x18 x19 x20 x21 x22 x23 x24 x25 x26 x27 x28 x29 x30 x31 x32 x33 x34 x35 x36 x37 x38 x39 x40 x41 x42 x43 x44 x45 x46 x47 x48 x49 x50 x51 x52 x53 x54 x55 x56 x57 x58 x59 x60 x61 x62 x63 x64 x65 x66 x67 x68 x69 x70 h := by kernel_rfl
noncomputable def f24_c1 : Code := sub [1, 1, 0, 1, 0, 0, 1, 1, 0, 0, 1, 1, 0, 0] (fbody Try.prog 24)
noncomputable def f24_k1 (O : Oracle) (L : Loops (Value × Heap)) (k : Ex → K (Value × Heap)) : Ex → K (Value × Heap) := (blockK 2 (blockK 1 (seqK Try.prog O L (sub [1, 1, 0, 1, 0, 0, 1, 1, 1] (fbody Try.prog 24)) k)))
noncomputable def f24_e1_2 (O : Oracle) (L : Loops (Value × Heap)) (k : Ex → K (Value × Heap)) (x0 x1 x2 x3 x4 x5 x6 x7 x8 x9 x10 x11 x12 x13 x14 x15 x16 x17 x18 x19 x20 x21 x22 x23 x24 x25 x26 x27 x28 x29 x30 x31 x32 x33 x34 x35 x36 x37 x38 x39 x40 x41 x42 x43 x44 x45 x46 x47 x48 x49 x50 x51 x52 x53 x54 x55 x56 x57 x58 x59 x60 x61 x62 x63 x64 x65 x66 x67 x68 x69 x70 : Value) (h : Heap) : Option (Value × Heap) :=
  ob ((M.ofOpt (bin Try.prog .add 3 x17 (.int .i64 1))) h) fun v32 h32 =>
  k .normal [x0, x1, x2, x3, x4, x5, x6, x7, x8, x9, x10, x11, x12, x13, x14, x15, x16, v32, x18, x19, x20, x21, x22, x23, x24, x25, x26, x27, x28, x29, x30, x31, x32, x33, x34, v32, x36, x37, x38, x39, x40, x41, x42, x43, x44, x45, x46, x47, x48, x49, x50, x51, x52, x53, x54, x55, x56, x57, x58, x59, x60, x61, x62, x63, x64, x65, x66, x67, x68, x69, x70] h32
theorem f24_e1_2_eq (O : Oracle) (L : Loops (Value × Heap)) (k : Ex → K (Value × Heap)) (x0 x1 x2 x3 x4 x5 x6 x7 x8 x9 x10 x11 x12 x13 x14 x15 x16 x17 x18 x19 x20 x21 x22 x23 x24 x25 x26 x27 x28 x29 x30 x31 x32 x33 x34 x35 x36 x37 x38 x39 x40 x41 x42 x43 x44 x45 x46 x47 x48 x49 x50 x51 x52 x53 x54 x55 x56 x57 x58 x59 x60 x61 x62 x63 x64 x65 x66 x67 x68 x69 x70 : Value) (h : Heap) :
    f24_k1 O L k (.exit 2) [x0, x1, x2, x3, x4, x5, x6, x7, x8, x9, x10, x11, x12, x13, x14, x15, x16, x17, x18, x19, x20, x21, x22, x23, x24, x25, x26, x27, x28, x29, x30, x31, x32, x33, x34, x35, x36, x37, x38, x39, x40, x41, x42, x43, x44, x45, x46, x47, x48, x49, x50, x51, x52, x53, x54, x55, x56, x57, x58, x59, x60, x61, x62, x63, x64, x65, x66, x67, x68, x69, x70] h = f24_e1_2 O L k x0 x1 x2 x3 x4 x5 x6 x7 x8 x9 x10 x11 x12 x13 x14 x15 x16 x17 x18 x19 x20 x21 x22 x23 x24 x25 x26 x27 x28 x29 x30 x31 x32 x33 x34 x35 x36 x37 x38 x39 x40 x41 x42 x43 x44 x45 x46 x47 x48 x49 x50 x51 x52 x53 x54 x55 x56 x57 x58 x59 x60 x61 x62 x63 x64 x65 x66 x67 x68 x69 x70 h := by kernel_rfl
noncomputable def f24_r1 (O : Oracle) (L : Loops (Value × Heap)) (k : Ex → K (Value × Heap)) (x0 x1 x2 x3 x4 x5 x6 x7 x8 x9 x10 x11 x12 x13 x14 x15 x16 x17 x18 x19 x20 x21 x22 x23 x24 x25 x26 x27 x28 x29 x30 x31 x32 x33 x34 x35 x36 x37 x38 x39 x40 x41 x42 x43 x44 x45 x46 x47 x48 x49 x50 x51 x52 x53 x54 x55 x56 x57 x58 x59 x60 x61 x62 x63 x64 x65 x66 x67 x68 x69 x70 : Value) (h : Heap) : Option (Value × Heap) :=
  k .ret [x0, x1, x2, x3, x4, x5, x6, x7, x8, x9, x10, x11, x12, x13, x14, x15, x16, x17, x18, x19, x20, x21, x22, x23, x24, x25, x26, x27, x28, x29, x30, x31, x32, x33, x34, x35, x36, x37, x38, x39, x40, x41, x42, x43, x44, x45, x46, x47, x48, x49, x50, x51, x52, x53, x54, x55, x56, x57, x58, x59, x60, x61, x62, x63, x64, x65, x66, x67, x68, x69, x70] h
theorem f24_r1_eq (O : Oracle) (L : Loops (Value × Heap)) (k : Ex → K (Value × Heap)) (x0 x1 x2 x3 x4 x5 x6 x7 x8 x9 x10 x11 x12 x13 x14 x15 x16 x17 x18 x19 x20 x21 x22 x23 x24 x25 x26 x27 x28 x29 x30 x31 x32 x33 x34 x35 x36 x37 x38 x39 x40 x41 x42 x43 x44 x45 x46 x47 x48 x49 x50 x51 x52 x53 x54 x55 x56 x57 x58 x59 x60 x61 x62 x63 x64 x65 x66 x67 x68 x69 x70 : Value) (h : Heap) :
    f24_k1 O L k .ret [x0, x1, x2, x3, x4, x5, x6, x7, x8, x9, x10, x11, x12, x13, x14, x15, x16, x17, x18, x19, x20, x21, x22, x23, x24, x25, x26, x27, x28, x29, x30, x31, x32, x33, x34, x35, x36, x37, x38, x39, x40, x41, x42, x43, x44, x45, x46, x47, x48, x49, x50, x51, x52, x53, x54, x55, x56, x57, x58, x59, x60, x61, x62, x63, x64, x65, x66, x67, x68, x69, x70] h = f24_r1 O L k x0 x1 x2 x3 x4 x5 x6 x7 x8 x9 x10 x11 x12 x13 x14 x15 x16 x17 x18 x19 x20 x21 x22 x23 x24 x25 x26 x27 x28 x29 x30 x31 x32 x33 x34 x35 x36 x37 x38 x39 x40 x41 x42 x43 x44 x45 x46 x47 x48 x49 x50 x51 x52 x53 x54 x55 x56 x57 x58 x59 x60 x61 x62 x63 x64 x65 x66 x67 x68 x69 x70 h := by kernel_rfl
noncomputable def f24_b1 (O : Oracle) (L : Loops (Value × Heap)) (k : Ex → K (Value × Heap)) (x0 x1 x2 x3 x4 x5 x6 x7 x8 x9 x10 x11 x12 x13 x14 x15 x16 x17 x18 x19 x20 x21 x22 x23 x24 x25 x26 x27 x28 x29 x30 x31 x32 x33 x34 x35 x36 x37 x38 x39 x40 x41 x42 x43 x44 x45 x46 x47 x48 x49 x50 x51 x52 x53 x54 x55 x56 x57 x58 x59 x60 x61 x62 x63 x64 x65 x66 x67 x68 x69 x70 : Value) (h : Heap) : Option (Value × Heap) :=
  ob ((M.ofOpt (bin Try.prog .lss 3 x22 x21)) h) fun v25 h25 =>
  iteV v25 (
  ob ((ldN 11 x1) h25) fun v26 h26 =>
  ob ((O (.func 47) [v26, x4, x22]) h26) fun v27 h27 =>
  ob ((M.ofOpt (ext 0 v27)) h27) fun v28 h28 =>
  ob ((M.ofOpt (ext 1 v27)) h28) fun v29 h29 =>
  ob ((M.ofOpt (un Try.prog .not v29)) h29) fun v30 h30 =>
  iteV v30 (
  k .ret [x0, x1, (.int .u16 140), x3, x4, x22, v28, v29, x8, x9, x10, x11, x12, x13, x14, x15, x16, x17, x18, x19, x20, x21, x22, v25, x22, v27, v26, x4, x22, v27, v28, v29, v29, v30, x34, x35, x36, x37, x38, x39, x40, x41, x42, x43, x44, x45, x46, x47, x48, x49, x50, x51, x52, x53, x54, x55, x56, x57, x58, x59, x60, x61, x62, x63, x64, x65, x66, x67, x68, x69, x70] h30) (
  ob ((M.ofOpt (bin Try.prog .add 3 x22 (.int .i64 1))) h30) fun v31 h31 =>
  k .normal [x0, x1, x2, x3, x4, x22, v28, v29, x8, x9, x10, x11, x12, x13, x14, x15, x16, x17, x18, x19, x20, x21, v31, v25, x22, v27, v26, x4, x22, v27, v28, v29, v29, v30, v31, x35, x36, x37, x38, x39, x40, x41, x42, x43, x44, x45, x46, x47, x48, x49, x50, x51, x52, x53, x54, x55, x56, x57, x58, x59, x60, x61, x62, x63, x64, x65, x66, x67, x68, x69, x70] h31)) (
  k (.exit 2) [x0, x1, x2, x3, x4, x5, x6, x7, x8, x9, x10, x11, x12, x13, x14, x15, x16, x17, x18, x19, x20, x21, x22, v25, x24, x25, x26, x27, x28, x29, x30, x31, x32, x33, x34, x35, x36, x37, x38, x39, x40, x41, x42, x43, x44, x45, x46, x47, x48, x49, x50, x51, x52, x53, x54, x55, x56, x57, x58, x59, x60, x61, x62, x63, x64, x65, x66, x67, x68, x69, x70] h25)
theorem f24_b1_eq (O : Oracle) (L : Loops (Value × Heap)) (k : Ex → K (Value × Heap)) (x0 x1 x2 x3 x4 x5 x6 x7 x8 x9 x10 x11 x12 x13 x14 x15 x16 x17 x18 x19 x20 x21 x22 x23 x24 x25 x26 x27 x28 x29 x30 x31 x32 x33 x34 x35 x36 x37 x38 x39 x40 x41 x42 x43 x44 x45 x46 x47 x48 x49 x50 x51 x52 x53 x54 x55 x56 x57 x58 x59 x60 x61 x62 x63 x64 x65 x66 x67 x68 x69 x70 : Value) (h : Heap) :
    runCode Try.prog O L f24_c1 k [x0, x1, x2, x3, x4, x5, x6, x7, x8, x9, x10, x11, x12, x13, x14, x15, x16, x17, x18, x19, x20, x21, x22, x23, x24, x25, x26, x27, x28, x29, x30, x31, x32, x33, x34, x35, x36, x37, x38, x39, x40, x41, x42, x43, x44, x45, x46, x47, x48, x49, x50, x51, x52, x53, x54, x55, x56, x57, x58, x59, x60, x61, x62, x63, x64, x65, x66, x67, x68, x69, x70] h = f24_b1 O L k x0 x1 x2 x3 x4 x5 x6 x7 x8 x9 x10 x11 x12 x13 x14 x15 x16 x17 x18 x19 x20 x21 x22 x23 x24 x25 x26 x27 x28 x29 x30 x31 x32 x33 x34 x35 x36 x37 x38 x39 x40 x41 x42 x43 x44 x45 x46 x47 x48 x49 x50 x51 x52 x53 x54 x55 x56 x57 x58 x59 x60 x61 x62 x63 x64 x65 x66 x67 x68 x69 x70 h := by kernel_rfl
noncomputable def f24_c0 : Code := sub [1, 1, 0, 1, 0, 0] (fbody Try.prog 24)
noncomputable def f24_k0 (O : Oracle) (L : Loops (Value × Heap)) : Ex → K (Value × Heap) := (blockK 0 (seqK Try.prog O L (sub [1, 1, 1] (fbody Try.prog 24)) (kRet Try.prog Try.f24)))
noncomputable def f24_e0_0 (O : Oracle) (L : Loops (Value × Heap)) (x0 x1 x2 x3 x4 x5 x6 x7 x8 x9 x10 x11 x12 x13 x14 x15 x16 x17 x18 x19 x20 x21 x22 x23 x24 x25 x26 x27 x28 x29 x30 x31 x32 x33 x34 x35 x36 x37 x38 x39 x40 x41 x42 x43 x44 x45 x46 x47 x48 x49 x50 x51 x52 x53 x54 x55 x56 x57 x58 x59 x60 x61 x62 x63 x64 x65 x66 x67 x68 x69 x70 : Value) (h : Heap) : Option (Value × Heap) :=
  ob ((ldN 11 x1) h) fun v9 h9 =>
  ob ((O (.func 26) [v9]) h9) fun v10 h10 =>
  ob ((M.ofOpt (bld Try.prog 72 [(1, v10)])) h10) fun v11 h11 =>
  ob ((newB 72 (Value.cells v11).toList .fix) h11) fun v12 h12 =>
  ob ((M.ofOpt (nilChk v12)) h12) fun v13 h13 =>
  ob ((M.ofOpt (fAddr 1 v13)) h13) fun v14 h14 =>
  ob ((ld1 v14) h14) fun v15 h15 =>
  ob ((M.ofOpt (lenSl v15)) h15) fun v16 h16 =>
  ob ((mkSlice 3 1 8 [(.int .i64 0)] v16 v16) h16) fun v17 h17 =>
  ob ((M.ofOpt (nilChk v12)) h17) fun v18 h18 =>
  ob ((M.ofOpt (fAddr 0 v18)) h18) fun v19 h19 =>
  ob ((stN 1 v19 v17) h19) fun v20 h20 =>
  ob ((M.ofOpt (nilChk v12)) h20) fun v21 h21 =>
  ob ((M.ofOpt (fAddr 0 v21)) h21) fun v22 h22 =>
  ob ((ld1 v22) h22) fun v23 h23 =>
  ob ((M.ofOpt (lenSl v23)) h23) fun v24 h24 =>
  L (runCode Try.prog O L f24_c2) (f24_k2 O L) [x0, x1, x2, x3, x4, x5, x6, x7, v12, x9, x10, x11, x12, x13, x14, x15, x16, x17, x18, x19, x20, x21, x22, x23, x24, x25, x26, x27, x28, x29, x30, x31, x32, x33, x34, x35, v9, v10, v11, v12, v12, v12, v13, v14, v15, v16, v17, v18, v19, v12, v21, v22, v23, v24, (.int .i64 0), x55, x56, x57, x58, x59, x60, x61, x62, x63, x64, x65, x66, x67, x68, x69, x70] h24
theorem f24_e0_0_eq (O : Oracle) (L : Loops (Value × Heap)) (x0 x1 x2 x3 x4 x5 x6 x7 x8 x9 x10 x11 x12 x13 x14 x15 x16 x17 x18 x19 x20 x21 x22 x23 x24 x25 x26 x27 x28 x29 x30 x31 x32 x33 x34 x35 x36 x37 x38 x39 x40 x41 x42 x43 x44 x45 x46 x47 x48 x49 x50 x51 x52 x53 x54 x55 x56 x57 x58 x59 x60 x61 x62 x63 x64 x65 x66 x67 x68 x69 x70 : Value) (h : Heap) :
    f24_k0 O L (.exit 0) [x0, x1, x2, x3, x4, x5, x6, x7, x8, x9, x10, x11, x12, x13, x14, x15, x16, x17, x18, x19, x20, x21, x22, x23, x24, x25, x26, x27, x28, x29, x30, x31, x32, x33, x34, x35, x36, x37, x38, x39, x40, x41, x42, x43, x44, x45, x46, x47, x48, x49, x50, x51, x52, x53, x54, x55, x56, x57, x58, x59, x60, x61, x62, x63, x64, x65, x66, x67, x68, x69, x70] h = f24_e0_0 O L x0 x1 x2 x3 x4 x5 x6 x7 x8 x9 x10 x11 x12 x13 x14 x15 x16 x17 x18 x19 x20 x21 x22 x23 x24 x25 x26 x27 x28 x29 x30 x31 x32 x33 x34 x35 x36 x37 x38 x39 x40 x41 x42 x43 x44 x45 x46 x47 x48 x49 x50 x51 x52 x53 x54 x55 x56 x57 x58 x59 x60 x61 x62 x63 x64 x65 x66 x67 x68 x69 x70 h := by kernel_rfl
noncomputable def f24_r0 (O : Oracle) (L : Loops (Value × Heap)) (x0 x1 x2 x3 x4 x5 x6 x7 x8 x9 x10 x11 x12 x13 x14 x15 x16 x17 x18 x19 x20 x21 x22 x23 x24 x25 x26 x27 x28 x29 x30 x31 x32 x33 x34 x35 x36 x37 x38 x39 x40 x41 x42 x43 x44 x45 x46 x47 x48 x49 x50 x51 x52 x53 x54 x55 x56 x57 x58 x59 x60 x61 x62 x63 x64 x65 x66 x67 x68 x69 x70 : Value) (h : Heap) : Option (Value × Heap) :=
  some (oneOf [x2], h)
theorem f24_r0_eq (O : Oracle) (L : Loops (Value × Heap)) (x0 x1 x2 x3 x4 x5 x6 x7 x8 x9 x10 x11 x12 x13 x14 x15 x16 x17 x18 x19 x20 x21 x22 x23 x24 x25 x26 x27 x28 x29 x30 x31 x32 x33 x34 x35 x36 x37 x38 x39 x40 x41 x42 x43 x44 x45 x46 x47 x48 x49 x50 x51 x52 x53 x54 x55 x56 x57 x58 x59 x60 x61 x62 x63 x64 x65 x66 x67 x68 x69 x70 : Value) (h : Heap) :
    f24_k0 O L .ret [x0, x1, x2, x3, x4, x5, x6, x7, x8, x9, x10, x11, x12, x13, x14, x15, x16, x17, x18, x19, x20, x21, x22, x23, x24, x25, x26, x27, x28, x29, x30, x31, x32, x33, x34, x35, x36, x37, x38, x39, x40, x41, x42, x43, x44, x45, x46, x47, x48, x49, x50, x51, x52, x53, x54, x55, x56, x57, x58, x59, x60, x61, x62, x63, x64, x65, x66, x67, x68, x69, x70] h = f24_r0 O L x0 x1 x2 x3 x4 x5 x6 x7 x8 x9 x10 x11 x12 x13 x14 x15 x16 x17 x18 x19 x20 x21 x22 x23 x24 x25 x26 x27 x28 x29 x30 x31 x32 x33 x34 x35 x36 x37 x38 x39 x40 x41 x42 x43 x44 x45 x46 x47 x48 x49 x50 x51 x52 x53 x54 x55 x56 x57 x58 x59 x60 x61 x62 x63 x64 x65 x66 x67 x68 x69 x70 h := by kernel_rfl
noncomputable def f24_b0 (O : Oracle) (L : Loops (Value × Heap)) (k : Ex → K (Value × Heap)) (x0 x1 x2 x3 x4 x5 x6 x7 x8 x9 x10 x11 x12 x13 x14 x15 x16 x17 x18 x19 x20 x21 x22 x23 x24 x25 x26 x27 x28 x29 x30 x31 x32 x33 x34 x35 x36 x37 x38 x39 x40 x41 x42 x43 x44 x45 x46 x47 x48 x49 x50 x51 x52 x53 x54 x55 x56 x57 x58 x59 x60 x61 x62 x63 x64 x65 x66 x67 x68 x69 x70 : Value) (h : Heap) : Option (Value × Heap) :=
  ob ((M.ofOpt (bin Try.prog .lss 3 x17 x16)) h) fun v6 h6 =>
  iteV v6 (
  ob ((M.ofOpt (fAddr 0 x1)) h6) fun v7 h7 =>
  ob ((ld1 v7) h7) fun v8 h8 =>
  L (runCode Try.prog O L f24_c1) (f24_k1 O L k) [x0, x1, x2, x3, x17, x5, x6, x7, x8, x9, x10, x11, x12, x13, x14, x15, x16, x17, v6, x17, v7, v8, (.int .i64 0), x23, x24, x25, x26, x27, x28, x29, x30, x31, x32, x33, x34, x35, x36, x37, x38, x39, x40, x41, x42, x43, x44, x45, x46, x47, x48, x49, x50, x51, x52, x53, x54, x55, x56, x57, x58, x59, x60, x61, x62, x63, x64, x65, x66, x67, x68, x69, x70] h8) (
  k (.exit 0) [x0, x1, x2, x3, x4, x5, x6, x7, x8, x9, x10, x11, x12, x13, x14, x15, x16, x17, v6, x19, x20, x21, x22, x23, x24, x25, x26, x27, x28, x29, x30, x31, x32, x33, x34, x35, x36, x37, x38, x39, x40, x41, x42, x43, x44, x45, x46, x47, x48, x49, x50, x51, x52, x53, x54, x55, x56, x57, x58, x59, x60, x61, x62, x63, x64, x65, x66, x67, x68, x69, x70] h6)
theorem f24_b0_eq (O : Oracle) (L : Loops (Value × Heap)) (k : Ex → K (Value × Heap)) (x0 x1 x2 x3 x4 x5 x6 x7 x8 x9 x10 x11 x12 x13 x14 x15 x16 x17 x18 x19 x20 x21 x22 x23 x24 x25 x26 x27 x28 x29 x30 x31 x32 x33 x34 x35 x36 x37 x38 x39 x40 x41 x42 x43 x44 x45 x46 x47 x48 x49 x50 x51 x52 x53 x54 x55 x56 x57 x58 x59 x60 x61 x62 x63 x64 x65 x66 x67 x68 x69 x70 : Value) (h : Heap) :
    runCode Try.prog O L f24_c0 k [x0, x1, x2, x3, x4, x5, x6, x7, x8, x9, x10, x11, x12, x13, x14, x15, x16, x17, x18, x19, x20, x21, x22, x23, x24, x25, x26, x27, x28, x29, x30, x31, x32, x33, x34, x35, x36, x37, x38, x39, x40, x41, x42, x43, x44, x45, x46, x47, x48, x49, x50, x51, x52, x53, x54, x55, x56, x57, x58, x59, x60, x61, x62, x63, x64, x65, x66, x67, x68, x69, x70] h = f24_b0 O L k x0 x1 x2 x3 x4 x5 x6 x7 x8 x9 x10 x11 x12 x13 x14 x15 x16 x17 x18 x19 x20 x21 x22 x23 x24 x25 x26 x27 x28 x29 x30 x31 x32 x33 x34 x35 x36 x37 x38 x39 x40 x41 x42 x43 x44 x45 x46 x47 x48 x49 x50 x51 x52 x53 x54 x55 x56 x57 x58 x59 x60 x61 x62 x63 x64 x65 x66 x67 x68 x69 x70 h := by kernel_rfl
noncomputable def f24 (O : Oracle) (L : Loops (Value × Heap)) (a0 : Value) (h : Heap) : Option (Value × Heap) :=
  ob ((newB 27 (Value.cells a0).toList .fix) h) fun v0 h0 =>
  ob ((ldN 11 v0) h0) fun v1 h1 =>
  ob ((O (.func 17) [v1]) h1) fun v2 h2 =>
  ob ((M.ofOpt (bin Try.prog .neq 30 v2 (.int .u16 0))) h2) fun v3 h3 =>
  iteV v3 (
  some (oneOf [v2], h3)) (
  ob ((M.ofOpt (fAddr 0 v0)) h3) fun v4 h4 =>
  ob ((ld1 v4) h4) fun v5 h5 =>
  L (runCode Try.prog O L f24_c0) (f24_k0 O L) [a0, v0, (.int .u16 0), v2, undef, undef, undef, undef, undef, undef, v1, v2, v2, v3, undef, v4, v5, (.int .i64 0), undef, undef, undef, undef, undef, undef, undef, undef, undef, undef, undef, undef, undef, undef, undef, undef, undef, undef, undef, undef, undef, undef, undef, undef, undef, undef, undef, undef, undef, undef, undef, undef, undef, undef, undef, undef, undef, undef, undef, undef, undef, undef, undef, undef, undef, undef, undef, undef, undef, undef, undef, undef, undef] h5)
theorem f24_eq (O : Oracle) (L : Loops (Value × Heap)) (a0 : Value) (h : Heap) :
    body Try.prog O L 24 [a0] h = f24 O L a0 h := by kernel_rfl
noncomputable def f25 (O : Oracle) (L : Loops (Value × Heap)) (a0 a1 a2 : Value) (h : Heap) : Option (Value × Heap) :=
  ob ((newB 27 (Value.cells a0).toList .fix) h) fun v0 h0 =>
  ob ((ldN 11 v0) h0) fun v1 h1 =>
  ob ((O (.func 17) [v1]) h1) fun v2 h2 =>
  ob ((M.ofOpt (bin Try.prog .neq 30 v2 (.int .u16 0))) h2) fun v3 h3 =>
  ob ((gd v3 false (M.ret a1)) h3) fun v4 h4 =>
  ob ((gd v3 false (M.ret a2)) h4) fun v5 h5 =>
  ob ((gd v3 false (M.ofOpt (minmax Try.prog false [v4, v5]))) h5) fun v6 h6 =>
  ob ((gd v3 false (M.ofOpt (bin Try.prog .lss 3 v6 (.int .i64 0)))) h6) fun v7 h7 =>
  ob ((M.ofOpt (pick v3 (.bool true) v7)) h7) fun v8 h8 =>
  ob ((gd v8 false (M.ret a1)) h8) fun v9 h9 =>
  ob ((gd v8 false (M.ret a2)) h9) fun v10 h10 =>
  ob ((gd v8 false (M.ofOpt (minmax Try.prog true [v9, v10]))) h10) fun v11 h11 =>
  ob ((gd v8 false (M.ofOpt (fAddr 0 v0))) h11) fun v12 h12 =>
  ob ((gd v8 false (ld1 v12)) h12) fun v13 h13 =>
  ob ((gd v8 false (M.ofOpt (bin Try.prog .geq 3 v11 v13))) h13) fun v14 h14 =>
  ob ((M.ofOpt (pick v8 (.bool true) v14)) h14) fun v15 h15 =>
  iteV v15 (
  some (oneOf [(.slice none 0 0)], h15)) (
  ob ((ldN 11 v0) h15) fun v16 h16 =>
  ob ((O (.func 47) [v16, a1, a2]) h16) fun v17 h17 =>
  ob ((M.ofOpt (ext 0 v17)) h17) fun v18 h18 =>
  ob ((M.ofOpt (ext 1 v17)) h18) fun v19 h19 =>
  some (oneOf [v18], h19))
theorem f25_eq (O : Oracle) (L : Loops (Value × Heap)) (a0 a1 a2 : Value) (h : Heap) :
    body Try.prog O L 25 [a0, a1, a2] h = f25 O L a0 a1 a2 h := by kernel_rfl
noncomputable def f26_c0 : Code := sub [1, 1, 1, 1, 0, 1, 0, 0] (fbody Try.prog 26)
noncomputable def f26_k0 (O : Oracle) (L : Loops (Value × Heap)) : Ex → K (Value × Heap) := (blockK 0 (seqK Try.prog O L (sub [1, 1, 1, 1, 1] (fbody Try.prog 26)) (kRet Try.prog Try.f26)))
noncomputable def f26_e0_0 (O : Oracle) (L : Loops (Value × Heap)) (x0 x1 x2 x3 x4 x5 x6 x7 x8 x9 x10 x11 x12 x13 x14 x15 x16 x17 x18 x19 x20 x21 x22 x23 x24 x25 x26 x27 x28 x29 x30 : Value) (h : Heap) : Option (Value × Heap) :=
  some (oneOf [x4], h)
theorem f26_e0_0_eq (O : Oracle) (L : Loops (Value × Heap)) (x0 x1 x2 x3 x4 x5 x6 x7 x8 x9 x10 x11 x12 x13 x14 x15 x16 x17 x18 x19 x20 x21 x22 x23 x24 x25 x26 x27 x28 x29 x30 : Value) (h : Heap) :
    f26_k0 O L (.exit 0) [x0, x1, x2, x3, x4, x5, x6, x7, x8, x9, x10, x11, x12, x13, x14, x15, x16, x17, x18, x19, x20, x21, x22, x23, x24, x25, x26, x27, x28, x29, x30] h = f26_e0_0 O L x0 x1 x2 x3 x4 x5 x6 x7 x8 x9 x10 x11 x12 x13 x14 x15 x16 x17 x18 x19 x20 x21 x22 x23 x24 x25 x26 x27 x28 x29 x30 h := by kernel_rfl
noncomputable def f26_b0 (O : Oracle) (L : Loops (Value × Heap)) (k : Ex → K (Value × Heap)) (x0 x1 x2 x3 x4 x5 x6 x7 x8 x9 x10 x11 x12 x13 x14 x15 x16 x17 x18 x19 x20 x21 x22 x23 x24 x25 x26 x27 x28 x29 x30 : Value) (h : Heap) : Option (Value × Heap) :=
  ob ((M.ofOpt (bin Try.prog .lss 3 x17 x16)) h) fun v9 h9 =>
  iteV v9 (
  ob ((M.ofOpt (iAddr 2 x15 x17)) h9) fun v10 h10 =>
  ob ((ldN 2 v10) h10) fun v11 h11 =>
  ob ((newB 38 [(.int .i64 0), (.int .i64 0)] .fix) h11) fun v12 h12 =>
  ob ((stN 2 v12 v11) h12) fun v13 h13 =>
  ob ((ldN 11 x1) h13) fun v14 h14 =>
  ob ((ldN 2 v12) h14) fun v15 h15 =>
  ob ((O (.func 49) [v14, v15, x3]) h15) fun v16 h16 =>
  ob ((M.ofOpt (iAddr 1 x4 x17)) h16) fun v17 h17 =>
  ob ((stN 1 v17 v16) h17) fun v18 h18 =>
  ob ((M.ofOpt (bin Try.prog .add 3 x17 (.int .i64 1))) h18) fun v19 h19 =>
  k .normal [x0, x1, x2, x3, x4, x17, v12, x7, x8, x9, x10, x11, x12, x13, x14, x15, x16, v19, v9, x17, v10, v11, x4, x17, v14, v15, x3, v16, v17, v19, x30] h19) (
  k (.exit 0) [x0, x1, x2, x3, x4, x5, x6, x7, x8, x9, x10, x11, x12, x13, x14, x15, x16, x17, v9, x19, x20, x21, x22, x23, x24, x25, x26, x27, x28, x29, x30] h9)
theorem f26_b0_eq (O : Oracle) (L : Loops (Value × Heap)) (k : Ex → K (Value × Heap)) (x0 x1 x2 x3 x4 x5 x6 x7 x8 x9 x10 x11 x12 x13 x14 x15 x16 x17 x18 x19 x20 x21 x22 x23 x24 x25 x26 x27 x28 x29 x30 : Value) (h : Heap) :
    runCode Try.prog O L f26_c0 k [x0, x1, x2, x3, x4, x5, x6, x7, x8, x9, x10, x11, x12, x13, x14, x15, x16, x17, x18, x19, x20, x21, x22, x23, x24, x25, x26, x27, x28, x29, x30] h = f26_b0 O L k x0 x1 x2 x3 x4 x5 x6 x7 x8 x9 x10 x11 x12 x13 x14 x15 x16 x17 x18 x19 x20 x21 x22 x23 x24 x25 x26 x27 x28 x29 x30 h := by kernel_rfl
noncomputable def f26 (O : Oracle) (L : Loops (Value × Heap)) (a0 : Value) (h : Heap) : Option (Value × Heap) :=
  ob ((newB 27 (Value.cells a0).toList .fix) h) fun v0 h0 =>
  ob ((ldN 11 v0) h0) fun v1 h1 =>
  ob ((O (.func 17) [v1]) h1) fun v2 h2 =>
  ob ((M.ofOpt (bin Try.prog .neq 30 v2 (.int .u16 0))) h2) fun v3 h3 =>
  iteV v3 (
  some (oneOf [(.slice none 0 0)], h3)) (
  ob ((ldN 11 v0) h3) fun v4 h4 =>
  ob ((O (.func 18) [v4]) h4) fun v5 h5 =>
  ob ((M.ofOpt (lenSl v5)) h5) fun v6 h6 =>
  ob ((mkSlice 24 1 24 [(.slice none 0 0)] v6 v6) h6) fun v7 h7 =>
  ob ((M.ofOpt (lenSl v5)) h7) fun v8 h8 =>
  L (runCode Try.prog O L f26_c0) (f26_k0 O L) [a0, v0, (.slice none 0 0), v5, v7, undef, undef, v1, v2, v3, v4, v5, v5, v6, v7, v5, v8, (.int .i64 0), undef, undef, undef, undef, undef, undef, undef, undef, undef, undef, undef, undef, undef] h8)
theorem f26_eq (O : Oracle) (L : Loops (Value × Heap)) (a0 : Value) (h : Heap) :
    body Try.prog O L 26 [a0] h = f26 O L a0 h := by kernel_rfl
noncomputable def f27_c0 : Code := sub [1, 1, 1, 1, 0, 1, 0, 0] (fbody Try.prog 27)
noncomputable def f27_k0 (O : Oracle) (L : Loops (Value × Heap)) : Ex → K (Value × Heap) := (blockK 0 (seqK Try.prog O L (sub [1, 1, 1, 1, 1] (fbody Try.prog 27)) (kRet Try.prog Try.f27)))
noncomputable def f27_e0_0 (O : Oracle) (L : Loops (Value × Heap)) (x0 x1 x2 x3 x4 x5 x6 x7 x8 x9 x10 x11 x12 x13 x14 x15 x16 x17 x18 x19 x20 x21 x22 x23 x24 x25 x26 x27 x28 x29 x30 x31 x32 x33 x34 x35 x36 x37 x38 x39 x40 x41 x42 x43 x44 x45 x46 x47 x48 x49 x50 x51 x52 x53 x54 : Value) (h : Heap) : Option (Value × Heap) :=
  some (oneOf [(.bool true)], h)
theorem f27_e0_0_eq (O : Oracle) (L : Loops (Value × Heap)) (x0 x1 x2 x3 x4 x5 x6 x7 x8 x9 x10 x11 x12 x13 x14 x15 x16 x17 x18 x19 x20 x21 x22 x23 x24 x25 x26 x27 x28 x29 x30 x31 x32 x33 x34 x35 x36 x37 x38 x39 x40 x41 x42 x43 x44 x45 x46 x47 x48 x49 x50 x51 x52 x53 x54 : Value) (h : Heap) :
    f27_k0 O L (.exit 0) [x0, x1, x2, x3, x4, x5, x6, x7, x8, x9, x10, x11, x12, x13, x14, x15, x16, x17, x18, x19, x20, x21, x22, x23, x24, x25, x26, x27, x28, x29, x30, x31, x32, x33, x34, x35, x36, x37, x38, x39, x40, x41, x42, x43, x44, x45, x46, x47, x48, x49, x50, x51, x52, x53, x54] h = f27_e0_0 O L x0 x1 x2 x3 x4 x5 x6 x7 x8 x9 x10 x11 x12 x13 x14 x15 x16 x17 x18 x19 x20 x21 x22 x23 x24 x25 x26 x27 x28 x29 x30 x31 x32 x33 x34 x35 x36 x37 x38 x39 x40 x41 x42 x43 x44 x45 x46 x47 x48 x49 x50 x51 x52 x53 x54 h := by kernel_rfl
noncomputable def f27_b0 (O : Oracle) (L : Loops (Value × Heap)) (k : Ex → K (Value × Heap)) (x0 x1 x2 x3 x4 x5 x6 x7 x8 x9 x10 x11 x12 x13 x14 x15 x16 x17 x18 x19 x20 x21 x22 x23 x24 x25 x26 x27 x28 x29 x30 x31 x32 x33 x34 x35 x36 x37 x38 x39 x40 x41 x42 x43 x44 x45 x46 x47 x48 x49 x50 x51 x52 x53 x54 : Value) (h : Heap) : Option (Value × Heap) :=
  ob ((M.ofOpt (lenSl x7)) h) fun v26 h26 =>
  ob ((M.ofOpt (bin Try.prog .lss 3 x9 v26)) h26) fun v27 h27 =>
  iteV v27 (
  ob ((M.ofOpt (iAddr 1 x7 x9)) h27) fun v28 h28 =>
  ob ((ld1 v28) h28) fun v29 h29 =>
  ifB (true) (
  ob ((M.ofOpt (iAddr 1 x8 x9)) h29) fun v30 h30 =>
  ob ((ld1 v30) h30) fun v31 h31 =>
  ifB (true) (
  ob ((O (.func 30) [v29, v31]) h31) fun v32 h32 =>
  ifB (true) (
  ob ((M.ofOpt (un Try.prog .not v32)) h32) fun v33 h33 =>
  iteV v33 (
  k .ret [x0, x1, x2, x3, x4, x5, (.bool false), x7, x8, x9, x10, x11, x12, x13, x14, x15, x16, x17, x18, x19, x20, x21, x22, x23, x24, x25, x26, x27, x28, x29, x30, x31, x32, x33, x34, x35, x36, x37, x38, x9, x7, v26, v27, x43, x44, x7, x9, v28, v29, x8, x9, v30, v31, v32, v33] h33) (
  ob ((M.ofOpt (bin Try.prog .add 3 x9 (.int .i64 1))) h33) fun v34 h34 =>
  k .normal [x0, x1, x2, x3, x4, x5, x6, x7, x8, v34, x10, x11, x12, x13, x14, x15, x16, x17, x18, x19, x20, x21, x22, x23, x24, x25, x26, x27, x28, x29, x30, x31, x32, x33, x34, x35, x36, x37, x38, x9, x7, v26, v27, x9, v34, x7, x9, v28, v29, x8, x9, v30, v31, v32, v33] h34))))) (
  k (.exit 0) [x0, x1, x2, x3, x4, x5, x6, x7, x8, x9, x10, x11, x12, x13, x14, x15, x16, x17, x18, x19, x20, x21, x22, x23, x24, x25, x26, x27, x28, x29, x30, x31, x32, x33, x34, x35, x36, x37, x38, x9, x7, v26, v27, x43, x44, x45, x46, x47, x48, x49, x50, x51, x52, x53, x54] h27)
theorem f27_b0_eq (O : Oracle) (L : Loops (Value × Heap)) (k : Ex → K (Value × Heap)) (x0 x1 x2 x3 x4 x5 x6 x7 x8 x9 x10 x11 x12 x13 x14 x15 x16 x17 x18 x19 x20 x21 x22 x23 x24 x25 x26 x27 x28 x29 x30 x31 x32 x33 x34 x35 x36 x37 x38 x39 x40 x41 x42 x43 x44 x45 x46 x47 x48 x49 x50 x51 x52 x53 x54 : Value) (h : Heap) :
    runCode Try.prog O L f27_c0 k [x0, x1, x2, x3, x4, x5, x6, x7, x8, x9, x10, x11, x12, x13, x14, x15, x16, x17, x18, x19, x20, x21, x22, x23, x24, x25, x26, x27, x28, x29, x30, x31, x32, x33, x34, x35, x36, x37, x38, x39, x40, x41, x42, x43, x44, x45, x46, x47, x48, x49, x50, x51, x52, x53, x54] h = f27_b0 O L k x0 x1 x2 x3 x4 x5 x6 x7 x8 x9 x10 x11 x12 x13 x14 x15 x16 x17 x18 x19 x20 x21 x22 x23 x24 x25 x26 x27 x28 x29 x30 x31 x32 x33 x34 x35 x36 x37 x38 x39 x40 x41 x42 x43 x44 x45 x46 x47 x48 x49 x50 x51 x52 x53 x54 h := by kernel_rfl
noncomputable def f27 (O : Oracle) (L : Loops (Value × Heap)) (a0 a1 a2 : Value) (h : Heap) : Option (Value × Heap) :=
  ob ((newB 27 (Value.cells a0).toList .fix) h) fun v0 h0 =>
  ob ((ldN 11 v0) h0) fun v1 h1 =>
  ob ((O (.func 26) [v1]) h1) fun v2 h2 =>
  ob ((ldN 11 v0) h2) fun v3 h3 =>
  ob ((O (.func 50) [v3]) h3) fun v4 h4 =>
  ob ((M.ofOpt (lenSl v2)) h4) fun v5 h5 =>
  ob ((M.ofOpt (lenSl v4)) h5) fun v6 h6 =>
  ob ((M.ofOpt (bin Try.prog .neq 3 v5 v6)) h6) fun v7 h7 =>
  ob ((gd v7 false (ldN 11 v0)) h7) fun v8 h8 =>
  ifB (true) (
  ob ((gd v7 false (O (.func 24) [v8])) h8) fun v9 h9 =>
  ifB (true) (
  ob ((gd v7 false (conv Try.prog 30 3 v9)) h9) fun v10 h10 =>
  ob ((gd v7 false (ldN 11 v0)) h10) fun v11 h11 =>
  ifB (chk ((gd v7 false (ldN 11 v0)) h8) v11 && (true)) (
  ob ((gd v7 false (O (.func 51) [v11])) h11) fun v12 h12 =>
  ifB (true) (
  ob ((gd v7 false (M.ofOpt (bin Try.prog .neq 3 v10 v12))) h12) fun v13 h13 =>
  ob ((M.ofOpt (pick v7 (.bool true) v13)) h13) fun v14 h14 =>
  ob ((gd v14 false (ldN 11 v0)) h14) fun v15 h15 =>
  ifB (true) (
  ob ((gd v14 false (M.ret a1)) h15) fun v16 h16 =>
  ob ((gd v14 false (M.ret a2)) h16) fun v17 h17 =>
  ob ((gd v14 false (O (.func 25) [v15, v16, v17])) h17) fun v18 h18 =>
  ifB (true) (
  ob ((gd v14 false (ldN 11 v0)) h18) fun v19 h19 =>
  ifB (chk ((gd v14 false (ldN 11 v0)) h17) v19 && (true)) (
  ob ((gd v14 false (M.ret a1)) h19) fun v20 h20 =>
  ob ((gd v14 false (M.ret a2)) h20) fun v21 h21 =>
  ob ((gd v14 false (O (.func 52) [v19, v20, v21])) h21) fun v22 h22 =>
  ifB (true) (
  ob ((gd v14 false (O (.func 30) [v18, v22])) h22) fun v23 h23 =>
  ifB (true) (
  ob ((gd v14 false (M.ofOpt (un Try.prog .not v23))) h23) fun v24 h24 =>
  ob ((M.ofOpt (pick v14 (.bool true) v24)) h24) fun v25 h25 =>
  iteV v25 (
  some (oneOf [(.bool false)], h25)) (
  L (runCode Try.prog O L f27_c0) (f27_k0 O L) [a0, a1, a2, v0, undef, undef, (.bool false), v2, v4, (.int .i64 0), v1, v2, v3, v4, v2, v5, v4, v6, v7, v7, v8, v9, v10, v11, v12, v13, v14, v14, v15, v16, v17, v18, v19, v20, v21, v22, v23, v24, v25, undef, undef, undef, undef, undef, undef, undef, undef, undef, undef, undef, undef, undef, undef, undef, undef] h25))))))))))
theorem f27_eq (O : Oracle) (L : Loops (Value × Heap)) (a0 a1 a2 : Value) (h : Heap) :
    body Try.prog O L 27 [a0, a1, a2] h = f27 O L a0 a1 a2 h := by kernel_rfl
noncomputable def f30_c0 : Code := sub [1, 1, 0, 1, 0, 0] (fbody Try.prog 30)
noncomputable def f30_k0 (O : Oracle) (L : Loops (Value × Heap)) : Ex → K (Value × Heap) := (blockK 0 (seqK Try.prog O L (sub [1, 1, 1] (fbody Try.prog 30)) (kRet Try.prog Try.f30)))
noncomputable def f30_e0_0 (O : Oracle) (L : Loops (Value × Heap)) (x0 x1 x2 x3 x4 x5 x6 x7 x8 x9 x10 x11 x12 x13 x14 x15 x16 x17 x18 x19 x20 x21 x22 x23 x24 x25 : Value) (h : Heap) : Option (Value × Heap) :=
  some (oneOf [(.bool true)], h)
theorem f30_e0_0_eq (O : Oracle) (L : Loops (Value × Heap)) (x0 x1 x2 x3 x4 x5 x6 x7 x8 x9 x10 x11 x12 x13 x14 x15 x16 x17 x18 x19 x20 x21 x22 x23 x24 x25 : Value) (h : Heap) :
    f30_k0 O L (.exit 0) [x0, x1, x2, x3, x4, x5, x6, x7, x8, x9, x10, x11, x12, x13, x14, x15, x16, x17, x18, x19, x20, x21, x22, x23, x24, x25] h = f30_e0_0 O L x0 x1 x2 x3 x4 x5 x6 x7 x8 x9 x10 x11 x12 x13 x14 x15 x16 x17 x18 x19 x20 x21 x22 x23 x24 x25 h := by kernel_rfl
noncomputable def f30_r0 (O : Oracle) (L : Loops (Value × Heap)) (x0 x1 x2 x3 x4 x5 x6 x7 x8 x9 x10 x11 x12 x13 x14 x15 x16 x17 x18 x19 x20 x21 x22 x23 x24 x25 : Value) (h : Heap) : Option (Value × Heap) :=
  some (oneOf [x4], h)
theorem f30_r0_eq (O : Oracle) (L : Loops (Value × Heap)) (x0 x1 x2 x3 x4 x5 x6 x7 x8 x9 x10 x11 x12 x13 x14 x15 x16 x17 x18 x19 x20 x21 x22 x23 x24 x25 : Value) (h : Heap) :
    f30_k0 O L .ret [x0, x1, x2, x3, x4, x5, x6, x7, x8, x9, x10, x11, x12, x13, x14, x15, x16, x17, x18, x19, x20, x21, x22, x23, x24, x25] h = f30_r0 O L x0 x1 x2 x3 x4 x5 x6 x7 x8 x9 x10 x11 x12 x13 x14 x15 x16 x17 x18 x19 x20 x21 x22 x23 x24 x25 h := by kernel_rfl
noncomputable def f30_b0 (O : Oracle) (L : Loops (Value × Heap)) (k : Ex → K (Value × Heap)) (x0 x1 x2 x3 x4 x5 x6 x7 x8 x9 x10 x11 x12 x13 x14 x15 x16 x17 x18 x19 x20 x21 x22 x23 x24 x25 : Value) (h : Heap) : Option (Value × Heap) :=
  ob ((M.ofOpt (lenSl x0)) h) fun v3 h3 =>
  ob ((M.ofOpt (bin Try.prog .lss 3 x5 v3)) h3) fun v4 h4 =>
  iteV v4 (
  ob ((M.ofOpt (iAddr 1 x0 x5)) h4) fun v5 h5 =>
  ob ((ld1 v5) h5) fun v6 h6 =>
  ifB (true) (
  ob ((M.ofOpt (iAddr 1 x1 x5)) h6) fun v7 h7 =>
  ob ((ld1 v7) h7) fun v8 h8 =>
  ifB (true) (
  ob ((M.ofOpt (bin Try.prog .neq 3 v6 v8)) h8) fun v9 h9 =>
  iteV v9 (
  k .ret [x0, x1, x2, x3, (.bool false), x5, x6, x7, x8, x9, x10, x5, x0, v3, v4, x15, x16, x0, x5, v5, v6, x1, x5, v7, v8, v9] h9) (
  ob ((M.ofOpt (bin Try.prog .add 3 x5 (.int .i64 1))) h9) fun v10 h10 =>
  k .normal [x0, x1, x2, x3, x4, v10, x6, x7, x8, x9, x10, x5, x0, v3, v4, x5, v10, x0, x5, v5, v6, x1, x5, v7, v8, v9] h10)))) (
  k (.exit 0) [x0, x1, x2, x3, x4, x5, x6, x7, x8, x9, x10, x5, x0, v3, v4, x15, x16, x17, x18, x19, x20, x21, x22, x23, x24, x25] h4)
theorem f30_b0_eq (O : Oracle) (L : Loops (Value × Heap)) (k : Ex → K (Value × Heap)) (x0 x1 x2 x3 x4 x5 x6 x7 x8 x9 x10 x11 x12 x13 x14 x15 x16 x17 x18 x19 x20 x21 x22 x23 x24 x25 : Value) (h : Heap) :
    runCode Try.prog O L f30_c0 k [x0, x1, x2, x3, x4, x5, x6, x7, x8, x9, x10, x11, x12, x13, x14, x15, x16, x17, x18, x19, x20, x21, x22, x23, x24, x25] h = f30_b0 O L k x0 x1 x2 x3 x4 x5 x6 x7 x8 x9 x10 x11 x12 x13 x14 x15 x16 x17 x18 x19 x20 x21 x22 x23 x24 x25 h := by kernel_rfl
noncomputable def f30 (O : Oracle) (L : Loops (Value × Heap)) (a0 a1 : Value) (h : Heap) : Option (Value × Heap) :=
  ob ((M.ofOpt (lenSl a0)) h) fun v0 h0 =>
  ob ((M.ofOpt (lenSl a1)) h0) fun v1 h1 =>
  ob ((M.ofOpt (bin Try.prog .neq 3 v0 v1)) h1) fun v2 h2 =>
  iteV v2 (
  some (oneOf [(.bool false)], h2)) (
  L (runCode Try.prog O L f30_c0) (f30_k0 O L) [a0, a1, undef, undef, (.bool false), (.int .i64 0), a0, v0, a1, v1, v2, undef, undef, undef, undef, undef, undef, undef, undef, undef, undef, undef, undef, undef, undef, undef] h2)
theorem f30_eq (O : Oracle) (L : Loops (Value × Heap)) (a0 a1 : Value) (h : Heap) :
    body Try.prog O L 30 [a0, a1] h = f30 O L a0 a1 h := by kernel_rfl
noncomputable def f46_c1 : Code := sub [1, 1, 0, 1, 0, 0, 1, 0, 0, 1, 0, 0] (fbody Try.prog 46)
noncomputable def f46_k1 (O : Oracle) (L : Loops (Value × Heap)) (k : Ex → K (Value × Heap)) : Ex → K (Value × Heap) := (blockK 2 (blockK 1 (seqK Try.prog O L (sub [1, 1, 0, 1, 0, 0, 1, 1] (fbody Try.prog 46)) k)))
noncomputable def f46_e1_2 (O : Oracle) (L : Loops (Value × Heap)) (k : Ex → K (Value × Heap)) (x0 x1 x2 x3 x4 x5 x6 x7 x8 x9 x10 x11 x12 x13 x14 x15 x16 x17 x18 x19 x20 x21 x22 x23 x24 x25 x26 x27 x28 x29 x30 x31 x32 x33 x34 x35 x36 x37 x38 x39 x40 : Value) (h : Heap) : Option (Value × Heap) :=
  ob ((M.ofOpt (bin Try.prog .add 3 x4 (.int .i64 1))) h) fun v30 h30 =>
  k .normal [x0, x1, x2, x3, v30, x5, x6, x7, x8, x9, x10, x11, x12, x13, x14, x4, v30, x17, x18, x19, x20, x21, x22, x23, x24, x25, x26, x27, x28, x29, x30, x31, x32, x33, x34, x35, x36, x37, x38, x39, x40] h30
theorem f46_e1_2_eq (O : Oracle) (L : Loops (Value × Heap)) (k : Ex → K (Value × Heap)) (x0 x1 x2 x3 x4 x5 x6 x7 x8 x9 x10 x11 x12 x13 x14 x15 x16 x17 x18 x19 x20 x21 x22 x23 x24 x25 x26 x27 x28 x29 x30 x31 x32 x33 x34 x35 x36 x37 x38 x39 x40 : Value) (h : Heap) :
    f46_k1 O L k (.exit 2) [x0, x1, x2, x3, x4, x5, x6, x7, x8, x9, x10, x11, x12, x13, x14, x15, x16, x17, x18, x19, x20, x21, x22, x23, x24, x25, x26, x27, x28, x29, x30, x31, x32, x33, x34, x35, x36, x37, x38, x39, x40] h = f46_e1_2 O L k x0 x1 x2 x3 x4 x5 x6 x7 x8 x9 x10 x11 x12 x13 x14 x15 x16 x17 x18 x19 x20 x21 x22 x23 x24 x25 x26 x27 x28 x29 x30 x31 x32 x33 x34 x35 x36 x37 x38 x39 x40 h := by kernel_rfl
noncomputable def f46_b1 (O : Oracle) (L : Loops (Value × Heap)) (k : Ex → K (Value × Heap)) (x0 x1 x2 x3 x4 x5 x6 x7 x8 x9 x10 x11 x12 x13 x14 x15 x16 x17 x18 x19 x20 x21 x22 x23 x24 x25 x26 x27 x28 x29 x30 x31 x32 x33 x34 x35 x36 x37 x38 x39 x40 : Value) (h : Heap) : Option (Value × Heap) :=
  ob ((M.ofOpt (fAddr 10 x3)) h) fun v13 h13 =>
  ob ((ld1 v13) h13) fun v14 h14 =>
  ob ((M.ofOpt (iAddr 1 v14 x4)) h14) fun v15 h15 =>
  ob ((ld1 v15) h15) fun v16 h16 =>
  ob ((M.ofOpt (lenSl v16)) h16) fun v17 h17 =>
  ob ((M.ofOpt (bin Try.prog .lss 3 x5 v17)) h17) fun v18 h18 =>
  iteV v18 (
  ob ((M.ofOpt (bin Try.prog .neq 3 x4 x5)) h18) fun v19 h19 =>
  iteV v19 (
  ob ((M.ofOpt (fAddr 10 x3)) h19) fun v20 h20 =>
  ob ((ld1 v20) h20) fun v21 h21 =>
  ob ((M.ofOpt (iAddr 1 v21 x4)) h21) fun v22 h22 =>
  ob ((ld1 v22) h22) fun v23 h23 =>
  ob ((M.ofOpt (bin Try.prog .add 3 x4 (.int .i64 1))) h23) fun v24 h24 =>
  ob ((M.ofOpt (bin Try.prog .rem 3 v24 (.int .i64 3))) h24) fun v25 h25 =>
  ob ((M.ofOpt (iAddr 1 v23 x5)) h25) fun v26 h26 =>
  ob ((stN 1 v26 v25) h26) fun v27 h27 =>
  ob ((M.ofOpt (bin Try.prog .add 3 x5 (.int .i64 1))) h27) fun v28 h28 =>
  k .normal [x0, x1, x2, x3, x4, v28, x6, x7, x8, x9, x10, x11, x12, x13, x14, x15, x16, x5, v13, v14, x4, v15, v16, v17, v18, x5, v28, x4, x5, v19, v20, v21, x4, v22, v23, x5, x4, v24, v25, v26, x40] h28) (
  ob ((M.ofOpt (bin Try.prog .add 3 x5 (.int .i64 1))) h19) fun v29 h29 =>
  k .normal [x0, x1, x2, x3, x4, v29, x6, x7, x8, x9, x10, x11, x12, x13, x14, x15, x16, x5, v13, v14, x4, v15, v16, v17, v18, x5, v29, x4, x5, v19, x30, x31, x32, x33, x34, x35, x36, x37, x38, x39, x40] h29)) (
  k (.exit 2) [x0, x1, x2, x3, x4, x5, x6, x7, x8, x9, x10, x11, x12, x13, x14, x15, x16, x5, v13, v14, x4, v15, v16, v17, v18, x25, x26, x27, x28, x29, x30, x31, x32, x33, x34, x35, x36, x37, x38, x39, x40] h18)
theorem f46_b1_eq (O : Oracle) (L : Loops (Value × Heap)) (k : Ex → K (Value × Heap)) (x0 x1 x2 x3 x4 x5 x6 x7 x8 x9 x10 x11 x12 x13 x14 x15 x16 x17 x18 x19 x20 x21 x22 x23 x24 x25 x26 x27 x28 x29 x30 x31 x32 x33 x34 x35 x36 x37 x38 x39 x40 : Value) (h : Heap) :
    runCode Try.prog O L f46_c1 k [x0, x1, x2, x3, x4, x5, x6, x7, x8, x9, x10, x11, x12, x13, x14, x15, x16, x17, x18, x19, x20, x21, x22, x23, x24, x25, x26, x27, x28, x29, x30, x31, x32, x33, x34, x35, x36, x37, x38, x39, x40] h = f46_b1 O L k x0 x1 x2 x3 x4 x5 x6 x7 x8 x9 x10 x11 x12 x13 x14 x15 x16 x17 x18 x19 x20 x21 x22 x23 x24 x25 x26 x27 x28 x29 x30 x31 x32 x33 x34 x35 x36 x37 x38 x39 x40 h := by kernel_rfl
noncomputable def f46_c0 : Code := sub [1, 1, 0, 1, 0, 0] (fbody Try.prog 46)
noncomputable def f46_k0 (O : Oracle) (L : Loops (Value × Heap)) : Ex → K (Value × Heap) := (blockK 0 (seqK Try.prog O L (sub [1, 1, 1] (fbody Try.prog 46)) (kRet Try.prog Try.f46)))
noncomputable def f46_e0_0 (O : Oracle) (L : Loops (Value × Heap)) (x0 x1 x2 x3 x4 x5 x6 x7 x8 x9 x10 x11 x12 x13 x14 x15 x16 x17 x18 x19 x20 x21 x22 x23 x24 x25 x26 x27 x28 x29 x30 x31 x32 x33 x34 x35 x36 x37 x38 x39 x40 : Value) (h : Heap) : Option (Value × Heap) :=
  ob ((ldN 11 x3) h) fun v10 h10 =>
  ob ((stN 11 x2 v10) h10) fun v11 h11 =>
  ob ((ldN 11 x2) h11) fun w12 _ => some (oneOf [w12], h11)
theorem f46_e0_0_eq (O : Oracle) (L : Loops (Value × Heap)) (x0 x1 x2 x3 x4 x5 x6 x7 x8 x9 x10 x11 x12 x13 x14 x15 x16 x17 x18 x19 x20 x21 x22 x23 x24 x25 x26 x27 x28 x29 x30 x31 x32 x33 x34 x35 x36 x37 x38 x39 x40 : Value) (h : Heap) :
    f46_k0 O L (.exit 0) [x0, x1, x2, x3, x4, x5, x6, x7, x8, x9, x10, x11, x12, x13, x14, x15, x16, x17, x18, x19, x20, x21, x22, x23, x24, x25, x26, x27, x28, x29, x30, x31, x32, x33, x34, x35, x36, x37, x38, x39, x40] h = f46_e0_0 O L x0 x1 x2 x3 x4 x5 x6 x7 x8 x9 x10 x11 x12 x13 x14 x15 x16 x17 x18 x19 x20 x21 x22 x23 x24 x25 x26 x27 x28 x29 x30 x31 x32 x33 x34 x35 x36 x37 x38 x39 x40 h := by kernel_rfl
noncomputable def f46_b0 (O : Oracle) (L : Loops (Value × Heap)) (k : Ex → K (Value × Heap)) (x0 x1 x2 x3 x4 x5 x6 x7 x8 x9 x10 x11 x12 x13 x14 x15 x16 x17 x18 x19 x20 x21 x22 x23 x24 x25 x26 x27 x28 x29 x30 x31 x32 x33 x34 x35 x36 x37 x38 x39 x40 : Value) (h : Heap) : Option (Value × Heap) :=
  ob ((M.ofOpt (fAddr 10 x3)) h) fun v4 h4 =>
  ob ((ld1 v4) h4) fun v5 h5 =>
  ob ((M.ofOpt (lenSl v5)) h5) fun v6 h6 =>
  ob ((M.ofOpt (bin Try.prog .lss 3 x4 v6)) h6) fun v7 h7 =>
  ob ((gd v7 true (M.ret x0)) h7) fun v8 h8 =>
  ob ((M.ofOpt (pick v7 v8 (.bool false))) h8) fun v9 h9 =>
  iteV v9 (
  L (runCode Try.prog O L f46_c1) (f46_k1 O L k) [x0, x1, x2, x3, x4, (.int .i64 0), x6, x4, v4, v5, v6, v7, v7, v8, v9, x15, x16, x17, x18, x19, x20, x21, x22, x23, x24, x25, x26, x27, x28, x29, x30, x31, x32, x33, x34, x35, x36, x37, x38, x39, x40] h9) (
  k (.exit 0) [x0, x1, x2, x3, x4, x5, x6, x4, v4, v5, v6, v7, v7, v8, v9, x15, x16, x17, x18, x19, x20, x21, x22, x23, x24, x25, x26, x27, x28, x29, x30, x31, x32, x33, x34, x35, x36, x37, x38, x39, x40] h9)
theorem f46_b0_eq (O : Oracle) (L : Loops (Value × Heap)) (k : Ex → K (Value × Heap)) (x0 x1 x2 x3 x4 x5 x6 x7 x8 x9 x10 x11 x12 x13 x14 x15 x16 x17 x18 x19 x20 x21 x22 x23 x24 x25 x26 x27 x28 x29 x30 x31 x32 x33 x34 x35 x36 x37 x38 x39 x40 : Value) (h : Heap) :
    runCode Try.prog O L f46_c0 k [x0, x1, x2, x3, x4, x5, x6, x7, x8, x9, x10, x11, x12, x13, x14, x15, x16, x17, x18, x19, x20, x21, x22, x23, x24, x25, x26, x27, x28, x29, x30, x31, x32, x33, x34, x35, x36, x37, x38, x39, x40] h = f46_b0 O L k x0 x1 x2 x3 x4 x5 x6 x7 x8 x9 x10 x11 x12 x13 x14 x15 x16 x17 x18 x19 x20 x21 x22 x23 x24 x25 x26 x27 x28 x29 x30 x31 x32 x33 x34 x35 x36 x37 x38 x39 x40 h := by kernel_rfl
noncomputable def f46 (O : Oracle) (L : Loops (Value × Heap)) (a0 : Value) (h : Heap) : Option (Value × Heap) :=
  ob ((newB 27 [(.int .i64 0), (.slice none 0 0), (.int .i64 0), (.int .i64 0), (.int .i64 0), (.int .i64 0), (.int .i64 0), (.int .i64 0), (.slice none 0 0), (.int .u16 0), (.slice none 0 0)] .fix) h) fun v0 h0 =>
  ob ((O (.func 15) [(.int .u8 1), (.int .u8 0), (.int .u8 0), (.int .u16 7), (.slice none 0 0)]) h0) fun v1 h1 =>
  ob ((newB 27 [(.int .i64 0), (.slice none 0 0), (.int .i64 0), (.int .i64 0), (.int .i64 0), (.int .i64 0), (.int .i64 0), (.int .i64 0), (.slice none 0 0), (.int .u16 0), (.slice none 0 0)] .fix) h1) fun v2 h2 =>
  ob ((stN 11 v2 v1) h2) fun v3 h3 =>
  L (runCode Try.prog O L f46_c0) (f46_k0 O L) [a0, undef, v0, v2, (.int .i64 0), undef, v1, undef, undef, undef, undef, undef, undef, undef, undef, undef, undef, undef, undef, undef, undef, undef, undef, undef, undef, undef, undef, undef, undef, undef, undef, undef, undef, undef, undef, undef, undef, undef, undef, undef, undef] h3
theorem f46_eq (O : Oracle) (L : Loops (Value × Heap)) (a0 : Value) (h : Heap) :
    body Try.prog O L 46 [a0] h = f46 O L a0 h := by kernel_rfl
noncomputable def f47_c0 : Code := sub [1, 1, 0, 0, 0] (fbody Try.prog 47)
noncomputable def f47_k0 (O : Oracle) (L : Loops (Value × Heap)) : Ex → K (Value × Heap) := (blockK 0 (seqK Try.prog O L (sub [1, 1, 1] (fbody Try.prog 47)) (kRet Try.prog Try.f47)))
noncomputable def f47_e0_0 (O : Oracle) (L : Loops (Value × Heap)) (x0 x1 x2 x3 x4 x5 x6 x7 x8 x9 x10 x11 x12 x13 x14 x15 x16 x17 x18 x19 x20 x21 x22 x23 x24 x25 x26 x27 x28 x29 x30 x31 x32 x33 x34 x35 x36 x37 x38 x39 x40 x41 : Value) (h : Heap) : Option (Value × Heap) :=
  some (oneOf [x8, (.bool true)], h)
theorem f47_e0_0_eq (O : Oracle) (L : Loops (Value × Heap)) (x0 x1 x2 x3 x4 x5 x6 x7 x8 x9 x10 x11 x12 x13 x14 x15 x16 x17 x18 x19 x20 x21 x22 x23 x24 x25 x26 x27 x28 x29 x30 x31 x32 x33 x34 x35 x36 x37 x38 x39 x40 x41 : Value) (h : Heap) :
    f47_k0 O L (.exit 0) [x0, x1, x2, x3, x4, x5, x6, x7, x8, x9, x10, x11, x12, x13, x14, x15, x16, x17, x18, x19, x20, x21, x22, x23, x24, x25, x26, x27, x28, x29, x30, x31, x32, x33, x34, x35, x36, x37, x38, x39, x40, x41] h = f47_e0_0 O L x0 x1 x2 x3 x4 x5 x6 x7 x8 x9 x10 x11 x12 x13 x14 x15 x16 x17 x18 x19 x20 x21 x22 x23 x24 x25 x26 x27 x28 x29 x30 x31 x32 x33 x34 x35 x36 x37 x38 x39 x40 x41 h := by kernel_rfl
noncomputable def f47_r0 (O : Oracle) (L : Loops (Value × Heap)) (x0 x1 x2 x3 x4 x5 x6 x7 x8 x9 x10 x11 x12 x13 x14 x15 x16 x17 x18 x19 x20 x21 x22 x23 x24 x25 x26 x27 x28 x29 x30 x31 x32 x33 x34 x35 x36 x37 x38 x39 x40 x41 : Value) (h : Heap) : Option (Value × Heap) :=
  some (oneOf [x6, x7], h)
theorem f47_r0_eq (O : Oracle) (L : Loops (Value × Heap)) (x0 x1 x2 x3 x4 x5 x6 x7 x8 x9 x10 x11 x12 x13 x14 x15 x16 x17 x18 x19 x20 x21 x22 x23 x24 x25 x26 x27 x28 x29 x30 x31 x32 x33 x34 x35 x36 x37 x38 x39 x40 x41 : Value) (h : Heap) :
    f47_k0 O L .ret [x0, x1, x2, x3, x4, x5, x6, x7, x8, x9, x10, x11, x12, x13, x14, x15, x16, x17, x18, x19, x20, x21, x22, x23, x24, x25, x26, x27, x28, x29, x30, x31, x32, x33, x34, x35, x36, x37, x38, x39, x40, x41] h = f47_r0 O L x0 x1 x2 x3 x4 x5 x6 x7 x8 x9 x10 x11 x12 x13 x14 x15 x16 x17 x18 x19 x20 x21 x22 x23 x24 x25 x26 x27 x28 x29 x30 x31 x32 x33 x34 x35 x36 x37 x38 x39 x40 x41 h := by kernel_rfl
noncomputable def f47_b0 (O : Oracle) (L : Loops (Value × Heap)) (k : Ex → K (Value × Heap)) (x0 x1 x2 x3 x4 x5 x6 x7 x8 x9 x10 x11 x12 x13 x14 x15 x16 x17 x18 x19 x20 x21 x22 x23 x24 x25 x26 x27 x28 x29 x30 x31 x32 x33 x34 x35 x36 x37 x38 x39 x40 x41 : Value) (h : Heap) : Option (Value × Heap) :=
  ob ((M.ofOpt (bin Try.prog .neq 3 x1 x2)) h) fun v2 h2 =>
  iteV v2 (
  ob ((M.ofOpt (fAddr 10 x3)) h2) fun v3 h3 =>
  ob ((ld1 v3) h3) fun v4 h4 =>
  ob ((M.ofOpt (iAddr 1 v4 x1)) h4) fun v5 h5 =>
  ob ((ld1 v5) h5) fun v6 h6 =>
  ob ((M.ofOpt (iAddr 1 v6 x2)) h6) fun v7 h7 =>
  ob ((ld1 v7) h7) fun v8 h8 =>
  ob ((M.ofOpt (lenSl x8)) h8) fun v9 h9 =>
  ob ((M.ofOpt (fAddr 0 x3)) h9) fun v10 h10 =>
  ob ((ld1 v10) h10) fun v11 h11 =>
  ob ((M.ofOpt (bin Try.prog .eql 3 v9 v11)) h11) fun v12 h12 =>
  ob ((gd v12 false (ldN 11 x3)) h12) fun v13 h13 =>
  ob ((gd v12 false (M.ret x1)) h13) fun v14 h14 =>
  ob ((gd v12 false (O (.func 22) [v13, v14])) h14) fun v15 h15 =>
  ob ((gd v12 false (M.ret v8)) h15) fun v16 h16 =>
  ob ((gd v12 false (O (.func 66) [v15, v16])) h16) fun v17 h17 =>
  ob ((gd v12 false (M.ofOpt (un Try.prog .not v17))) h17) fun v18 h18 =>
  ob ((M.ofOpt (pick v12 (.bool true) v18)) h18) fun v19 h19 =>
  iteV v19 (
  k .ret [x0, x1, x2, x3, x4, x5, (.slice none 0 0), (.bool false), x8, v8, x10, x11, x1, x2, v2, v3, v4, x1, v5, v6, x2, v7, v8, x8, v9, v10, v11, v12, v12, v13, v14, v15, v16, v17, v18, v19, x36, x37, x38, x39, x40, x41] h19) (
  ob ((bldSlice 3 1 1 [(.int .i64 0)] [(0, v8)]) h19) fun v20 h20 =>
  ob ((app 3 1 8 x8 v20) h20) fun v21 h21 =>
  k .normal [x0, v8, x2, x3, x4, x5, x6, x7, v21, v8, x10, x11, x1, x2, v2, v3, v4, x1, v5, v6, x2, v7, v8, x8, v9, v10, v11, v12, v12, v13, v14, v15, v16, v17, v18, v19, x8, v8, v20, v21, v8, x41] h21)) (
  k (.exit 0) [x0, x1, x2, x3, x4, x5, x6, x7, x8, x9, x10, x11, x1, x2, v2, x15, x16, x17, x18, x19, x20, x21, x22, x23, x24, x25, x26, x27, x28, x29, x30, x31, x32, x33, x34, x35, x36, x37, x38, x39, x40, x41] h2)
theorem f47_b0_eq (O : Oracle) (L : Loops (Value × Heap)) (k : Ex → K (Value × Heap)) (x0 x1 x2 x3 x4 x5 x6 x7 x8 x9 x10 x11 x12 x13 x14 x15 x16 x17 x18 x19 x20 x21 x22 x23 x24 x25 x26 x27 x28 x29 x30 x31 x32 x33 x34 x35 x36 x37 x38 x39 x40 x41 : Value) (h : Heap) :
    runCode Try.prog O L f47_c0 k [x0, x1, x2, x3, x4, x5, x6, x7, x8, x9, x10, x11, x12, x13, x14, x15, x16, x17, x18, x19, x20, x21, x22, x23, x24, x25, x26, x27, x28, x29, x30, x31, x32, x33, x34, x35, x36, x37, x38, x39, x40, x41] h = f47_b0 O L k x0 x1 x2 x3 x4 x5 x6 x7 x8 x9 x10 x11 x12 x13 x14 x15 x16 x17 x18 x19 x20 x21 x22 x23 x24 x25 x26 x27 x28 x29 x30 x31 x32 x33 x34 x35 x36 x37 x38 x39 x40 x41 h := by kernel_rfl
noncomputable def f47 (O : Oracle) (L : Loops (Value × Heap)) (a0 a1 a2 : Value) (h : Heap) : Option (Value × Heap) :=
  ob ((newB 27 (Value.cells a0).toList .fix) h) fun v0 h0 =>
  ob ((bldSlice 3 1 1 [(.int .i64 0)] [(0, a1)]) h0) fun v1 h1 =>
  L (runCode Try.prog O L f47_c0) (f47_k0 O L) [a0, a1, a2, v0, undef, undef, (.slice none 0 0), (.bool false), v1, undef, a1, v1, undef, undef, undef, undef, undef, undef, undef, undef, undef, undef, undef, undef, undef, undef, undef, undef, undef, undef, undef, undef, undef, undef, undef, undef, undef, undef, undef, undef, undef, undef] h1
theorem f47_eq (O : Oracle) (L : Loops (Value × Heap)) (a0 a1 a2 : Value) (h : Heap) :
    body Try.prog O L 47 [a0, a1, a2] h = f47 O L a0 a1 a2 h := by kernel_rfl
noncomputable def f48_c0 : Code := sub [1, 0, 1, 1, 0, 1, 0, 0] (fbody Try.prog 48)
noncomputable def f48_k0 (O : Oracle) (L : Loops (Value × Heap)) : Ex → K (Value × Heap) := (blockK 0 (seqK Try.prog O L (sub [1, 0, 1, 1, 1] (fbody Try.prog 48)) (kRet Try.prog Try.f48)))
noncomputable def f48_e0_0 (O : Oracle) (L : Loops (Value × Heap)) (x0 x1 x2 x3 x4 x5 x6 x7 x8 x9 x10 x11 x12 x13 x14 x15 x16 x17 x18 x19 x20 x21 x22 x23 x24 x25 x26 x27 x28 x29 x30 x31 x32 x33 x34 x35 x36 x37 x38 x39 x40 x41 x42 x43 x44 x45 x46 x47 x48 x49 x50 x51 x52 x53 : Value) (h : Heap) : Option (Value × Heap) :=
  ob ((M.ofOpt (nilChk x0)) h) fun v29 h29 =>
  ob ((M.ofOpt (fAddr 0 v29)) h29) fun v30 h30 =>
  ob ((ld1 v30) h30) fun v31 h31 =>
  ob ((M.ofOpt (iAddr 1 v31 x1)) h31) fun v32 h32 =>
  ob ((stN 1 v32 (.int .i64 2)) h32) fun v33 h33 =>
  some (oneOf [(.bool false)], h33)
theorem f48_e0_0_eq (O : Oracle) (L : Loops (Value × Heap)) (x0 x1 x2 x3 x4 x5 x6 x7 x8 x9 x10 x11 x12 x13 x14 x15 x16 x17 x18 x19 x20 x21 x22 x23 x24 x25 x26 x27 x28 x29 x30 x31 x32 x33 x34 x35 x36 x37 x38 x39 x40 x41 x42 x43 x44 x45 x46 x47 x48 x49 x50 x51 x52 x53 : Value) (h : Heap) :
    f48_k0 O L (.exit 0) [x0, x1, x2, x3, x4, x5, x6, x7, x8, x9, x10, x11, x12, x13, x14, x15, x16, x17, x18, x19, x20, x21, x22, x23, x24, x25, x26, x27, x28, x29, x30, x31, x32, x33, x34, x35, x36, x37, x38, x39, x40, x41, x42, x43, x44, x45, x46, x47, x48, x49, x50, x51, x52, x53] h = f48_e0_0 O L x0 x1 x2 x3 x4 x5 x6 x7 x8 x9 x10 x11 x12 x13 x14 x15 x16 x17 x18 x19 x20 x21 x22 x23 x24 x25 x26 x27 x28 x29 x30 x31 x32 x33 x34 x35 x36 x37 x38 x39 x40 x41 x42 x43 x44 x45 x46 x47 x48 x49 x50 x51 x52 x53 h := by kernel_rfl
noncomputable def f48_r0 (O : Oracle) (L : Loops (Value × Heap)) (x0 x1 x2 x3 x4 x5 x6 x7 x8 x9 x10 x11 x12 x13 x14 x15 x16 x17 x18 x19 x20 x21 x22 x23 x24 x25 x26 x27 x28 x29 x30 x31 x32 x33 x34 x35 x36 x37 x38 x39 x40 x41 x42 x43 x44 x45 x46 x47 x48 x49 x50 x51 x52 x53 : Value) (h : Heap) : Option (Value × Heap) :=
  some (oneOf [x4], h)
theorem f48_r0_eq (O : Oracle) (L : Loops (Value × Heap)) (x0 x1 x2 x3 x4 x5 x6 x7 x8 x9 x10 x11 x12 x13 x14 x15 x16 x17 x18 x19 x20 x21 x22 x23 x24 x25 x26 x27 x28 x29 x30 x31 x32 x33 x34 x35 x36 x37 x38 x39 x40 x41 x42 x43 x44 x45 x46 x47 x48 x49 x50 x51 x52 x53 : Value) (h : Heap) :
    f48_k0 O L .ret [x0, x1, x2, x3, x4, x5, x6, x7, x8, x9, x10, x11, x12, x13, x14, x15, x16, x17, x18, x19, x20, x21, x22, x23, x24, x25, x26, x27, x28, x29, x30, x31, x32, x33, x34, x35, x36, x37, x38, x39, x40, x41, x42, x43, x44, x45, x46, x47, x48, x49, x50, x51, x52, x53] h = f48_r0 O L x0 x1 x2 x3 x4 x5 x6 x7 x8 x9 x10 x11 x12 x13 x14 x15 x16 x17 x18 x19 x20 x21 x22 x23 x24 x25 x26 x27 x28 x29 x30 x31 x32 x33 x34 x35 x36 x37 x38 x39 x40 x41 x42 x43 x44 x45 x46 x47 x48 x49 x50 x51 x52 x53 h := by kernel_rfl
noncomputable def f48_b0 (O : Oracle) (L : Loops (Value × Heap)) (k : Ex → K (Value × Heap)) (x0 x1 x2 x3 x4 x5 x6 x7 x8 x9 x10 x11 x12 x13 x14 x15 x16 x17 x18 x19 x20 x21 x22 x23 x24 x25 x26 x27 x28 x29 x30 x31 x32 x33 x34 x35 x36 x37 x38 x39 x40 x41 x42 x43 x44 x45 x46 x47 x48 x49 x50 x51 x52 x53 : Value) (h : Heap) : Option (Value × Heap) :=
  ob ((M.ofOpt (bin Try.prog .lss 3 x21 x20)) h) fun v11 h11 =>
  iteV v11 (
  ob ((M.ofOpt (iAddr 1 x19 x21)) h11) fun v12 h12 =>
  ob ((ld1 v12) h12) fun v13 h13 =>
  ob ((M.ofOpt (nilChk x0)) h13) fun v14 h14 =>
  ob ((M.ofOpt (fAddr 0 v14)) h14) fun v15 h15 =>
  ob ((ld1 v15) h15) fun v16 h16 =>
  ob ((M.ofOpt (iAddr 1 v16 v13)) h16) fun v17 h17 =>
  ob ((ld1 v17) h17) fun v18 h18 =>
  ob ((M.ofOpt (bin Try.prog .eql 3 v18 (.int .i64 1))) h18) fun v19 h19 =>
  iteV v19 (
  k .ret [x0, x1, x2, x3, (.bool true), x5, v13, x7, x8, x9, x10, x11, x12, x13, x14, x15, x16, x17, x18, x19, x20, x21, v11, v12, v13, v19, x0, v14, v15, v16, v13, v17, v18, v19, x34, x35, x36, x37, x38, x39, x40, x41, x42, x43, x44, x45, x46, x47, x48, x49, x50, x51, x52, x53] h19) (
  ob ((M.ofOpt (nilChk x0)) h19) fun v20 h20 =>
  ob ((M.ofOpt (fAddr 0 v20)) h20) fun v21 h21 =>
  ob ((ld1 v21) h21) fun v22 h22 =>
  ob ((M.ofOpt (iAddr 1 v22 v13)) h22) fun v23 h23 =>
  ob ((ld1 v23) h23) fun v24 h24 =>
  ob ((M.ofOpt (bin Try.prog .eql 3 v24 (.int .i64 2))) h24) fun v25 h25 =>
  iteV v25 (
  ob ((M.ofOpt (bin Try.prog .add 3 x21 (.int .i64 1))) h25) fun v26 h26 =>
  k .normal [x0, x1, x2, x3, x4, x5, v13, x7, x8, x9, x10, x11, x12, x13, x14, x15, x16, x17, x18, x19, x20, v26, v11, v12, v13, v19, x0, v14, v15, v16, v13, v17, v18, v19, v25, x0, v20, v21, v22, v13, v23, v24, v25, x43, x44, x45, x46, v26, x48, x49, x50, x51, x52, x53] h26) (
  ob ((O (.func 48) [x0, v13]) h25) fun v27 h27 =>
  iteV v27 (
  k .ret [x0, x1, x2, x3, (.bool true), x5, v13, x7, x8, x9, x10, x11, x12, x13, x14, x15, x16, x17, x18, x19, x20, x21, v11, v12, v13, v19, x0, v14, v15, v16, v13, v17, v18, v19, v25, x0, v20, v21, v22, v13, v23, v24, v25, v27, x0, v13, v27, x47, x48, x49, x50, x51, x52, x53] h27) (
  ob ((M.ofOpt (bin Try.prog .add 3 x21 (.int .i64 1))) h27) fun v28 h28 =>
  k .normal [x0, x1, x2, x3, x4, x5, v13, x7, x8, x9, x10, x11, x12, x13, x14, x15, x16, x17, x18, x19, x20, v28, v11, v12, v13, v19, x0, v14, v15, v16, v13, v17, v18, v19, v25, x0, v20, v21, v22, v13, v23, v24, v25, v27, x0, v13, v27, v28, x48, x49, x50, x51, x52, x53] h28)))) (
  k (.exit 0) [x0, x1, x2, x3, x4, x5, x6, x7, x8, x9, x10, x11, x12, x13, x14, x15, x16, x17, x18, x19, x20, x21, v11, x23, x24, x25, x26, x27, x28, x29, x30, x31, x32, x33, x34, x35, x36, x37, x38, x39, x40, x41, x42, x43, x44, x45, x46, x47, x48, x49, x50, x51, x52, x53] h11)
theorem f48_b0_eq (O : Oracle) (L : Loops (Value × Heap)) (k : Ex → K (Value × Heap)) (x0 x1 x2 x3 x4 x5 x6 x7 x8 x9 x10 x11 x12 x13 x14 x15 x16 x17 x18 x19 x20 x21 x22 x23 x24 x25 x26 x27 x28 x29 x30 x31 x32 x33 x34 x35 x36 x37 x38 x39 x40 x41 x42 x43 x44 x45 x46 x47 x48 x49 x50 x51 x52 x53 : Value) (h : Heap) :
    runCode Try.prog O L f48_c0 k [x0, x1, x2, x3, x4, x5, x6, x7, x8, x9, x10, x11, x12, x13, x14, x15, x16, x17, x18, x19, x20, x21, x22, x23, x24, x25, x26, x27, x28, x29, x30, x31, x32, x33, x34, x35, x36, x37, x38, x39, x40, x41, x42, x43, x44, x45, x46, x47, x48, x49, x50, x51, x52, x53] h = f48_b0 O L k x0 x1 x2 x3 x4 x5 x6 x7 x8 x9 x10 x11 x12 x13 x14 x15 x16 x17 x18 x19 x20 x21 x22 x23 x24 x25 x26 x27 x28 x29 x30 x31 x32 x33 x34 x35 x36 x37 x38 x39 x40 x41 x42 x43 x44 x45 x46 x47 x48 x49 x50 x51 x52 x53 h := by kernel_rfl
noncomputable def f48 (O : Oracle) (L : Loops (Value × Heap)) (a0 a1 : Value) (h : Heap) : Option (Value × Heap) :=
  ob ((M.ofOpt (nilChk a0)) h) fun v0 h0 =>
  ob ((M.ofOpt (fAddr 0 v0)) h0) fun v1 h1 =>
  ob ((ld1 v1) h1) fun v2 h2 =>
  ob ((M.ofOpt (iAddr 1 v2 a1)) h2) fun v3 h3 =>
  ob ((stN 1 v3 (.int .i64 1)) h3) fun v4 h4 =>
  ob ((M.ofOpt (nilChk a0)) h4) fun v5 h5 =>
  ob ((M.ofOpt (fAddr 1 v5)) h5) fun v6 h6 =>
  ob ((ld1 v6) h6) fun v7 h7 =>
  ob ((M.ofOpt (iAddr 1 v7 a1)) h7) fun v8 h8 =>
  ob ((ld1 v8) h8) fun v9 h9 =>
  ob ((M.ofOpt (lenSl v9)) h9) fun v10 h10 =>
  L (runCode Try.prog O L f48_c0) (f48_k0 O L) [a0, a1, undef, undef, (.bool false), undef, undef, a0, v0, v1, v2, a1, v3, a0, v5, v6, v7, a1, v8, v9, v10, (.int .i64 0), undef, undef, undef, undef, undef, undef, undef, undef, undef, undef, undef, undef, undef, undef, undef, undef, undef, undef, undef, undef, undef, undef, undef, undef, undef, undef, undef, undef, undef, undef, undef, undef] h10
theorem f48_eq (O : Oracle) (L : Loops (Value × Heap)) (a0 a1 : Value) (h : Heap) :
    body Try.prog O L 48 [a0, a1] h = f48 O L a0 a1 h := by kernel_rfl
noncomputable def f49_c0 : Code := sub [1, 1, 0, 1, 0, 0] (fbody Try.prog 49)
noncomputable def f49_k0 (O : Oracle) (L : Loops (Value × Heap)) : Ex → K (Value × Heap) := (blockK 0 (seqK Try.prog O L (sub [1, 1, 1] (fbody Try.prog 49)) (kRet Try.prog Try.f49)))
noncomputable def f49_e0_0 (O : Oracle) (L : Loops (Value × Heap)) (x0 x1 x2 x3 x4 x5 x6 x7 x8 x9 x10 x11 x12 x13 x14 x15 x16 x17 x18 x19 x20 x21 x22 x23 x24 x25 x26 x27 x28 x29 x30 x31 x32 x33 x34 x35 x36 x37 x38 x39 x40 x41 x42 x43 x44 x45 x46 x47 x48 x49 x50 x51 x52 x53 x54 x55 x56 x57 x58 x59 x60 x61 x62 x63 : Value) (h : Heap) : Option (Value × Heap) :=
  ob ((O (.func 44) [x7]) h) fun v44 h44 =>
  ob ((O (.func 45) [x7]) h44) fun v45 h45 =>
  some (oneOf [v45], h45)
theorem f49_e0_0_eq (O : Oracle) (L : Loops (Value × Heap)) (x0 x1 x2 x3 x4 x5 x6 x7 x8 x9 x10 x11 x12 x13 x14 x15 x16 x17 x18 x19 x20 x21 x22 x23 x24 x25 x26 x27 x28 x29 x30 x31 x32 x33 x34 x35 x36 x37 x38 x39 x40 x41 x42 x43 x44 x45 x46 x47 x48 x49 x50 x51 x52 x53 x54 x55 x56 x57 x58 x59 x60 x61 x62 x63 : Value) (h : Heap) :
    f49_k0 O L (.exit 0) [x0, x1, x2, x3, x4, x5, x6, x7, x8, x9, x10, x11, x12, x13, x14, x15, x16, x17, x18, x19, x20, x21, x22, x23, x24, x25, x26, x27, x28, x29, x30, x31, x32, x33, x34, x35, x36, x37, x38, x39, x40, x41, x42, x43, x44, x45, x46, x47, x48, x49, x50, x51, x52, x53, x54, x55, x56, x57, x58, x59, x60, x61, x62, x63] h = f49_e0_0 O L x0 x1 x2 x3 x4 x5 x6 x7 x8 x9 x10 x11 x12 x13 x14 x15 x16 x17 x18 x19 x20 x21 x22 x23 x24 x25 x26 x27 x28 x29 x30 x31 x32 x33 x34 x35 x36 x37 x38 x39 x40 x41 x42 x43 x44 x45 x46 x47 x48 x49 x50 x51 x52 x53 x54 x55 x56 x57 x58 x59 x60 x61 x62 x63 h := by kernel_rfl
noncomputable def f49_b0 (O : Oracle) (L : Loops (Value × Heap)) (k : Ex → K (Value × Heap)) (x0 x1 x2 x3 x4 x5 x6 x7 x8 x9 x10 x11 x12 x13 x14 x15 x16 x17 x18 x19 x20 x21 x22 x23 x24 x25 x26 x27 x28 x29 x30 x31 x32 x33 x34 x35 x36 x37 x38 x39 x40 x41 x42 x43 x44 x45 x46 x47 x48 x49 x50 x51 x52 x53 x54 x55 x56 x57 x58 x59 x60 x61 x62 x63 : Value) (h : Heap) : Option (Value × Heap) :=
  ob ((M.ofOpt (bin Try.prog .lss 3 x12 x11)) h) fun v4 h4 =>
  iteV v4 (
  ob ((M.ofOpt (fAddr 0 x4)) h4) fun v5 h5 =>
  ob ((ld1 v5) h5) fun v6 h6 =>
  ifB (true) (
  ob ((M.ofOpt (bin Try.prog .eql 3 x12 v6)) h6) fun v7 h7 =>
  ob ((gd v7 false (M.ret x12)) h7) fun v8 h8 =>
  ob ((gd v7 false (M.ofOpt (fAddr 1 x4))) h8) fun v9 h9 =>
  ob ((gd v7 false (ld1 v9)) h9) fun v10 h10 =>
  ifB (true) (
  ob ((gd v7 false (M.ofOpt (bin Try.prog .eql 3 v8 v10))) h10) fun v11 h11 =>
  ob ((M.ofOpt (pick v7 (.bool true) v11)) h11) fun v12 h12 =>
  ob ((gd v12 false (M.ofOpt (fAddr 10 x3))) h12) fun v13 h13 =>
  ob ((gd v12 false (ld1 v13)) h13) fun v14 h14 =>
  ifB (true) (
  ob ((gd v12 false (M.ofOpt (fAddr 0 x4))) h14) fun v15 h15 =>
  ob ((gd v12 false (ld1 v15)) h15) fun v16 h16 =>
  ifB (true) (
  ob ((gd v12 false (M.ofOpt (iAddr 1 v14 v16))) h16) fun v17 h17 =>
  ob ((gd v12 false (ld1 v17)) h17) fun v18 h18 =>
  ifB (true) (
  ob ((gd v12 false (M.ret x12)) h18) fun v19 h19 =>
  ob ((gd v12 false (M.ofOpt (iAddr 1 v18 v19))) h19) fun v20 h20 =>
  ob ((gd v12 false (ld1 v20)) h20) fun v21 h21 =>
  ifB (true) (
  ob ((gd v12 false (M.ofOpt (fAddr 1 x4))) h21) fun v22 h22 =>
  ob ((gd v12 false (ld1 v22)) h22) fun v23 h23 =>
  ifB (true) (
  ob ((gd v12 false (M.ofOpt (bin Try.prog .neq 3 v21 v23))) h23) fun v24 h24 =>
  ob ((M.ofOpt (pick v12 (.bool true) v24)) h24) fun v25 h25 =>
  iteV v25 (
  ob ((M.ofOpt (bin Try.prog .add 3 x12 (.int .i64 1))) h25) fun v26 h26 =>
  k .normal [x0, x1, x2, x3, x4, x5, x6, x7, x12, x9, x10, x11, v26, v4, x12, x12, v5, v6, v7, v7, v8, v9, v10, v11, v12, v12, v13, v14, v15, v16, v17, v18, v19, v20, v21, v22, v23, v24, v25, x39, x40, x41, x42, x43, x44, x45, x46, x47, x48, x49, x50, x51, x52, x53, x54, x55, x56, x57, x58, v26, x60, x61, x62, x63] h26) (
  ob ((M.ofOpt (fAddr 1 x4)) h25) fun v27 h27 =>
  ob ((ld1 v27) h27) fun v28 h28 =>
  ifB (true) (
  ob ((M.ofOpt (fAddr 10 x3)) h28) fun v29 h29 =>
  ob ((ld1 v29) h29) fun v30 h30 =>
  ifB (true) (
  ob ((M.ofOpt (fAddr 1 x4)) h30) fun v31 h31 =>
  ob ((ld1 v31) h31) fun v32 h32 =>
  ifB (true) (
  ob ((M.ofOpt (iAddr 1 v30 v32)) h32) fun v33 h33 =>
  ob ((ld1 v33) h33) fun v34 h34 =>
  ifB (true) (
  ob ((M.ofOpt (iAddr 1 v34 x12)) h34) fun v35 h35 =>
  ob ((ld1 v35) h35) fun v36 h36 =>
  ifB (true) (
  ob ((M.ofOpt (bld Try.prog 38 [(0, v28), (1, v36)])) h36) fun v37 h37 =>
  ob ((O (.func 67) [x2, v37]) h37) fun v38 h38 =>
  ifB (true) (
  ob ((M.ofOpt (bin Try.prog .geq 3 v38 (.int .i64 0))) h38) fun v39 h39 =>
  iteV v39 (
  ob ((bldSlice 3 1 1 [(.int .i64 0)] [(0, v38)]) h39) fun v40 h40 =>
  ob ((app 3 1 8 x7 v40) h40) fun v41 h41 =>
  ob ((M.ofOpt (bin Try.prog .add 3 x12 (.int .i64 1))) h41) fun v42 h42 =>
  k .normal [x0, x1, x2, x3, x4, x5, x6, v41, x12, v38, x10, x11, v42, v4, x12, x12, v5, v6, v7, v7, v8, v9, v10, v11, v12, v12, v13, v14, v15, v16, v17, v18, v19, v20, v21, v22, v23, v24, v25, x2, v27, v28, v29, v30, v31, v32, v33, v34, x12, v35, v36, v37, v38, v38, v39, x7, v38, v40, v41, v42, x60, x61, x62, x63] h42) (
  ob ((M.ofOpt (bin Try.prog .add 3 x12 (.int .i64 1))) h39) fun v43 h43 =>
  k .normal [x0, x1, x2, x3, x4, x5, x6, x7, x12, v38, x10, x11, v43, v4, x12, x12, v5, v6, v7, v7, v8, v9, v10, v11, v12, v12, v13, v14, v15, v16, v17, v18, v19, v20, v21, v22, v23, v24, v25, x2, v27, v28, v29, v30, v31, v32, v33, v34, x12, v35, v36, v37, v38, v38, v39, x55, x56, x57, x58, v43, x60, x61, x62, x63] h43)))))))))))))))) (
  k (.exit 0) [x0, x1, x2, x3, x4, x5, x6, x7, x8, x9, x10, x11, x12, v4, x14, x15, x16, x17, x18, x19, x20, x21, x22, x23, x24, x25, x26, x27, x28, x29, x30, x31, x32, x33, x34, x35, x36, x37, x38, x39, x40, x41, x42, x43, x44, x45, x46, x47, x48, x49, x50, x51, x52, x53, x54, x55, x56, x57, x58, x59, x60, x61, x62, x63] h4)
theorem f49_b0_eq (O : Oracle) (L : Loops (Value × Heap)) (k : Ex → K (Value × Heap)) (x0 x1 x2 x3 x4 x5 x6 x7 x8 x9 x10 x11 x12 x13 x14 x15 x16 x17 x18 x19 x20 x21 x22 x23 x24 x25 x26 x27 x28 x29 x30 x31 x32 x33 x34 x35 x36 x37 x38 x39 x40 x41 x42 x43 x44 x45 x46 x47 x48 x49 x50 x51 x52 x53 x54 x55 x56 x57 x58 x59 x60 x61 x62 x63 : Value) (h : Heap) :
    runCode Try.prog O L f49_c0 k [x0, x1, x2, x3, x4, x5, x6, x7, x8, x9, x10, x11, x12, x13, x14, x15, x16, x17, x18, x19, x20, x21, x22, x23, x24, x25, x26, x27, x28, x29, x30, x31, x32, x33, x34, x35, x36, x37, x38, x39, x40, x41, x42, x43, x44, x45, x46, x47, x48, x49, x50, x51, x52, x53, x54, x55, x56, x57, x58, x59, x60, x61, x62, x63] h = f49_b0 O L k x0 x1 x2 x3 x4 x5 x6 x7 x8 x9 x10 x11 x12 x13 x14 x15 x16 x17 x18 x19 x20 x21 x22 x23 x24 x25 x26 x27 x28 x29 x30 x31 x32 x33 x34 x35 x36 x37 x38 x39 x40 x41 x42 x43 x44 x45 x46 x47 x48 x49 x50 x51 x52 x53 x54 x55 x56 x57 x58 x59 x60 x61 x62 x63 h := by kernel_rfl
noncomputable def f49 (O : Oracle) (L : Loops (Value × Heap)) (a0 a1 a2 : Value) (h : Heap) : Option (Value × Heap) :=
  ob ((newB 27 (Value.cells a0).toList .fix) h) fun v0 h0 =>
  ob ((newB 38 (Value.cells a1).toList .fix) h0) fun v1 h1 =>
  ob ((M.ofOpt (fAddr 0 v0)) h1) fun v2 h2 =>
  ob ((ld1 v2) h2) fun v3 h3 =>
  L (runCode Try.prog O L f49_c0) (f49_k0 O L) [a0, a1, a2, v0, v1, undef, (.slice none 0 0), (.slice none 0 0), undef, undef, v2, v3, (.int .i64 0), undef, undef, undef, undef, undef, undef, undef, undef, undef, undef, undef, undef, undef, undef, undef, undef, undef, undef, undef, undef, undef, undef, undef, undef, undef, undef, undef, undef, undef, undef, undef, undef, undef, undef, undef, undef, undef, undef, undef, undef, undef, undef, undef, undef, undef, undef, undef, undef, undef, undef, undef] h3
theorem f49_eq (O : Oracle) (L : Loops (Value × Heap)) (a0 a1 a2 : Value) (h : Heap) :
    body Try.prog O L 49 [a0, a1, a2] h = f49 O L a0 a1 a2 h := by kernel_rfl
noncomputable def f50_c1 : Code := sub [1, 1, 1, 1, 0, 1, 0, 0, 1, 0, 0, 1, 0, 1, 0, 0] (fbody Try.prog 50)
noncomputable def f50_k1 (O : Oracle) (L : Loops (Value × Heap)) (k : Ex → K (Value × Heap)) : Ex → K (Value × Heap) := (blockK 2 (seqK Try.prog O L (sub [1, 1, 1, 1, 0, 1, 0, 0, 1, 0, 0, 1, 1] (fbody Try.prog 50)) (blockK 1 (seqK Try.prog O L (sub [1, 1, 1, 1, 0, 1, 0, 0, 1, 1] (fbody Try.prog 50)) k))))
noncomputable def f50_e1_2 (O : Oracle) (L : Loops (Value × Heap)) (k : Ex → K (Value × Heap)) (x0 x1 x2 x3 x4 x5 x6 x7 x8 x9 x10 x11 x12 x13 x14 x15 x16 x17 x18 x19 x20 x21 x22 x23 x24 x25 x26 x27 x28 x29 x30 x31 x32 x33 x34 x35 x36 x37 x38 x39 x40 x41 x42 x43 : Value) (h : Heap) : Option (Value × Heap) :=
  ob ((bldSlice 24 1 1 [(.slice none 0 0)] [(0, x6)]) h) fun v20 h20 =>
  ob ((app 24 1 24 x4 v20) h20) fun v21 h21 =>
  ob ((M.ofOpt (bin Try.prog .add 3 x5 (.int .i64 1))) h21) fun v22 h22 =>
  k .normal [x0, x1, x2, x3, v21, v22, x6, x7, x8, x9, x10, x11, x12, x13, x14, x15, x16, x5, v22, x19, x20, x21, x22, x23, x24, x25, x26, x27, x28, x29, x30, x31, x32, x33, x34, x35, x36, x37, x38, x4, x6, v20, v21, x43] h22
theorem f50_e1_2_eq (O : Oracle) (L : Loops (Value × Heap)) (k : Ex → K (Value × Heap)) (x0 x1 x2 x3 x4 x5 x6 x7 x8 x9 x10 x11 x12 x13 x14 x15 x16 x17 x18 x19 x20 x21 x22 x23 x24 x25 x26 x27 x28 x29 x30 x31 x32 x33 x34 x35 x36 x37 x38 x39 x40 x41 x42 x43 : Value) (h : Heap) :
    f50_k1 O L k (.exit 2) [x0, x1, x2, x3, x4, x5, x6, x7, x8, x9, x10, x11, x12, x13, x14, x15, x16, x17, x18, x19, x20, x21, x22, x23, x24, x25, x26, x27, x28, x29, x30, x31, x32, x33, x34, x35, x36, x37, x38, x39, x40, x41, x42, x43] h = f50_e1_2 O L k x0 x1 x2 x3 x4 x5 x6 x7 x8 x9 x10 x11 x12 x13 x14 x15 x16 x17 x18 x19 x20 x21 x22 x23 x24 x25 x26 x27 x28 x29 x30 x31 x32 x33 x34 x35 x36 x37 x38 x39 x40 x41 x42 x43 h := by kernel_rfl
noncomputable def f50_b1 (O : Oracle) (L : Loops (Value × Heap)) (k : Ex → K (Value × Heap)) (x0 x1 x2 x3 x4 x5 x6 x7 x8 x9 x10 x11 x12 x13 x14 x15 x16 x17 x18 x19 x20 x21 x22 x23 x24 x25 x26 x27 x28 x29 x30 x31 x32 x33 x34 x35 x36 x37 x38 x39 x40 x41 x42 x43 : Value) (h : Heap) : Option (Value × Heap) :=
  ob ((M.ofOpt (lenSl x3)) h) fun v8 h8 =>
  ob ((M.ofOpt (bin Try.prog .lss 3 x7 v8)) h8) fun v9 h9 =>
  iteV v9 (
  ob ((ldN 11 x1) h9) fun v10 h10 =>
  ifB (true) (
  ob ((M.ofOpt (iAddr 2 x3 x5)) h10) fun v11 h11 =>
  ob ((ldN 2 v11) h11) fun v12 h12 =>
  ifB (true) (
  ob ((M.ofOpt (iAddr 2 x3 x7)) h12) fun v13 h13 =>
  ob ((ldN 2 v13) h13) fun v14 h14 =>
  ifB (true) (
  ob ((O (.func 68) [v10, v12, v14]) h14) fun v15 h15 =>
  ifB (true) (
  iteV v15 (
  ob ((bldSlice 3 1 1 [(.int .i64 0)] [(0, x7)]) h15) fun v16 h16 =>
  ob ((app 3 1 8 x6 v16) h16) fun v17 h17 =>
  ob ((M.ofOpt (bin Try.prog .add 3 x7 (.int .i64 1))) h17) fun v18 h18 =>
  k .normal [x0, x1, x2, x3, x4, x5, v17, v18, x8, x9, x10, x11, x12, x13, x14, x15, x16, x17, x18, x7, x3, v8, v9, x7, v18, v10, x3, x5, v11, v12, x3, x7, v13, v14, v15, x6, x7, v16, v17, x39, x40, x41, x42, x43] h18) (
  ob ((M.ofOpt (bin Try.prog .add 3 x7 (.int .i64 1))) h15) fun v19 h19 =>
  k .normal [x0, x1, x2, x3, x4, x5, x6, v19, x8, x9, x10, x11, x12, x13, x14, x15, x16, x17, x18, x7, x3, v8, v9, x7, v19, v10, x3, x5, v11, v12, x3, x7, v13, v14, v15, x35, x36, x37, x38, x39, x40, x41, x42, x43] h19)))))) (
  k (.exit 2) [x0, x1, x2, x3, x4, x5, x6, x7, x8, x9, x10, x11, x12, x13, x14, x15, x16, x17, x18, x7, x3, v8, v9, x23, x24, x25, x26, x27, x28, x29, x30, x31, x32, x33, x34, x35, x36, x37, x38, x39, x40, x41, x42, x43] h9)
theorem f50_b1_eq (O : Oracle) (L : Loops (Value × Heap)) (k : Ex → K (Value × Heap)) (x0 x1 x2 x3 x4 x5 x6 x7 x8 x9 x10 x11 x12 x13 x14 x15 x16 x17 x18 x19 x20 x21 x22 x23 x24 x25 x26 x27 x28 x29 x30 x31 x32 x33 x34 x35 x36 x37 x38 x39 x40 x41 x42 x43 : Value) (h : Heap) :
    runCode Try.prog O L f50_c1 k [x0, x1, x2, x3, x4, x5, x6, x7, x8, x9, x10, x11, x12, x13, x14, x15, x16, x17, x18, x19, x20, x21, x22, x23, x24, x25, x26, x27, x28, x29, x30, x31, x32, x33, x34, x35, x36, x37, x38, x39, x40, x41, x42, x43] h = f50_b1 O L k x0 x1 x2 x3 x4 x5 x6 x7 x8 x9 x10 x11 x12 x13 x14 x15 x16 x17 x18 x19 x20 x21 x22 x23 x24 x25 x26 x27 x28 x29 x30 x31 x32 x33 x34 x35 x36 x37 x38 x39 x40 x41 x42 x43 h := by kernel_rfl
noncomputable def f50_c0 : Code := sub [1, 1, 1, 1, 0, 1, 0, 0] (fbody Try.prog 50)
noncomputable def f50_k0 (O : Oracle) (L : Loops (Value × Heap)) : Ex → K (Value × Heap) := (blockK 0 (seqK Try.prog O L (sub [1, 1, 1, 1, 1] (fbody Try.prog 50)) (kRet Try.prog Try.f50)))
noncomputable def f50_e0_0 (O : Oracle) (L : Loops (Value × Heap)) (x0 x1 x2 x3 x4 x5 x6 x7 x8 x9 x10 x11 x12 x13 x14 x15 x16 x17 x18 x19 x20 x21 x22 x23 x24 x25 x26 x27 x28 x29 x30 x31 x32 x33 x34 x35 x36 x37 x38 x39 x40 x41 x42 x43 : Value) (h : Heap) : Option (Value × Heap) :=
  some (oneOf [x4], h)
theorem f50_e0_0_eq (O : Oracle) (L : Loops (Value × Heap)) (x0 x1 x2 x3 x4 x5 x6 x7 x8 x9 x10 x11 x12 x13 x14 x15 x16 x17 x18 x19 x20 x21 x22 x23 x24 x25 x26 x27 x28 x29 x30 x31 x32 x33 x34 x35 x36 x37 x38 x39 x40 x41 x42 x43 : Value) (h : Heap) :
    f50_k0 O L (.exit 0) [x0, x1, x2, x3, x4, x5, x6, x7, x8, x9, x10, x11, x12, x13, x14, x15, x16, x17, x18, x19, x20, x21, x22, x23, x24, x25, x26, x27, x28, x29, x30, x31, x32, x33, x34, x35, x36, x37, x38, x39, x40, x41, x42, x43] h = f50_e0_0 O L x0 x1 x2 x3 x4 x5 x6 x7 x8 x9 x10 x11 x12 x13 x14 x15 x16 x17 x18 x19 x20 x21 x22 x23 x24 x25 x26 x27 x28 x29 x30 x31 x32 x33 x34 x35 x36 x37 x38 x39 x40 x41 x42 x43 h := by kernel_rfl
noncomputable def f50_b0 (O : Oracle) (L : Loops (Value × Heap)) (k : Ex → K (Value × Heap)) (x0 x1 x2 x3 x4 x5 x6 x7 x8 x9 x10 x11 x12 x13 x14 x15 x16 x17 x18 x19 x20 x21 x22 x23 x24 x25 x26 x27 x28 x29 x30 x31 x32 x33 x34 x35 x36 x37 x38 x39 x40 x41 x42 x43 : Value) (h : Heap) : Option (Value × Heap) :=
  ob ((M.ofOpt (lenSl x3)) h) fun v6 h6 =>
  ob ((M.ofOpt (bin Try.prog .lss 3 x5 v6)) h6) fun v7 h7 =>
  iteV v7 (
  L (runCode Try.prog O L f50_c1) (f50_k1 O L k) [x0, x1, x2, x3, x4, x5, (.slice none 0 0), (.int .i64 0), x8, x9, x10, x11, x12, x5, x3, v6, v7, x17, x18, x19, x20, x21, x22, x23, x24, x25, x26, x27, x28, x29, x30, x31, x32, x33, x34, x35, x36, x37, x38, x39, x40, x41, x42, x43] h7) (
  k (.exit 0) [x0, x1, x2, x3, x4, x5, x6, x7, x8, x9, x10, x11, x12, x5, x3, v6, v7, x17, x18, x19, x20, x21, x22, x23, x24, x25, x26, x27, x28, x29, x30, x31, x32, x33, x34, x35, x36, x37, x38, x39, x40, x41, x42, x43] h7)
theorem f50_b0_eq (O : Oracle) (L : Loops (Value × Heap)) (k : Ex → K (Value × Heap)) (x0 x1 x2 x3 x4 x5 x6 x7 x8 x9 x10 x11 x12 x13 x14 x15 x16 x17 x18 x19 x20 x21 x22 x23 x24 x25 x26 x27 x28 x29 x30 x31 x32 x33 x34 x35 x36 x37 x38 x39 x40 x41 x42 x43 : Value) (h : Heap) :
    runCode Try.prog O L f50_c0 k [x0, x1, x2, x3, x4, x5, x6, x7, x8, x9, x10, x11, x12, x13, x14, x15, x16, x17, x18, x19, x20, x21, x22, x23, x24, x25, x26, x27, x28, x29, x30, x31, x32, x33, x34, x35, x36, x37, x38, x39, x40, x41, x42, x43] h = f50_b0 O L k x0 x1 x2 x3 x4 x5 x6 x7 x8 x9 x10 x11 x12 x13 x14 x15 x16 x17 x18 x19 x20 x21 x22 x23 x24 x25 x26 x27 x28 x29 x30 x31 x32 x33 x34 x35 x36 x37 x38 x39 x40 x41 x42 x43 h := by kernel_rfl
noncomputable def f50 (O : Oracle) (L : Loops (Value × Heap)) (a0 : Value) (h : Heap) : Option (Value × Heap) :=
  ob ((newB 27 (Value.cells a0).toList .fix) h) fun v0 h0 =>
  ob ((ldN 11 v0) h0) fun v1 h1 =>
  ob ((O (.func 40) [v1]) h1) fun v2 h2 =>
  ob ((M.ofOpt (bin Try.prog .neq 3 v2 (.int .i64 0))) h2) fun v3 h3 =>
  iteV v3 (
  some (oneOf [(.slice none 0 0)], h3)) (
  ob ((ldN 11 v0) h3) fun v4 h4 =>
  ob ((O (.func 39) [v4]) h4) fun v5 h5 =>
  L (runCode Try.prog O L f50_c0) (f50_k0 O L) [a0, v0, (.slice none 0 0), v5, (.slice none 0 0), (.int .i64 0), undef, undef, v1, v2, v3, v4, v5, undef, undef, undef, undef, undef, undef, undef, undef, undef, undef, undef, undef, undef, undef, undef, undef, undef, undef, undef, undef, undef, undef, undef, undef, undef, undef, undef, undef, undef, undef, undef] h5)
theorem f50_eq (O : Oracle) (L : Loops (Value × Heap)) (a0 : Value) (h : Heap) :
    body Try.prog O L 50 [a0] h = f50 O L a0 h := by kernel_rfl
noncomputable def f51_c2 : Code := sub [1, 1, 1, 1, 1, 0, 1, 0, 0] (fbody Try.prog 51)
noncomputable def f51_k2 (O : Oracle) (L : Loops (Value × Heap)) : Ex → K (Value × Heap) := (blockK 4 (seqK Try.prog O L (sub [1, 1, 1, 1, 1, 1] (fbody Try.prog 51)) (kRet Try.prog Try.f51)))
noncomputable def f51_e2_4 (O : Oracle) (L : Loops (Value × Heap)) (x0 x1 x2 x3 x4 x5 x6 x7 x8 x9 x10 x11 x12 x13 x14 x15 x16 x17 x18 x19 x20 x21 x22 x23 x24 x25 x26 x27 x28 x29 x30 x31 x32 x33 x34 x35 x36 x37 x38 x39 x40 x41 x42 x43 x44 x45 x46 x47 x48 x49 x50 : Value) (h : Heap) : Option (Value × Heap) :=
  some (oneOf [(.int .i64 0)], h)
theorem f51_e2_4_eq (O : Oracle) (L : Loops (Value × Heap)) (x0 x1 x2 x3 x4 x5 x6 x7 x8 x9 x10 x11 x12 x13 x14 x15 x16 x17 x18 x19 x20 x21 x22 x23 x24 x25 x26 x27 x28 x29 x30 x31 x32 x33 x34 x35 x36 x37 x38 x39 x40 x41 x42 x43 x44 x45 x46 x47 x48 x49 x50 : Value) (h : Heap) :
    f51_k2 O L (.exit 4) [x0, x1, x2, x3, x4, x5, x6, x7, x8, x9, x10, x11, x12, x13, x14, x15, x16, x17, x18, x19, x20, x21, x22, x23, x24, x25, x26, x27, x28, x29, x30, x31, x32, x33, x34, x35, x36, x37, x38, x39, x40, x41, x42, x43, x44, x45, x46, x47, x48, x49, x50] h = f51_e2_4 O L x0 x1 x2 x3 x4 x5 x6 x7 x8 x9 x10 x11 x12 x13 x14 x15 x16 x17 x18 x19 x20 x21 x22 x23 x24 x25 x26 x27 x28 x29 x30 x31 x32 x33 x34 x35 x36 x37 x38 x39 x40 x41 x42 x43 x44 x45 x46 x47 x48 x49 x50 h := by kernel_rfl
noncomputable def f51_r2 (O : Oracle) (L : Loops (Value × Heap)) (x0 x1 x2 x3 x4 x5 x6 x7 x8 x9 x10 x11 x12 x13 x14 x15 x16 x17 x18 x19 x20 x21 x22 x23 x24 x25 x26 x27 x28 x29 x30 x31 x32 x33 x34 x35 x36 x37 x38 x39 x40 x41 x42 x43 x44 x45 x46 x47 x48 x49 x50 : Value) (h : Heap) : Option (Value × Heap) :=
  some (oneOf [x2], h)
theorem f51_r2_eq (O : Oracle) (L : Loops (Value × Heap)) (x0 x1 x2 x3 x4 x5 x6 x7 x8 x9 x10 x11 x12 x13 x14 x15 x16 x17 x18 x19 x20 x21 x22 x23 x24 x25 x26 x27 x28 x29 x30 x31 x32 x33 x34 x35 x36 x37 x38 x39 x40 x41 x42 x43 x44 x45 x46 x47 x48 x49 x50 : Value) (h : Heap) :
    f51_k2 O L .ret [x0, x1, x2, x3, x4, x5, x6, x7, x8, x9, x10, x11, x12, x13, x14, x15, x16, x17, x18, x19, x20, x21, x22, x23, x24, x25, x26, x27, x28, x29, x30, x31, x32, x33, x34, x35, x36, x37, x38, x39, x40, x41, x42, x43, x44, x45, x46, x47, x48, x49, x50] h = f51_r2 O L x0 x1 x2 x3 x4 x5 x6 x7 x8 x9 x10 x11 x12 x13 x14 x15 x16 x17 x18 x19 x20 x21 x22 x23 x24 x25 x26 x27 x28 x29 x30 x31 x32 x33 x34 x35 x36 x37 x38 x39 x40 x41 x42 x43 x44 x45 x46 x47 x48 x49 x50 h := by kernel_rfl
noncomputable def f51_b2 (O : Oracle) (L : Loops (Value × Heap)) (k : Ex → K (Value × Heap)) (x0 x1 x2 x3 x4 x5 x6 x7 x8 x9 x10 x11 x12 x13 x14 x15 x16 x17 x18 x19 x20 x21 x22 x23 x24 x25 x26 x27 x28 x29 x30 x31 x32 x33 x34 x35 x36 x37 x38 x39 x40 x41 x42 x43 x44 x45 x46 x47 x48 x49 x50 : Value) (h : Heap) : Option (Value × Heap) :=
  ob ((M.ofOpt (lenSl x6)) h) fun v22 h22 =>
  ob ((M.ofOpt (bin Try.prog .lss 3 x7 v22)) h22) fun v23 h23 =>
  iteV v23 (
  ob ((O (.func 69) [x6, x7]) h23) fun v24 h24 =>
  ob ((M.ofOpt (iAddr 1 v24 x7)) h24) fun v25 h25 =>
  ob ((ld1 v25) h25) fun v26 h26 =>
  ob ((M.ofOpt (bin Try.prog .eql 3 v26 (.int .i64 1))) h26) fun v27 h27 =>
  iteV v27 (
  k .ret [x0, x1, (.int .i64 140), x3, x4, x5, x6, x7, x8, x9, x10, x11, x12, x13, x14, x15, x16, x17, x18, x19, x20, x21, x22, x23, x24, x25, x26, x27, x28, x29, x30, x31, x32, x33, x34, x35, x36, x37, x7, x6, v22, v23, x42, x43, x6, x7, v24, x7, v25, v26, v27] h27) (
  ob ((M.ofOpt (bin Try.prog .add 3 x7 (.int .i64 1))) h27) fun v28 h28 =>
  k .normal [x0, x1, x2, x3, x4, x5, x6, v28, x8, x9, x10, x11, x12, x13, x14, x15, x16, x17, x18, x19, x20, x21, x22, x23, x24, x25, x26, x27, x28, x29, x30, x31, x32, x33, x34, x35, x36, x37, x7, x6, v22, v23, x7, v28, x6, x7, v24, x7, v25, v26, v27] h28)) (
  k (.exit 4) [x0, x1, x2, x3, x4, x5, x6, x7, x8, x9, x10, x11, x12, x13, x14, x15, x16, x17, x18, x19, x20, x21, x22, x23, x24, x25, x26, x27, x28, x29, x30, x31, x32, x33, x34, x35, x36, x37, x7, x6, v22, v23, x42, x43, x44, x45, x46, x47, x48, x49, x50] h23)
theorem f51_b2_eq (O : Oracle) (L : Loops (Value × Heap)) (k : Ex → K (Value × Heap)) (x0 x1 x2 x3 x4 x5 x6 x7 x8 x9 x10 x11 x12 x13 x14 x15 x16 x17 x18 x19 x20 x21 x22 x23 x24 x25 x26 x27 x28 x29 x30 x31 x32 x33 x34 x35 x36 x37 x38 x39 x40 x41 x42 x43 x44 x45 x46 x47 x48 x49 x50 : Value) (h : Heap) :
    runCode Try.prog O L f51_c2 k [x0, x1, x2, x3, x4, x5, x6, x7, x8, x9, x10, x11, x12, x13, x14, x15, x16, x17, x18, x19, x20, x21, x22, x23, x24, x25, x26, x27, x28, x29, x30, x31, x32, x33, x34, x35, x36, x37, x38, x39, x40, x41, x42, x43, x44, x45, x46, x47, x48, x49, x50] h = f51_b2 O L k x0 x1 x2 x3 x4 x5 x6 x7 x8 x9 x10 x11 x12 x13 x14 x15 x16 x17 x18 x19 x20 x21 x22 x23 x24 x25 x26 x27 x28 x29 x30 x31 x32 x33 x34 x35 x36 x37 x38 x39 x40 x41 x42 x43 x44 x45 x46 x47 x48 x49 x50 h := by kernel_rfl
noncomputable def f51_c1 : Code := sub [1, 1, 1, 0, 1, 0, 0, 1, 0, 0, 1, 0, 0] (fbody Try.prog 51)
noncomputable def f51_k1 (O : Oracle) (L : Loops (Value × Heap)) (k : Ex → K (Value × Heap)) : Ex → K (Value × Heap) := (blockK 2 (blockK 1 (seqK Try.prog O L (sub [1, 1, 1, 0, 1, 0, 0, 1, 1] (fbody Try.prog 51)) k)))
noncomputable def f51_e1_2 (O : Oracle) (L : Loops (Value × Heap)) (k : Ex → K (Value × Heap)) (x0 x1 x2 x3 x4 x5 x6 x7 x8 x9 x10 x11 x12 x13 x14 x15 x16 x17 x18 x19 x20 x21 x22 x23 x24 x25 x26 x27 x28 x29 x30 x31 x32 x33 x34 x35 x36 x37 x38 x39 x40 x41 x42 x43 x44 x45 x46 x47 x48 x49 x50 : Value) (h : Heap) : Option (Value × Heap) :=
  ob ((M.ofOpt (bin Try.prog .add 3 x4 (.int .i64 1))) h) fun v21 h21 =>
  k .normal [x0, x1, x2, x3, v21, x5, x6, x7, x8, x9, x10, x11, x12, x13, x14, x15, x16, x4, v21, x19, x20, x21, x22, x23, x24, x25, x26, x27, x28, x29, x30, x31, x32, x33, x34, x35, x36, x37, x38, x39, x40, x41, x42, x43, x44, x45, x46, x47, x48, x49, x50] h21
theorem f51_e1_2_eq (O : Oracle) (L : Loops (Value × Heap)) (k : Ex → K (Value × Heap)) (x0 x1 x2 x3 x4 x5 x6 x7 x8 x9 x10 x11 x12 x13 x14 x15 x16 x17 x18 x19 x20 x21 x22 x23 x24 x25 x26 x27 x28 x29 x30 x31 x32 x33 x34 x35 x36 x37 x38 x39 x40 x41 x42 x43 x44 x45 x46 x47 x48 x49 x50 : Value) (h : Heap) :
    f51_k1 O L k (.exit 2) [x0, x1, x2, x3, x4, x5, x6, x7, x8, x9, x10, x11, x12, x13, x14, x15, x16, x17, x18, x19, x20, x21, x22, x23, x24, x25, x26, x27, x28, x29, x30, x31, x32, x33, x34, x35, x36, x37, x38, x39, x40, x41, x42, x43, x44, x45, x46, x47, x48, x49, x50] h = f51_e1_2 O L k x0 x1 x2 x3 x4 x5 x6 x7 x8 x9 x10 x11 x12 x13 x14 x15 x16 x17 x18 x19 x20 x21 x22 x23 x24 x25 x26 x27 x28 x29 x30 x31 x32 x33 x34 x35 x36 x37 x38 x39 x40 x41 x42 x43 x44 x45 x46 x47 x48 x49 x50 h := by kernel_rfl
noncomputable def f51_r1 (O : Oracle) (L : Loops (Value × Heap)) (k : Ex → K (Value × Heap)) (x0 x1 x2 x3 x4 x5 x6 x7 x8 x9 x10 x11 x12 x13 x14 x15 x16 x17 x18 x19 x20 x21 x22 x23 x24 x25 x26 x27 x28 x29 x30 x31 x32 x33 x34 x35 x36 x37 x38 x39 x40 x41 x42 x43 x44 x45 x46 x47 x48 x49 x50 : Value) (h : Heap) : Option (Value × Heap) :=
  k .ret [x0, x1, x2, x3, x4, x5, x6, x7, x8, x9, x10, x11, x12, x13, x14, x15, x16, x17, x18, x19, x20, x21, x22, x23, x24, x25, x26, x27, x28, x29, x30, x31, x32, x33, x34, x35, x36, x37, x38, x39, x40, x41, x42, x43, x44, x45, x46, x47, x48, x49, x50] h
theorem f51_r1_eq (O : Oracle) (L : Loops (Value × Heap)) (k : Ex → K (Value × Heap)) (x0 x1 x2 x3 x4 x5 x6 x7 x8 x9 x10 x11 x12 x13 x14 x15 x16 x17 x18 x19 x20 x21 x22 x23 x24 x25 x26 x27 x28 x29 x30 x31 x32 x33 x34 x35 x36 x37 x38 x39 x40 x41 x42 x43 x44 x45 x46 x47 x48 x49 x50 : Value) (h : Heap) :
    f51_k1 O L k .ret [x0, x1, x2, x3, x4, x5, x6, x7, x8, x9, x10, x11, x12, x13, x14, x15, x16, x17, x18, x19, x20, x21, x22, x23, x24, x25, x26, x27, x28, x29, x30, x31, x32, x33, x34, x35, x36, x37, x38, x39, x40, x41, x42, x43, x44, x45, x46, x47, x48, x49, x50] h = f51_r1 O L k x0 x1 x2 x3 x4 x5 x6 x7 x8 x9 x10 x11 x12 x13 x14 x15 x16 x17 x18 x19 x20 x21 x22 x23 x24 x25 x26 x27 x28 x29 x30 x31 x32 x33 x34 x35 x36 x37 x38 x39 x40 x41 x42 x43 x44 x45 x46 x47 x48 x49 x50 h := by kernel_rfl
noncomputable def f51_b1 (O : Oracle) (L : Loops (Value × Heap)) (k : Ex → K (Value × Heap)) (x0 x1 x2 x3 x4 x5 x6 x7 x8 x9 x10 x11 x12 x13 x14 x15 x16 x17 x18 x19 x20 x21 x22 x23 x24 x25 x26 x27 x28 x29 x30 x31 x32 x33 x34 x35 x36 x37 x38 x39 x40 x41 x42 x43 x44 x45 x46 x47 x48 x49 x50 : Value) (h : Heap) : Option (Value × Heap) :=
  ob ((M.ofOpt (fAddr 0 x1)) h) fun v9 h9 =>
  ob ((ld1 v9) h9) fun v10 h10 =>
  ob ((M.ofOpt (bin Try.prog .lss 3 x5 v10)) h10) fun v11 h11 =>
  iteV v11 (
  ob ((M.ofOpt (bin Try.prog .neq 3 x4 x5)) h11) fun v12 h12 =>
  ob ((gd v12 true (ldN 11 x1)) h12) fun v13 h13 =>
  ob ((gd v12 true (M.ret x4)) h13) fun v14 h14 =>
  ob ((gd v12 true (M.ret x5)) h14) fun v15 h15 =>
  ob ((gd v12 true (O (.func 52) [v13, v14, v15])) h15) fun v16 h16 =>
  ob ((gd v12 true (M.ofOpt (lenSl v16))) h16) fun v17 h17 =>
  ob ((gd v12 true (M.ofOpt (bin Try.prog .eql 3 v17 (.int .i64 0)))) h17) fun v18 h18 =>
  ob ((M.ofOpt (pick v12 v18 (.bool false))) h18) fun v19 h19 =>
  iteV v19 (
  k .ret [x0, x1, (.int .i64 140), x3, x4, x5, x6, x7, x8, x9, x10, x11, x12, x13, x14, x15, x16, x17, x18, x5, v9, v10, v11, x23, x24, x4, x5, v12, v12, v13, v14, v15, v16, v17, v18, v19, x36, x37, x38, x39, x40, x41, x42, x43, x44, x45, x46, x47, x48, x49, x50] h19) (
  ob ((M.ofOpt (bin Try.prog .add 3 x5 (.int .i64 1))) h19) fun v20 h20 =>
  k .normal [x0, x1, x2, x3, x4, v20, x6, x7, x8, x9, x10, x11, x12, x13, x14, x15, x16, x17, x18, x5, v9, v10, v11, x5, v20, x4, x5, v12, v12, v13, v14, v15, v16, v17, v18, v19, x36, x37, x38, x39, x40, x41, x42, x43, x44, x45, x46, x47, x48, x49, x50] h20)) (
  k (.exit 2) [x0, x1, x2, x3, x4, x5, x6, x7, x8, x9, x10, x11, x12, x13, x14, x15, x16, x17, x18, x5, v9, v10, v11, x23, x24, x25, x26, x27, x28, x29, x30, x31, x32, x33, x34, x35, x36, x37, x38, x39, x40, x41, x42, x43, x44, x45, x46, x47, x48, x49, x50] h11)
theorem f51_b1_eq (O : Oracle) (L : Loops (Value × Heap)) (k : Ex → K (Value × Heap)) (x0 x1 x2 x3 x4 x5 x6 x7 x8 x9 x10 x11 x12 x13 x14 x15 x16 x17 x18 x19 x20 x21 x22 x23 x24 x25 x26 x27 x28 x29 x30 x31 x32 x33 x34 x35 x36 x37 x38 x39 x40 x41 x42 x43 x44 x45 x46 x47 x48 x49 x50 : Value) (h : Heap) :
    runCode Try.prog O L f51_c1 k [x0, x1, x2, x3, x4, x5, x6, x7, x8, x9, x10, x11, x12, x13, x14, x15, x16, x17, x18, x19, x20, x21, x22, x23, x24, x25, x26, x27, x28, x29, x30, x31, x32, x33, x34, x35, x36, x37, x38, x39, x40, x41, x42, x43, x44, x45, x46, x47, x48, x49, x50] h = f51_b1 O L k x0 x1 x2 x3 x4 x5 x6 x7 x8 x9 x10 x11 x12 x13 x14 x15 x16 x17 x18 x19 x20 x21 x22 x23 x24 x25 x26 x27 x28 x29 x30 x31 x32 x33 x34 x35 x36 x37 x38 x39 x40 x41 x42 x43 x44 x45 x46 x47 x48 x49 x50 h := by kernel_rfl
noncomputable def f51_c0 : Code := sub [1, 1, 1, 0, 1, 0, 0] (fbody Try.prog 51)
noncomputable def f51_k0 (O : Oracle) (L : Loops (Value × Heap)) : Ex → K (Value × Heap) := (blockK 0 (seqK Try.prog O L (sub [1, 1, 1, 1] (fbody Try.prog 51)) (kRet Try.prog Try.f51)))
noncomputable def f51_e0_0 (O : Oracle) (L : Loops (Value × Heap)) (x0 x1 x2 x3 x4 x5 x6 x7 x8 x9 x10 x11 x12 x13 x14 x15 x16 x17 x18 x19 x20 x21 x22 x23 x24 x25 x26 x27 x28 x29 x30 x31 x32 x33 x34 x35 x36 x37 x38 x39 x40 x41 x42 x43 x44 x45 x46 x47 x48 x49 x50 : Value) (h : Heap) : Option (Value × Heap) :=
  ob ((ldN 11 x1) h) fun v7 h7 =>
  ob ((O (.func 50) [v7]) h7) fun v8 h8 =>
  L (runCode Try.prog O L f51_c2) (f51_k2 O L) [x0, x1, x2, x3, x4, x5, v8, (.int .i64 0), x8, x9, x10, x11, x12, x13, x14, x15, x16, x17, x18, x19, x20, x21, x22, x23, x24, x25, x26, x27, x28, x29, x30, x31, x32, x33, x34, x35, v7, v8, x38, x39, x40, x41, x42, x43, x44, x45, x46, x47, x48, x49, x50] h8
theorem f51_e0_0_eq (O : Oracle) (L : Loops (Value × Heap)) (x0 x1 x2 x3 x4 x5 x6 x7 x8 x9 x10 x11 x12 x13 x14 x15 x16 x17 x18 x19 x20 x21 x22 x23 x24 x25 x26 x27 x28 x29 x30 x31 x32 x33 x34 x35 x36 x37 x38 x39 x40 x41 x42 x43 x44 x45 x46 x47 x48 x49 x50 : Value) (h : Heap) :
    f51_k0 O L (.exit 0) [x0, x1, x2, x3, x4, x5, x6, x7, x8, x9, x10, x11, x12, x13, x14, x15, x16, x17, x18, x19, x20, x21, x22, x23, x24, x25, x26, x27, x28, x29, x30, x31, x32, x33, x34, x35, x36, x37, x38, x39, x40, x41, x42, x43, x44, x45, x46, x47, x48, x49, x50] h = f51_e0_0 O L x0 x1 x2 x3 x4 x5 x6 x7 x8 x9 x10 x11 x12 x13 x14 x15 x16 x17 x18 x19 x20 x21 x22 x23 x24 x25 x26 x27 x28 x29 x30 x31 x32 x33 x34 x35 x36 x37 x38 x39 x40 x41 x42 x43 x44 x45 x46 x47 x48 x49 x50 h := by kernel_rfl
noncomputable def f51_r0 (O : Oracle) (L : Loops (Value × Heap)) (x0 x1 x2 x3 x4 x5 x6 x7 x8 x9 x10 x11 x12 x13 x14 x15 x16 x17 x18 x19 x20 x21 x22 x23 x24 x25 x26 x27 x28 x29 x30 x31 x32 x33 x34 x35 x36 x37 x38 x39 x40 x41 x42 x43 x44 x45 x46 x47 x48 x49 x50 : Value) (h : Heap) : Option (Value × Heap) :=
  some (oneOf [x2], h)
theorem f51_r0_eq (O : Oracle) (L : Loops (Value × Heap)) (x0 x1 x2 x3 x4 x5 x6 x7 x8 x9 x10 x11 x12 x13 x14 x15 x16 x17 x18 x19 x20 x21 x22 x23 x24 x25 x26 x27 x28 x29 x30 x31 x32 x33 x34 x35 x36 x37 x38 x39 x40 x41 x42 x43 x44 x45 x46 x47 x48 x49 x50 : Value) (h : Heap) :
    f51_k0 O L .ret [x0, x1, x2, x3, x4, x5, x6, x7, x8, x9, x10, x11, x12, x13, x14, x15, x16, x17, x18, x19, x20, x21, x22, x23, x24, x25, x26, x27, x28, x29, x30, x31, x32, x33, x34, x35, x36, x37, x38, x39, x40, x41, x42, x43, x44, x45, x46, x47, x48, x49, x50] h = f51_r0 O L x0 x1 x2 x3 x4 x5 x6 x7 x8 x9 x10 x11 x12 x13 x14 x15 x16 x17 x18 x19 x20 x21 x22 x23 x24 x25 x26 x27 x28 x29 x30 x31 x32 x33 x34 x35 x36 x37 x38 x39 x40 x41 x42 x43 x44 x45 x46 x47 x48 x49 x50 h := by kernel_rfl
noncomputable def f51_b0 (O : Oracle) (L : Loops (Value × Heap)) (k : Ex → K (Value × Heap)) (x0 x1 x2 x3 x4 x5 x6 x7 x8 x9 x10 x11 x12 x13 x14 x15 x16 x17 x18 x19 x20 x21 x22 x23 x24 x25 x26 x27 x28 x29 x30 x31 x32 x33 x34 x35 x36 x37 x38 x39 x40 x41 x42 x43 x44 x45 x46 x47 x48 x49 x50 : Value) (h : Heap) : Option (Value × Heap) :=
  ob ((M.ofOpt (fAddr 0 x1)) h) fun v4 h4 =>
  ob ((ld1 v4) h4) fun v5 h5 =>
  ob ((M.ofOpt (bin Try.prog .lss 3 x4 v5)) h5) fun v6 h6 =>
  iteV v6 (
  L (runCode Try.prog O L f51_c1) (f51_k1 O L k) [x0, x1, x2, x3, x4, (.int .i64 0), x6, x7, x8, x9, x10, x11, x12, x4, v4, v5, v6, x17, x18, x19, x20, x21, x22, x23, x24, x25, x26, x27, x28, x29, x30, x31, x32, x33, x34, x35, x36, x37, x38, x39, x40, x41, x42, x43, x44, x45, x46, x47, x48, x49, x50] h6) (
  k (.exit 0) [x0, x1, x2, x3, x4, x5, x6, x7, x8, x9, x10, x11, x12, x4, v4, v5, v6, x17, x18, x19, x20, x21, x22, x23, x24, x25, x26, x27, x28, x29, x30, x31, x32, x33, x34, x35, x36, x37, x38, x39, x40, x41, x42, x43, x44, x45, x46, x47, x48, x49, x50] h6)
theorem f51_b0_eq (O : Oracle) (L : Loops (Value × Heap)) (k : Ex → K (Value × Heap)) (x0 x1 x2 x3 x4 x5 x6 x7 x8 x9 x10 x11 x12 x13 x14 x15 x16 x17 x18 x19 x20 x21 x22 x23 x24 x25 x26 x27 x28 x29 x30 x31 x32 x33 x34 x35 x36 x37 x38 x39 x40 x41 x42 x43 x44 x45 x46 x47 x48 x49 x50 : Value) (h : Heap) :
    runCode Try.prog O L f51_c0 k [x0, x1, x2, x3, x4, x5, x6, x7, x8, x9, x10, x11, x12, x13, x14, x15, x16, x17, x18, x19, x20, x21, x22, x23, x24, x25, x26, x27, x28, x29, x30, x31, x32, x33, x34, x35, x36, x37, x38, x39, x40, x41, x42, x43, x44, x45, x46, x47, x48, x49, x50] h = f51_b0 O L k x0 x1 x2 x3 x4 x5 x6 x7 x8 x9 x10 x11 x12 x13 x14 x15 x16 x17 x18 x19 x20 x21 x22 x23 x24 x25 x26 x27 x28 x29 x30 x31 x32 x33 x34 x35 x36 x37 x38 x39 x40 x41 x42 x43 x44 x45 x46 x47 x48 x49 x50 h := by kernel_rfl
noncomputable def f51 (O : Oracle) (L : Loops (Value × Heap)) (a0 : Value) (h : Heap) : Option (Value × Heap) :=
  ob ((newB 27 (Value.cells a0).toList .fix) h) fun v0 h0 =>
  ob ((ldN 11 v0) h0) fun v1 h1 =>
  ob ((O (.func 40) [v1]) h1) fun v2 h2 =>
  ob ((M.ofOpt (bin Try.prog .neq 3 v2 (.int .i64 0))) h2) fun v3 h3 =>
  iteV v3 (
  some (oneOf [v2], h3)) (
  L (runCode Try.prog O L f51_c0) (f51_k0 O L) [a0, v0, (.int .i64 0), v2, (.int .i64 0), undef, undef, undef, v1, v2, v2, v3, undef, undef, undef, undef, undef, undef, undef, undef, undef, undef, undef, undef, undef, undef, undef, undef, undef, undef, undef, undef, undef, undef, undef, undef, undef, undef, undef, undef, undef, undef, undef, undef, undef, undef, undef, undef, undef, undef, undef] h3)
theorem f51_eq (O : Oracle) (L : Loops (Value × Heap)) (a0 : Value) (h : Heap) :
    body Try.prog O L 51 [a0] h = f51 O L a0 h := by kernel_rfl
noncomputable def f52_c0 : Code := sub [1, 1, 1, 0, 0, 0] (fbody Try.prog 52)
noncomputable def f52_k0 (O : Oracle) (L : Loops (Value × Heap)) : Ex → K (Value × Heap) := (blockK 0 (seqK Try.prog O L (sub [1, 1, 1, 1] (fbody Try.prog 52)) (kRet Try.prog Try.f52)))
noncomputable def f52_e0_0 (O : Oracle) (L : Loops (Value × Heap)) (x0 x1 x2 x3 x4 x5 x6 x7 x8 x9 x10 x11 x12 x13 x14 x15 x16 x17 x18 x19 x20 x21 x22 x23 x24 x25 x26 x27 x28 x29 x30 x31 x32 x33 x34 x35 x36 x37 x38 x39 x40 x41 x42 x43 x44 x45 x46 x47 x48 x49 x50 x51 x52 x53 x54 x55 x56 x57 x58 x59 x60 x61 x62 : Value) (h : Heap) : Option (Value × Heap) :=
  some (oneOf [x7], h)
theorem f52_e0_0_eq (O : Oracle) (L : Loops (Value × Heap)) (x0 x1 x2 x3 x4 x5 x6 x7 x8 x9 x10 x11 x12 x13 x14 x15 x16 x17 x18 x19 x20 x21 x22 x23 x24 x25 x26 x27 x28 x29 x30 x31 x32 x33 x34 x35 x36 x37 x38 x39 x40 x41 x42 x43 x44 x45 x46 x47 x48 x49 x50 x51 x52 x53 x54 x55 x56 x57 x58 x59 x60 x61 x62 : Value) (h : Heap) :
    f52_k0 O L (.exit 0) [x0, x1, x2, x3, x4, x5, x6, x7, x8, x9, x10, x11, x12, x13, x14, x15, x16, x17, x18, x19, x20, x21, x22, x23, x24, x25, x26, x27, x28, x29, x30, x31, x32, x33, x34, x35, x36, x37, x38, x39, x40, x41, x42, x43, x44, x45, x46, x47, x48, x49, x50, x51, x52, x53, x54, x55, x56, x57, x58, x59, x60, x61, x62] h = f52_e0_0 O L x0 x1 x2 x3 x4 x5 x6 x7 x8 x9 x10 x11 x12 x13 x14 x15 x16 x17 x18 x19 x20 x21 x22 x23 x24 x25 x26 x27 x28 x29 x30 x31 x32 x33 x34 x35 x36 x37 x38 x39 x40 x41 x42 x43 x44 x45 x46 x47 x48 x49 x50 x51 x52 x53 x54 x55 x56 x57 x58 x59 x60 x61 x62 h := by kernel_rfl
noncomputable def f52_r0 (O : Oracle) (L : Loops (Value × Heap)) (x0 x1 x2 x3 x4 x5 x6 x7 x8 x9 x10 x11 x12 x13 x14 x15 x16 x17 x18 x19 x20 x21 x22 x23 x24 x25 x26 x27 x28 x29 x30 x31 x32 x33 x34 x35 x36 x37 x38 x39 x40 x41 x42 x43 x44 x45 x46 x47 x48 x49 x50 x51 x52 x53 x54 x55 x56 x57 x58 x59 x60 x61 x62 : Value) (h : Heap) : Option (Value × Heap) :=
  some (oneOf [x6], h)
theorem f52_r0_eq (O : Oracle) (L : Loops (Value × Heap)) (x0 x1 x2 x3 x4 x5 x6 x7 x8 x9 x10 x11 x12 x13 x14 x15 x16 x17 x18 x19 x20 x21 x22 x23 x24 x25 x26 x27 x28 x29 x30 x31 x32 x33 x34 x35 x36 x37 x38 x39 x40 x41 x42 x43 x44 x45 x46 x47 x48 x49 x50 x51 x52 x53 x54 x55 x56 x57 x58 x59 x60 x61 x62 : Value) (h : Heap) :
    f52_k0 O L .ret [x0, x1, x2, x3, x4, x5, x6, x7, x8, x9, x10, x11, x12, x13, x14, x15, x16, x17, x18, x19, x20, x21, x22, x23, x24, x25, x26, x27, x28, x29, x30, x31, x32, x33, x34, x35, x36, x37, x38, x39, x40, x41, x42, x43, x44, x45, x46, x47, x48, x49, x50, x51, x52, x53, x54, x55, x56, x57, x58, x59, x60, x61, x62] h = f52_r0 O L x0 x1 x2 x3 x4 x5 x6 x7 x8 x9 x10 x11 x12 x13 x14 x15 x16 x17 x18 x19 x20 x21 x22 x23 x24 x25 x26 x27 x28 x29 x30 x31 x32 x33 x34 x35 x36 x37 x38 x39 x40 x41 x42 x43 x44 x45 x46 x47 x48 x49 x50 x51 x52 x53 x54 x55 x56 x57 x58 x59 x60 x61 x62 h := by kernel_rfl
noncomputable def f52_b0 (O : Oracle) (L : Loops (Value × Heap)) (k : Ex → K (Value × Heap)) (x0 x1 x2 x3 x4 x5 x6 x7 x8 x9 x10 x11 x12 x13 x14 x15 x16 x17 x18 x19 x20 x21 x22 x23 x24 x25 x26 x27 x28 x29 x30 x31 x32 x33 x34 x35 x36 x37 x38 x39 x40 x41 x42 x43 x44 x45 x46 x47 x48 x49 x50 x51 x52 x53 x54 x55 x56 x57 x58 x59 x60 x61 x62 : Value) (h : Heap) : Option (Value × Heap) :=
  ob ((M.ofOpt (bin Try.prog .neq 3 x1 x2)) h) fun v21 h21 =>
  iteV v21 (
  ob ((M.ofOpt (fAddr 10 x3)) h21) fun v22 h22 =>
  ob ((ld1 v22) h22) fun v23 h23 =>
  ob ((M.ofOpt (iAddr 1 v23 x1)) h23) fun v24 h24 =>
  ob ((ld1 v24) h24) fun v25 h25 =>
  ob ((M.ofOpt (iAddr 1 v25 x2)) h25) fun v26 h26 =>
  ob ((ld1 v26) h26) fun v27 h27 =>
  ob ((ldN 11 x3) h27) fun v28 h28 =>
  ob ((O (.func 43) [v28, x1, v27]) h28) fun v29 h29 =>
  ob ((M.ofOpt (bin Try.prog .lss 3 v29 (.int .i64 0))) h29) fun v30 h30 =>
  ob ((gd v30 false (M.ret x7)) h30) fun v31 h31 =>
  ob ((gd v30 false (M.ofOpt (lenSl v31))) h31) fun v32 h32 =>
  ob ((gd v30 false (M.ofOpt (fAddr 0 x3))) h32) fun v33 h33 =>
  ob ((gd v30 false (ld1 v33)) h33) fun v34 h34 =>
  ob ((gd v30 false (M.ofOpt (bin Try.prog .geq 3 v32 v34))) h34) fun v35 h35 =>
  ob ((M.ofOpt (pick v30 (.bool true) v35)) h35) fun v36 h36 =>
  iteV v36 (
  k .ret [x0, x1, x2, x3, x4, x5, (.slice none 0 0), x7, v27, x9, x10, x11, x12, x13, x14, x15, x16, x17, x18, x19, x20, x21, x22, x23, x24, x25, x26, x27, x28, x29, x30, x31, x32, x33, x1, x2, v21, v22, v23, x1, v24, v25, x2, v26, v27, v28, x1, v27, v29, v30, v30, v31, v32, v33, v34, v35, v36, x57, x58, x59, x60, x61, x62] h36) (
  ob ((bldSlice 3 1 1 [(.int .i64 0)] [(0, v27)]) h36) fun v37 h37 =>
  ob ((app 3 1 8 x7 v37) h37) fun v38 h38 =>
  k .normal [x0, v27, x2, x3, x4, x5, x6, v38, v27, x9, x10, x11, x12, x13, x14, x15, x16, x17, x18, x19, x20, x21, x22, x23, x24, x25, x26, x27, x28, x29, x30, x31, x32, x33, x1, x2, v21, v22, v23, x1, v24, v25, x2, v26, v27, v28, x1, v27, v29, v30, v30, v31, v32, v33, v34, v35, v36, x7, v27, v37, v38, v27, x62] h38)) (
  k (.exit 0) [x0, x1, x2, x3, x4, x5, x6, x7, x8, x9, x10, x11, x12, x13, x14, x15, x16, x17, x18, x19, x20, x21, x22, x23, x24, x25, x26, x27, x28, x29, x30, x31, x32, x33, x1, x2, v21, x37, x38, x39, x40, x41, x42, x43, x44, x45, x46, x47, x48, x49, x50, x51, x52, x53, x54, x55, x56, x57, x58, x59, x60, x61, x62] h21)
theorem f52_b0_eq (O : Oracle) (L : Loops (Value × Heap)) (k : Ex → K (Value × Heap)) (x0 x1 x2 x3 x4 x5 x6 x7 x8 x9 x10 x11 x12 x13 x14 x15 x16 x17 x18 x19 x20 x21 x22 x23 x24 x25 x26 x27 x28 x29 x30 x31 x32 x33 x34 x35 x36 x37 x38 x39 x40 x41 x42 x43 x44 x45 x46 x47 x48 x49 x50 x51 x52 x53 x54 x55 x56 x57 x58 x59 x60 x61 x62 : Value) (h : Heap) :
    runCode Try.prog O L f52_c0 k [x0, x1, x2, x3, x4, x5, x6, x7, x8, x9, x10, x11, x12, x13, x14, x15, x16, x17, x18, x19, x20, x21, x22, x23, x24, x25, x26, x27, x28, x29, x30, x31, x32, x33, x34, x35, x36, x37, x38, x39, x40, x41, x42, x43, x44, x45, x46, x47, x48, x49, x50, x51, x52, x53, x54, x55, x56, x57, x58, x59, x60, x61, x62] h = f52_b0 O L k x0 x1 x2 x3 x4 x5 x6 x7 x8 x9 x10 x11 x12 x13 x14 x15 x16 x17 x18 x19 x20 x21 x22 x23 x24 x25 x26 x27 x28 x29 x30 x31 x32 x33 x34 x35 x36 x37 x38 x39 x40 x41 x42 x43 x44 x45 x46 x47 x48 x49 x50 x51 x52 x53 x54 x55 x56 x57 x58 x59 x60 x61 x62 h := by kernel_rfl
noncomputable def f52 (O : Oracle) (L : Loops (Value × Heap)) (a0 a1 a2 : Value) (h : Heap) : Option (Value × Heap) :=
  ob ((newB 27 (Value.cells a0).toList .fix) h) fun v0 h0 =>
  ob ((ldN 11 v0) h0) fun v1 h1 =>
  ob ((O (.func 40) [v1]) h1) fun v2 h2 =>
  ob ((M.ofOpt (bin Try.prog .neq 3 v2 (.int .i64 0))) h2) fun v3 h3 =>
  ob ((gd v3 false (M.ret a1)) h3) fun v4 h4 =>
  ob ((gd v3 false (M.ofOpt (bin Try.prog .lss 3 v4 (.int .i64 0)))) h4) fun v5 h5 =>
  ob ((M.ofOpt (pick v3 (.bool true) v5)) h5) fun v6 h6 =>
  ob ((gd v6 false (M.ret a1)) h6) fun v7 h7 =>
  ob ((gd v6 false (M.ofOpt (fAddr 0 v0))) h7) fun v8 h8 =>
  ob ((gd v6 false (ld1 v8)) h8) fun v9 h9 =>
  ob ((gd v6 false (M.ofOpt (bin Try.prog .geq 3 v7 v9))) h9) fun v10 h10 =>
  ob ((M.ofOpt (pick v6 (.bool true) v10)) h10) fun v11 h11 =>
  ob ((gd v11 false (M.ret a2)) h11) fun v12 h12 =>
  ob ((gd v11 false (M.ofOpt (bin Try.prog .lss 3 v12 (.int .i64 0)))) h12) fun v13 h13 =>
  ob ((M.ofOpt (pick v11 (.bool true) v13)) h13) fun v14 h14 =>
  ob ((gd v14 false (M.ret a2)) h14) fun v15 h15 =>
  ob ((gd v14 false (M.ofOpt (fAddr 0 v0))) h15) fun v16 h16 =>
  ob ((gd v14 false (ld1 v16)) h16) fun v17 h17 =>
  ob ((gd v14 false (M.ofOpt (bin Try.prog .geq 3 v15 v17))) h17) fun v18 h18 =>
  ob ((M.ofOpt (pick v14 (.bool true) v18)) h18) fun v19 h19 =>
  iteV v19 (
  some (oneOf [(.slice none 0 0)], h19)) (
  ob ((bldSlice 3 1 1 [(.int .i64 0)] [(0, a1)]) h19) fun v20 h20 =>
  L (runCode Try.prog O L f52_c0) (f52_k0 O L) [a0, a1, a2, v0, undef, undef, (.slice none 0 0), v20, undef, v1, v2, v3, v3, v4, v5, v6, v6, v7, v8, v9, v10, v11, v11, v12, v13, v14, v14, v15, v16, v17, v18, v19, a1, v20, undef, undef, undef, undef, undef, undef, undef, undef, undef, undef, undef, undef, undef, undef, undef, undef, undef, undef, undef, undef, undef, undef, undef, undef, undef, undef, undef, undef, undef] h20)
theorem f52_eq (O : Oracle) (L : Loops (Value × Heap)) (a0 a1 a2 : Value) (h : Heap) :
    body Try.prog O L 52 [a0, a1, a2] h = f52 O L a0 a1 a2 h := by kernel_rfl
noncomputable def f66 (O : Oracle) (L : Loops (Value × Heap)) (a0 a1 : Value) (h : Heap) : Option (Value × Heap) :=
  ob ((O (.func 38) [a0, a1]) h) fun v0 h0 =>
  ob ((M.ofOpt (bin Try.prog .geq 3 v0 (.int .i64 0))) h0) fun v1 h1 =>
  some (oneOf [v1], h1)
theorem f66_eq (O : Oracle) (L : Loops (Value × Heap)) (a0 a1 : Value) (h : Heap) :
    body Try.prog O L 66 [a0, a1] h = f66 O L a0 a1 h := by kernel_rfl
noncomputable def f67_c0 : Code := sub [1, 0, 1, 0, 0] (fbody Try.prog 67)
noncomputable def f67_k0 (O : Oracle) (L : Loops (Value × Heap)) : Ex → K (Value × Heap) := (blockK 0 (seqK Try.prog O L (sub [1, 1] (fbody Try.prog 67)) (kRet Try.prog Try.f67)))
noncomputable def f67_e0_0 (O : Oracle) (L : Loops (Value × Heap)) (x0 x1 x2 x3 x4 x5 x6 x7 x8 x9 x10 x11 x12 x13 x14 x15 x16 x17 x18 : Value) (h : Heap) : Option (Value × Heap) :=
  some (oneOf [(.int .i64 (-1))], h)
theorem f67_e0_0_eq (O : Oracle) (L : Loops (Value × Heap)) (x0 x1 x2 x3 x4 x5 x6 x7 x8 x9 x10 x11 x12 x13 x14 x15 x16 x17 x18 : Value) (h : Heap) :
    f67_k0 O L (.exit 0) [x0, x1, x2, x3, x4, x5, x6, x7, x8, x9, x10, x11, x12, x13, x14, x15, x16, x17, x18] h = f67_e0_0 O L x0 x1 x2 x3 x4 x5 x6 x7 x8 x9 x10 x11 x12 x13 x14 x15 x16 x17 x18 h := by kernel_rfl
noncomputable def f67_r0 (O : Oracle) (L : Loops (Value × Heap)) (x0 x1 x2 x3 x4 x5 x6 x7 x8 x9 x10 x11 x12 x13 x14 x15 x16 x17 x18 : Value) (h : Heap) : Option (Value × Heap) :=
  some (oneOf [x4], h)
theorem f67_r0_eq (O : Oracle) (L : Loops (Value × Heap)) (x0 x1 x2 x3 x4 x5 x6 x7 x8 x9 x10 x11 x12 x13 x14 x15 x16 x17 x18 : Value) (h : Heap) :
    f67_k0 O L .ret [x0, x1, x2, x3, x4, x5, x6, x7, x8, x9, x10, x11, x12, x13, x14, x15, x16, x17, x18] h = f67_r0 O L x0 x1 x2 x3 x4 x5 x6 x7 x8 x9 x10 x11 x12 x13 x14 x15 x16 x17 x18 h := by kernel_rfl
noncomputable def f67_b0 (O : Oracle) (L : Loops (Value × Heap)) (k : Ex → K (Value × Heap)) (x0 x1 x2 x3 x4 x5 x6 x7 x8 x9 x10 x11 x12 x13 x14 x15 x16 x17 x18 : Value) (h : Heap) : Option (Value × Heap) :=
  ob ((M.ofOpt (bin Try.prog .lss 3 x8 x7)) h) fun v2 h2 =>
  iteV v2 (
  ob ((ldN 2 x3) h2) fun v3 h3 =>
  ifB (true) (
  ob ((M.ofOpt (iAddr 2 x0 x8)) h3) fun v4 h4 =>
  ob ((ldN 2 v4) h4) fun v5 h5 =>
  ifB (true) (
  ob ((M.ofOpt (bin Try.prog .eql 38 v3 v5)) h5) fun v6 h6 =>
  iteV v6 (
  k .ret [x0, x1, x2, x3, x8, x8, x6, x7, x8, v2, x8, v3, x0, x8, v4, v5, v6, x8, x18] h6) (
  ob ((M.ofOpt (bin Try.prog .add 3 x8 (.int .i64 1))) h6) fun v7 h7 =>
  k .normal [x0, x1, x2, x3, x4, x8, x6, x7, v7, v2, x8, v3, x0, x8, v4, v5, v6, x17, v7] h7)))) (
  k (.exit 0) [x0, x1, x2, x3, x4, x5, x6, x7, x8, v2, x10, x11, x12, x13, x14, x15, x16, x17, x18] h2)
theorem f67_b0_eq (O : Oracle) (L : Loops (Value × Heap)) (k : Ex → K (Value × Heap)) (x0 x1 x2 x3 x4 x5 x6 x7 x8 x9 x10 x11 x12 x13 x14 x15 x16 x17 x18 : Value) (h : Heap) :
    runCode Try.prog O L f67_c0 k [x0, x1, x2, x3, x4, x5, x6, x7, x8, x9, x10, x11, x12, x13, x14, x15, x16, x17, x18] h = f67_b0 O L k x0 x1 x2 x3 x4 x5 x6 x7 x8 x9 x10 x11 x12 x13 x14 x15 x16 x17 x18 h := by kernel_rfl
noncomputable def f67 (O : Oracle) (L : Loops (Value × Heap)) (a0 a1 : Value) (h : Heap) : Option (Value × Heap) :=
  ob ((newB 38 (Value.cells a1).toList .fix) h) fun v0 h0 =>
  ob ((M.ofOpt (lenSl a0)) h0) fun v1 h1 =>
  L (runCode Try.prog O L f67_c0) (f67_k0 O L) [a0, a1, undef, v0, (.int .i64 0), undef, a0, v1, (.int .i64 0), undef, undef, undef, undef, undef, undef, undef, undef, undef, undef] h1
theorem f67_eq (O : Oracle) (L : Loops (Value × Heap)) (a0 a1 : Value) (h : Heap) :
    body Try.prog O L 67 [a0, a1] h = f67 O L a0 a1 h := by kernel_rfl
noncomputable def f68_c0 : Code := sub [1, 0, 1, 0, 0] (fbody Try.prog 68)
noncomputable def f68_k0 (O : Oracle) (L : Loops (Value × Heap)) : Ex → K (Value × Heap) := (blockK 0 (seqK Try.prog O L (sub [1, 1] (fbody Try.prog 68)) (kRet Try.prog Try.f68)))
noncomputable def f68_e0_0 (O : Oracle) (L : Loops (Value × Heap)) (x0 x1 x2 x3 x4 x5 x6 x7 x8 x9 x10 x11 x12 x13 x14 x15 x16 x17 x18 x19 x20 x21 x22 x23 x24 x25 x26 x27 x28 x29 x30 x31 x32 x33 x34 x35 x36 x37 x38 x39 x40 x41 x42 x43 x44 x45 x46 x47 x48 x49 x50 x51 x52 x53 x54 x55 x56 x57 x58 : Value) (h : Heap) : Option (Value × Heap) :=
  some (oneOf [(.bool false)], h)
theorem f68_e0_0_eq (O : Oracle) (L : Loops (Value × Heap)) (x0 x1 x2 x3 x4 x5 x6 x7 x8 x9 x10 x11 x12 x13 x14 x15 x16 x17 x18 x19 x20 x21 x22 x23 x24 x25 x26 x27 x28 x29 x30 x31 x32 x33 x34 x35 x36 x37 x38 x39 x40 x41 x42 x43 x44 x45 x46 x47 x48 x49 x50 x51 x52 x53 x54 x55 x56 x57 x58 : Value) (h : Heap) :
    f68_k0 O L (.exit 0) [x0, x1, x2, x3, x4, x5, x6, x7, x8, x9, x10, x11, x12, x13, x14, x15, x16, x17, x18, x19, x20, x21, x22, x23, x24, x25, x26, x27, x28, x29, x30, x31, x32, x33, x34, x35, x36, x37, x38, x39, x40, x41, x42, x43, x44, x45, x46, x47, x48, x49, x50, x51, x52, x53, x54, x55, x56, x57, x58] h = f68_e0_0 O L x0 x1 x2 x3 x4 x5 x6 x7 x8 x9 x10 x11 x12 x13 x14 x15 x16 x17 x18 x19 x20 x21 x22 x23 x24 x25 x26 x27 x28 x29 x30 x31 x32 x33 x34 x35 x36 x37 x38 x39 x40 x41 x42 x43 x44 x45 x46 x47 x48 x49 x50 x51 x52 x53 x54 x55 x56 x57 x58 h := by kernel_rfl
noncomputable def f68_r0 (O : Oracle) (L : Loops (Value × Heap)) (x0 x1 x2 x3 x4 x5 x6 x7 x8 x9 x10 x11 x12 x13 x14 x15 x16 x17 x18 x19 x20 x21 x22 x23 x24 x25 x26 x27 x28 x29 x30 x31 x32 x33 x34 x35 x36 x37 x38 x39 x40 x41 x42 x43 x44 x45 x46 x47 x48 x49 x50 x51 x52 x53 x54 x55 x56 x57 x58 : Value) (h : Heap) : Option (Value × Heap) :=
  some (oneOf [x6], h)
theorem f68_r0_eq (O : Oracle) (L : Loops (Value × Heap)) (x0 x1 x2 x3 x4 x5 x6 x7 x8 x9 x10 x11 x12 x13 x14 x15 x16 x17 x18 x19 x20 x21 x22 x23 x24 x25 x26 x27 x28 x29 x30 x31 x32 x33 x34 x35 x36 x37 x38 x39 x40 x41 x42 x43 x44 x45 x46 x47 x48 x49 x50 x51 x52 x53 x54 x55 x56 x57 x58 : Value) (h : Heap) :
    f68_k0 O L .ret [x0, x1, x2, x3, x4, x5, x6, x7, x8, x9, x10, x11, x12, x13, x14, x15, x16, x17, x18, x19, x20, x21, x22, x23, x24, x25, x26, x27, x28, x29, x30, x31, x32, x33, x34, x35, x36, x37, x38, x39, x40, x41, x42, x43, x44, x45, x46, x47, x48, x49, x50, x51, x52, x53, x54, x55, x56, x57, x58] h = f68_r0 O L x0 x1 x2 x3 x4 x5 x6 x7 x8 x9 x10 x11 x12 x13 x14 x15 x16 x17 x18 x19 x20 x21 x22 x23 x24 x25 x26 x27 x28 x29 x30 x31 x32 x33 x34 x35 x36 x37 x38 x39 x40 x41 x42 x43 x44 x45 x46 x47 x48 x49 x50 x51 x52 x53 x54 x55 x56 x57 x58 h := by kernel_rfl
noncomputable def f68_b0 (O : Oracle) (L : Loops (Value × Heap)) (k : Ex → K (Value × Heap)) (x0 x1 x2 x3 x4 x5 x6 x7 x8 x9 x10 x11 x12 x13 x14 x15 x16 x17 x18 x19 x20 x21 x22 x23 x24 x25 x26 x27 x28 x29 x30 x31 x32 x33 x34 x35 x36 x37 x38 x39 x40 x41 x42 x43 x44 x45 x46 x47 x48 x49 x50 x51 x52 x53 x54 x55 x56 x57 x58 : Value) (h : Heap) : Option (Value × Heap) :=
  ob ((M.ofOpt (fAddr 0 x3)) h) fun v3 h3 =>
  ob ((ld1 v3) h3) fun v4 h4 =>
  ob ((M.ofOpt (bin Try.prog .lss 3 x7 v4)) h4) fun v5 h5 =>
  iteV v5 (
  ob ((M.ofOpt (fAddr 1 x4)) h5) fun v6 h6 =>
  ob ((ld1 v6) h6) fun v7 h7 =>
  ifB (true) (
  ob ((M.ofOpt (fAddr 0 x5)) h7) fun v8 h8 =>
  ob ((ld1 v8) h8) fun v9 h9 =>
  ifB (true) (
  ob ((M.ofOpt (bin Try.prog .eql 3 v7 v9)) h9) fun v10 h10 =>
  ob ((gd v10 true (M.ret x7)) h10) fun v11 h11 =>
  ob ((gd v10 true (M.ofOpt (fAddr 1 x4))) h11) fun v12 h12 =>
  ob ((gd v10 true (ld1 v12)) h12) fun v13 h13 =>
  ifB (true) (
  ob ((gd v10 true (M.ofOpt (bin Try.prog .neq 3 v11 v13))) h13) fun v14 h14 =>
  ob ((M.ofOpt (pick v10 v14 (.bool false))) h14) fun v15 h15 =>
  ob ((gd v15 true (M.ret x7)) h15) fun v16 h16 =>
  ob ((gd v15 true (M.ofOpt (fAddr 0 x4))) h16) fun v17 h17 =>
  ob ((gd v15 true (ld1 v17)) h17) fun v18 h18 =>
  ifB (true) (
  ob ((gd v15 true (M.ofOpt (bin Try.prog .neq 3 v16 v18))) h18) fun v19 h19 =>
  ob ((M.ofOpt (pick v15 v19 (.bool false))) h19) fun v20 h20 =>
  ob ((gd v20 true (M.ofOpt (fAddr 10 x3))) h20) fun v21 h21 =>
  ob ((gd v20 true (ld1 v21)) h21) fun v22 h22 =>
  ifB (true) (
  ob ((gd v20 true (M.ofOpt (fAddr 0 x4))) h22) fun v23 h23 =>
  ob ((gd v20 true (ld1 v23)) h23) fun v24 h24 =>
  ifB (true) (
  ob ((gd v20 true (M.ofOpt (iAddr 1 v22 v24))) h24) fun v25 h25 =>
  ob ((gd v20 true (ld1 v25)) h25) fun v26 h26 =>
  ifB (true) (
  ob ((gd v20 true (M.ret x7)) h26) fun v27 h27 =>
  ob ((gd v20 true (M.ofOpt (iAddr 1 v26 v27))) h27) fun v28 h28 =>
  ob ((gd v20 true (ld1 v28)) h28) fun v29 h29 =>
  ifB (true) (
  ob ((gd v20 true (M.ofOpt (fAddr 1 x4))) h29) fun v30 h30 =>
  ob ((gd v20 true (ld1 v30)) h30) fun v31 h31 =>
  ifB (true) (
  ob ((gd v20 true (M.ofOpt (bin Try.prog .eql 3 v29 v31))) h31) fun v32 h32 =>
  ob ((M.ofOpt (pick v20 v32 (.bool false))) h32) fun v33 h33 =>
  ob ((gd v33 true (M.ofOpt (fAddr 10 x3))) h33) fun v34 h34 =>
  ob ((gd v33 true (ld1 v34)) h34) fun v35 h35 =>
  ifB (true) (
  ob ((gd v33 true (M.ofOpt (fAddr 1 x4))) h35) fun v36 h36 =>
  ob ((gd v33 true (ld1 v36)) h36) fun v37 h37 =>
  ifB (true) (
  ob ((gd v33 true (M.ofOpt (iAddr 1 v35 v37))) h37) fun v38 h38 =>
  ob ((gd v33 true (ld1 v38)) h38) fun v39 h39 =>
  ifB (true) (
  ob ((gd v33 true (M.ret x7)) h39) fun v40 h40 =>
  ob ((gd v33 true (M.ofOpt (iAddr 1 v39 v40))) h40) fun v41 h41 =>
  ob ((gd v33 true (ld1 v41)) h41) fun v42 h42 =>
  ifB (true) (
  ob ((gd v33 true (M.ofOpt (fAddr 1 x5))) h42) fun v43 h43 =>
  ob ((gd v33 true (ld1 v43)) h43) fun v44 h44 =>
  ifB (true) (
  ob ((gd v33 true (M.ofOpt (bin Try.prog .eql 3 v42 v44))) h44) fun v45 h45 =>
  ob ((M.ofOpt (pick v33 v45 (.bool false))) h45) fun v46 h46 =>
  iteV v46 (
  k .ret [x0, x1, x2, x3, x4, x5, (.bool true), x7, x7, v3, v4, v5, x12, x13, v6, v7, v8, v9, v10, v10, v11, v12, v13, v14, v15, v15, v16, v17, v18, v19, v20, v20, v21, v22, v23, v24, v25, v26, v27, v28, v29, v30, v31, v32, v33, v33, v34, v35, v36, v37, v38, v39, v40, v41, v42, v43, v44, v45, v46] h46) (
  ob ((M.ofOpt (bin Try.prog .add 3 x7 (.int .i64 1))) h46) fun v47 h47 =>
  k .normal [x0, x1, x2, x3, x4, x5, x6, v47, x7, v3, v4, v5, x7, v47, v6, v7, v8, v9, v10, v10, v11, v12, v13, v14, v15, v15, v16, v17, v18, v19, v20, v20, v21, v22, v23, v24, v25, v26, v27, v28, v29, v30, v31, v32, v33, v33, v34, v35, v36, v37, v38, v39, v40, v41, v42, v43, v44, v45, v46] h47)))))))))))))))) (
  k (.exit 0) [x0, x1, x2, x3, x4, x5, x6, x7, x7, v3, v4, v5, x12, x13, x14, x15, x16, x17, x18, x19, x20, x21, x22, x23, x24, x25, x26, x27, x28, x29, x30, x31, x32, x33, x34, x35, x36, x37, x38, x39, x40, x41, x42, x43, x44, x45, x46, x47, x48, x49, x50, x51, x52, x53, x54, x55, x56, x57, x58] h5)
theorem f68_b0_eq (O : Oracle) (L : Loops (Value × Heap)) (k : Ex → K (Value × Heap)) (x0 x1 x2 x3 x4 x5 x6 x7 x8 x9 x10 x11 x12 x13 x14 x15 x16 x17 x18 x19 x20 x21 x22 x23 x24 x25 x26 x27 x28 x29 x30 x31 x32 x33 x34 x35 x36 x37 x38 x39 x40 x41 x42 x43 x44 x45 x46 x47 x48 x49 x50 x51 x52 x53 x54 x55 x56 x57 x58 : Value) (h : Heap) :
    runCode Try.prog O L f68_c0 k [x0, x1, x2, x3, x4, x5, x6, x7, x8, x9, x10, x11, x12, x13, x14, x15, x16, x17, x18, x19, x20, x21, x22, x23, x24, x25, x26, x27, x28, x29, x30, x31, x32, x33, x34, x35, x36, x37, x38, x39, x40, x41, x42, x43, x44, x45, x46, x47, x48, x49, x50, x51, x52, x53, x54, x55, x56, x57, x58] h = f68_b0 O L k x0 x1 x2 x3 x4 x5 x6 x7 x8 x9 x10 x11 x12 x13 x14 x15 x16 x17 x18 x19 x20 x21 x22 x23 x24 x25 x26 x27 x28 x29 x30 x31 x32 x33 x34 x35 x36 x37 x38 x39 x40 x41 x42 x43 x44 x45 x46 x47 x48 x49 x50 x51 x52 x53 x54 x55 x56 x57 x58 h := by kernel_rfl
noncomputable def f68 (O : Oracle) (L : Loops (Value × Heap)) (a0 a1 a2 : Value) (h : Heap) : Option (Value × Heap) :=
  ob ((newB 27 (Value.cells a0).toList .fix) h) fun v0 h0 =>
  ob ((newB 38 (Value.cells a1).toList .fix) h0) fun v1 h1 =>
  ob ((newB 38 (Value.cells a2).toList .fix) h1) fun v2 h2 =>
  L (runCode Try.prog O L f68_c0) (f68_k0 O L) [a0, a1, a2, v0, v1, v2, (.bool false), (.int .i64 0), undef, undef, undef, undef, undef, undef, undef, undef, undef, undef, undef, undef, undef, undef, undef, undef, undef, undef, undef, undef, undef, undef, undef, undef, undef, undef, undef, undef, undef, undef, undef, undef, undef, undef, undef, undef, undef, undef, undef, undef, undef, undef, undef, undef, undef, undef, undef, undef, undef, undef, undef] h2
theorem f68_eq (O : Oracle) (L : Loops (Value × Heap)) (a0 a1 a2 : Value) (h : Heap) :
    body Try.prog O L 68 [a0, a1, a2] h = f68 O L a0 a1 a2 h := by kernel_rfl
noncomputable def f69_c2 : Code := sub [1, 1, 0, 1, 0, 0, 1, 0, 0, 1, 0, 0, 1, 0, 0, 1, 1, 0, 0] (fbody Try.prog 69)
noncomputable def f69_k2 (O : Oracle) (L : Loops (Value × Heap)) (k : Ex → K (Value × Heap)) : Ex → K (Value × Heap) := (blockK 4 (blockK 3 (seqK Try.prog O L (sub [1, 1, 0, 1, 0, 0, 1, 0, 0, 1, 0, 0, 1, 1] (fbody Try.prog 69)) k)))
noncomputable def f69_e2_4 (O : Oracle) (L : Loops (Value × Heap)) (k : Ex → K (Value × Heap)) (x0 x1 x2 x3 x4 x5 x6 x7 x8 x9 x10 x11 x12 x13 x14 x15 x16 x17 x18 x19 x20 x21 x22 x23 x24 x25 x26 x27 x28 x29 x30 x31 x32 x33 x34 x35 x36 x37 x38 x39 x40 x41 x42 x43 x44 x45 x46 x47 x48 x49 x50 x51 x52 : Value) (h : Heap) : Option (Value × Heap) :=
  ob ((M.ofOpt (bin Try.prog .add 3 x7 (.int .i64 1))) h) fun v26 h26 =>
  k .normal [x0, x1, x2, x3, x4, x5, x6, v26, x8, x9, x10, x11, x12, x13, x14, x15, x16, x17, x18, x19, x20, x21, x7, v26, x24, x25, x26, x27, x28, x29, x30, x31, x32, x33, x34, x35, x36, x37, x38, x39, x40, x41, x42, x43, x44, x45, x46, x47, x48, x49, x50, x51, x52] h26
theorem f69_e2_4_eq (O : Oracle) (L : Loops (Value × Heap)) (k : Ex → K (Value × Heap)) (x0 x1 x2 x3 x4 x5 x6 x7 x8 x9 x10 x11 x12 x13 x14 x15 x16 x17 x18 x19 x20 x21 x22 x23 x24 x25 x26 x27 x28 x29 x30 x31 x32 x33 x34 x35 x36 x37 x38 x39 x40 x41 x42 x43 x44 x45 x46 x47 x48 x49 x50 x51 x52 : Value) (h : Heap) :
    f69_k2 O L k (.exit 4) [x0, x1, x2, x3, x4, x5, x6, x7, x8, x9, x10, x11, x12, x13, x14, x15, x16, x17, x18, x19, x20, x21, x22, x23, x24, x25, x26, x27, x28, x29, x30, x31, x32, x33, x34, x35, x36, x37, x38, x39, x40, x41, x42, x43, x44, x45, x46, x47, x48, x49, x50, x51, x52] h = f69_e2_4 O L k x0 x1 x2 x3 x4 x5 x6 x7 x8 x9 x10 x11 x12 x13 x14 x15 x16 x17 x18 x19 x20 x21 x22 x23 x24 x25 x26 x27 x28 x29 x30 x31 x32 x33 x34 x35 x36 x37 x38 x39 x40 x41 x42 x43 x44 x45 x46 x47 x48 x49 x50 x51 x52 h := by kernel_rfl
noncomputable def f69_b2 (O : Oracle) (L : Loops (Value × Heap)) (k : Ex → K (Value × Heap)) (x0 x1 x2 x3 x4 x5 x6 x7 x8 x9 x10 x11 x12 x13 x14 x15 x16 x17 x18 x19 x20 x21 x22 x23 x24 x25 x26 x27 x28 x29 x30 x31 x32 x33 x34 x35 x36 x37 x38 x39 x40 x41 x42 x43 x44 x45 x46 x47 x48 x49 x50 x51 x52 : Value) (h : Heap) : Option (Value × Heap) :=
  ob ((M.ofOpt (iAddr 1 x0 x7)) h) fun v15 h15 =>
  ob ((ld1 v15) h15) fun v16 h16 =>
  ob ((M.ofOpt (lenSl v16)) h16) fun v17 h17 =>
  ob ((M.ofOpt (bin Try.prog .lss 3 x8 v17)) h17) fun v18 h18 =>
  iteV v18 (
  ob ((M.ofOpt (iAddr 1 x0 x7)) h18) fun v19 h19 =>
  ob ((ld1 v19) h19) fun v20 h20 =>
  ob ((M.ofOpt (iAddr 1 v20 x8)) h20) fun v21 h21 =>
  ob ((ld1 v21) h21) fun v22 h22 =>
  ob ((M.ofOpt (iAddr 1 x5 v22)) h22) fun v23 h23 =>
  ob ((stN 1 v23 (.int .i64 1)) h23) fun v24 h24 =>
  ob ((M.ofOpt (bin Try.prog .add 3 x8 (.int .i64 1))) h24) fun v25 h25 =>
  k .normal [x0, x1, x2, x3, x4, x5, x6, x7, v25, x9, x10, x11, x12, x13, x14, x15, x16, x17, x18, x19, x20, x21, x22, x23, x24, x25, x26, x27, x28, x29, x30, x31, x32, x33, x8, x0, x7, v15, v16, v17, v18, x8, v25, x5, x0, x7, v19, v20, x8, v21, v22, v23, x52] h25) (
  k (.exit 4) [x0, x1, x2, x3, x4, x5, x6, x7, x8, x9, x10, x11, x12, x13, x14, x15, x16, x17, x18, x19, x20, x21, x22, x23, x24, x25, x26, x27, x28, x29, x30, x31, x32, x33, x8, x0, x7, v15, v16, v17, v18, x41, x42, x43, x44, x45, x46, x47, x48, x49, x50, x51, x52] h18)
theorem f69_b2_eq (O : Oracle) (L : Loops (Value × Heap)) (k : Ex → K (Value × Heap)) (x0 x1 x2 x3 x4 x5 x6 x7 x8 x9 x10 x11 x12 x13 x14 x15 x16 x17 x18 x19 x20 x21 x22 x23 x24 x25 x26 x27 x28 x29 x30 x31 x32 x33 x34 x35 x36 x37 x38 x39 x40 x41 x42 x43 x44 x45 x46 x47 x48 x49 x50 x51 x52 : Value) (h : Heap) :
    runCode Try.prog O L f69_c2 k [x0, x1, x2, x3, x4, x5, x6, x7, x8, x9, x10, x11, x12, x13, x14, x15, x16, x17, x18, x19, x20, x21, x22, x23, x24, x25, x26, x27, x28, x29, x30, x31, x32, x33, x34, x35, x36, x37, x38, x39, x40, x41, x42, x43, x44, x45, x46, x47, x48, x49, x50, x51, x52] h = f69_b2 O L k x0 x1 x2 x3 x4 x5 x6 x7 x8 x9 x10 x11 x12 x13 x14 x15 x16 x17 x18 x19 x20 x21 x22 x23 x24 x25 x26 x27 x28 x29 x30 x31 x32 x33 x34 x35 x36 x37 x38 x39 x40 x41 x42 x43 x44 x45 x46 x47 x48 x49 x50 x51 x52 h := by kernel_rfl
noncomputable def f69_c1 : Code := sub [1, 1, 0, 1, 0, 0, 1, 0, 0, 1, 0, 0] (fbody Try.prog 69)
noncomputable def f69_k1 (O : Oracle) (L : Loops (Value × Heap)) (k : Ex → K (Value × Heap)) : Ex → K (Value × Heap) := (blockK 2 (blockK 1 (seqK Try.prog O L (sub [1, 1, 0, 1, 0, 0, 1, 1] (fbody Try.prog 69)) k)))
noncomputable def f69_e1_2 (O : Oracle) (L : Loops (Value × Heap)) (k : Ex → K (Value × Heap)) (x0 x1 x2 x3 x4 x5 x6 x7 x8 x9 x10 x11 x12 x13 x14 x15 x16 x17 x18 x19 x20 x21 x22 x23 x24 x25 x26 x27 x28 x29 x30 x31 x32 x33 x34 x35 x36 x37 x38 x39 x40 x41 x42 x43 x44 x45 x46 x47 x48 x49 x50 x51 x52 : Value) (h : Heap) : Option (Value × Heap) :=
  ob ((M.ofOpt (bin Try.prog .add 3 x6 (.int .i64 1))) h) fun v14 h14 =>
  k .normal [x0, x1, x2, x3, x4, x5, v14, x7, x8, x9, x10, x11, x12, x13, x14, x15, x6, v14, x18, x19, x20, x21, x22, x23, x24, x25, x26, x27, x28, x29, x30, x31, x32, x33, x34, x35, x36, x37, x38, x39, x40, x41, x42, x43, x44, x45, x46, x47, x48, x49, x50, x51, x52] h14
theorem f69_e1_2_eq (O : Oracle) (L : Loops (Value × Heap)) (k : Ex → K (Value × Heap)) (x0 x1 x2 x3 x4 x5 x6 x7 x8 x9 x10 x11 x12 x13 x14 x15 x16 x17 x18 x19 x20 x21 x22 x23 x24 x25 x26 x27 x28 x29 x30 x31 x32 x33 x34 x35 x36 x37 x38 x39 x40 x41 x42 x43 x44 x45 x46 x47 x48 x49 x50 x51 x52 : Value) (h : Heap) :
    f69_k1 O L k (.exit 2) [x0, x1, x2, x3, x4, x5, x6, x7, x8, x9, x10, x11, x12, x13, x14, x15, x16, x17, x18, x19, x20, x21, x22, x23, x24, x25, x26, x27, x28, x29, x30, x31, x32, x33, x34, x35, x36, x37, x38, x39, x40, x41, x42, x43, x44, x45, x46, x47, x48, x49, x50, x51, x52] h = f69_e1_2 O L k x0 x1 x2 x3 x4 x5 x6 x7 x8 x9 x10 x11 x12 x13 x14 x15 x16 x17 x18 x19 x20 x21 x22 x23 x24 x25 x26 x27 x28 x29 x30 x31 x32 x33 x34 x35 x36 x37 x38 x39 x40 x41 x42 x43 x44 x45 x46 x47 x48 x49 x50 x51 x52 h := by kernel_rfl
noncomputable def f69_b1 (O : Oracle) (L : Loops (Value × Heap)) (k : Ex → K (Value × Heap)) (x0 x1 x2 x3 x4 x5 x6 x7 x8 x9 x10 x11 x12 x13 x14 x15 x16 x17 x18 x19 x20 x21 x22 x23 x24 x25 x26 x27 x28 x29 x30 x31 x32 x33 x34 x35 x36 x37 x38 x39 x40 x41 x42 x43 x44 x45 x46 x47 x48 x49 x50 x51 x52 : Value) (h : Heap) : Option (Value × Heap) :=
  ob ((M.ofOpt (lenSl x0)) h) fun v4 h4 =>
  ob ((M.ofOpt (bin Try.prog .lss 3 x7 v4)) h4) fun v5 h5 =>
  iteV v5 (
  ob ((M.ofOpt (bin Try.prog .neq 3 x7 x1)) h5) fun v6 h6 =>
  ob ((gd v6 true (M.ret x5)) h6) fun v7 h7 =>
  ob ((gd v6 true (M.ret x7)) h7) fun v8 h8 =>
  ob ((gd v6 true (M.ofOpt (iAddr 1 v7 v8))) h8) fun v9 h9 =>
  ob ((gd v6 true (ld1 v9)) h9) fun v10 h10 =>
  ob ((gd v6 true (M.ofOpt (bin Try.prog .eql 3 v10 (.int .i64 0)))) h10) fun v11 h11 =>
  ob ((M.ofOpt (pick v6 v11 (.bool false))) h11) fun v12 h12 =>
  iteV v12 (
  ob ((M.ofOpt (bin Try.prog .add 3 x7 (.int .i64 1))) h12) fun v13 h13 =>
  k .normal [x0, x1, x2, x3, x4, x5, x6, v13, x8, x9, x10, x11, x12, x13, x14, x15, x16, x17, x7, x0, v4, v5, x7, v13, x7, x1, v6, v6, v7, v8, v9, v10, v11, v12, x34, x35, x36, x37, x38, x39, x40, x41, x42, x43, x44, x45, x46, x47, x48, x49, x50, x51, x52] h13) (
  L (runCode Try.prog O L f69_c2) (f69_k2 O L k) [x0, x1, x2, x3, x4, x5, x6, x7, (.int .i64 0), x9, x10, x11, x12, x13, x14, x15, x16, x17, x7, x0, v4, v5, x22, x23, x7, x1, v6, v6, v7, v8, v9, v10, v11, v12, x34, x35, x36, x37, x38, x39, x40, x41, x42, x43, x44, x45, x46, x47, x48, x49, x50, x51, x52] h12)) (
  k (.exit 2) [x0, x1, x2, x3, x4, x5, x6, x7, x8, x9, x10, x11, x12, x13, x14, x15, x16, x17, x7, x0, v4, v5, x22, x23, x24, x25, x26, x27, x28, x29, x30, x31, x32, x33, x34, x35, x36, x37, x38, x39, x40, x41, x42, x43, x44, x45, x46, x47, x48, x49, x50, x51, x52] h5)
theorem f69_b1_eq (O : Oracle) (L : Loops (Value × Heap)) (k : Ex → K (Value × Heap)) (x0 x1 x2 x3 x4 x5 x6 x7 x8 x9 x10 x11 x12 x13 x14 x15 x16 x17 x18 x19 x20 x21 x22 x23 x24 x25 x26 x27 x28 x29 x30 x31 x32 x33 x34 x35 x36 x37 x38 x39 x40 x41 x42 x43 x44 x45 x46 x47 x48 x49 x50 x51 x52 : Value) (h : Heap) :
    runCode Try.prog O L f69_c1 k [x0, x1, x2, x3, x4, x5, x6, x7, x8, x9, x10, x11, x12, x13, x14, x15, x16, x17, x18, x19, x20, x21, x22, x23, x24, x25, x26, x27, x28, x29, x30, x31, x32, x33, x34, x35, x36, x37, x38, x39, x40, x41, x42, x43, x44, x45, x46, x47, x48, x49, x50, x51, x52] h = f69_b1 O L k x0 x1 x2 x3 x4 x5 x6 x7 x8 x9 x10 x11 x12 x13 x14 x15 x16 x17 x18 x19 x20 x21 x22 x23 x24 x25 x26 x27 x28 x29 x30 x31 x32 x33 x34 x35 x36 x37 x38 x39 x40 x41 x42 x43 x44 x45 x46 x47 x48 x49 x50 x51 x52 h := by kernel_rfl
noncomputable def f69_c0 : Code := sub [1, 1, 0, 1, 0, 0] (fbody Try.prog 69)
noncomputable def f69_k0 (O : Oracle) (L : Loops (Value × Heap)) : Ex → K (Value × Heap) := (blockK 0 (seqK Try.prog O L (sub [1, 1, 1] (fbody Try.prog 69)) (kRet Try.prog Try.f69)))
noncomputable def f69_e0_0 (O : Oracle) (L : Loops (Value × Heap)) (x0 x1 x2 x3 x4 x5 x6 x7 x8 x9 x10 x11 x12 x13 x14 x15 x16 x17 x18 x19 x20 x21 x22 x23 x24 x25 x26 x27 x28 x29 x30 x31 x32 x33 x34 x35 x36 x37 x38 x39 x40 x41 x42 x43 x44 x45 x46 x47 x48 x49 x50 x51 x52 : Value) (h : Heap) : Option (Value × Heap) :=
  some (oneOf [x5], h)
theorem f69_e0_0_eq (O : Oracle) (L : Loops (Value × Heap)) (x0 x1 x2 x3 x4 x5 x6 x7 x8 x9 x10 x11 x12 x13 x14 x15 x16 x17 x18 x19 x20 x21 x22 x23 x24 x25 x26 x27 x28 x29 x30 x31 x32 x33 x34 x35 x36 x37 x38 x39 x40 x41 x42 x43 x44 x45 x46 x47 x48 x49 x50 x51 x52 : Value) (h : Heap) :
    f69_k0 O L (.exit 0) [x0, x1, x2, x3, x4, x5, x6, x7, x8, x9, x10, x11, x12, x13, x14, x15, x16, x17, x18, x19, x20, x21, x22, x23, x24, x25, x26, x27, x28, x29, x30, x31, x32, x33, x34, x35, x36, x37, x38, x39, x40, x41, x42, x43, x44, x45, x46, x47, x48, x49, x50, x51, x52] h = f69_e0_0 O L x0 x1 x2 x3 x4 x5 x6 x7 x8 x9 x10 x11 x12 x13 x14 x15 x16 x17 x18 x19 x20 x21 x22 x23 x24 x25 x26 x27 x28 x29 x30 x31 x32 x33 x34 x35 x36 x37 x38 x39 x40 x41 x42 x43 x44 x45 x46 x47 x48 x49 x50 x51 x52 h := by kernel_rfl
noncomputable def f69_b0 (O : Oracle) (L : Loops (Value × Heap)) (k : Ex → K (Value × Heap)) (x0 x1 x2 x3 x4 x5 x6 x7 x8 x9 x10 x11 x12 x13 x14 x15 x16 x17 x18 x19 x20 x21 x22 x23 x24 x25 x26 x27 x28 x29 x30 x31 x32 x33 x34 x35 x36 x37 x38 x39 x40 x41 x42 x43 x44 x45 x46 x47 x48 x49 x50 x51 x52 : Value) (h : Heap) : Option (Value × Heap) :=
  ob ((M.ofOpt (lenSl x0)) h) fun v2 h2 =>
  ob ((M.ofOpt (bin Try.prog .lss 3 x6 v2)) h2) fun v3 h3 =>
  iteV v3 (
  L (runCode Try.prog O L f69_c1) (f69_k1 O L k) [x0, x1, x2, x3, x4, x5, x6, (.int .i64 0), x8, x9, x10, x11, x6, x0, v2, v3, x16, x17, x18, x19, x20, x21, x22, x23, x24, x25, x26, x27, x28, x29, x30, x31, x32, x33, x34, x35, x36, x37, x38, x39, x40, x41, x42, x43, x44, x45, x46, x47, x48, x49, x50, x51, x52] h3) (
  k (.exit 0) [x0, x1, x2, x3, x4, x5, x6, x7, x8, x9, x10, x11, x6, x0, v2, v3, x16, x17, x18, x19, x20, x21, x22, x23, x24, x25, x26, x27, x28, x29, x30, x31, x32, x33, x34, x35, x36, x37, x38, x39, x40, x41, x42, x43, x44, x45, x46, x47, x48, x49, x50, x51, x52] h3)
theorem f69_b0_eq (O : Oracle) (L : Loops (Value × Heap)) (k : Ex → K (Value × Heap)) (x0 x1 x2 x3 x4 x5 x6 x7 x8 x9 x10 x11 x12 x13 x14 x15 x16 x17 x18 x19 x20 x21 x22 x23 x24 x25 x26 x27 x28 x29 x30 x31 x32 x33 x34 x35 x36 x37 x38 x39 x40 x41 x42 x43 x44 x45 x46 x47 x48 x49 x50 x51 x52 : Value) (h : Heap) :
    runCode Try.prog O L f69_c0 k [x0, x1, x2, x3, x4, x5, x6, x7, x8, x9, x10, x11, x12, x13, x14, x15, x16, x17, x18, x19, x20, x21, x22, x23, x24, x25, x26, x27, x28, x29, x30, x31, x32, x33, x34, x35, x36, x37, x38, x39, x40, x41, x42, x43, x44, x45, x46, x47, x48, x49, x50, x51, x52] h = f69_b0 O L k x0 x1 x2 x3 x4 x5 x6 x7 x8 x9 x10 x11 x12 x13 x14 x15 x16 x17 x18 x19 x20 x21 x22 x23 x24 x25 x26 x27 x28 x29 x30 x31 x32 x33 x34 x35 x36 x37 x38 x39 x40 x41 x42 x43 x44 x45 x46 x47 x48 x49 x50 x51 x52 h := by kernel_rfl
noncomputable def f69 (O : Oracle) (L : Loops (Value × Heap)) (a0 a1 : Value) (h : Heap) : Option (Value × Heap) :=
  ob ((M.ofOpt (lenSl a0)) h) fun v0 h0 =>
  ob ((mkSlice 3 1 8 [(.int .i64 0)] v0 v0) h0) fun v1 h1 =>
  L (runCode Try.prog O L f69_c0) (f69_k0 O L) [a0, a1, undef, undef, (.slice none 0 0), v1, (.int .i64 0), undef, undef, a0, v0, v1, undef, undef, undef, undef, undef, undef, undef, undef, undef, undef, undef, undef, undef, undef, undef, undef, undef, undef, undef, undef, undef, undef, undef, undef, undef, undef, undef, undef, undef, undef, undef, undef, undef, undef, undef, undef, undef, undef, undef, undef, undef] h1
theorem f69_eq (O : Oracle) (L : Loops (Value × Heap)) (a0 a1 : Value) (h : Heap) :
    body Try.prog O L 69 [a0, a1] h = f69 O L a0 a1 h := by kernel_rfl
noncomputable def f9_c0 : Code := sub [1, 1, 1, 1, 1, 0, 1, 0, 0] (fbody Try.prog 9)
noncomputable def f9_k0 (O : Oracle) (L : Loops (Value × Heap)) : Ex → K (Value × Heap) := (blockK 0 (seqK Try.prog O L (sub [1, 1, 1, 1, 1, 1] (fbody Try.prog 9)) (kRet Try.prog Try.f9)))
noncomputable def f9 (O : Oracle) (L : Loops (Value × Heap)) (a0 a1 a2 : Value) (h : Heap) : Option (Value × Heap) :=
  ob ((O (.func 15) [a0, a1, a2, (.int .u16 0), (.slice none 0 0)]) h) fun v0 h0 =>
  ob ((newB 27 [(.int .i64 0), (.slice none 0 0), (.int .i64 0), (.int .i64 0), (.int .i64 0), (.int .i64 0), (.int .i64 0), (.int .i64 0), (.slice none 0 0), (.int .u16 0), (.slice none 0 0)] .fix) h0) fun v1 h1 =>
  ob ((stN 11 v1 v0) h1) fun v2 h2 =>
  ob ((M.ofOpt (fAddr 0 v1)) h2) fun v3 h3 =>
  ob ((ld1 v3) h3) fun v4 h4 =>
  ob ((M.ofOpt (bin Try.prog .lss 3 v4 (.int .i64 3))) h4) fun v5 h5 =>
  iteV v5 (
  ob ((O (.func 23) []) h5) fun v6 h6 =>
  some (oneOf [v6], h6)) (
  ob ((M.ofOpt (fAddr 1 v1)) h5) fun v7 h7 =>
  ob ((stN 1 v7 (.slice none 0 0)) h7) fun v8 h8 =>
  L (runCode Try.prog O L f9_c0) (f9_k0 O L) [a0, a1, a2, undef, undef, undef, (.bool false), v1, v4, (.int .i64 1), undef, undef, undef, undef, undef, a0, a1, a2, v0, v3, v4, v4, v5, undef, v7, undef, undef, undef, undef, undef, undef, undef, undef, undef, undef, undef, undef, undef, undef, undef, undef, undef, undef, undef, undef, undef, undef, undef, undef, undef, undef, undef, undef, undef, undef, undef, undef, undef, undef, undef, undef, undef, undef, undef, undef, undef, undef, undef, undef, undef, undef, undef, undef, undef, undef, undef, undef, undef, undef, undef, undef, undef, undef, undef, undef, undef, undef, undef, undef, undef, undef, undef, undef, undef, undef, undef, undef, undef, undef, undef, undef, undef, undef, undef, undef, undef, undef, undef, undef, undef, undef, undef, undef, undef, undef, undef, undef] h8)
noncomputable def f10 (O : Oracle) (L : Loops (Value × Heap)) (a0 a1 a2 a3 a4 : Value) (h : Heap) : Option (Value × Heap) :=
  ob ((O (.func 15) [a0, a1, a2, (.int .u16 0), (.slice none 0 0)]) h) fun v0 h0 =>
  ob ((newB 27 [(.int .i64 0), (.slice none 0 0), (.int .i64 0), (.int .i64 0), (.int .i64 0), (.int .i64 0), (.int .i64 0), (.int .i64 0), (.slice none 0 0), (.int .u16 0), (.slice none 0 0)] .fix) h0) fun v1 h1 =>
  ob ((stN 11 v1 v0) h1) fun v2 h2 =>
  ob ((conv Try.prog 5 3 a3) h2) fun v3 h3 =>
  ob ((M.ofOpt (fAddr 0 v1)) h3) fun v4 h4 =>
  ob ((ld1 v4) h4) fun v5 h5 =>
  ob ((M.ofOpt (bin Try.prog .rem 3 v3 v5)) h5) fun v6 h6 =>
  ob ((conv Try.prog 5 3 a4) h6) fun v7 h7 =>
  ob ((M.ofOpt (fAddr 0 v1)) h7) fun v8 h8 =>
  ob ((ld1 v8) h8) fun v9 h9 =>
  ob ((M.ofOpt (bin Try.prog .rem 3 v7 v9)) h9) fun v10 h10 =>
  ob ((ldN 11 v1) h10) fun v11 h11 =>
  ob ((O (.func 25) [v11, v6, v10]) h11) fun v12 h12 =>
  ob ((ldN 11 v1) h12) fun v13 h13 =>
  ob ((O (.func 24) [v13]) h13) fun v14 h14 =>
  ob ((M.ofOpt (fAddr 2 v1)) h14) fun v15 h15 =>
  ob ((stN 1 v15 (.int .i64 9)) h15) fun v16 h16 =>
  ob ((O (.func 23) []) h16) fun v17 h17 =>
  ob ((gd v17 true (M.ret v14)) h17) fun v18 h18 =>
  ob ((gd v17 true (M.ofOpt (bin Try.prog .eql 30 v18 (.int .u16 140)))) h18) fun v19 h19 =>
  ob ((M.ofOpt (pick v17 v19 (.bool false))) h19) fun v20 h20 =>
  ob ((gd v20 true (M.ret v12)) h20) fun v21 h21 =>
  ob ((gd v20 true (M.ofOpt (lenSl v21))) h21) fun v22 h22 =>
  ob ((gd v20 true (M.ofOpt (bin Try.prog .eql 3 v22 (.int .i64 1)))) h22) fun v23 h23 =>
  ob ((gd v20 true (M.ret v6)) h23) fun v24 h24 =>
  ob ((gd v20 true (M.ret v10)) h24) fun v25 h25 =>
  ob ((gd v20 true (M.ofOpt (bin Try.prog .eql 3 v24 v25))) h25) fun v26 h26 =>
  ob ((gd v20 true (M.ofOpt (bin Try.prog .eql 4 v23 v26))) h26) fun v27 h27 =>
  ob ((M.ofOpt (pick v20 v27 (.bool false))) h27) fun v28 h28 =>
  ob ((gd v28 true (M.ret v12)) h28) fun v29 h29 =>
  ob ((gd v28 true (M.ofOpt (lenSl v29))) h29) fun v30 h30 =>
  ob ((gd v28 true (M.ofOpt (bin Try.prog .leq 3 v30 (.int .i64 1)))) h30) fun v31 h31 =>
  ob ((M.ofOpt (pick v28 v31 (.bool false))) h31) fun v32 h32 =>
  ob ((gd v32 true (ldN 11 v1)) h32) fun v33 h33 =>
  ob ((gd v32 true (O (.func 24) [v33])) h33) fun v34 h34 =>
  ob ((gd v32 true (M.ofOpt (bin Try.prog .eql 30 v34 (.int .u16 120)))) h34) fun v35 h35 =>
  ob ((M.ofOpt (pick v32 v35 (.bool false))) h35) fun v36 h36 =>
  ob ((gd v36 true (ldN 11 v1)) h36) fun v37 h37 =>
  ob ((gd v36 true (M.ret v6)) h37) fun v38 h38 =>
  ob ((gd v36 true (M.ret v6)) h38) fun v39 h39 =>
  ob ((gd v36 true (O (.func 25) [v37, v38, v39])) h39) fun v40 h40 =>
  ob ((gd v36 true (M.ofOpt (lenSl v40))) h40) fun v41 h41 =>
  ob ((gd v36 true (M.ofOpt (bin Try.prog .eql 3 v41 (.int .i64 0)))) h41) fun v42 h42 =>
  ob ((M.ofOpt (pick v36 v42 (.bool false))) h42) fun v43 h43 =>
  ob ((gd v43 true (ldN 11 v1)) h43) fun v44 h44 =>
  ob ((gd v43 true (O (.func 26) [v44])) h44) fun v45 h45 =>
  ob ((gd v43 true (M.ofOpt (lenSl v45))) h45) fun v46 h46 =>
  ob ((gd v43 true (M.ofOpt (bin Try.prog .eql 3 v46 (.int .i64 0)))) h46) fun v47 h47 =>
  ob ((M.ofOpt (pick v43 v47 (.bool false))) h47) fun v48 h48 =>
  some (oneOf [v48], h48)
noncomputable def f11 (O : Oracle) (L : Loops (Value × Heap)) (a0 a1 a2 a3 a4 a5 a6 a7 : Value) (h : Heap) : Option (Value × Heap) :=
  ob ((newB 27 (Value.cells a0).toList .fix) h) fun v0 h0 =>
  ob ((ldN 11 v0) h0) fun v1 h1 =>
  ob ((O (.func 20) [v1]) h1) fun v2 h2 =>
  ob ((M.ofOpt (bin Try.prog .gtr 3 v2 (.int .i64 300))) h2) fun v3 h3 =>
  ob ((gd v3 false (O (.func 23) [])) h3) fun v4 h4 =>
  ob ((gd v3 false (M.ofOpt (un Try.prog .not v4))) h4) fun v5 h5 =>
  ob ((M.ofOpt (pick v3 (.bool true) v5)) h5) fun v6 h6 =>
  iteV v6 (
  ob ((O (.func 23) []) h6) fun v7 h7 =>
  some (oneOf [v7], h7)) (
  ob ((O (.func 15) [a1, a2, a3, a4, a5]) h6) fun v8 h8 =>
  ob ((newB 27 [(.int .i64 0), (.slice none 0 0), (.int .i64 0), (.int .i64 0), (.int .i64 0), (.int .i64 0), (.int .i64 0), (.int .i64 0), (.slice none 0 0), (.int .u16 0), (.slice none 0 0)] .fix) h8) fun v9 h9 =>
  ob ((stN 11 v9 v8) h9) fun v10 h10 =>
  ob ((ldN 11 v0) h10) fun v11 h11 =>
  ifB (true) (
  ob ((O (.func 27) [v11, a6, a7]) h11) fun v12 h12 =>
  ifB (true) (
  ob ((gd v12 true (ldN 11 v9)) h12) fun v13 h13 =>
  ifB (true) (
  ob ((gd v12 true (M.ret a6)) h13) fun v14 h14 =>
  ob ((gd v12 true (M.ret a7)) h14) fun v15 h15 =>
  ob ((gd v12 true (O (.func 27) [v13, v14, v15])) h15) fun v16 h16 =>
  ifB (true) (
  ob ((M.ofOpt (pick v12 v16 (.bool false))) h16) fun v17 h17 =>
  ob ((gd v17 true (ldN 11 v9)) h17) fun v18 h18 =>
  ifB (true) (
  ob ((gd v17 true (M.ret a6)) h18) fun v19 h19 =>
  ob ((gd v17 true (M.ofOpt (minmax Try.prog true [v19, (.int .i64 0)]))) h19) fun v20 h20 =>
  ob ((gd v17 true (M.ofOpt (fAddr 0 v9))) h20) fun v21 h21 =>
  ob ((gd v17 true (ld1 v21)) h21) fun v22 h22 =>
  ifB (true) (
  ob ((gd v17 true (M.ofOpt (bin Try.prog .rem 3 v20 v22))) h22) fun v23 h23 =>
  ob ((gd v17 true (M.ret a7)) h23) fun v24 h24 =>
  ob ((gd v17 true (M.ofOpt (minmax Try.prog true [v24, (.int .i64 0)]))) h24) fun v25 h25 =>
  ob ((gd v17 true (M.ofOpt (fAddr 0 v9))) h25) fun v26 h26 =>
  ob ((gd v17 true (ld1 v26)) h26) fun v27 h27 =>
  ifB (true) (
  ob ((gd v17 true (M.ofOpt (bin Try.prog .rem 3 v25 v27))) h27) fun v28 h28 =>
  ob ((gd v17 true (O (.func 27) [v18, v23, v28])) h28) fun v29 h29 =>
  ifB (true) (
  ob ((M.ofOpt (pick v17 v29 (.bool false))) h29) fun v30 h30 =>
  some (oneOf [v30], h30))))))))))
theorem f11_eq (O : Oracle) (L : Loops (Value × Heap)) (a0 a1 a2 a3 a4 a5 a6 a7 : Value) (h : Heap) :
    body Try.prog O L 11 [a0, a1, a2, a3, a4, a5, a6, a7] h = f11 O L a0 a1 a2 a3 a4 a5 a6 a7 h := by kernel_rfl
end Go.Proofs.Ytdobnaldfmpimaa

set_option linter.unusedSectionVars false
set_option linter.unusedSimpArgs false
set_option linter.unusedVariables false
set_option maxRecDepth 100000
namespace Go.Proofs.Ytdobnaldfmpimaa
open Go.Abs
def nx (p : PlanD) (v w : Int) : Int := (p.next.getD v.toNat []).getD w.toNat 0
def pthW (p : PlanD) (w : Int) : Nat → List Int → Int → Option (List Int)
  | 0, _, _ => none
  | q + 1, l, v => if v = w then some l else if ((l.length : Int) = p.nodes ∨ (cand p.edges v).contains (nx p v w) = false) then none else pthW p w q (l ++ [nx p v w]) (nx p v w)
def pathL (p : PlanD) (v w : Int) : Option (List Int) := pthW p w p.nodes.toNat [v] v
def pathR (p : PlanD) (v w : Int) : List Int := if checkOk p = true ∧ 0 ≤ v ∧ v < p.nodes ∧ 0 ≤ w ∧ w < p.nodes then (pathL p v w).getD [] else []
structure OkP (p : PlanD) (n : Nat) : Prop where
  hn : p.nodes = (n : Int)
  h2 : 2 ≤ n
  h6 : n ≤ 6
  ve : VE n p.edges
  e15 : p.edges.length ≤ 15
  nl : p.next.length = n
  rl : ∀ r ∈ p.next, r.length = n
theorem ok_of {p : PlanD} (h : checkOk p = true) : ∃ n, OkP p n := by
  unfold checkOk numOk edgesOk rowsOk wi at h
  simp only [Bool.and_eq_true, decide_eq_true_eq, Bool.not_eq_true'] at h
  obtain ⟨⟨⟨h1, h2⟩, _⟩, ⟨h3, h4⟩, _, _, h5, h6⟩ := h
  have hn : p.nodes = ((p.nodes.toNat : Nat) : Int) := by omega
  refine ⟨p.nodes.toNat, hn, by omega, by omega, ?_, by omega, by omega, fun r hr => ?_⟩
  · rw [← hn]; exact (edOk_ve _ _).mp h3
  · rw [List.any_eq_false] at h6
    have := h6 r hr
    simp only [decide_eq_true_eq, ne_eq, Decidable.not_not] at this
    omega
theorem besC {E : List Ed} {v x : Int} : (bes E v).contains x = (cand E v).contains x := by
  rw [Bool.eq_iff_iff, List.contains_iff_mem, List.contains_iff_mem, bes_mem]
section
variable {H : Heap} {m : Nat} {p : PlanD} {ev wv nv : Value}
theorem idx_has (xs : List Int) (w : Int) : decide (0 ≤ idxI xs w) = xs.contains w := by
  unfold idxI
  rw [fst_any, any_range xs (fun x => x == w) _ (fun i x hx => by rw [hx]; rfl)]
  rw [Bool.eq_iff_iff, List.any_eq_true, List.contains_iff_mem]
  constructor
  · rintro ⟨x, h1, h2⟩
    have : x = w := by simpa using h2
    exact this ▸ h1
  · exact fun h => ⟨w, h, by simp⟩
theorem port_neg (E : List Ed) (v x : Int) : decide (portOf E v x < 0) = !((cand E v).contains x) := by
  rw [← besC, ← idx_has]
  unfold portOf
  split
  · rename_i h
    rw [decide_eq_true h, decide_eq_false (by omega)]; rfl
  · rename_i h
    rw [decide_eq_false (by omega), decide_eq_true (by omega)]; rfl
theorem hasI_is {v : Value} {xs : List Int} (hx : Is H v xs) (w : Int) (hn : xs.length + 20 < m) (hm : m ≤ 72057594037927936) : lvl Try.prog pk12 m (.func 66) [v, .int .i64 w] H = some (.bool (xs.contains w), H) := by
  have g := ixI_is hx w (m := m - 1) (by omega) (by omega)
  refine lvl_at (pk_no rfl rfl) (by omega) ?_
  rw [f66_eq]
  unfold f66
  simp -implicitDefEqProofs only [r_opt, r_ret, ob_some, ifB_true, iteV_true, iteV_false, r_gdt, r_gdt2, r_gdtf, r_gdtf2, r_gdff, r_gdff2, r_gdft, r_gdft2, r_gdu, r_gdu2, pick_t, pick_f, ext_0, ext_1, x_newB, r_nil, r_fAddr, Nat.zero_add, b_lss, b_leq, b_gtr, b_geq, b_eql, b_neq, u_not, Bool.not_true, Bool.not_false, oneOf_one, oneOf_two, again_normal, again_exit, again_ret, Bool.and_true, g, idx_has]
theorem nx_at {n : Nat} (hk : OkP p n) (hp : PV H p ev wv nv) {v w : Int} (hv : 0 ≤ v ∧ v < n) (hw : 0 ≤ w ∧ w < n) : ∃ a u a2, iAddr 1 nv (.int .i64 v) = some a ∧ ld1 a H = some (u, H) ∧ iAddr 1 u (.int .i64 w) = some a2 ∧ ld1 a2 H = some (.int .i64 (nx p v w), H) := by
  have ev' : v = ((v.toNat : Nat) : Int) := by omega
  have ew' : w = ((w.toNat : Nat) : Int) := by omega
  have h1 := hk.nl
  obtain ⟨r, hr⟩ : ∃ r, p.next[v.toNat]? = some r := ⟨_, List.getElem?_eq_getElem (by omega)⟩
  have h2 := hk.rl r (List.mem_of_getElem? hr)
  obtain ⟨x, hx⟩ : ∃ x, r[w.toNat]? = some x := ⟨_, List.getElem?_eq_getElem (by omega)⟩
  obtain ⟨a, u, g1, g2, g3⟩ := hp.n.at_ hr .i64
  obtain ⟨b, o, g4, _, g6⟩ := g3.at_ inC_len hx .i64
  rw [← ev'] at g1
  rw [← ew'] at g4
  have e : nx p v w = x := by
    unfold nx
    simp only [List.getD_eq_getElem?_getD, hr, hx, Option.getD_some]
  rw [e]
  exact ⟨a, u, _, g1, g2, g4, (g6 H rfl).2.1 0 _ rfl⟩
def PathRes (H0 : Heap) (o : Option (List Int)) (H' : Heap) (u : Value) : Prop := Ext H0 H' ∧ ∃ lv, u = .tuple #[lv, .bool o.isSome] ∧ Iw H' lv (o.getD []) ∧ New H0 lv
theorem path_loop {n : Nat} (hk : OkP p n) {H0 : Heap} {a : Nat} {w : Int} (hw : 0 ≤ w ∧ w < n) (hp : PV H0 p ev wv nv) (hb : H0[a]? = some (plB p ev wv nv)) (hm : 200 < m) (hm2 : m ≤ 72057594037927936) :
    ∀ (q k : Nat) (H1 : Heap) (u : Value) (l : List Int) (v : Int), q + l.length = n + 1 → l.length ≤ n → q < k → 0 ≤ v ∧ v < n → Ext H0 H1 → Iw H1 u l → New H0 u → ∀ (x0 x4 x5 x6 x7 x9 x10 x11 x12 x13 x14 x15 x16 x17 x18 x19 x20 x21 x22 x23 x24 x25 x26 x27 x28 x29 x30 x31 x32 x33 x34 x35 x36 x37 x38 x39 x40 x41 : Value),
    ∃ H' r, loopN k (runCode Try.prog (lvl Try.prog pk12 m) (loopN m) f47_c0) (f47_k0 (lvl Try.prog pk12 m) (loopN m)) [x0, (.int .i64 v), (.int .i64 w), (.pointer (some ⟨a, 0, none⟩)), x4, x5, x6, x7, u, x9, x10, x11, x12, x13, x14, x15, x16, x17, x18, x19, x20, x21, x22, x23, x24, x25, x26, x27, x28, x29, x30, x31, x32, x33, x34, x35, x36, x37, x38, x39, x40, x41] H1 = some (r, H') ∧ PathRes H0 (pthW p w q l v) H' r := by
  intro q
  have h6 := hk.h6
  have h15 := hk.e15
  induction q with
  | zero => intro k H1 u l v h1 h2; omega
  | succ q ih =>
    intro k H1 u l v hql hln hk2 hv he hu hnew
    intros
    obtain ⟨k, rfl⟩ : ∃ n, k = n + 1 := ⟨k - 1, by omega⟩
    rw [loop_succ, f47_b0_eq]
    unfold f47_b0 pthW
    by_cases hvw : v = w
    · have d : (v != w) = false := by simp [hvw]
      rw [if_pos hvw]
      simp -implicitDefEqProofs only [r_opt, r_ret, ob_some, ifB_true, iteV_true, iteV_false, r_gdt, r_gdt2, r_gdtf, r_gdtf2, r_gdff, r_gdff2, r_gdft, r_gdft2, r_gdu, r_gdu2, pick_t, pick_f, ext_0, ext_1, x_newB, r_nil, r_fAddr, Nat.zero_add, b_lss, b_leq, b_gtr, b_geq, b_eql, b_neq, u_not, Bool.not_true, Bool.not_false, oneOf_one, oneOf_two, again_normal, again_exit, again_ret, Bool.and_true, d]
      rw [f47_e0_0_eq]
      unfold f47_e0_0
      exact ⟨H1, _, rfl, he, u, rfl, hu, hnew⟩
    · have d : (v != w) = true := by simp [hvw]
      rw [if_neg hvw]
      have b1 := ld_of hb he
      have p1 := hp.ext he
      have l10 := ld_pl b1 10 _ rfl
      have l0 := ld_pl b1 0 _ rfl
      rw [hk.hn] at l0
      obtain ⟨a1, u1, a2, g1, g2, g3, g4⟩ := nx_at hk p1 hv hw
      have hlen := hu.len
      obtain ⟨x, hx⟩ : ∃ x, x = nx p v w := ⟨_, rfl⟩
      rw [← hx] at g4 ⊢
      by_cases hl : l.length = n
      · have dl : ((l.length : Int) == (n : Int)) = true := by simp [hl]
        rw [if_pos (.inl (by rw [hk.hn]; omega))]
        simp -implicitDefEqProofs only [r_opt, r_ret, ob_some, ifB_true, iteV_true, iteV_false, r_gdt, r_gdt2, r_gdtf, r_gdtf2, r_gdff, r_gdff2, r_gdft, r_gdft2, r_gdu, r_gdu2, pick_t, pick_f, ext_0, ext_1, x_newB, r_nil, r_fAddr, Nat.zero_add, b_lss, b_leq, b_gtr, b_geq, b_eql, b_neq, u_not, Bool.not_true, Bool.not_false, oneOf_one, oneOf_two, again_normal, again_exit, again_ret, Bool.and_true, d, l10, g1, g2, g3, g4, hlen, l0, dl]
        rw [f47_r0_eq]
        unfold f47_r0
        exact ⟨H1, _, rfl, he, .slice none 0 0, rfl, Rw.nil, New.nil _⟩
      · have dl : ((l.length : Int) == (n : Int)) = false := by simp; omega
        have l11 := ld_pl11 b1
        obtain ⟨H2, ub, g5, x2, q2, _⟩ := beside_is p1 (m := m) (by omega) (by omega) v
        have hbl := bes_le p.edges v
        have g6 := hasI_is q2.rs x (m := m) (by omega) (by omega)
        rw [besC] at g6
        cases hc : (cand p.edges v).contains x with
        | false =>
          rw [hc] at g6
          rw [if_pos (.inr rfl)]
          simp -implicitDefEqProofs only [r_opt, r_ret, ob_some, ifB_true, iteV_true, iteV_false, r_gdt, r_gdt2, r_gdtf, r_gdtf2, r_gdff, r_gdff2, r_gdft, r_gdft2, r_gdu, r_gdu2, pick_t, pick_f, ext_0, ext_1, x_newB, r_nil, r_fAddr, Nat.zero_add, b_lss, b_leq, b_gtr, b_geq, b_eql, b_neq, u_not, Bool.not_true, Bool.not_false, oneOf_one, oneOf_two, again_normal, again_exit, again_ret, Bool.and_true, d, l10, g1, g2, g3, g4, hlen, l0, dl, l11, g5, g6]
          rw [f47_r0_eq]
          unfold f47_r0
          exact ⟨H2, _, rfl, he.tr x2, .slice none 0 0, rfl, Rw.nil, New.nil _⟩
        | true =>
          rw [hc] at g6
          rw [if_neg (by rw [hk.hn]; rintro (h | h); omega; cases h)]
          have hxin := beside_in hk.ve (bes_mem _ _ _ |>.mpr (List.contains_iff_mem.mp hc))
          have hu2 : Iw H2 u l := hu.keep fun b hb => x2.2 b (hu.lt hb) id
          obtain ⟨u2, H3, t1, t2, t3, t4⟩ := hu2.push1 (by' := 8) inC_len inC_all (by decide) x hnew (he.tr x2) (roomy_mono (n := 1000000) (by decide) (by omega))
          simp -implicitDefEqProofs only [r_opt, r_ret, ob_some, ifB_true, iteV_true, iteV_false, r_gdt, r_gdt2, r_gdtf, r_gdtf2, r_gdff, r_gdff2, r_gdft, r_gdft2, r_gdu, r_gdu2, pick_t, pick_f, ext_0, ext_1, x_newB, r_nil, r_fAddr, Nat.zero_add, b_lss, b_leq, b_gtr, b_geq, b_eql, b_neq, u_not, Bool.not_true, Bool.not_false, oneOf_one, oneOf_two, again_normal, again_exit, again_ret, Bool.and_true, d, l10, g1, g2, g3, g4, hlen, l0, dl, l11, g5, g6, bldI, t1]
          exact ih k H3 u2 (l ++ [x]) x (by simp; omega) (by simp; omega) (by omega) ⟨hxin.1, hxin.2.1⟩ t4 t2 t3 ..
theorem path_is {n : Nat} (hk : OkP p n) (hp : PV H p ev wv nv) {v w : Int} (hv : 0 ≤ v ∧ v < n) (hw : 0 ≤ w ∧ w < n) (hm : 300 < m) (hm2 : m ≤ 72057594037927936) :
    ∃ H' r, lvl Try.prog pk12 m (.func 47) [plV p ev wv nv, .int .i64 v, .int .i64 w] H = some (r, H') ∧ PathRes H (pathL p v w) H' r := by
  obtain ⟨H0, hH0⟩ : ∃ H0, H0 = H ++ [plB p ev wv nv] := ⟨_, rfl⟩
  have x0 : Ext H H0 := by rw [hH0]; exact Fr.app _ _ _
  have b0 : H0[H.length]? = some (plB p ev wv nv) := by rw [hH0]; exact at_last _ _
  have h6 := hk.h6
  have h2 := hk.h2
  have one : Iw (H0 ++ [.cells (inC v) 3 .row]) (.slice (some ⟨H0.length, 0, none⟩) 1 1) [v] := ⟨rfl, .inr ⟨_, 1, [], rfl, by simp, rfl, by simp⟩⟩
  have hnew : New H0 (.slice (some ⟨H0.length, 0, none⟩) 1 1) := fun b ⟨_, _, _, hh⟩ => by cases hh; exact Nat.le_refl _
  have x1 : Ext H0 (H0 ++ [Blk.cells (inC v) 3 .row]) := Fr.app _ _ _
  refine lvl_ex (pk_no rfl rfl) (by omega) ?_
  rw [f47_eq]
  unfold f47
  simp -implicitDefEqProofs only [r_opt, r_ret, ob_some, ifB_true, iteV_true, iteV_false, r_gdt, r_gdt2, r_gdtf, r_gdtf2, r_gdff, r_gdff2, r_gdft, r_gdft2, r_gdu, r_gdu2, pick_t, pick_f, ext_0, ext_1, x_newB, r_nil, r_fAddr, Nat.zero_add, b_lss, b_leq, b_gtr, b_geq, b_eql, b_neq, u_not, Bool.not_true, Bool.not_false, oneOf_one, oneOf_two, again_normal, again_exit, again_ret, Bool.and_true, plV_cells, ← hH0, bldI]
  have hq : p.nodes.toNat = n := by rw [hk.hn]; rfl
  unfold pathL
  rw [hq]
  have := path_loop hk hw (hp.ext x0) b0 (m := m - 1) (by omega) (by omega) n (m - 1) _ _ [v] v (by simp) (by simp; omega) (by omega) hv x1 one hnew
  refine Exists.imp (fun H' h => Exists.imp (fun r h => ⟨h.1, x0.tr h.2.1, ?_⟩) h) (this ..)
  obtain ⟨lv, e1, e2, e3⟩ := h.2.2
  exact ⟨lv, e1, e2, fun b hb => Nat.le_trans x0.1 (e3 b hb)⟩
theorem Path_is (hp : PV H p ev wv nv) (v w : Int) (hm : 17592186045200 < m) (hm2 : m ≤ 72057594037927936) :
    ∃ H' u, lvl Try.prog pk12 m (.func 25) [plV p ev wv nv, .int .i64 v, .int .i64 w] H = some (u, H') ∧ Ext H H' ∧ Iw H' u (pathR p v w) ∧ New H u := by
  obtain ⟨H0, hH0⟩ : ∃ H0, H0 = H ++ [plB p ev wv nv] := ⟨_, rfl⟩
  have x0 : Ext H H0 := by rw [hH0]; exact Fr.app _ _ _
  have b0 : H0[H.length]? = some (plB p ev wv nv) := by rw [hH0]; exact at_last _ _
  have p0 := hp.ext x0
  have l11 := ld_pl11 b0
  obtain ⟨H1, g1, x1⟩ := check_is p0 (m := m - 1) (by omega) (by omega)
  have b1 := ld_of b0 x1
  have p1 := p0.ext x1
  have l0 := ld_pl b1 0 _ rfl
  have l12 := ld_pl11 b1
  have mn := minI2 v w
  have mx := maxI2 v w
  refine lvl_ex (pk_no rfl rfl) (by omega) ?_
  rw [f25_eq]
  unfold f25
  cases hc : checkOk p with
  | false =>
    rw [hc] at g1
    have en : (errno false != 0) = true := rfl
    have e : pathR p v w = [] := by unfold pathR; rw [if_neg (by simp [hc])]
    simp -implicitDefEqProofs only [r_opt, r_ret, ob_some, ifB_true, iteV_true, iteV_false, r_gdt, r_gdt2, r_gdtf, r_gdtf2, r_gdff, r_gdff2, r_gdft, r_gdft2, r_gdu, r_gdu2, pick_t, pick_f, ext_0, ext_1, x_newB, r_nil, r_fAddr, Nat.zero_add, b_lss, b_leq, b_gtr, b_geq, b_eql, b_neq, u_not, Bool.not_true, Bool.not_false, oneOf_one, oneOf_two, again_normal, again_exit, again_ret, Bool.and_true, plV_cells, ← hH0, l11, g1, en]
    exact ⟨H1, _, rfl, x0.tr x1, by rw [e]; exact Rw.nil, New.nil _⟩
  | true =>
    rw [hc] at g1
    have en : (errno true != 0) = false := rfl
    by_cases h1 : min v w < 0
    · have d1 : decide (min v w < 0) = true := decide_eq_true h1
      have e : pathR p v w = [] := by unfold pathR; rw [if_neg (by omega)]
      simp -implicitDefEqProofs only [r_opt, r_ret, ob_some, ifB_true, iteV_true, iteV_false, r_gdt, r_gdt2, r_gdtf, r_gdtf2, r_gdff, r_gdff2, r_gdft, r_gdft2, r_gdu, r_gdu2, pick_t, pick_f, ext_0, ext_1, x_newB, r_nil, r_fAddr, Nat.zero_add, b_lss, b_leq, b_gtr, b_geq, b_eql, b_neq, u_not, Bool.not_true, Bool.not_false, oneOf_one, oneOf_two, again_normal, again_exit, again_ret, Bool.and_true, plV_cells, ← hH0, l11, g1, en, mn, d1]
      exact ⟨H1, _, rfl, x0.tr x1, by rw [e]; exact Rw.nil, New.nil _⟩
    · have d1 : decide (min v w < 0) = false := decide_eq_false h1
      by_cases h2 : p.nodes ≤ max v w
      · have d2 : decide (p.nodes ≤ max v w) = true := decide_eq_true h2
        have e : pathR p v w = [] := by unfold pathR; rw [if_neg (by omega)]
        simp -implicitDefEqProofs only [r_opt, r_ret, ob_some, ifB_true, iteV_true, iteV_false, r_gdt, r_gdt2, r_gdtf, r_gdtf2, r_gdff, r_gdff2, r_gdft, r_gdft2, r_gdu, r_gdu2, pick_t, pick_f, ext_0, ext_1, x_newB, r_nil, r_fAddr, Nat.zero_add, b_lss, b_leq, b_gtr, b_geq, b_eql, b_neq, u_not, Bool.not_true, Bool.not_false, oneOf_one, oneOf_two, again_normal, again_exit, again_ret, Bool.and_true, plV_cells, ← hH0, l11, g1, en, mn, d1, mx, l0, d2]
        exact ⟨H1, _, rfl, x0.tr x1, by rw [e]; exact Rw.nil, New.nil _⟩
      · have d2 : decide (p.nodes ≤ max v w) = false := decide_eq_false h2
        obtain ⟨n, hk⟩ := ok_of hc
        have hn := hk.hn
        have e : pathR p v w = (pathL p v w).getD [] := by unfold pathR; rw [if_pos ⟨hc, by omega, by omega, by omega, by omega⟩]
        obtain ⟨H2, r, g2, x2, lv, rfl, e2, e3⟩ := path_is hk p1 (v := v) (w := w) (by omega) (by omega) (m := m - 1) (by omega) (by omega)
        simp -implicitDefEqProofs only [r_opt, r_ret, ob_some, ifB_true, iteV_true, iteV_false, r_gdt, r_gdt2, r_gdtf, r_gdtf2, r_gdff, r_gdff2, r_gdft, r_gdft2, r_gdu, r_gdu2, pick_t, pick_f, ext_0, ext_1, x_newB, r_nil, r_fAddr, Nat.zero_add, b_lss, b_leq, b_gtr, b_geq, b_eql, b_neq, u_not, Bool.not_true, Bool.not_false, oneOf_one, oneOf_two, again_normal, again_exit, again_ret, Bool.and_true, plV_cells, ← hH0, l11, g1, en, mn, d1, mx, l0, d2, l12, g2]
        exact ⟨H2, _, rfl, (x0.tr x1).tr x2, by rw [e]; exact e2, fun b hb => Nat.le_trans (x0.tr x1).1 (e3 b hb)⟩
theorem rPath_loop {n : Nat} (hk : OkP p n) {H0 : Heap} {a : Nat} {w : Int} (hw : 0 ≤ w ∧ w < n) (hp : PV H0 p ev wv nv) (hb : H0[a]? = some (plB p ev wv nv)) (hm : 200 < m) (hm2 : m ≤ 72057594037927936) :
    ∀ (q k : Nat) (H1 : Heap) (u : Value) (l : List Int) (v : Int), q + l.length = n + 1 → l.length ≤ n → q < k → 0 ≤ v ∧ v < n → Ext H0 H1 → Iw H1 u l → New H0 u → ∀ (x0 x4 x5 x6 x8 x9 x10 x11 x12 x13 x14 x15 x16 x17 x18 x19 x20 x21 x22 x23 x24 x25 x26 x27 x28 x29 x30 x31 x32 x33 x34 x35 x36 x37 x38 x39 x40 x41 x42 x43 x44 x45 x46 x47 x48 x49 x50 x51 x52 x53 x54 x55 x56 x57 x58 x59 x60 x61 x62 : Value),
    ∃ H' r, loopN k (runCode Try.prog (lvl Try.prog pk12 m) (loopN m) f52_c0) (f52_k0 (lvl Try.prog pk12 m) (loopN m)) [x0, (.int .i64 v), (.int .i64 w), (.pointer (some ⟨a, 0, none⟩)), x4, x5, x6, u, x8, x9, x10, x11, x12, x13, x14, x15, x16, x17, x18, x19, x20, x21, x22, x23, x24, x25, x26, x27, x28, x29, x30, x31, x32, x33, x34, x35, x36, x37, x38, x39, x40, x41, x42, x43, x44, x45, x46, x47, x48, x49, x50, x51, x52, x53, x54, x55, x56, x57, x58, x59, x60, x61, x62] H1 = some (r, H') ∧ Ext H0 H' ∧ Iw H' r ((pthW p w q l v).getD []) ∧ New H0 r := by
  intro q
  have h6 := hk.h6
  have h15 := hk.e15
  induction q with
  | zero => intro k H1 u l v h1 h2; omega
  | succ q ih =>
    intro k H1 u l v hql hln hk2 hv he hu hnew
    intros
    obtain ⟨k, rfl⟩ : ∃ n, k = n + 1 := ⟨k - 1, by omega⟩
    rw [loop_succ, f52_b0_eq]
    unfold f52_b0 pthW
    by_cases hvw : v = w
    · have d : (v != w) = false := by simp [hvw]
      rw [if_pos hvw]
      simp -implicitDefEqProofs only [r_opt, r_ret, ob_some, ifB_true, iteV_true, iteV_false, r_gdt, r_gdt2, r_gdtf, r_gdtf2, r_gdff, r_gdff2, r_gdft, r_gdft2, r_gdu, r_gdu2, pick_t, pick_f, ext_0, ext_1, x_newB, r_nil, r_fAddr, Nat.zero_add, b_lss, b_leq, b_gtr, b_geq, b_eql, b_neq, u_not, Bool.not_true, Bool.not_false, oneOf_one, oneOf_two, again_normal, again_exit, again_ret, Bool.and_true, d]
      rw [f52_e0_0_eq]
      unfold f52_e0_0
      exact ⟨H1, _, rfl, he, hu, hnew⟩
    · have d : (v != w) = true := by simp [hvw]
      rw [if_neg hvw]
      have b1 := ld_of hb he
      have p1 := hp.ext he
      have l10 := ld_pl b1 10 _ rfl
      obtain ⟨a1, u1, a2, g1, g2, g3, g4⟩ := nx_at hk p1 hv hw
      obtain ⟨x, hx⟩ : ∃ x, x = nx p v w := ⟨_, rfl⟩
      rw [← hx] at g4 ⊢
      have l11 := ld_pl11 b1
      obtain ⟨H2, g5, x2⟩ := rport_is p1 (m := m) (by omega) (by omega) v x
      have hpn := port_neg p.edges v x
      have l0 := ld_pl (ld_of b1 x2) 0 _ rfl
      rw [hk.hn] at l0
      have hu2 : Iw H2 u l := hu.keep fun b hb => x2.2 b (hu.lt hb) id
      have hlen := hu2.len
      cases hc : (cand p.edges v).contains x with
      | false =>
        rw [hc] at hpn
        rw [if_pos (.inr rfl)]
        simp -implicitDefEqProofs only [r_opt, r_ret, ob_some, ifB_true, iteV_true, iteV_false, r_gdt, r_gdt2, r_gdtf, r_gdtf2, r_gdff, r_gdff2, r_gdft, r_gdft2, r_gdu, r_gdu2, pick_t, pick_f, ext_0, ext_1, x_newB, r_nil, r_fAddr, Nat.zero_add, b_lss, b_leq, b_gtr, b_geq, b_eql, b_neq, u_not, Bool.not_true, Bool.not_false, oneOf_one, oneOf_two, again_normal, again_exit, again_ret, Bool.and_true, d, l10, g1, g2, g3, g4, l11, g5, hpn]
        rw [f52_r0_eq]
        unfold f52_r0
        exact ⟨H2, _, rfl, he.tr x2, Rw.nil, New.nil _⟩
      | true =>
        rw [hc] at hpn
        by_cases hl : l.length = n
        · have dl : decide ((n : Int) ≤ (l.length : Int)) = true := decide_eq_true (by omega)
          rw [if_pos (.inl (by rw [hk.hn]; omega))]
          simp -implicitDefEqProofs only [r_opt, r_ret, ob_some, ifB_true, iteV_true, iteV_false, r_gdt, r_gdt2, r_gdtf, r_gdtf2, r_gdff, r_gdff2, r_gdft, r_gdft2, r_gdu, r_gdu2, pick_t, pick_f, ext_0, ext_1, x_newB, r_nil, r_fAddr, Nat.zero_add, b_lss, b_leq, b_gtr, b_geq, b_eql, b_neq, u_not, Bool.not_true, Bool.not_false, oneOf_one, oneOf_two, again_normal, again_exit, again_ret, Bool.and_true, d, l10, g1, g2, g3, g4, l11, g5, hpn, hlen, l0, dl]
          rw [f52_r0_eq]
          unfold f52_r0
          exact ⟨H2, _, rfl, he.tr x2, Rw.nil, New.nil _⟩
        · have dl : decide ((n : Int) ≤ (l.length : Int)) = false := decide_eq_false (by omega)
          rw [if_neg (by rw [hk.hn]; rintro (h | h); omega; cases h)]
          have hxin := beside_in hk.ve (bes_mem _ _ _ |>.mpr (List.contains_iff_mem.mp hc))
          obtain ⟨u2, H3, t1, t2, t3, t4⟩ := hu2.push1 (by' := 8) inC_len inC_all (by decide) x hnew (he.tr x2) (roomy_mono (n := 1000000) (by decide) (by omega))
          simp -implicitDefEqProofs only [r_opt, r_ret, ob_some, ifB_true, iteV_true, iteV_false, r_gdt, r_gdt2, r_gdtf, r_gdtf2, r_gdff, r_gdff2, r_gdft, r_gdft2, r_gdu, r_gdu2, pick_t, pick_f, ext_0, ext_1, x_newB, r_nil, r_fAddr, Nat.zero_add, b_lss, b_leq, b_gtr, b_geq, b_eql, b_neq, u_not, Bool.not_true, Bool.not_false, oneOf_one, oneOf_two, again_normal, again_exit, again_ret, Bool.and_true, d, l10, g1, g2, g3, g4, l11, g5, hpn, hlen, l0, dl, bldI, t1]
          exact ih k H3 u2 (l ++ [x]) x (by simp; omega) (by simp; omega) (by omega) ⟨hxin.1, hxin.2.1⟩ t4 t2 t3 ..
theorem rPath_is (hp : PV H p ev wv nv) (v w : Int) (hm : 17592186045200 < m) (hm2 : m ≤ 72057594037927936) :
    ∃ H' u, lvl Try.prog pk12 m (.func 52) [plV p ev wv nv, .int .i64 v, .int .i64 w] H = some (u, H') ∧ Ext H H' ∧ Iw H' u (pathR p v w) ∧ New H u := by
  obtain ⟨H0, hH0⟩ : ∃ H0, H0 = H ++ [plB p ev wv nv] := ⟨_, rfl⟩
  have x0 : Ext H H0 := by rw [hH0]; exact Fr.app _ _ _
  have b0 : H0[H.length]? = some (plB p ev wv nv) := by rw [hH0]; exact at_last _ _
  have p0 := hp.ext x0
  have l11 := ld_pl11 b0
  obtain ⟨H1, g1, x1⟩ := rcheck_is p0 (m := m - 1) (by omega) (by omega)
  have b1 := ld_of b0 x1
  have p1 := p0.ext x1
  have l0 := ld_pl b1 0 _ rfl
  refine lvl_ex (pk_no rfl rfl) (by omega) ?_
  rw [f52_eq]
  unfold f52
  cases hc : checkOk p with
  | false =>
    rw [hc] at g1
    have en : (errno false != 0) = true := rfl
    have e : pathR p v w = [] := by unfold pathR; rw [if_neg (by simp [hc])]
    simp -implicitDefEqProofs only [r_opt, r_ret, ob_some, ifB_true, iteV_true, iteV_false, r_gdt, r_gdt2, r_gdtf, r_gdtf2, r_gdff, r_gdff2, r_gdft, r_gdft2, r_gdu, r_gdu2, pick_t, pick_f, ext_0, ext_1, x_newB, r_nil, r_fAddr, Nat.zero_add, b_lss, b_leq, b_gtr, b_geq, b_eql, b_neq, u_not, Bool.not_true, Bool.not_false, oneOf_one, oneOf_two, again_normal, again_exit, again_ret, Bool.and_true, plV_cells, ← hH0, l11, g1, en]
    exact ⟨H1, _, rfl, x0.tr x1, by rw [e]; exact Rw.nil, New.nil _⟩
  | true =>
    rw [hc] at g1
    have en : (errno true != 0) = false := rfl
    obtain ⟨n, hk⟩ := ok_of hc
    have hn := hk.hn
    cases d1 : decide (v < 0) with
    | true =>
      have e : pathR p v w = [] := by unfold pathR; rw [if_neg (by have := of_decide_eq_true d1; omega)]
      simp -implicitDefEqProofs only [r_opt, r_ret, ob_some, ifB_true, iteV_true, iteV_false, r_gdt, r_gdt2, r_gdtf, r_gdtf2, r_gdff, r_gdff2, r_gdft, r_gdft2, r_gdu, r_gdu2, pick_t, pick_f, ext_0, ext_1, x_newB, r_nil, r_fAddr, Nat.zero_add, b_lss, b_leq, b_gtr, b_geq, b_eql, b_neq, u_not, Bool.not_true, Bool.not_false, oneOf_one, oneOf_two, again_normal, again_exit, again_ret, Bool.and_true, plV_cells, ← hH0, l11, g1, en, d1]
      exact ⟨H1, _, rfl, x0.tr x1, by rw [e]; exact Rw.nil, New.nil _⟩
    | false =>
      cases d2 : decide (p.nodes ≤ v) with
      | true =>
        have e : pathR p v w = [] := by unfold pathR; rw [if_neg (by have := of_decide_eq_true d2; omega)]
        simp -implicitDefEqProofs only [r_opt, r_ret, ob_some, ifB_true, iteV_true, iteV_false, r_gdt, r_gdt2, r_gdtf, r_gdtf2, r_gdff, r_gdff2, r_gdft, r_gdft2, r_gdu, r_gdu2, pick_t, pick_f, ext_0, ext_1, x_newB, r_nil, r_fAddr, Nat.zero_add, b_lss, b_leq, b_gtr, b_geq, b_eql, b_neq, u_not, Bool.not_true, Bool.not_false, oneOf_one, oneOf_two, again_normal, again_exit, again_ret, Bool.and_true, plV_cells, ← hH0, l11, g1, en, d1, l0, d2]
        exact ⟨H1, _, rfl, x0.tr x1, by rw [e]; exact Rw.nil, New.nil _⟩
      | false =>
        cases d3 : decide (w < 0) with
        | true =>
          have e : pathR p v w = [] := by unfold pathR; rw [if_neg (by have := of_decide_eq_true d3; omega)]
          simp -implicitDefEqProofs only [r_opt, r_ret, ob_some, ifB_true, iteV_true, iteV_false, r_gdt, r_gdt2, r_gdtf, r_gdtf2, r_gdff, r_gdff2, r_gdft, r_gdft2, r_gdu, r_gdu2, pick_t, pick_f, ext_0, ext_1, x_newB, r_nil, r_fAddr, Nat.zero_add, b_lss, b_leq, b_gtr, b_geq, b_eql, b_neq, u_not, Bool.not_true, Bool.not_false, oneOf_one, oneOf_two, again_normal, again_exit, again_ret, Bool.and_true, plV_cells, ← hH0, l11, g1, en, d1, l0, d2, d3]
          exact ⟨H1, _, rfl, x0.tr x1, by rw [e]; exact Rw.nil, New.nil _⟩
        | false =>
          cases d4 : decide (p.nodes ≤ w) with
          | true =>
            have e : pathR p v w = [] := by unfold pathR; rw [if_neg (by have := of_decide_eq_true d4; omega)]
            simp -implicitDefEqProofs only [r_opt, r_ret, ob_some, ifB_true, iteV_true, iteV_false, r_gdt, r_gdt2, r_gdtf, r_gdtf2, r_gdff, r_gdff2, r_gdft, r_gdft2, r_gdu, r_gdu2, pick_t, pick_f, ext_0, ext_1, x_newB, r_nil, r_fAddr, Nat.zero_add, b_lss, b_leq, b_gtr, b_geq, b_eql, b_neq, u_not, Bool.not_true, Bool.not_false, oneOf_one, oneOf_two, again_normal, again_exit, again_ret, Bool.and_true, plV_cells, ← hH0, l11, g1, en, d1, l0, d2, d3, d4]
            exact ⟨H1, _, rfl, x0.tr x1, by rw [e]; exact Rw.nil, New.nil _⟩
          | false =>
            have e1 := of_decide_eq_false d1
            have e2 := of_decide_eq_false d2
            have e3 := of_decide_eq_false d3
            have e4 := of_decide_eq_false d4
            have e : pathR p v w = (pathL p v w).getD [] := by unfold pathR; rw [if_pos ⟨hc, by omega, by omega, by omega, by omega⟩]
            have one : Iw (H1 ++ [.cells (inC v) 3 .row]) (.slice (some ⟨H1.length, 0, none⟩) 1 1) [v] := ⟨rfl, .inr ⟨_, 1, [], rfl, by simp, rfl, by simp⟩⟩
            have hnew : New H1 (.slice (some ⟨H1.length, 0, none⟩) 1 1) := fun b ⟨_, _, _, hh⟩ => by cases hh; exact Nat.le_refl _
            have xx : Ext H1 (H1 ++ [Blk.cells (inC v) 3 .row]) := Fr.app _ _ _
            have hq : p.nodes.toNat = n := by rw [hk.hn]; rfl
            have h6 := hk.h6
            have h2 := hk.h2
            have := rPath_loop hk (w := w) (by omega) p1 b1 (m := m - 1) (by omega) (by omega) n (m - 1) _ _ [v] v (by simp) (by simp; omega) (by omega) (by omega) xx one hnew
            simp -implicitDefEqProofs only [r_opt, r_ret, ob_some, ifB_true, iteV_true, iteV_false, r_gdt, r_gdt2, r_gdtf, r_gdtf2, r_gdff, r_gdff2, r_gdft, r_gdft2, r_gdu, r_gdu2, pick_t, pick_f, ext_0, ext_1, x_newB, r_nil, r_fAddr, Nat.zero_add, b_lss, b_leq, b_gtr, b_geq, b_eql, b_neq, u_not, Bool.not_true, Bool.not_false, oneOf_one, oneOf_two, again_normal, again_exit, again_ret, Bool.and_true, plV_cells, ← hH0, l11, g1, en, d1, l0, d2, d3, d4, bldI]
            rw [e]
            unfold pathL
            rw [hq]
            exact Exists.imp (fun H' h => Exists.imp (fun r h => ⟨h.1, (x0.tr x1).tr h.2.1, h.2.2.1, fun b hb => Nat.le_trans (x0.tr x1).1 (h.2.2.2 b hb)⟩) h) (this ..)
end
end Go.Proofs.Ytdobnaldfmpimaa

set_option linter.unusedSectionVars false
set_option linter.unusedSimpArgs false
set_option linter.unusedVariables false
set_option maxRecDepth 100000
namespace Go.Proofs.Ytdobnaldfmpimaa
open Go.Abs
def wtAt (p : PlanD) (a b : Ed) (w : Nat) : Bool := a.2 == b.1 && ((w : Int) != a.2 && ((w : Int) != a.1 && (nx p a.1 w == a.2 && nx p a.2 w == b.2)))
def wt (p : PlanD) (n : Nat) (a b : Ed) : Bool := (List.range n).any (wtAt p a b)
def wrow (p : PlanD) (n : Nat) (hs : List Ed) (a : Ed) : List Int := ((List.range hs.length).filter fun k => wt p n a (hs.getD k (0, 0))).map (fun k : Nat => (k : Int))
def waitsL (p : PlanD) : List (List Int) := if checkOk p = true then (hopsOf p).map (wrow p p.nodes.toNat (hopsOf p)) else []
def idxH (hs : List Ed) (y : Ed) : Int := fst (fun j => hs[j]? == some y) hs.length 0
def aft1 (p : PlanD) (hs : List Ed) (h : Ed) (w : Nat) : List Int :=
  if (w : Int) = h.1 ∨ (w : Int) = h.2 ∨ nx p h.1 w ≠ h.2 then [] else if 0 ≤ idxH hs (h.2, nx p h.2 w) then [idxH hs (h.2, nx p h.2 w)] else []
def aftL (p : PlanD) (n : Nat) (hs : List Ed) (h : Ed) : List Int := (List.range n).flatMap (aft1 p hs h)
theorem fst_sat (p : Nat → Bool) : ∀ q i, 0 ≤ fst p q i → p (fst p q i).toNat = true
  | 0, i => by simp [fst]
  | q + 1, i => by
    unfold fst
    split
    · rename_i h
      intro _
      simpa using h
    · exact fst_sat p q (i + 1)
theorem idxH_some {hs : List Ed} (hn : hs.Nodup) (y : Ed) (k : Nat) : idxH hs y = k ↔ hs[k]? = some y := by
  have key : 0 ≤ idxH hs y → hs[(idxH hs y).toNat]? = some y := fun h => by
    unfold idxH at h ⊢
    have := fst_sat _ _ _ h
    simpa using this
  constructor
  · intro h
    have := key (by omega)
    rw [h] at this
    simpa using this
  · intro h
    have hk := (List.getElem?_eq_some_iff.mp h).1
    have h0 : 0 ≤ idxH hs y := (fst_pos _ _ _).mpr ⟨k, by omega, by omega, by rw [h]; simp⟩
    have h1 := key h0
    have hk1 := (List.getElem?_eq_some_iff.mp h1).1
    have := (List.getElem_inj (h₀ := hk1) (h₁ := hk) hn).mp (by
      rw [(List.getElem?_eq_some_iff.mp h1).2, (List.getElem?_eq_some_iff.mp h).2])
    omega
theorem aft1_le (p : PlanD) (hs : List Ed) (h : Ed) (w : Nat) : (aft1 p hs h w).length ≤ 1 := by
  unfold aft1
  split
  · simp
  · split <;> simp
theorem aft_le (p : PlanD) (hs : List Ed) (h : Ed) : ∀ i, ((List.range i).flatMap (aft1 p hs h)).length ≤ i
  | 0 => by simp
  | i + 1 => by
    have := aft_le p hs h i
    have := aft1_le p hs h i
    rw [List.range_succ, List.flatMap_append]
    simp only [List.length_append, List.flatMap_cons, List.flatMap_nil, List.append_nil]
    omega
theorem wrow_mem {p : PlanD} {n : Nat} {hs : List Ed} {a : Ed} {z : Int} : z ∈ wrow p n hs a ↔ ∃ k b, z = (k : Nat) ∧ hs[k]? = some b ∧ wt p n a b = true := by
  unfold wrow
  simp only [List.mem_map, List.mem_filter, List.mem_range]
  constructor
  · rintro ⟨k, ⟨h1, h2⟩, rfl⟩
    exact ⟨k, hs[k], rfl, List.getElem?_eq_getElem h1, by rwa [List.getD_eq_getElem?_getD, List.getElem?_eq_getElem h1, Option.getD_some] at h2⟩
  · rintro ⟨k, b, rfl, h1, h2⟩
    refine ⟨k, ⟨(List.getElem?_eq_some_iff.mp h1).1, ?_⟩, rfl⟩
    rwa [List.getD_eq_getElem?_getD, h1, Option.getD_some]
theorem wrow_pw (p : PlanD) (n : Nat) (hs : List Ed) (a : Ed) : (wrow p n hs a).Pairwise (· < ·) := by
  unfold wrow
  rw [List.pairwise_map]
  exact (List.Pairwise.filter _ List.pairwise_lt_range).imp fun h => by omega
theorem srt_mem (z : Int) (l : List Int) : z ∈ srt l ↔ z ∈ l := (srt_perm l).mem_iff
theorem aft_wrow {p : PlanD} {n : Nat} {hs : List Ed} (hn : hs.Nodup) (a : Ed) : dd (srt (aftL p n hs a)) = wrow p n hs a := by
  refine pw_ext _ _ (dd_pw _ (srt_pw _)) (wrow_pw p n hs a) fun z => ?_
  rw [dd_mem, srt_mem, wrow_mem]
  unfold aftL wt
  simp only [List.mem_flatMap, List.mem_range, List.any_eq_true]
  constructor
  · rintro ⟨w, hw, hz⟩
    unfold aft1 at hz
    split at hz
    · simp at hz
    · rename_i hc
      split at hz
      · rename_i h0
        simp only [List.mem_singleton] at hz
        have e : idxH hs (a.2, nx p a.2 w) = ((idxH hs (a.2, nx p a.2 w)).toNat : Nat) := by omega
        refine ⟨_, _, by rw [hz]; exact e, (idxH_some hn _ _).mp e, w, hw, ?_⟩
        unfold wtAt
        simp only [Bool.and_eq_true, bne_iff_ne, beq_iff_eq]
        refine ⟨trivial, ?_, ?_, ?_, trivial⟩ <;> omega
      · simp at hz
  · rintro ⟨k, b, rfl, hk, w, hw, hz⟩
    unfold wtAt at hz
    simp only [Bool.and_eq_true, bne_iff_ne, beq_iff_eq] at hz
    obtain ⟨h1, h2, h3, h4, h5⟩ := hz
    refine ⟨w, hw, ?_⟩
    unfold aft1
    rw [if_neg (by omega)]
    have : (a.2, nx p a.2 w) = b := by rw [h5, h1]
    rw [this, (idxH_some hn b k).mpr hk, if_pos (by omega)]
    simp
theorem hops_nd {p : PlanD} {n : Nat} (hk : OkP p n) : (hopsOf p).Nodup ∧ hopsOf p = (List.range n).flatMap (hopAt p.edges) := by
  have hN : hopN p = n := by have := hk.h6; unfold hopN; rw [hk.hn]; omega
  have hho : hopsOf p = (List.range n).flatMap (hopAt p.edges) := by unfold hopsOf; rw [hN]
  refine ⟨?_, hho⟩
  rw [hho]
  exact (hops_pw hk.ve hk.h6).imp fun h hh => by subst hh; omega
theorem hops_in {p : PlanD} {n : Nat} (hk : OkP p n) {h : Ed} (hh : h ∈ hopsOf p) : 0 ≤ h.1 ∧ h.1 < n ∧ 0 ≤ h.2 ∧ h.2 < n := by
  rw [(hops_nd hk).2] at hh
  have := beside_in hk.ve ((hops_mem hk.ve hk.h6).mp hh)
  omega
section
variable {H : Heap} {m : Nat} {p : PlanD} {ev wv nv : Value}
def hpB (h : Ed) : Blk := .cells (edC h) 38 .fix
theorem hp_cells (h : Ed) : Blk.cells (edV h).cells.toList 38 .fix = hpB h := rfl
theorem ld_hp0 {b : Nat} {h : Ed} (hb : H[b]? = some (hpB h)) : ld1 (.pointer (some ⟨b, 0, none⟩)) H = some (.int .i64 h.1, H) := r_ld1 hb rfl
theorem ld_hp1 {b : Nat} {h : Ed} (hb : H[b]? = some (hpB h)) : ld1 (.pointer (some ⟨b, 1, none⟩)) H = some (.int .i64 h.2, H) := r_ld1 hb rfl
theorem ld_hp2 {b : Nat} {h : Ed} (hb : H[b]? = some (hpB h)) : ldN 2 (.pointer (some ⟨b, 0, none⟩)) H = some (edV h, H) := by
  rw [x_ldN, hb]
  unfold hpB
  rw [x_ldNC _ _ _ _ _ (by simp [edC])]
  rfl
theorem eHop (a b : Ed) : bin Try.prog .eql 38 (edV a) (edV b) = some (.bool (a == b)) := by
  have k : kindsOf Try.prog 38 = some [true, true] := by kernel_rfl
  obtain ⟨a1, a2⟩ := a
  obtain ⟨b1, b2⟩ := b
  simp [bin, edV, flat, eqAny, k, eqT, edC]
  rfl
theorem ixH_loop {v : Value} {xs : List Ed} {a : Nat} {y : Ed} (hx : Hs H v xs) (ha : H[a]? = some (hpB y)) (hn : xs.length ≤ 72057594037927936) : ∀ (q i k : Nat), xs.length - i = q → i ≤ xs.length → q < k → ∀ (x1 x2 x4 x5 x6 x9 x10 x11 x12 x13 x14 x15 x16 x17 x18 : Value),
    loopN k (runCode Try.prog (lvl Try.prog pk12 m) (loopN m) f67_c0) (f67_k0 (lvl Try.prog pk12 m) (loopN m)) [v, x1, x2, (.pointer (some ⟨a, 0, none⟩)), x4, x5, x6, (.int .i64 xs.length), (.int .i64 (i : Nat)), x9, x10, x11, x12, x13, x14, x15, x16, x17, x18] H = some (.int .i64 (fst (fun j => xs[j]? == some y) q i), H) := by
  intro q
  have la := ld_hp2 ha
  induction q with
  | zero =>
    intro i k hr hi hk
    intros
    obtain ⟨k, rfl⟩ : ∃ n, k = n + 1 := ⟨k - 1, by omega⟩
    obtain rfl : i = xs.length := by omega
    have e : decide ((xs.length : Int) < xs.length) = false := by simp
    rw [loop_succ, f67_b0_eq]
    unfold f67_b0
    simp -implicitDefEqProofs only [r_opt, r_ret, ob_some, ifB_true, iteV_true, iteV_false, r_gdt, r_gdt2, r_gdtf, r_gdtf2, r_gdff, r_gdff2, r_gdft, r_gdft2, r_gdu, r_gdu2, pick_t, pick_f, ext_0, ext_1, x_newB, r_nil, r_fAddr, Nat.zero_add, b_lss, b_leq, b_gtr, b_geq, b_eql, b_neq, u_not, Bool.not_true, Bool.not_false, oneOf_one, oneOf_two, again_normal, again_exit, again_ret, Bool.and_true, e]
    rw [f67_e0_0_eq]
    rfl
  | succ q ih =>
    intro i k hr hi hk
    intros
    obtain ⟨k, rfl⟩ : ∃ n, k = n + 1 := ⟨k - 1, by omega⟩
    have e : decide ((i : Int) < xs.length) = true := by simp; omega
    have e3 : IntKind.i64.wrap ((i : Int) + 1) = ((i + 1 : Nat) : Int) := by rw [wrap_i64 (by omega) (by omega)]; omega
    have hxi : xs[i]? = some xs[i] := List.getElem?_eq_getElem (by omega)
    obtain ⟨b, o, g1, g2, g3⟩ := hx.at_ edC_len hxi .i64
    have l1 : ldN 2 (.pointer (some ⟨b, o, none⟩)) H = some (edV xs[i], H) := (g3 H rfl).1
    rw [loop_succ, f67_b0_eq]
    unfold f67_b0 fst
    by_cases h : y = xs[i]
    · have d : (y == xs[i]) = true := by rw [h]; simp
      have d2 : (xs[i]? == some y) = true := by rw [hxi, h]; simp
      simp -implicitDefEqProofs only [r_opt, r_ret, ob_some, ifB_true, iteV_true, iteV_false, r_gdt, r_gdt2, r_gdtf, r_gdtf2, r_gdff, r_gdff2, r_gdft, r_gdft2, r_gdu, r_gdu2, pick_t, pick_f, ext_0, ext_1, x_newB, r_nil, r_fAddr, Nat.zero_add, b_lss, b_leq, b_gtr, b_geq, b_eql, b_neq, u_not, Bool.not_true, Bool.not_false, oneOf_one, oneOf_two, again_normal, again_exit, again_ret, Bool.and_true, e, la, g1, l1, eHop, d]
      rw [f67_r0_eq, if_pos d2]
      rfl
    · have d : (y == xs[i]) = false := by simpa using h
      have d2 : ¬ (xs[i]? == some y) = true := by rw [hxi]; simpa using fun hh => h hh.symm
      simp -implicitDefEqProofs only [r_opt, r_ret, ob_some, ifB_true, iteV_true, iteV_false, r_gdt, r_gdt2, r_gdtf, r_gdtf2, r_gdff, r_gdff2, r_gdft, r_gdft2, r_gdu, r_gdu2, pick_t, pick_f, ext_0, ext_1, x_newB, r_nil, r_fAddr, Nat.zero_add, b_lss, b_leq, b_gtr, b_geq, b_eql, b_neq, u_not, Bool.not_true, Bool.not_false, oneOf_one, oneOf_two, again_normal, again_exit, again_ret, Bool.and_true, e, la, g1, l1, eHop, d, b_add, e3]
      rw [if_neg d2]
      exact ih (i + 1) k (by omega) (by omega) (by omega) ..
theorem ixH_is {v : Value} {xs : List Ed} (hx : Hs H v xs) (y : Ed) (hn : xs.length + 10 < m) (hm : m ≤ 72057594037927936) : ∃ H', lvl Try.prog pk12 m (.func 67) [v, edV y] H = some (.int .i64 (idxH xs y), H') ∧ Ext H H' := by
  have x2 : Ext H (H ++ [hpB y]) := Fr.app _ _ _
  have hlen := hx.len
  refine ⟨H ++ [hpB y], lvl_at (pk_no rfl rfl) (by omega) ?_, x2⟩
  rw [f67_eq]
  unfold f67
  simp -implicitDefEqProofs only [r_opt, r_ret, ob_some, ifB_true, iteV_true, iteV_false, r_gdt, r_gdt2, r_gdtf, r_gdtf2, r_gdff, r_gdff2, r_gdft, r_gdft2, r_gdu, r_gdu2, pick_t, pick_f, ext_0, ext_1, x_newB, r_nil, r_fAddr, Nat.zero_add, b_lss, b_leq, b_gtr, b_geq, b_eql, b_neq, u_not, Bool.not_true, Bool.not_false, oneOf_one, oneOf_two, again_normal, again_exit, again_ret, Bool.and_true, hp_cells, hlen]
  exact ixH_loop (hx.ext x2) (at_last H _) (by omega) xs.length 0 (m - 1) (by omega) (by omega) (by omega) ..
theorem after_loop {n : Nat} (hk : OkP p n) {H0 : Heap} {a hb : Nat} {h : Ed} {u : Value} {hs : List Ed} (hh : 0 ≤ h.1 ∧ h.1 < n ∧ 0 ≤ h.2 ∧ h.2 < n) (hp : PV H0 p ev wv nv) (hb0 : H0[a]? = some (plB p ev wv nv)) (hhb : H0[hb]? = some (hpB h)) (hu : Hs H0 u hs) (hsl : hs.length ≤ 100) (hm : 300 < m) (hm2 : m ≤ 72057594037927936) :
    ∀ (q i k : Nat) (H1 : Heap) (acc : Value), n - i = q → i ≤ n → q < k → Ext H0 H1 → Iw H1 acc ((List.range i).flatMap (aft1 p hs h)) → New H0 acc → ∀ (x0 x1 x5 x6 x8 x9 x10 x13 x14 x15 x16 x17 x18 x19 x20 x21 x22 x23 x24 x25 x26 x27 x28 x29 x30 x31 x32 x33 x34 x35 x36 x37 x38 x39 x40 x41 x42 x43 x44 x45 x46 x47 x48 x49 x50 x51 x52 x53 x54 x55 x56 x57 x58 x59 x60 x61 x62 x63 : Value),
    ∃ H' r, loopN k (runCode Try.prog (lvl Try.prog pk12 m) (loopN m) f49_c0) (f49_k0 (lvl Try.prog pk12 m) (loopN m)) [x0, x1, u, (.pointer (some ⟨a, 0, none⟩)), (.pointer (some ⟨hb, 0, none⟩)), x5, x6, acc, x8, x9, x10, (.int .i64 n), (.int .i64 (i : Nat)), x13, x14, x15, x16, x17, x18, x19, x20, x21, x22, x23, x24, x25, x26, x27, x28, x29, x30, x31, x32, x33, x34, x35, x36, x37, x38, x39, x40, x41, x42, x43, x44, x45, x46, x47, x48, x49, x50, x51, x52, x53, x54, x55, x56, x57, x58, x59, x60, x61, x62, x63] H1 = some (r, H') ∧ Ext H0 H' ∧ Iw H' r (dd (srt (aftL p n hs h))) ∧ New H0 r := by
  intro q
  have h6 := hk.h6
  induction q with
  | zero =>
    intro i k H1 acc hr hi hk2 he ha hnew
    intros
    obtain ⟨k, rfl⟩ : ∃ n, k = n + 1 := ⟨k - 1, by omega⟩
    obtain rfl : i = n := by omega
    have e : decide ((i : Int) < (i : Int)) = false := by simp
    have hal := aft_le p hs h i
    obtain ⟨H2, g1, g2, g3⟩ := sort_rw ha (by omega) hnew he
    have g1' := sort_is m (by omega) [acc] H1
    rw [g1] at g1'
    have hsl := srt_len ((List.range i).flatMap (aft1 p hs h))
    obtain ⟨H3, r, q1, q2, q3, q4⟩ := compact_is (m := m) g2 hnew g3 (by omega) (by omega)
    refine ⟨H3, r, ?_, q2, q3, q4⟩
    rw [loop_succ, f49_b0_eq]
    unfold f49_b0
    simp -implicitDefEqProofs only [r_opt, r_ret, ob_some, ifB_true, iteV_true, iteV_false, r_gdt, r_gdt2, r_gdtf, r_gdtf2, r_gdff, r_gdff2, r_gdft, r_gdft2, r_gdu, r_gdu2, pick_t, pick_f, ext_0, ext_1, x_newB, r_nil, r_fAddr, Nat.zero_add, b_lss, b_leq, b_gtr, b_geq, b_eql, b_neq, u_not, Bool.not_true, Bool.not_false, oneOf_one, oneOf_two, again_normal, again_exit, again_ret, Bool.and_true, e]
    rw [f49_e0_0_eq]
    unfold f49_e0_0
    simp -implicitDefEqProofs only [r_opt, r_ret, ob_some, ifB_true, iteV_true, iteV_false, r_gdt, r_gdt2, r_gdtf, r_gdtf2, r_gdff, r_gdff2, r_gdft, r_gdft2, r_gdu, r_gdu2, pick_t, pick_f, ext_0, ext_1, x_newB, r_nil, r_fAddr, Nat.zero_add, b_lss, b_leq, b_gtr, b_geq, b_eql, b_neq, u_not, Bool.not_true, Bool.not_false, oneOf_one, oneOf_two, again_normal, again_exit, again_ret, Bool.and_true, g1', q1]
  | succ q ih =>
    intro i k H1 acc hr hi hk2 he ha hnew
    intros
    obtain ⟨k, rfl⟩ : ∃ n, k = n + 1 := ⟨k - 1, by omega⟩
    have e : decide ((i : Int) < (n : Int)) = true := decide_eq_true (by omega)
    have e3 : IntKind.i64.wrap ((i : Int) + 1) = ((i + 1 : Nat) : Int) := by rw [wrap_i64 (by omega) (by omega)]; omega
    have hb1 := ld_of hhb he
    have h0 := ld_hp0 hb1
    have h1 := ld_hp1 hb1
    have bp := ld_of hb0 he
    have l10 := ld_pl bp 10 _ rfl
    have p1 := hp.ext he
    have hran : (List.range (i + 1)).flatMap (aft1 p hs h) = (List.range i).flatMap (aft1 p hs h) ++ aft1 p hs h i := by
      rw [List.range_succ, List.flatMap_append]
      simp
    have hal := aft_le p hs h i
    have skip : aft1 p hs h i = [] → ∀ (x0 x1 x5 x6 x8 x9 x10 x13 x14 x15 x16 x17 x18 x19 x20 x21 x22 x23 x24 x25 x26 x27 x28 x29 x30 x31 x32 x33 x34 x35 x36 x37 x38 x39 x40 x41 x42 x43 x44 x45 x46 x47 x48 x49 x50 x51 x52 x53 x54 x55 x56 x57 x58 x59 x60 x61 x62 x63 : Value), ∃ H' r, loopN k (runCode Try.prog (lvl Try.prog pk12 m) (loopN m) f49_c0) (f49_k0 (lvl Try.prog pk12 m) (loopN m)) [x0, x1, u, (.pointer (some ⟨a, 0, none⟩)), (.pointer (some ⟨hb, 0, none⟩)), x5, x6, acc, x8, x9, x10, (.int .i64 n), (.int .i64 (i + 1 : Nat)), x13, x14, x15, x16, x17, x18, x19, x20, x21, x22, x23, x24, x25, x26, x27, x28, x29, x30, x31, x32, x33, x34, x35, x36, x37, x38, x39, x40, x41, x42, x43, x44, x45, x46, x47, x48, x49, x50, x51, x52, x53, x54, x55, x56, x57, x58, x59, x60, x61, x62, x63] H1 = some (r, H') ∧ Ext H0 H' ∧ Iw H' r (dd (srt (aftL p n hs h))) ∧ New H0 r := by
      intro h0
      exact ih (i + 1) k H1 acc (by omega) (by omega) (by omega) he (by rw [hran, h0, List.append_nil]; exact ha) hnew
    rw [loop_succ, f49_b0_eq]
    unfold f49_b0
    cases c1 : ((i : Int) == h.1) with
    | true =>
      simp -implicitDefEqProofs only [r_opt, r_ret, ob_some, ifB_true, iteV_true, iteV_false, r_gdt, r_gdt2, r_gdtf, r_gdtf2, r_gdff, r_gdff2, r_gdft, r_gdft2, r_gdu, r_gdu2, pick_t, pick_f, ext_0, ext_1, x_newB, r_nil, r_fAddr, Nat.zero_add, b_lss, b_leq, b_gtr, b_geq, b_eql, b_neq, u_not, Bool.not_true, Bool.not_false, oneOf_one, oneOf_two, again_normal, again_exit, again_ret, Bool.and_true, e, h0, c1, b_add, e3]
      exact skip (by unfold aft1; rw [if_pos (.inl (by simpa using c1))]) ..
    | false =>
      cases c2 : ((i : Int) == h.2) with
      | true =>
        simp -implicitDefEqProofs only [r_opt, r_ret, ob_some, ifB_true, iteV_true, iteV_false, r_gdt, r_gdt2, r_gdtf, r_gdtf2, r_gdff, r_gdff2, r_gdft, r_gdft2, r_gdu, r_gdu2, pick_t, pick_f, ext_0, ext_1, x_newB, r_nil, r_fAddr, Nat.zero_add, b_lss, b_leq, b_gtr, b_geq, b_eql, b_neq, u_not, Bool.not_true, Bool.not_false, oneOf_one, oneOf_two, again_normal, again_exit, again_ret, Bool.and_true, e, h0, h1, c1, c2, b_add, e3]
        exact skip (by unfold aft1; rw [if_pos (.inr (.inl (by simpa using c2)))]) ..
      | false =>
        obtain ⟨a1, u1, a2, g1, g2, g3, g4⟩ := nx_at hk p1 (v := h.1) (w := i) (by omega) (by omega)
        cases c3 : (nx p h.1 i != h.2) with
        | true =>
          simp -implicitDefEqProofs only [r_opt, r_ret, ob_some, ifB_true, iteV_true, iteV_false, r_gdt, r_gdt2, r_gdtf, r_gdtf2, r_gdff, r_gdff2, r_gdft, r_gdft2, r_gdu, r_gdu2, pick_t, pick_f, ext_0, ext_1, x_newB, r_nil, r_fAddr, Nat.zero_add, b_lss, b_leq, b_gtr, b_geq, b_eql, b_neq, u_not, Bool.not_true, Bool.not_false, oneOf_one, oneOf_two, again_normal, again_exit, again_ret, Bool.and_true, e, h0, h1, c1, c2, l10, g1, g2, g3, g4, c3, b_add, e3]
          exact skip (by unfold aft1; rw [if_pos (.inr (.inr (by simpa using c3)))]) ..
        | false =>
          obtain ⟨a3, u3, a4, k1, k2, k3, k4⟩ := nx_at hk p1 (v := h.2) (w := i) (by omega) (by omega)
          have bh : bld Try.prog 38 [(0, .int .i64 h.2), (1, .int .i64 (nx p h.2 i))] = some (edV (h.2, nx p h.2 i)) := bHop _ _
          obtain ⟨H2, x1, x2⟩ := ixH_is (hu.ext he) (h.2, nx p h.2 i) (m := m) (by omega) (by omega)
          have hnot : ¬ ((i : Int) = h.1 ∨ (i : Int) = h.2 ∨ nx p h.1 i ≠ h.2) := by
            have c1' : ¬ (i : Int) = h.1 := by simpa using c1
            have c2' : ¬ (i : Int) = h.2 := by simpa using c2
            have c3' : nx p h.1 i = h.2 := by simpa using c3
            rintro (hx | hx | hx)
            · exact c1' hx
            · exact c2' hx
            · exact hx c3'
          have ha2 : Iw H2 acc ((List.range i).flatMap (aft1 p hs h)) := ha.keep fun b hb => x2.2 b (ha.lt hb) id
          cases c4 : decide (0 ≤ idxH hs (h.2, nx p h.2 i)) with
          | true =>
            obtain ⟨acc2, H3, t1, t2, t3, t4⟩ := ha2.push1 (by' := 8) inC_len inC_all (by decide) (idxH hs (h.2, nx p h.2 i)) hnew (he.tr x2) (roomy_mono (n := 1000000) (by decide) (by omega))
            simp -implicitDefEqProofs only [r_opt, r_ret, ob_some, ifB_true, iteV_true, iteV_false, r_gdt, r_gdt2, r_gdtf, r_gdtf2, r_gdff, r_gdff2, r_gdft, r_gdft2, r_gdu, r_gdu2, pick_t, pick_f, ext_0, ext_1, x_newB, r_nil, r_fAddr, Nat.zero_add, b_lss, b_leq, b_gtr, b_geq, b_eql, b_neq, u_not, Bool.not_true, Bool.not_false, oneOf_one, oneOf_two, again_normal, again_exit, again_ret, Bool.and_true, e, h0, h1, c1, c2, l10, g1, g2, g3, g4, c3, k1, k2, k3, k4, bh, x1, c4, bldI, t1, b_add, e3]
            refine ih (i + 1) k H3 acc2 (by omega) (by omega) (by omega) t4 ?_ t3 ..
            have : aft1 p hs h i = [idxH hs (h.2, nx p h.2 i)] := by unfold aft1; rw [if_neg hnot, if_pos (of_decide_eq_true c4)]
            rw [hran, this]
            exact t2
          | false =>
            simp -implicitDefEqProofs only [r_opt, r_ret, ob_some, ifB_true, iteV_true, iteV_false, r_gdt, r_gdt2, r_gdtf, r_gdtf2, r_gdff, r_gdff2, r_gdft, r_gdft2, r_gdu, r_gdu2, pick_t, pick_f, ext_0, ext_1, x_newB, r_nil, r_fAddr, Nat.zero_add, b_lss, b_leq, b_gtr, b_geq, b_eql, b_neq, u_not, Bool.not_true, Bool.not_false, oneOf_one, oneOf_two, again_normal, again_exit, again_ret, Bool.and_true, e, h0, h1, c1, c2, l10, g1, g2, g3, g4, c3, k1, k2, k3, k4, bh, x1, c4, b_add, e3]
            refine ih (i + 1) k H2 acc (by omega) (by omega) (by omega) (he.tr x2) ?_ hnew ..
            have : aft1 p hs h i = [] := by unfold aft1; rw [if_neg hnot, if_neg (of_decide_eq_false c4)]
            rw [hran, this, List.append_nil]
            exact ha2
theorem after_is {n : Nat} (hk : OkP p n) {h : Ed} {u : Value} {hs : List Ed} (hh : 0 ≤ h.1 ∧ h.1 < n ∧ 0 ≤ h.2 ∧ h.2 < n) (hp : PV H p ev wv nv) (hu : Hs H u hs) (hsl : hs.length ≤ 100) (hnd : hs.Nodup) (hm : 400 < m) (hm2 : m ≤ 72057594037927936) :
    ∃ H' r, lvl Try.prog pk12 m (.func 49) [plV p ev wv nv, edV h, u] H = some (r, H') ∧ Ext H H' ∧ Iw H' r (wrow p n hs h) ∧ New H r := by
  obtain ⟨H0, hH0⟩ : ∃ H0, H0 = H ++ [plB p ev wv nv] := ⟨_, rfl⟩
  have x0 : Ext H H0 := by rw [hH0]; exact Fr.app _ _ _
  have b0 : H0[H.length]? = some (plB p ev wv nv) := by rw [hH0]; exact at_last _ _
  obtain ⟨H1, hH1⟩ : ∃ H1, H1 = H0 ++ [hpB h] := ⟨_, rfl⟩
  have x1 : Ext H0 H1 := by rw [hH1]; exact Fr.app _ _ _
  have b1 : H1[H0.length]? = some (hpB h) := by rw [hH1]; exact at_last _ _
  have l0 := ld_pl (ld_of b0 x1) 0 _ rfl
  rw [hk.hn] at l0
  have x01 := x0.tr x1
  have h6 := hk.h6
  refine lvl_ex (pk_no rfl rfl) (by omega) ?_
  rw [f49_eq]
  unfold f49
  simp -implicitDefEqProofs only [r_opt, r_ret, ob_some, ifB_true, iteV_true, iteV_false, r_gdt, r_gdt2, r_gdtf, r_gdtf2, r_gdff, r_gdff2, r_gdft, r_gdft2, r_gdu, r_gdu2, pick_t, pick_f, ext_0, ext_1, x_newB, r_nil, r_fAddr, Nat.zero_add, b_lss, b_leq, b_gtr, b_geq, b_eql, b_neq, u_not, Bool.not_true, Bool.not_false, oneOf_one, oneOf_two, again_normal, again_exit, again_ret, Bool.and_true, plV_cells, ← hH0, hp_cells, ← hH1, l0]
  rw [← aft_wrow hnd]
  exact Exists.imp (fun H' h => Exists.imp (fun r h => ⟨h.1, x01.tr h.2.1, h.2.2.1, fun b hb => Nat.le_trans x01.1 (h.2.2.2 b hb)⟩) h) (after_loop hk hh (hp.ext x01) (ld_of b0 x1) b1 (hu.ext x01) hsl (m := m - 1) (by omega) (by omega) n 0 (m - 1) H1 (.slice none 0 0) (by omega) (by omega) (by omega) (Fr.refl _ _) Rw.nil (New.nil _) ..)
structure WR (H : Heap) (us : List SV) (xss : List (List Int)) : Prop where
  len : us.length = xss.length
  row : ∀ (j : Nat) (s : SV) (xs : List Int), us[j]? = some s → xss[j]? = some xs → Iw H s.1 xs
theorem WR.keep {us : List SV} {xss : List (List Int)} {H' : Heap} (h : WR H us xss) (hk : ∀ (b : Nat) (cs : List Value), H[b]? = some (.cells cs 3 .row) → H'[b]? = H[b]?) : WR H' us xss :=
  ⟨h.len, fun j s xs h1 h2 => (h.row j s xs h1 h2).keep fun b hb => by
    obtain ⟨cs, hc⟩ := (h.row j s xs h1 h2).blk hb
    exact hk b cs hc⟩
theorem WR.push {us : List SV} {xss : List (List Int)} {s : SV} {xs : List Int} (h : WR H us xss) (hs : Iw H s.1 xs) : WR H (us ++ [s]) (xss ++ [xs]) := by
  refine ⟨by simp [h.len], fun j s' xs' h1 h2 => ?_⟩
  by_cases hj : j < us.length
  · rw [List.getElem?_append_left hj] at h1
    rw [List.getElem?_append_left (by have := h.len; omega)] at h2
    exact h.row j s' xs' h1 h2
  · have hj2 : j = us.length := by
      have := (List.getElem?_eq_some_iff.mp h1).1
      simp at this
      omega
    subst hj2
    simp at h1
    rw [h.len] at h2
    simp at h2
    subst h1 h2
    exact hs
theorem WR.rows {us : List SV} {xss : List (List Int)} {v : Value} (h : WR H us xss) (hv : Rs sC 24 H v us) : Rows H v xss := by
  refine ⟨us.map (·.1), ?_, by simp [h.len], fun j u xs h1 h2 => ?_⟩
  · rcases hv with ⟨h1, h2⟩ | ⟨b, o, cap, h1, h2, h3⟩
    · exact .inl ⟨h1, by rw [h2]; rfl⟩
    · refine .inr ⟨b, o, cap, by rw [List.length_map]; exact h1, by rw [List.length_map]; exact h2, fun hne => ?_⟩
      rw [← sC_map]
      exact h3 fun hh => hne (by rw [hh]; rfl)
  · rw [List.getElem?_map] at h1
    obtain ⟨s, hs, rfl⟩ := Option.map_eq_some_iff.mp h1
    exact (h.row j s xs hs h2).rs
def svOf {u : Value} {xs : List Int} (h : Iw H u xs) : SV := ⟨u, Rs.sv h.rs⟩
def nilSV : SV := ⟨.slice none 0 0, rfl, rfl⟩
theorem Waits_loop {n : Nat} (hk : OkP p n) {H0 : Heap} {a ob : Nat} {u : Value} {hs : List Ed} (hin : ∀ h ∈ hs, 0 ≤ h.1 ∧ h.1 < n ∧ 0 ≤ h.2 ∧ h.2 < n) (hsl : hs.length ≤ 100) (hnd : hs.Nodup) (hm : 500 < m) (hm2 : m ≤ 72057594037927936) (hp : PV H0 p ev wv nv) (hb0 : H0[a]? = some (plB p ev wv nv)) (hu : Hs H0 u hs) (hob : H0.length = ob) :
    ∀ (q i k : Nat) (H1 : Heap) (us : List SV), hs.length - i = q → i ≤ hs.length → q < k → Ext H0 H1 → Own sC 24 H1 (.slice (some ⟨ob, 0, none⟩) hs.length hs.length) ob us → us.length = hs.length → WR H1 (us.take i) ((hs.take i).map (wrow p n hs)) → ∀ (x0 x2 x5 x6 x7 x8 x9 x10 x11 x12 x13 x14 x18 x19 x20 x21 x22 x23 x24 x25 x26 x27 x28 x29 x30 : Value),
    ∃ H' r, loopN k (runCode Try.prog (lvl Try.prog pk12 m) (loopN m) f26_c0) (f26_k0 (lvl Try.prog pk12 m) (loopN m)) [x0, (.pointer (some ⟨a, 0, none⟩)), x2, u, (.slice (some ⟨ob, 0, none⟩) hs.length hs.length), x5, x6, x7, x8, x9, x10, x11, x12, x13, x14, u, (.int .i64 hs.length), (.int .i64 (i : Nat)), x18, x19, x20, x21, x22, x23, x24, x25, x26, x27, x28, x29, x30] H1 = some (r, H') ∧ Ext H0 H' ∧ Rows H' r (hs.map (wrow p n hs)) := by
  intro q
  induction q with
  | zero =>
    intro i k H1 us hr hi hk2 he ho hul hwr
    intros
    obtain ⟨k, rfl⟩ : ∃ n, k = n + 1 := ⟨k - 1, by omega⟩
    obtain rfl : i = hs.length := by omega
    have e : decide ((hs.length : Int) < (hs.length : Int)) = false := by simp
    rw [loop_succ, f26_b0_eq]
    unfold f26_b0
    simp -implicitDefEqProofs only [r_opt, r_ret, ob_some, ifB_true, iteV_true, iteV_false, r_gdt, r_gdt2, r_gdtf, r_gdtf2, r_gdff, r_gdff2, r_gdft, r_gdft2, r_gdu, r_gdu2, pick_t, pick_f, ext_0, ext_1, x_newB, r_nil, r_fAddr, Nat.zero_add, b_lss, b_leq, b_gtr, b_geq, b_eql, b_neq, u_not, Bool.not_true, Bool.not_false, oneOf_one, oneOf_two, again_normal, again_exit, again_ret, Bool.and_true, e]
    rw [f26_e0_0_eq]
    unfold f26_e0_0
    rw [List.take_of_length_le (Nat.le_refl _), List.take_of_length_le (by omega)] at hwr
    refine ⟨H1, .slice (some ⟨ob, 0, none⟩) hs.length hs.length, rfl, he, hwr.rows (.inr ⟨ob, 0, hs.length, by rw [hul], by omega, fun _ => ⟨24, .row, [], [], rfl, fun _ => rfl, ?_⟩⟩)⟩
    rw [ho.blk]; simp
  | succ q ih =>
    intro i k H1 us hr hi hk2 he ho hul hwr
    intros
    obtain ⟨k, rfl⟩ : ∃ n, k = n + 1 := ⟨k - 1, by omega⟩
    have e : decide ((i : Int) < (hs.length : Int)) = true := decide_eq_true (by omega)
    have e3 : IntKind.i64.wrap ((i : Int) + 1) = ((i + 1 : Nat) : Int) := by rw [wrap_i64 (by omega) (by omega)]; omega
    obtain ⟨h, hh⟩ : ∃ h, hs[i]? = some h := ⟨_, List.getElem?_eq_getElem (by omega)⟩
    obtain ⟨b, o, g1, _, g3⟩ := (hu.ext he).at_ edC_len hh .i64
    have g4 : ldN 2 (.pointer (some ⟨b, o, none⟩)) H1 = some (edV h, H1) := (g3 H1 rfl).1
    obtain ⟨H2, hH2⟩ : ∃ H2, H2 = H1 ++ [hpB h] := ⟨_, rfl⟩
    have x2 : Ext H1 H2 := by rw [hH2]; exact Fr.app _ _ _
    have b2 : H2[H1.length]? = some (hpB h) := by rw [hH2]; exact at_last _ _
    have st : stN 2 (.pointer (some ⟨H1.length, 0, none⟩)) (edV h) (H1 ++ [.cells [.int .i64 0, .int .i64 0] 38 .fix]) = some (undef, H2) := by
      rw [x_stN 2 _ _ _ rfl, at_last, x_stC _ _ _ _ _ _ (by decide) (by show 0 + 2 ≤ 2; omega) rfl, hH2]
      simp [setCells, edV, edC, Value.cells, hpB]
    have l11 := ld_pl11 (ld_of hb0 (he.tr x2))
    have l2 := ld_hp2 b2
    obtain ⟨H3, r, g5, x3, g6, g7⟩ := after_is hk (hin h (List.mem_of_getElem? hh)) (hp.ext (he.tr x2)) (hu.ext (he.tr x2)) hsl hnd (m := m) (by omega) (by omega)
    have x13 : Ext H1 H3 := x2.tr x3
    have ho3 : Own sC 24 H3 (.slice (some ⟨ob, 0, none⟩) hs.length hs.length) ob us := ⟨ho.val, by rw [x13.2 ob (List.getElem?_eq_some_iff.mp ho.blk).1 id]; exact ho.blk⟩
    have ga := ho3.at_ 1 i .i64 (by omega)
    obtain ⟨s1, s2⟩ := ho3.st (sz := 1) sC_len sC_all (i := i) (by omega) (svOf g6)
    have st2 : stN 1 (.pointer (some ⟨ob, i * 1, none⟩)) r H3 = some (undef, H3.set ob (.cells ((us.set i (svOf g6)).map sC).flatten 24 .row)) := by
      have hcl : r.cells.toList = sC (svOf g6) := by
        have := (svOf g6).2.2
        show r.cells.toList = [r]
        rw [show r.cells = #[r] from this]
      rw [x_stN 1 _ _ _ (by rw [hcl]; rfl), hcl]
      exact s1
    rw [loop_succ, f26_b0_eq]
    unfold f26_b0
    simp -implicitDefEqProofs only [r_opt, r_ret, ob_some, ifB_true, iteV_true, iteV_false, r_gdt, r_gdt2, r_gdtf, r_gdtf2, r_gdff, r_gdff2, r_gdft, r_gdft2, r_gdu, r_gdu2, pick_t, pick_f, ext_0, ext_1, x_newB, r_nil, r_fAddr, Nat.zero_add, b_lss, b_leq, b_gtr, b_geq, b_eql, b_neq, u_not, Bool.not_true, Bool.not_false, oneOf_one, oneOf_two, again_normal, again_exit, again_ret, Bool.and_true, e, g1, g4, st, l11, l2, g5, ga, st2, b_add, e3]
    obtain ⟨H4, hH4⟩ : ∃ H4, H4 = H3.set ob (.cells ((us.set i (svOf g6)).map sC).flatten 24 .row) := ⟨_, rfl⟩
    rw [← hH4] at s2 ⊢
    have x04 : Ext H0 H4 := by rw [hH4]; exact set_ext (he.tr x13) (by omega)
    have kp : ∀ (b : Nat) (cs : List Value), H3[b]? = some (.cells cs 3 .row) → H4[b]? = H3[b]? := fun b cs hb => by
      rw [hH4]
      refine List.getElem?_set_ne fun hh => ?_
      subst hh
      rw [ho3.blk] at hb
      simp at hb
    have w3 : WR H3 (us.take i) ((hs.take i).map (wrow p n hs)) := hwr.keep fun b cs hb => by rw [x13.2 b (List.getElem?_eq_some_iff.mp hb).1 id]
    have w4 := (w3.push (s := svOf g6) g6).keep kp
    refine ih (i + 1) k H4 (us.set i (svOf g6)) (by omega) (by omega) (by omega) x04 s2 (by simp [hul]) ?_ ..
    have e1 : (us.set i (svOf g6)).take (i + 1) = us.take i ++ [svOf g6] := by
      rw [List.take_add_one, List.getElem?_set_self (by omega), List.take_set_of_le (Nat.le_refl _)]
      rfl
    have e2 : (hs.take (i + 1)).map (wrow p n hs) = (hs.take i).map (wrow p n hs) ++ [wrow p n hs h] := by
      rw [List.take_add_one, hh, List.map_append]
      rfl
    rw [e1, e2]
    exact w4
theorem Waits_is (hp : PV H p ev wv nv) (hm : 17592186045200 < m) (hm2 : m ≤ 72057594037927936) :
    ∃ H' r, lvl Try.prog pk12 m (.func 26) [plV p ev wv nv] H = some (r, H') ∧ Ext H H' ∧ Rows H' r (waitsL p) := by
  obtain ⟨H0, hH0⟩ : ∃ H0, H0 = H ++ [plB p ev wv nv] := ⟨_, rfl⟩
  have x0 : Ext H H0 := by rw [hH0]; exact Fr.app _ _ _
  have b0 : H0[H.length]? = some (plB p ev wv nv) := by rw [hH0]; exact at_last _ _
  have p0 := hp.ext x0
  have l11 := ld_pl11 b0
  obtain ⟨H1, g1, x1⟩ := check_is p0 (m := m - 1) (by omega) (by omega)
  have b1 := ld_of b0 x1
  have p1 := p0.ext x1
  have l12 := ld_pl11 b1
  refine lvl_ex (pk_no rfl rfl) (by omega) ?_
  rw [f26_eq]
  unfold f26
  cases hc : checkOk p with
  | false =>
    rw [hc] at g1
    have en : (errno false != 0) = true := rfl
    have e : waitsL p = [] := by unfold waitsL; rw [if_neg (by simp [hc])]
    simp -implicitDefEqProofs only [r_opt, r_ret, ob_some, ifB_true, iteV_true, iteV_false, r_gdt, r_gdt2, r_gdtf, r_gdtf2, r_gdff, r_gdff2, r_gdft, r_gdft2, r_gdu, r_gdu2, pick_t, pick_f, ext_0, ext_1, x_newB, r_nil, r_fAddr, Nat.zero_add, b_lss, b_leq, b_gtr, b_geq, b_eql, b_neq, u_not, Bool.not_true, Bool.not_false, oneOf_one, oneOf_two, again_normal, again_exit, again_ret, Bool.and_true, plV_cells, ← hH0, l11, g1, en]
    exact ⟨H1, _, rfl, x0.tr x1, by rw [e]; exact ⟨[], .inl ⟨rfl, rfl⟩, rfl, fun i u xs h => by simp at h⟩⟩
  | true =>
    rw [hc] at g1
    have en : (errno true != 0) = false := rfl
    obtain ⟨n, hk⟩ := ok_of hc
    have h15 := hk.e15
    obtain ⟨H2, u, g2, x2, q2, _⟩ := hops_is p1 (m := m - 1) (by omega) (by omega)
    have hlen := q2.len
    have hhl := hops_len p
    have mk := x_mkSlice (H := H2) 24 1 24 [.slice none 0 0] .i64 .i64 ((hopsOf p).length : Int) (by omega) (by omega) (by omega) rfl
    simp only [Int.toNat_natCast] at mk
    have e : waitsL p = (hopsOf p).map (wrow p n (hopsOf p)) := by unfold waitsL; rw [if_pos hc, hk.hn]; rfl
    have hfl : (List.replicate (hopsOf p).length [Value.slice none 0 0]).flatten = ((List.replicate (hopsOf p).length nilSV).map sC).flatten := by rw [List.map_replicate]; rfl
    simp -implicitDefEqProofs only [r_opt, r_ret, ob_some, ifB_true, iteV_true, iteV_false, r_gdt, r_gdt2, r_gdtf, r_gdtf2, r_gdff, r_gdff2, r_gdft, r_gdft2, r_gdu, r_gdu2, pick_t, pick_f, ext_0, ext_1, x_newB, r_nil, r_fAddr, Nat.zero_add, b_lss, b_leq, b_gtr, b_geq, b_eql, b_neq, u_not, Bool.not_true, Bool.not_false, oneOf_one, oneOf_two, again_normal, again_exit, again_ret, Bool.and_true, plV_cells, ← hH0, l11, g1, en, l12, g2, hlen, mk]
    rw [e, hfl]
    have hx : Ext H2 (H2 ++ [Blk.cells ((List.replicate (hopsOf p).length nilSV).map sC).flatten 24 .row]) := Fr.app _ _ _
    exact Exists.imp (fun H' h => Exists.imp (fun r h => ⟨h.1, ((x0.tr x1).tr x2).tr h.2.1, h.2.2⟩) h) (Waits_loop hk (fun h hh => hops_in hk hh) (by omega) (hops_nd hk).1 (m := m - 1) (by omega) (by omega) (p1.ext x2) (ld_of b1 x2) q2.rs rfl (hopsOf p).length 0 (m - 1) _ (List.replicate (hopsOf p).length nilSV) (by omega) (by omega) (by omega) hx ⟨by simp, at_last _ _⟩ (by simp) ⟨by simp, fun j s xs h => by simp at h⟩ ..)
end
end Go.Proofs.Ytdobnaldfmpimaa

set_option linter.unusedSectionVars false
set_option linter.unusedSimpArgs false
set_option linter.unusedVariables false
set_option maxRecDepth 100000
namespace Go.Proofs.Ytdobnaldfmpimaa
open Go.Abs
section
variable {H : Heap} {m : Nat} {p : PlanD} {ev wv nv : Value}
theorem rwt_loop {n : Nat} (hk : OkP p n) {a ab bb : Nat} {x y : Ed} (hx : 0 ≤ x.1 ∧ x.1 < n ∧ 0 ≤ x.2 ∧ x.2 < n) (hp : PV H p ev wv nv) (hb0 : H[a]? = some (plB p ev wv nv)) (ha : H[ab]? = some (hpB x)) (hb : H[bb]? = some (hpB y)) :
    ∀ (q i k : Nat), n - i = q → i ≤ n → q < k → ∀ (x0 x1 x2 x6 x8 x9 x10 x11 x12 x13 x14 x15 x16 x17 x18 x19 x20 x21 x22 x23 x24 x25 x26 x27 x28 x29 x30 x31 x32 x33 x34 x35 x36 x37 x38 x39 x40 x41 x42 x43 x44 x45 x46 x47 x48 x49 x50 x51 x52 x53 x54 x55 x56 x57 x58 : Value),
    loopN k (runCode Try.prog (lvl Try.prog pk12 m) (loopN m) f68_c0) (f68_k0 (lvl Try.prog pk12 m) (loopN m)) [x0, x1, x2, (.pointer (some ⟨a, 0, none⟩)), (.pointer (some ⟨ab, 0, none⟩)), (.pointer (some ⟨bb, 0, none⟩)), x6, (.int .i64 (i : Nat)), x8, x9, x10, x11, x12, x13, x14, x15, x16, x17, x18, x19, x20, x21, x22, x23, x24, x25, x26, x27, x28, x29, x30, x31, x32, x33, x34, x35, x36, x37, x38, x39, x40, x41, x42, x43, x44, x45, x46, x47, x48, x49, x50, x51, x52, x53, x54, x55, x56, x57, x58] H = some (.bool ((List.range' i q).any (wtAt p x y)), H) := by
  intro q
  have h6 := hk.h6
  have l0 := ld_pl hb0 0 _ rfl
  rw [hk.hn] at l0
  have l10 := ld_pl hb0 10 _ rfl
  have a0 := ld_hp0 ha
  have a1 := ld_hp1 ha
  have b0 := ld_hp0 hb
  have b1 := ld_hp1 hb
  induction q with
  | zero =>
    intro i k hr hi hk2
    intros
    obtain ⟨k, rfl⟩ : ∃ n, k = n + 1 := ⟨k - 1, by omega⟩
    have e : decide ((i : Int) < (n : Int)) = false := decide_eq_false (by omega)
    rw [loop_succ, f68_b0_eq]
    unfold f68_b0
    simp -implicitDefEqProofs only [r_opt, r_ret, ob_some, ifB_true, iteV_true, iteV_false, r_gdt, r_gdt2, r_gdtf, r_gdtf2, r_gdff, r_gdff2, r_gdft, r_gdft2, r_gdu, r_gdu2, pick_t, pick_f, ext_0, ext_1, x_newB, r_nil, r_fAddr, Nat.zero_add, b_lss, b_leq, b_gtr, b_geq, b_eql, b_neq, u_not, Bool.not_true, Bool.not_false, oneOf_one, oneOf_two, again_normal, again_exit, again_ret, Bool.and_true, l0, e]
    rw [f68_e0_0_eq]
    rfl
  | succ q ih =>
    intro i k hr hi hk2
    intros
    obtain ⟨k, rfl⟩ : ∃ n, k = n + 1 := ⟨k - 1, by omega⟩
    have e : decide ((i : Int) < (n : Int)) = true := decide_eq_true (by omega)
    have e3 : IntKind.i64.wrap ((i : Int) + 1) = ((i + 1 : Nat) : Int) := by rw [wrap_i64 (by omega) (by omega)]; omega
    rw [loop_succ, f68_b0_eq]
    unfold f68_b0
    rw [List.range'_succ, List.any_cons]
    have next : wtAt p x y i = false → ∀ (x0 x1 x2 x6 x8 x9 x10 x11 x12 x13 x14 x15 x16 x17 x18 x19 x20 x21 x22 x23 x24 x25 x26 x27 x28 x29 x30 x31 x32 x33 x34 x35 x36 x37 x38 x39 x40 x41 x42 x43 x44 x45 x46 x47 x48 x49 x50 x51 x52 x53 x54 x55 x56 x57 x58 : Value), loopN k (runCode Try.prog (lvl Try.prog pk12 m) (loopN m) f68_c0) (f68_k0 (lvl Try.prog pk12 m) (loopN m)) [x0, x1, x2, (.pointer (some ⟨a, 0, none⟩)), (.pointer (some ⟨ab, 0, none⟩)), (.pointer (some ⟨bb, 0, none⟩)), x6, (.int .i64 (i + 1 : Nat)), x8, x9, x10, x11, x12, x13, x14, x15, x16, x17, x18, x19, x20, x21, x22, x23, x24, x25, x26, x27, x28, x29, x30, x31, x32, x33, x34, x35, x36, x37, x38, x39, x40, x41, x42, x43, x44, x45, x46, x47, x48, x49, x50, x51, x52, x53, x54, x55, x56, x57, x58] H = some (.bool (wtAt p x y i || (List.range' (i + 1) q).any (wtAt p x y)), H) := by
      intro h
      rw [h, Bool.false_or]
      exact ih (i + 1) k (by omega) (by omega) (by omega)
    cases c1 : (x.2 == y.1) with
    | false =>
      simp -implicitDefEqProofs only [r_opt, r_ret, ob_some, ifB_true, iteV_true, iteV_false, r_gdt, r_gdt2, r_gdtf, r_gdtf2, r_gdff, r_gdff2, r_gdft, r_gdft2, r_gdu, r_gdu2, pick_t, pick_f, ext_0, ext_1, x_newB, r_nil, r_fAddr, Nat.zero_add, b_lss, b_leq, b_gtr, b_geq, b_eql, b_neq, u_not, Bool.not_true, Bool.not_false, oneOf_one, oneOf_two, again_normal, again_exit, again_ret, Bool.and_true, l0, e, a1, b0, c1, b_add, e3]
      exact next (by unfold wtAt; rw [c1]; rfl) ..
    | true =>
      cases c2 : ((i : Int) != x.2) with
      | false =>
        simp -implicitDefEqProofs only [r_opt, r_ret, ob_some, ifB_true, iteV_true, iteV_false, r_gdt, r_gdt2, r_gdtf, r_gdtf2, r_gdff, r_gdff2, r_gdft, r_gdft2, r_gdu, r_gdu2, pick_t, pick_f, ext_0, ext_1, x_newB, r_nil, r_fAddr, Nat.zero_add, b_lss, b_leq, b_gtr, b_geq, b_eql, b_neq, u_not, Bool.not_true, Bool.not_false, oneOf_one, oneOf_two, again_normal, again_exit, again_ret, Bool.and_true, l0, e, a1, b0, c1, c2, b_add, e3]
        exact next (by unfold wtAt; rw [c1, c2]; rfl) ..
      | true =>
        cases c3 : ((i : Int) != x.1) with
        | false =>
          simp -implicitDefEqProofs only [r_opt, r_ret, ob_some, ifB_true, iteV_true, iteV_false, r_gdt, r_gdt2, r_gdtf, r_gdtf2, r_gdff, r_gdff2, r_gdft, r_gdft2, r_gdu, r_gdu2, pick_t, pick_f, ext_0, ext_1, x_newB, r_nil, r_fAddr, Nat.zero_add, b_lss, b_leq, b_gtr, b_geq, b_eql, b_neq, u_not, Bool.not_true, Bool.not_false, oneOf_one, oneOf_two, again_normal, again_exit, again_ret, Bool.and_true, l0, e, a0, a1, b0, c1, c2, c3, b_add, e3]
          exact next (by unfold wtAt; rw [c1, c2, c3]; rfl) ..
        | true =>
          obtain ⟨r1, u1, r2, g1, g2, g3, g4⟩ := nx_at hk hp (v := x.1) (w := i) (by omega) (by omega)
          cases c4 : (nx p x.1 i == x.2) with
          | false =>
            simp -implicitDefEqProofs only [r_opt, r_ret, ob_some, ifB_true, iteV_true, iteV_false, r_gdt, r_gdt2, r_gdtf, r_gdtf2, r_gdff, r_gdff2, r_gdft, r_gdft2, r_gdu, r_gdu2, pick_t, pick_f, ext_0, ext_1, x_newB, r_nil, r_fAddr, Nat.zero_add, b_lss, b_leq, b_gtr, b_geq, b_eql, b_neq, u_not, Bool.not_true, Bool.not_false, oneOf_one, oneOf_two, again_normal, again_exit, again_ret, Bool.and_true, l0, e, a0, a1, b0, c1, c2, c3, l10, g1, g2, g3, g4, c4, b_add, e3]
            exact next (by unfold wtAt; rw [c1, c2, c3, c4]; rfl) ..
          | true =>
            obtain ⟨r3, u3, r4, k1, k2, k3, k4⟩ := nx_at hk hp (v := x.2) (w := i) (by omega) (by omega)
            cases c5 : (nx p x.2 i == y.2) with
            | false =>
              simp -implicitDefEqProofs only [r_opt, r_ret, ob_some, ifB_true, iteV_true, iteV_false, r_gdt, r_gdt2, r_gdtf, r_gdtf2, r_gdff, r_gdff2, r_gdft, r_gdft2, r_gdu, r_gdu2, pick_t, pick_f, ext_0, ext_1, x_newB, r_nil, r_fAddr, Nat.zero_add, b_lss, b_leq, b_gtr, b_geq, b_eql, b_neq, u_not, Bool.not_true, Bool.not_false, oneOf_one, oneOf_two, again_normal, again_exit, again_ret, Bool.and_true, l0, e, a0, a1, b0, b1, c1, c2, c3, l10, g1, g2, g3, g4, c4, k1, k2, k3, k4, c5, b_add, e3]
              exact next (by unfold wtAt; rw [c1, c2, c3, c4, c5]; rfl) ..
            | true =>
              have : wtAt p x y i = true := by unfold wtAt; rw [c1, c2, c3, c4, c5]; rfl
              rw [this]
              simp -implicitDefEqProofs only [r_opt, r_ret, ob_some, ifB_true, iteV_true, iteV_false, r_gdt, r_gdt2, r_gdtf, r_gdtf2, r_gdff, r_gdff2, r_gdft, r_gdft2, r_gdu, r_gdu2, pick_t, pick_f, ext_0, ext_1, x_newB, r_nil, r_fAddr, Nat.zero_add, b_lss, b_leq, b_gtr, b_geq, b_eql, b_neq, u_not, Bool.not_true, Bool.not_false, oneOf_one, oneOf_two, again_normal, again_exit, again_ret, Bool.and_true, l0, e, a0, a1, b0, b1, c1, c2, c3, l10, g1, g2, g3, g4, c4, k1, k2, k3, k4, c5]
              rw [f68_r0_eq]
              rfl
theorem rwt_is {n : Nat} (hk : OkP p n) {x y : Ed} (hx : 0 ≤ x.1 ∧ x.1 < n ∧ 0 ≤ x.2 ∧ x.2 < n) (hp : PV H p ev wv nv) (hm : 100 < m) :
    ∃ H', lvl Try.prog pk12 m (.func 68) [plV p ev wv nv, edV x, edV y] H = some (.bool (wt p n x y), H') ∧ Ext H H' := by
  obtain ⟨H0, hH0⟩ : ∃ H0, H0 = H ++ [plB p ev wv nv] := ⟨_, rfl⟩
  have x0 : Ext H H0 := by rw [hH0]; exact Fr.app _ _ _
  have b0 : H0[H.length]? = some (plB p ev wv nv) := by rw [hH0]; exact at_last _ _
  obtain ⟨H1, hH1⟩ : ∃ H1, H1 = H0 ++ [hpB x] := ⟨_, rfl⟩
  have x1 : Ext H0 H1 := by rw [hH1]; exact Fr.app _ _ _
  have b1 : H1[H0.length]? = some (hpB x) := by rw [hH1]; exact at_last _ _
  obtain ⟨H2, hH2⟩ : ∃ H2, H2 = H1 ++ [hpB y] := ⟨_, rfl⟩
  have x2 : Ext H1 H2 := by rw [hH2]; exact Fr.app _ _ _
  have b2 : H2[H1.length]? = some (hpB y) := by rw [hH2]; exact at_last _ _
  have h6 := hk.h6
  refine lvl_ex1 (pk_no rfl rfl) (by omega) ⟨H2, ?_, (x0.tr x1).tr x2⟩
  rw [f68_eq]
  unfold f68 wt
  rw [List.range_eq_range']
  simp -implicitDefEqProofs only [r_opt, r_ret, ob_some, ifB_true, iteV_true, iteV_false, r_gdt, r_gdt2, r_gdtf, r_gdtf2, r_gdff, r_gdff2, r_gdft, r_gdft2, r_gdu, r_gdu2, pick_t, pick_f, ext_0, ext_1, x_newB, r_nil, r_fAddr, Nat.zero_add, b_lss, b_leq, b_gtr, b_geq, b_eql, b_neq, u_not, Bool.not_true, Bool.not_false, oneOf_one, oneOf_two, again_normal, again_exit, again_ret, Bool.and_true, plV_cells, ← hH0, hp_cells, ← hH1, ← hH2]
  exact rwt_loop hk hx (hp.ext ((x0.tr x1).tr x2)) (ld_of b0 (x1.tr x2)) (ld_of b1 x2) b2 n 0 (m - 1) (by omega) (by omega) (by omega) ..
theorem take_filter {α : Type} (f : Nat → Bool) (i : Nat) : ((List.range (i + 1)).filter f) = (List.range i).filter f ++ (if f i = true then [i] else []) := by
  rw [List.range_succ, List.filter_append]
  by_cases h : f i = true
  · rw [if_pos h, List.filter_cons, if_pos h]; rfl
  · rw [if_neg h, List.filter_cons, if_neg h]; rfl
theorem rWaits_loop1 {n : Nat} (hk : OkP p n) {H0 Hb : Heap} {a i : Nat} {u out : Value} {hs : List Ed} {x : Ed} {us : List SV} {xss : List (List Int)} {K : Ex → K (Value × Heap)} {Q : Heap → Value → Prop} (hin : ∀ h ∈ hs, 0 ≤ h.1 ∧ h.1 < n ∧ 0 ≤ h.2 ∧ h.2 < n) (hsl : hs.length ≤ 100) (hm : 500 < m) (hp : PV Hb p ev wv nv) (hb0 : Hb[a]? = some (plB p ev wv nv)) (hu : Hs Hb u hs) (hx : hs[i]? = some x)
    (hxl : xss.length ≤ 100) (h0b : Ext H0 Hb) (ho : Rw sC 24 1 Hb out us) (hon : New H0 out) (hw : WR Hb us xss)
    (hK : ∀ (H' : Heap) (out' : Value) (us' : List SV), Ext H0 H' → Rw sC 24 1 H' out' us' → New H0 out' → WR H' us' (xss ++ [wrow p n hs x]) → ∀ (x0 x2 x6 x7 x8 x9 x10 x11 x12 x13 x14 x15 x16 x17 x18 x19 x20 x21 x22 x23 x24 x25 x26 x27 x28 x29 x30 x31 x32 x33 x34 x35 x36 x37 x38 x39 x40 x41 x42 x43 : Value), ∃ H2 r, K .normal [x0, (.pointer (some ⟨a, 0, none⟩)), x2, u, out', (.int .i64 (i + 1 : Nat)), x6, x7, x8, x9, x10, x11, x12, x13, x14, x15, x16, x17, x18, x19, x20, x21, x22, x23, x24, x25, x26, x27, x28, x29, x30, x31, x32, x33, x34, x35, x36, x37, x38, x39, x40, x41, x42, x43] H' = some (r, H2) ∧ Q H2 r) :
    ∀ (q j k : Nat) (H1 : Heap) (acc : Value), hs.length - j = q → j ≤ hs.length → q < k → Ext Hb H1 → Iw H1 acc (((List.range j).filter fun k => wt p n x (hs.getD k (0, 0))).map (fun k : Nat => (k : Int))) → New Hb acc → ∀ (x0 x2 x8 x9 x10 x11 x12 x13 x14 x15 x16 x17 x18 x19 x20 x21 x22 x23 x24 x25 x26 x27 x28 x29 x30 x31 x32 x33 x34 x35 x36 x37 x38 x39 x40 x41 x42 x43 : Value),
    ∃ H' r, loopN k (runCode Try.prog (lvl Try.prog pk12 m) (loopN m) f50_c1) (f50_k1 (lvl Try.prog pk12 m) (loopN m) K) [x0, (.pointer (some ⟨a, 0, none⟩)), x2, u, out, (.int .i64 (i : Nat)), acc, (.int .i64 (j : Nat)), x8, x9, x10, x11, x12, x13, x14, x15, x16, x17, x18, x19, x20, x21, x22, x23, x24, x25, x26, x27, x28, x29, x30, x31, x32, x33, x34, x35, x36, x37, x38, x39, x40, x41, x42, x43] H1 = some (r, H') ∧ Q H' r := by
  intro q
  have hil := (List.getElem?_eq_some_iff.mp hx).1
  induction q with
  | zero =>
    intro j k H1 acc hr hi hk2 he ha hnew
    intros
    obtain ⟨k, rfl⟩ : ∃ n, k = n + 1 := ⟨k - 1, by omega⟩
    obtain rfl : hs.length = j := by omega
    have hlen := (hu.ext he).len
    have e : decide ((hs.length : Int) < (hs.length : Int)) = false := by simp
    have e3 : IntKind.i64.wrap ((i : Int) + 1) = ((i + 1 : Nat) : Int) := by rw [wrap_i64 (by omega) (by omega)]; omega
    have hacc : Iw H1 acc (wrow p n hs x) := ha
    have hul := hw.len
    have ho1 : Rw sC 24 1 H1 out us := ho.keep fun b hb => he.2 b (ho.lt hb) id
    have hw1 : WR H1 us xss := hw.keep fun b cs hb => he.2 b (List.getElem?_eq_some_iff.mp hb).1 id
    obtain ⟨out2, H2, t1, t2, t3, t4, t5, t6⟩ := ho1.push2 (by' := 24) sC_len sC_all (by decide) (svOf hacc) hon (h0b.tr he) (roomy_mono (n := 1000000) (by decide) (by omega))
    have bl : bldSlice 24 1 1 [.slice none 0 0] [(0, acc)] H1 = some (.slice (some ⟨H1.length, 0, none⟩) 1 1, H1 ++ [.cells (sC (svOf hacc)) 24 .row]) := by
      have h0 : acc.cells = #[acc] := (svOf hacc).2.2
      unfold bldSlice
      have : Instr.fill (fun i => some (i * 1, 1)) (List.replicate 1 [Value.slice none 0 0]).flatten.toArray [(0, acc)] = some #[acc] := by
        simp [Instr.fill, h0]
      rw [this]
      rfl
    have kp : ∀ (b : Nat) (cs : List Value), H1[b]? = some (.cells cs 3 .row) → H2[b]? = H1[b]? := fun b cs hb => by
      refine t5.2 b (List.getElem?_eq_some_iff.mp hb).1 fun hh => ?_
      obtain ⟨cs', hc⟩ := ho1.blk hh
      rw [hb] at hc
      simp at hc
    have w2 := (hw1.push (s := svOf hacc) hacc).keep kp
    rw [loop_succ, f50_b1_eq]
    unfold f50_b1
    simp -implicitDefEqProofs only [r_opt, r_ret, ob_some, ifB_true, iteV_true, iteV_false, r_gdt, r_gdt2, r_gdtf, r_gdtf2, r_gdff, r_gdff2, r_gdft, r_gdft2, r_gdu, r_gdu2, pick_t, pick_f, ext_0, ext_1, x_newB, r_nil, r_fAddr, Nat.zero_add, b_lss, b_leq, b_gtr, b_geq, b_eql, b_neq, u_not, Bool.not_true, Bool.not_false, oneOf_one, oneOf_two, again_normal, again_exit, again_ret, Bool.and_true, hlen, e]
    rw [f50_e1_2_eq]
    unfold f50_e1_2
    simp -implicitDefEqProofs only [r_opt, r_ret, ob_some, ifB_true, iteV_true, iteV_false, r_gdt, r_gdt2, r_gdtf, r_gdtf2, r_gdff, r_gdff2, r_gdft, r_gdft2, r_gdu, r_gdu2, pick_t, pick_f, ext_0, ext_1, x_newB, r_nil, r_fAddr, Nat.zero_add, b_lss, b_leq, b_gtr, b_geq, b_eql, b_neq, u_not, Bool.not_true, Bool.not_false, oneOf_one, oneOf_two, again_normal, again_exit, again_ret, Bool.and_true, bl, t1, b_add, e3]
    exact hK H2 out2 _ t4 t2 t3 w2 ..
  | succ q ih =>
    intro j k H1 acc hr hi hk2 he ha hnew
    intros
    obtain ⟨k, rfl⟩ : ∃ n, k = n + 1 := ⟨k - 1, by omega⟩
    have hu1 : Hs H1 u hs := hu.ext he
    have hlen := hu1.len
    have e : decide ((j : Int) < (hs.length : Int)) = true := decide_eq_true (by omega)
    have e3 : IntKind.i64.wrap ((j : Int) + 1) = ((j + 1 : Nat) : Int) := by rw [wrap_i64 (by omega) (by omega)]; omega
    obtain ⟨y, hy⟩ : ∃ y, hs[j]? = some y := ⟨_, List.getElem?_eq_getElem (by omega)⟩
    have l11 := ld_pl11 (ld_of hb0 he)
    obtain ⟨b, o, g1, _, g3⟩ := hu1.at_ edC_len hx .i64
    have g4 : ldN 2 (.pointer (some ⟨b, o, none⟩)) H1 = some (edV x, H1) := (g3 H1 rfl).1
    obtain ⟨b', o', g1', _, g3'⟩ := hu1.at_ edC_len hy .i64
    have g4' : ldN 2 (.pointer (some ⟨b', o', none⟩)) H1 = some (edV y, H1) := (g3' H1 rfl).1
    obtain ⟨H2, w1, x2⟩ := rwt_is hk (y := y) (hin x (List.mem_of_getElem? hx)) (hp.ext he) (m := m) (by omega)
    have hget : hs.getD j (0, 0) = y := by rw [List.getD_eq_getElem?_getD, hy]; rfl
    have tf := take_filter (α := Unit) (fun k => wt p n x (hs.getD k (0, 0))) j
    simp only [hget] at tf
    have ha2 := ha.keep (H' := H2) fun b hb => x2.2 b (ha.lt hb) id
    rw [loop_succ, f50_b1_eq]
    unfold f50_b1
    cases c : wt p n x y with
    | true =>
      rw [c] at w1
      rw [c, if_pos rfl] at tf
      have hfl : ((List.range j).filter fun k => wt p n x (hs.getD k (0, 0))).length ≤ 100 := Nat.le_trans (List.length_filter_le _ _) (by rw [List.length_range]; omega)
      obtain ⟨acc2, H3, t1, t2, t3, t4⟩ := ha2.push1 (by' := 8) inC_len inC_all (by decide) (j : Int) hnew (he.tr x2) (roomy_mono (n := 1000000) (by decide) (by rw [List.length_map]; omega))
      simp -implicitDefEqProofs only [r_opt, r_ret, ob_some, ifB_true, iteV_true, iteV_false, r_gdt, r_gdt2, r_gdtf, r_gdtf2, r_gdff, r_gdff2, r_gdft, r_gdft2, r_gdu, r_gdu2, pick_t, pick_f, ext_0, ext_1, x_newB, r_nil, r_fAddr, Nat.zero_add, b_lss, b_leq, b_gtr, b_geq, b_eql, b_neq, u_not, Bool.not_true, Bool.not_false, oneOf_one, oneOf_two, again_normal, again_exit, again_ret, Bool.and_true, hlen, e, l11, g1, g4, g1', g4', w1, bldI, t1, b_add, e3]
      exact ih (j + 1) k H3 acc2 (by omega) (by omega) (by omega) t4 (by rw [tf, List.map_append]; exact t2) t3 ..
    | false =>
      rw [c] at w1
      rw [c, if_neg (by decide), List.append_nil] at tf
      simp -implicitDefEqProofs only [r_opt, r_ret, ob_some, ifB_true, iteV_true, iteV_false, r_gdt, r_gdt2, r_gdtf, r_gdtf2, r_gdff, r_gdff2, r_gdft, r_gdft2, r_gdu, r_gdu2, pick_t, pick_f, ext_0, ext_1, x_newB, r_nil, r_fAddr, Nat.zero_add, b_lss, b_leq, b_gtr, b_geq, b_eql, b_neq, u_not, Bool.not_true, Bool.not_false, oneOf_one, oneOf_two, again_normal, again_exit, again_ret, Bool.and_true, hlen, e, l11, g1, g4, g1', g4', w1, b_add, e3]
      exact ih (j + 1) k H2 acc (by omega) (by omega) (by omega) (he.tr x2) (by rw [tf]; exact ha2) hnew ..
theorem rWaits_loop0 {n : Nat} (hk : OkP p n) {H0 : Heap} {a : Nat} {u : Value} {hs : List Ed} (hin : ∀ h ∈ hs, 0 ≤ h.1 ∧ h.1 < n ∧ 0 ≤ h.2 ∧ h.2 < n) (hsl : hs.length ≤ 100) (hm : 500 < m) (hm2 : m ≤ 72057594037927936) (hp : PV H0 p ev wv nv) (hb0 : H0[a]? = some (plB p ev wv nv)) (hu : Hs H0 u hs) :
    ∀ (q i k : Nat) (H1 : Heap) (out : Value) (us : List SV), hs.length - i = q → i ≤ hs.length → q < k → Ext H0 H1 → Rw sC 24 1 H1 out us → New H0 out → WR H1 us ((hs.take i).map (wrow p n hs)) → ∀ (x0 x2 x6 x7 x8 x9 x10 x11 x12 x13 x14 x15 x16 x17 x18 x19 x20 x21 x22 x23 x24 x25 x26 x27 x28 x29 x30 x31 x32 x33 x34 x35 x36 x37 x38 x39 x40 x41 x42 x43 : Value),
    ∃ H' r, loopN k (runCode Try.prog (lvl Try.prog pk12 m) (loopN m) f50_c0) (f50_k0 (lvl Try.prog pk12 m) (loopN m)) [x0, (.pointer (some ⟨a, 0, none⟩)), x2, u, out, (.int .i64 (i : Nat)), x6, x7, x8, x9, x10, x11, x12, x13, x14, x15, x16, x17, x18, x19, x20, x21, x22, x23, x24, x25, x26, x27, x28, x29, x30, x31, x32, x33, x34, x35, x36, x37, x38, x39, x40, x41, x42, x43] H1 = some (r, H') ∧ Ext H0 H' ∧ Rows H' r (hs.map (wrow p n hs)) := by
  intro q
  induction q with
  | zero =>
    intro i k H1 out us hr hi hk2 he ho hon hw
    intros
    obtain ⟨k, rfl⟩ : ∃ n, k = n + 1 := ⟨k - 1, by omega⟩
    obtain rfl : hs.length = i := by omega
    have hlen := (hu.ext he).len
    have e : decide ((hs.length : Int) < (hs.length : Int)) = false := by simp
    rw [loop_succ, f50_b0_eq]
    unfold f50_b0
    simp -implicitDefEqProofs only [r_opt, r_ret, ob_some, ifB_true, iteV_true, iteV_false, r_gdt, r_gdt2, r_gdtf, r_gdtf2, r_gdff, r_gdff2, r_gdft, r_gdft2, r_gdu, r_gdu2, pick_t, pick_f, ext_0, ext_1, x_newB, r_nil, r_fAddr, Nat.zero_add, b_lss, b_leq, b_gtr, b_geq, b_eql, b_neq, u_not, Bool.not_true, Bool.not_false, oneOf_one, oneOf_two, again_normal, again_exit, again_ret, Bool.and_true, hlen, e]
    rw [f50_e0_0_eq]
    unfold f50_e0_0
    rw [List.take_of_length_le (Nat.le_refl _)] at hw
    exact ⟨H1, out, rfl, he, hw.rows ho.rs⟩
  | succ q ih =>
    intro i k H1 out us hr hi hk2 he ho hon hw
    intros
    obtain ⟨k, rfl⟩ : ∃ n, k = n + 1 := ⟨k - 1, by omega⟩
    have hlen := (hu.ext he).len
    have e : decide ((i : Int) < (hs.length : Int)) = true := decide_eq_true (by omega)
    obtain ⟨x, hx⟩ : ∃ x, hs[i]? = some x := ⟨_, List.getElem?_eq_getElem (by omega)⟩
    rw [loop_succ, f50_b0_eq]
    unfold f50_b0
    simp -implicitDefEqProofs only [r_opt, r_ret, ob_some, ifB_true, iteV_true, iteV_false, r_gdt, r_gdt2, r_gdtf, r_gdtf2, r_gdff, r_gdff2, r_gdft, r_gdft2, r_gdu, r_gdu2, pick_t, pick_f, ext_0, ext_1, x_newB, r_nil, r_fAddr, Nat.zero_add, b_lss, b_leq, b_gtr, b_geq, b_eql, b_neq, u_not, Bool.not_true, Bool.not_false, oneOf_one, oneOf_two, again_normal, again_exit, again_ret, Bool.and_true, hlen, e]
    refine rWaits_loop1 hk (H0 := H0) (Hb := H1) (Q := fun H' r => Ext H0 H' ∧ Rows H' r (hs.map (wrow p n hs))) hin hsl hm (hp.ext he) (ld_of hb0 he) (hu.ext he) hx (by rw [List.length_map, List.length_take]; omega) he ho hon hw (fun H' out' us' h1 h2 h3 h4 => ?_) hs.length 0 m H1 _ (by omega) (by omega) (by omega) (Fr.refl _ _) (Rw.nil (el := inC)) (New.nil _) ..
    intros
    simp -implicitDefEqProofs only [r_opt, r_ret, ob_some, ifB_true, iteV_true, iteV_false, r_gdt, r_gdt2, r_gdtf, r_gdtf2, r_gdff, r_gdff2, r_gdft, r_gdft2, r_gdu, r_gdu2, pick_t, pick_f, ext_0, ext_1, x_newB, r_nil, r_fAddr, Nat.zero_add, b_lss, b_leq, b_gtr, b_geq, b_eql, b_neq, u_not, Bool.not_true, Bool.not_false, oneOf_one, oneOf_two, again_normal, again_exit, again_ret, Bool.and_true]
    refine ih (i + 1) k H' out' us' (by omega) (by omega) (by omega) h1 h2 h3 ?_ ..
    rw [List.take_add_one, hx, List.map_append]
    exact h4
theorem rWaits_is (hp : PV H p ev wv nv) (hm : 17592186045200 < m) (hm2 : m ≤ 72057594037927936) :
    ∃ H' r, lvl Try.prog pk12 m (.func 50) [plV p ev wv nv] H = some (r, H') ∧ Ext H H' ∧ Rows H' r (waitsL p) := by
  obtain ⟨H0, hH0⟩ : ∃ H0, H0 = H ++ [plB p ev wv nv] := ⟨_, rfl⟩
  have x0 : Ext H H0 := by rw [hH0]; exact Fr.app _ _ _
  have b0 : H0[H.length]? = some (plB p ev wv nv) := by rw [hH0]; exact at_last _ _
  have p0 := hp.ext x0
  have l11 := ld_pl11 b0
  obtain ⟨H1, g1, x1⟩ := rcheck_is p0 (m := m - 1) (by omega) (by omega)
  have b1 := ld_of b0 x1
  have p1 := p0.ext x1
  have l12 := ld_pl11 b1
  refine lvl_ex (pk_no rfl rfl) (by omega) ?_
  rw [f50_eq]
  unfold f50
  cases hc : checkOk p with
  | false =>
    rw [hc] at g1
    have en : (errno false != 0) = true := rfl
    have e : waitsL p = [] := by unfold waitsL; rw [if_neg (by simp [hc])]
    simp -implicitDefEqProofs only [r_opt, r_ret, ob_some, ifB_true, iteV_true, iteV_false, r_gdt, r_gdt2, r_gdtf, r_gdtf2, r_gdff, r_gdff2, r_gdft, r_gdft2, r_gdu, r_gdu2, pick_t, pick_f, ext_0, ext_1, x_newB, r_nil, r_fAddr, Nat.zero_add, b_lss, b_leq, b_gtr, b_geq, b_eql, b_neq, u_not, Bool.not_true, Bool.not_false, oneOf_one, oneOf_two, again_normal, again_exit, again_ret, Bool.and_true, plV_cells, ← hH0, l11, g1, en]
    exact ⟨H1, _, rfl, x0.tr x1, by rw [e]; exact ⟨[], .inl ⟨rfl, rfl⟩, rfl, fun i u xs h => by simp at h⟩⟩
  | true =>
    rw [hc] at g1
    have en : (errno true != 0) = false := rfl
    obtain ⟨n, hk⟩ := ok_of hc
    have h15 := hk.e15
    obtain ⟨H2, u, g2, x2, q2, _⟩ := rhops_is p1 (m := m - 1) (by omega) (by omega)
    have hhl := hops_len p
    have e : waitsL p = (hopsOf p).map (wrow p n (hopsOf p)) := by unfold waitsL; rw [if_pos hc, hk.hn]; rfl
    simp -implicitDefEqProofs only [r_opt, r_ret, ob_some, ifB_true, iteV_true, iteV_false, r_gdt, r_gdt2, r_gdtf, r_gdtf2, r_gdff, r_gdff2, r_gdft, r_gdft2, r_gdu, r_gdu2, pick_t, pick_f, ext_0, ext_1, x_newB, r_nil, r_fAddr, Nat.zero_add, b_lss, b_leq, b_gtr, b_geq, b_eql, b_neq, u_not, Bool.not_true, Bool.not_false, oneOf_one, oneOf_two, again_normal, again_exit, again_ret, Bool.and_true, plV_cells, ← hH0, l11, g1, en, l12, g2]
    rw [e]
    exact Exists.imp (fun H' h => Exists.imp (fun r h => ⟨h.1, ((x0.tr x1).tr x2).tr h.2.1, h.2.2⟩) h) (rWaits_loop0 hk (fun h hh => hops_in hk hh) (by omega) (m := m - 1) (by omega) (by omega) (p1.ext x2) (ld_of b1 x2) q2.rs (hopsOf p).length 0 (m - 1) H2 (.slice none 0 0) [] (by omega) (by omega) (by omega) (Fr.refl _ _) Rw.nil (New.nil _) ⟨rfl, fun j s xs h => by simp at h⟩ ..)
theorem waits_inn (p : PlanD) : Inn (waitsL p) := by
  unfold waitsL
  split
  · intro r hr z hz
    obtain ⟨h, hh, rfl⟩ := List.mem_map.mp hr
    rw [List.length_map]
    obtain ⟨k, b, rfl, h1, _⟩ := wrow_mem.mp hz
    have := (List.getElem?_eq_some_iff.mp h1).1
    omega
  · intro r hr; cases hr
theorem waits_len (p : PlanD) : (waitsL p).length ≤ 36 := by
  unfold waitsL
  split
  · rw [List.length_map]; exact hops_len p
  · simp
theorem waits_row (p : PlanD) : ∀ r ∈ waitsL p, r.length ≤ 36 := by
  unfold waitsL
  split
  · intro r hr
    obtain ⟨h, hh, rfl⟩ := List.mem_map.mp hr
    unfold wrow
    rw [List.length_map]
    have := hops_len p
    exact Nat.le_trans (List.length_filter_le _ _) (by rw [List.length_range]; exact this)
  · intro r hr; cases hr
end
end Go.Proofs.Ytdobnaldfmpimaa
