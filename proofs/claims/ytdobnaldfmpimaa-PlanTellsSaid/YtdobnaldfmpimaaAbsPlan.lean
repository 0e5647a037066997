/-
  SHALLOW FORMS, written by a program of this claim's (Gen): each with its equation.
-/
import Derived.Test.YtdobnaldfmpimaaAbsSim
import Derived.Test.YtdobnaldfmpimaaProg
import Derived.KernelRfl
set_option linter.unusedVariables false
set_option maxRecDepth 100000
namespace Go.Proofs.Ytdobnaldfmpimaa
open Go.Abs
/-! 15: shunter/shunterlaw12.Make; slots: [(nodes, 0), (room, 1), (more, 2), (joined, 3), (next, 4), (nodes, 5), (room, 6), (more, 7), (joined, 8), (next, 9), (p, 11), (i, 12), (bit, 13), (b, 14), (a, 15), (k, 16), (v, 17), (row, 18), (w, 19), (x, 20)] -/
noncomputable def f15_c4 : Code := sub [1, 1, 1, 1, 1, 1, 0, 1, 0, 0, 1, 0, 0, 1, 0, 1, 0, 0] (fbody Try.prog 15)
noncomputable def f15_k4 (O : Oracle) (L : Loops (Value × Heap)) (k : Ex → K (Value × Heap)) : Ex → K (Value × Heap) := (blockK 8 (seqK Try.prog O L (sub [1, 1, 1, 1, 1, 1, 0, 1, 0, 0, 1, 0, 0, 1, 1] (fbody Try.prog 15)) (blockK 7 (seqK Try.prog O L (sub [1, 1, 1, 1, 1, 1, 0, 1, 0, 0, 1, 1] (fbody Try.prog 15)) k))))
noncomputable def f15_e4_8 (O : Oracle) (L : Loops (Value × Heap)) (k : Ex → K (Value × Heap)) (x0 x1 x2 x3 x4 x5 x6 x7 x8 x9 x10 x11 x12 x13 x14 x15 x16 x17 x18 x19 x20 x21 x22 x23 x24 x25 x26 x27 x28 x29 x30 x31 x32 x33 x34 x35 x36 x37 x38 x39 x40 x41 x42 x43 x44 x45 x46 x47 x48 x49 x50 x51 x52 x53 x54 x55 x56 x57 x58 x59 x60 x61 x62 x63 x64 x65 x66 x67 x68 x69 x70 x71 x72 x73 x74 x75 x76 x77 x78 x79 x80 x81 x82 x83 x84 x85 x86 x87 x88 x89 x90 x91 x92 x93 x94 x95 x96 x97 x98 x99 x100 x101 x102 x103 x104 x105 x106 x107 x108 x109 x110 x111 x112 x113 x114 x115 x116 x117 x118 x119 x120 x121 x122 x123 x124 x125 x126 x127 x128 x129 x130 x131 x132 x133 x134 x135 x136 x137 x138 : Value) (h : Heap) : Option (Value × Heap) :=
  ob ((M.ofOpt (fAddr 10 x11)) h) fun v90 h90 =>
  ob ((ld1 v90) h90) fun v91 h91 =>
  ob ((bldSlice 24 1 1 [(.slice none 0 0)] [(0, x18)]) h91) fun v92 h92 =>
  ob ((app 24 1 24 v91 v92) h92) fun v93 h93 =>
  ob ((M.ofOpt (fAddr 10 x11)) h93) fun v94 h94 =>
  ob ((stN 1 v94 v93) h94) fun v95 h95 =>
  ob ((M.ofOpt (bin Try.prog .add 3 x17 (.int .i64 1))) h95) fun v96 h96 =>
  k .normal [x0, x1, x2, x3, x4, x5, x6, x7, x8, x9, x10, x11, x12, x13, x14, x15, x16, v96, x18, x19, x20, x21, x22, x23, x24, x25, x26, x27, x28, x29, x30, x31, x32, x33, x34, x35, x36, x37, x38, x39, x40, x41, x42, x43, x44, x45, x46, x47, x48, x49, x50, x51, x52, x53, x54, x55, x56, x57, x58, x59, x60, x61, x62, x63, x64, x65, x66, x67, x68, x69, x70, x71, x72, x73, x74, x75, x76, x77, x78, x79, x80, x81, x82, x83, x84, x85, x86, x87, x88, x89, x90, x91, x92, x93, x94, x95, x17, v96, x98, x99, x100, x101, x102, x103, x104, x105, x106, x107, x108, x109, x110, x111, x112, x113, x114, x115, x116, x117, x118, x119, x120, x121, x122, x123, x124, x125, x126, x127, x128, x129, x130, x131, v90, v91, x18, v92, v93, v94, x138] h96
theorem f15_e4_8_eq (O : Oracle) (L : Loops (Value × Heap)) (k : Ex → K (Value × Heap)) (x0 x1 x2 x3 x4 x5 x6 x7 x8 x9 x10 x11 x12 x13 x14 x15 x16 x17 x18 x19 x20 x21 x22 x23 x24 x25 x26 x27 x28 x29 x30 x31 x32 x33 x34 x35 x36 x37 x38 x39 x40 x41 x42 x43 x44 x45 x46 x47 x48 x49 x50 x51 x52 x53 x54 x55 x56 x57 x58 x59 x60 x61 x62 x63 x64 x65 x66 x67 x68 x69 x70 x71 x72 x73 x74 x75 x76 x77 x78 x79 x80 x81 x82 x83 x84 x85 x86 x87 x88 x89 x90 x91 x92 x93 x94 x95 x96 x97 x98 x99 x100 x101 x102 x103 x104 x105 x106 x107 x108 x109 x110 x111 x112 x113 x114 x115 x116 x117 x118 x119 x120 x121 x122 x123 x124 x125 x126 x127 x128 x129 x130 x131 x132 x133 x134 x135 x136 x137 x138 : Value) (h : Heap) :
    f15_k4 O L k (.exit 8) [x0, x1, x2, x3, x4, x5, x6, x7, x8, x9, x10, x11, x12, x13, x14, x15, x16, x17, x18, x19, x20, x21, x22, x23, x24, x25, x26, x27, x28, x29, x30, x31, x32, x33, x34, x35, x36, x37, x38, x39, x40, x41, x42, x43, x44, x45, x46, x47, x48, x49, x50, x51, x52, x53, x54, x55, x56, x57, x58, x59, x60, x61, x62, x63, x64, x65, x66, x67, x68, x69, x70, x71, x72, x73, x74, x75, x76, x77, x78, x79, x80, x81, x82, x83, x84, x85, x86, x87, x88, x89, x90, x91, x92, x93, x94, x95, x96, x97, x98, x99, x100, x101, x102, x103, x104, x105, x106, x107, x108, x109, x110, x111, x112, x113, x114, x115, x116, x117, x118, x119, x120, x121, x122, x123, x124, x125, x126, x127, x128, x129, x130, x131, x132, x133, x134, x135, x136, x137, x138] h = f15_e4_8 O L k x0 x1 x2 x3 x4 x5 x6 x7 x8 x9 x10 x11 x12 x13 x14 x15 x16 x17 x18 x19 x20 x21 x22 x23 x24 x25 x26 x27 x28 x29 x30 x31 x32 x33 x34 x35 x36 x37 x38 x39 x40 x41 x42 x43 x44 x45 x46 x47 x48 x49 x50 x51 x52 x53 x54 x55 x56 x57 x58 x59 x60 x61 x62 x63 x64 x65 x66 x67 x68 x69 x70 x71 x72 x73 x74 x75 x76 x77 x78 x79 x80 x81 x82 x83 x84 x85 x86 x87 x88 x89 x90 x91 x92 x93 x94 x95 x96 x97 x98 x99 x100 x101 x102 x103 x104 x105 x106 x107 x108 x109 x110 x111 x112 x113 x114 x115 x116 x117 x118 x119 x120 x121 x122 x123 x124 x125 x126 x127 x128 x129 x130 x131 x132 x133 x134 x135 x136 x137 x138 h := by kernel_rfl
noncomputable def f15_b4 (O : Oracle) (L : Loops (Value × Heap)) (k : Ex → K (Value × Heap)) (x0 x1 x2 x3 x4 x5 x6 x7 x8 x9 x10 x11 x12 x13 x14 x15 x16 x17 x18 x19 x20 x21 x22 x23 x24 x25 x26 x27 x28 x29 x30 x31 x32 x33 x34 x35 x36 x37 x38 x39 x40 x41 x42 x43 x44 x45 x46 x47 x48 x49 x50 x51 x52 x53 x54 x55 x56 x57 x58 x59 x60 x61 x62 x63 x64 x65 x66 x67 x68 x69 x70 x71 x72 x73 x74 x75 x76 x77 x78 x79 x80 x81 x82 x83 x84 x85 x86 x87 x88 x89 x90 x91 x92 x93 x94 x95 x96 x97 x98 x99 x100 x101 x102 x103 x104 x105 x106 x107 x108 x109 x110 x111 x112 x113 x114 x115 x116 x117 x118 x119 x120 x121 x122 x123 x124 x125 x126 x127 x128 x129 x130 x131 x132 x133 x134 x135 x136 x137 x138 : Value) (h : Heap) : Option (Value × Heap) :=
  ob ((M.ofOpt (fAddr 0 x11)) h) fun v63 h63 =>
  ob ((ld1 v63) h63) fun v64 h64 =>
  ob ((M.ofOpt (bin Try.prog .lss 3 x19 v64)) h64) fun v65 h65 =>
  iteV v65 (
  ob ((M.ofOpt (lenSl x4)) h65) fun v66 h66 =>
  ob ((M.ofOpt (bin Try.prog .lss 3 x16 v66)) h66) fun v67 h67 =>
  ob ((gd v67 true (M.ret x4)) h67) fun v68 h68 =>
  ob ((gd v67 true (M.ret x16)) h68) fun v69 h69 =>
  ob ((gd v67 true (M.ofOpt (iAddr 1 v68 v69))) h69) fun v70 h70 =>
  ob ((gd v67 true (ld1 v70)) h70) fun v71 h71 =>
  ob ((gd v67 true (M.ofOpt (bin Try.prog .rem 5 v71 (.int .u8 4)))) h71) fun v72 h72 =>
  ob ((gd v67 true (M.ofOpt (bin Try.prog .eql 5 v72 (.int .u8 0)))) h72) fun v73 h73 =>
  ob ((M.ofOpt (pick v67 v73 (.bool false))) h73) fun v74 h74 =>
  iteV v74 (
  ob ((M.ofOpt (iAddr 1 x4 x16)) h74) fun v75 h75 =>
  ob ((ld1 v75) h75) fun v76 h76 =>
  ifB (true) (
  ob ((M.ofOpt (bin Try.prog .quo 5 v76 (.int .u8 4))) h76) fun v77 h77 =>
  ob ((conv Try.prog 5 3 v77) h77) fun v78 h78 =>
  ob ((M.ofOpt (fAddr 0 x11)) h78) fun v79 h79 =>
  ob ((ld1 v79) h79) fun v80 h80 =>
  ifB (true) (
  ob ((M.ofOpt (bin Try.prog .rem 3 v78 v80)) h80) fun v81 h81 =>
  ob ((bldSlice 3 1 1 [(.int .i64 0)] [(0, v81)]) h81) fun v82 h82 =>
  ob ((app 3 1 8 x18 v82) h82) fun v83 h83 =>
  ob ((M.ofOpt (bin Try.prog .add 3 x16 (.int .i64 1))) h83) fun v84 h84 =>
  ob ((M.ofOpt (bin Try.prog .add 3 x19 (.int .i64 1))) h84) fun v85 h85 =>
  k .normal [x0, x1, x2, x3, x4, x5, x6, x7, x8, x9, x10, x11, x12, x13, x14, x15, v84, x17, v83, v85, v81, x21, x22, x23, x24, x25, x26, x27, x28, x29, x30, x31, x32, x33, x34, x35, x36, x37, x38, x39, x40, x41, x42, x43, x44, x45, x46, x47, x48, x49, x50, x51, x52, x53, x54, x55, x56, x57, x58, x59, x60, x61, x62, x63, x64, x65, x66, x67, x68, x69, x70, x71, x72, x73, x74, x75, x76, x77, x78, x79, x80, x81, x82, x83, x84, x85, x86, x87, x88, x89, x90, x91, x92, x93, x94, x95, x96, x97, x19, v63, v64, v65, x19, v85, x19, x16, x4, v66, v67, v67, v68, v69, v70, v71, v72, v73, v74, x4, x16, v75, v76, v77, v78, v79, v80, v81, x18, v81, v82, v83, x16, v84, x132, x133, x134, x135, x136, x137, x138] h85))) (
  ob ((bldSlice 3 1 1 [(.int .i64 0)] [(0, x19)]) h74) fun v86 h86 =>
  ob ((app 3 1 8 x18 v86) h86) fun v87 h87 =>
  ob ((M.ofOpt (bin Try.prog .add 3 x16 (.int .i64 1))) h87) fun v88 h88 =>
  ob ((M.ofOpt (bin Try.prog .add 3 x19 (.int .i64 1))) h88) fun v89 h89 =>
  k .normal [x0, x1, x2, x3, x4, x5, x6, x7, x8, x9, x10, x11, x12, x13, x14, x15, v88, x17, v87, v89, x19, x21, x22, x23, x24, x25, x26, x27, x28, x29, x30, x31, x32, x33, x34, x35, x36, x37, x38, x39, x40, x41, x42, x43, x44, x45, x46, x47, x48, x49, x50, x51, x52, x53, x54, x55, x56, x57, x58, x59, x60, x61, x62, x63, x64, x65, x66, x67, x68, x69, x70, x71, x72, x73, x74, x75, x76, x77, x78, x79, x80, x81, x82, x83, x84, x85, x86, x87, x88, x89, x90, x91, x92, x93, x94, x95, x96, x97, x19, v63, v64, v65, x19, v89, x19, x16, x4, v66, v67, v67, v68, v69, v70, v71, v72, v73, v74, x117, x118, x119, x120, x121, x122, x123, x124, x125, x18, x19, v86, v87, x16, v88, x132, x133, x134, x135, x136, x137, x138] h89)) (
  k (.exit 8) [x0, x1, x2, x3, x4, x5, x6, x7, x8, x9, x10, x11, x12, x13, x14, x15, x16, x17, x18, x19, x20, x21, x22, x23, x24, x25, x26, x27, x28, x29, x30, x31, x32, x33, x34, x35, x36, x37, x38, x39, x40, x41, x42, x43, x44, x45, x46, x47, x48, x49, x50, x51, x52, x53, x54, x55, x56, x57, x58, x59, x60, x61, x62, x63, x64, x65, x66, x67, x68, x69, x70, x71, x72, x73, x74, x75, x76, x77, x78, x79, x80, x81, x82, x83, x84, x85, x86, x87, x88, x89, x90, x91, x92, x93, x94, x95, x96, x97, x19, v63, v64, v65, x102, x103, x104, x105, x106, x107, x108, x109, x110, x111, x112, x113, x114, x115, x116, x117, x118, x119, x120, x121, x122, x123, x124, x125, x126, x127, x128, x129, x130, x131, x132, x133, x134, x135, x136, x137, x138] h65)
theorem f15_b4_eq (O : Oracle) (L : Loops (Value × Heap)) (k : Ex → K (Value × Heap)) (x0 x1 x2 x3 x4 x5 x6 x7 x8 x9 x10 x11 x12 x13 x14 x15 x16 x17 x18 x19 x20 x21 x22 x23 x24 x25 x26 x27 x28 x29 x30 x31 x32 x33 x34 x35 x36 x37 x38 x39 x40 x41 x42 x43 x44 x45 x46 x47 x48 x49 x50 x51 x52 x53 x54 x55 x56 x57 x58 x59 x60 x61 x62 x63 x64 x65 x66 x67 x68 x69 x70 x71 x72 x73 x74 x75 x76 x77 x78 x79 x80 x81 x82 x83 x84 x85 x86 x87 x88 x89 x90 x91 x92 x93 x94 x95 x96 x97 x98 x99 x100 x101 x102 x103 x104 x105 x106 x107 x108 x109 x110 x111 x112 x113 x114 x115 x116 x117 x118 x119 x120 x121 x122 x123 x124 x125 x126 x127 x128 x129 x130 x131 x132 x133 x134 x135 x136 x137 x138 : Value) (h : Heap) :
    runCode Try.prog O L f15_c4 k [x0, x1, x2, x3, x4, x5, x6, x7, x8, x9, x10, x11, x12, x13, x14, x15, x16, x17, x18, x19, x20, x21, x22, x23, x24, x25, x26, x27, x28, x29, x30, x31, x32, x33, x34, x35, x36, x37, x38, x39, x40, x41, x42, x43, x44, x45, x46, x47, x48, x49, x50, x51, x52, x53, x54, x55, x56, x57, x58, x59, x60, x61, x62, x63, x64, x65, x66, x67, x68, x69, x70, x71, x72, x73, x74, x75, x76, x77, x78, x79, x80, x81, x82, x83, x84, x85, x86, x87, x88, x89, x90, x91, x92, x93, x94, x95, x96, x97, x98, x99, x100, x101, x102, x103, x104, x105, x106, x107, x108, x109, x110, x111, x112, x113, x114, x115, x116, x117, x118, x119, x120, x121, x122, x123, x124, x125, x126, x127, x128, x129, x130, x131, x132, x133, x134, x135, x136, x137, x138] h = f15_b4 O L k x0 x1 x2 x3 x4 x5 x6 x7 x8 x9 x10 x11 x12 x13 x14 x15 x16 x17 x18 x19 x20 x21 x22 x23 x24 x25 x26 x27 x28 x29 x30 x31 x32 x33 x34 x35 x36 x37 x38 x39 x40 x41 x42 x43 x44 x45 x46 x47 x48 x49 x50 x51 x52 x53 x54 x55 x56 x57 x58 x59 x60 x61 x62 x63 x64 x65 x66 x67 x68 x69 x70 x71 x72 x73 x74 x75 x76 x77 x78 x79 x80 x81 x82 x83 x84 x85 x86 x87 x88 x89 x90 x91 x92 x93 x94 x95 x96 x97 x98 x99 x100 x101 x102 x103 x104 x105 x106 x107 x108 x109 x110 x111 x112 x113 x114 x115 x116 x117 x118 x119 x120 x121 x122 x123 x124 x125 x126 x127 x128 x129 x130 x131 x132 x133 x134 x135 x136 x137 x138 h := by kernel_rfl
noncomputable def f15_c3 : Code := sub [1, 1, 1, 1, 1, 1, 0, 1, 0, 0] (fbody Try.prog 15)
noncomputable def f15_k3 (O : Oracle) (L : Loops (Value × Heap)) : Ex → K (Value × Heap) := (blockK 6 (seqK Try.prog O L (sub [1, 1, 1, 1, 1, 1, 1] (fbody Try.prog 15)) (kRet Try.prog Try.f15)))
noncomputable def f15_e3_6 (O : Oracle) (L : Loops (Value × Heap)) (x0 x1 x2 x3 x4 x5 x6 x7 x8 x9 x10 x11 x12 x13 x14 x15 x16 x17 x18 x19 x20 x21 x22 x23 x24 x25 x26 x27 x28 x29 x30 x31 x32 x33 x34 x35 x36 x37 x38 x39 x40 x41 x42 x43 x44 x45 x46 x47 x48 x49 x50 x51 x52 x53 x54 x55 x56 x57 x58 x59 x60 x61 x62 x63 x64 x65 x66 x67 x68 x69 x70 x71 x72 x73 x74 x75 x76 x77 x78 x79 x80 x81 x82 x83 x84 x85 x86 x87 x88 x89 x90 x91 x92 x93 x94 x95 x96 x97 x98 x99 x100 x101 x102 x103 x104 x105 x106 x107 x108 x109 x110 x111 x112 x113 x114 x115 x116 x117 x118 x119 x120 x121 x122 x123 x124 x125 x126 x127 x128 x129 x130 x131 x132 x133 x134 x135 x136 x137 x138 : Value) (h : Heap) : Option (Value × Heap) :=
  ob ((ldN 11 x11) h) fun v60 h60 =>
  ob ((stN 11 x10 v60) h60) fun v61 h61 =>
  ob ((ldN 11 x10) h61) fun w62 _ => some (oneOf [w62], h61)
theorem f15_e3_6_eq (O : Oracle) (L : Loops (Value × Heap)) (x0 x1 x2 x3 x4 x5 x6 x7 x8 x9 x10 x11 x12 x13 x14 x15 x16 x17 x18 x19 x20 x21 x22 x23 x24 x25 x26 x27 x28 x29 x30 x31 x32 x33 x34 x35 x36 x37 x38 x39 x40 x41 x42 x43 x44 x45 x46 x47 x48 x49 x50 x51 x52 x53 x54 x55 x56 x57 x58 x59 x60 x61 x62 x63 x64 x65 x66 x67 x68 x69 x70 x71 x72 x73 x74 x75 x76 x77 x78 x79 x80 x81 x82 x83 x84 x85 x86 x87 x88 x89 x90 x91 x92 x93 x94 x95 x96 x97 x98 x99 x100 x101 x102 x103 x104 x105 x106 x107 x108 x109 x110 x111 x112 x113 x114 x115 x116 x117 x118 x119 x120 x121 x122 x123 x124 x125 x126 x127 x128 x129 x130 x131 x132 x133 x134 x135 x136 x137 x138 : Value) (h : Heap) :
    f15_k3 O L (.exit 6) [x0, x1, x2, x3, x4, x5, x6, x7, x8, x9, x10, x11, x12, x13, x14, x15, x16, x17, x18, x19, x20, x21, x22, x23, x24, x25, x26, x27, x28, x29, x30, x31, x32, x33, x34, x35, x36, x37, x38, x39, x40, x41, x42, x43, x44, x45, x46, x47, x48, x49, x50, x51, x52, x53, x54, x55, x56, x57, x58, x59, x60, x61, x62, x63, x64, x65, x66, x67, x68, x69, x70, x71, x72, x73, x74, x75, x76, x77, x78, x79, x80, x81, x82, x83, x84, x85, x86, x87, x88, x89, x90, x91, x92, x93, x94, x95, x96, x97, x98, x99, x100, x101, x102, x103, x104, x105, x106, x107, x108, x109, x110, x111, x112, x113, x114, x115, x116, x117, x118, x119, x120, x121, x122, x123, x124, x125, x126, x127, x128, x129, x130, x131, x132, x133, x134, x135, x136, x137, x138] h = f15_e3_6 O L x0 x1 x2 x3 x4 x5 x6 x7 x8 x9 x10 x11 x12 x13 x14 x15 x16 x17 x18 x19 x20 x21 x22 x23 x24 x25 x26 x27 x28 x29 x30 x31 x32 x33 x34 x35 x36 x37 x38 x39 x40 x41 x42 x43 x44 x45 x46 x47 x48 x49 x50 x51 x52 x53 x54 x55 x56 x57 x58 x59 x60 x61 x62 x63 x64 x65 x66 x67 x68 x69 x70 x71 x72 x73 x74 x75 x76 x77 x78 x79 x80 x81 x82 x83 x84 x85 x86 x87 x88 x89 x90 x91 x92 x93 x94 x95 x96 x97 x98 x99 x100 x101 x102 x103 x104 x105 x106 x107 x108 x109 x110 x111 x112 x113 x114 x115 x116 x117 x118 x119 x120 x121 x122 x123 x124 x125 x126 x127 x128 x129 x130 x131 x132 x133 x134 x135 x136 x137 x138 h := by kernel_rfl
noncomputable def f15_b3 (O : Oracle) (L : Loops (Value × Heap)) (k : Ex → K (Value × Heap)) (x0 x1 x2 x3 x4 x5 x6 x7 x8 x9 x10 x11 x12 x13 x14 x15 x16 x17 x18 x19 x20 x21 x22 x23 x24 x25 x26 x27 x28 x29 x30 x31 x32 x33 x34 x35 x36 x37 x38 x39 x40 x41 x42 x43 x44 x45 x46 x47 x48 x49 x50 x51 x52 x53 x54 x55 x56 x57 x58 x59 x60 x61 x62 x63 x64 x65 x66 x67 x68 x69 x70 x71 x72 x73 x74 x75 x76 x77 x78 x79 x80 x81 x82 x83 x84 x85 x86 x87 x88 x89 x90 x91 x92 x93 x94 x95 x96 x97 x98 x99 x100 x101 x102 x103 x104 x105 x106 x107 x108 x109 x110 x111 x112 x113 x114 x115 x116 x117 x118 x119 x120 x121 x122 x123 x124 x125 x126 x127 x128 x129 x130 x131 x132 x133 x134 x135 x136 x137 x138 : Value) (h : Heap) : Option (Value × Heap) :=
  ob ((M.ofOpt (fAddr 0 x11)) h) fun v57 h57 =>
  ob ((ld1 v57) h57) fun v58 h58 =>
  ob ((M.ofOpt (bin Try.prog .lss 3 x17 v58)) h58) fun v59 h59 =>
  iteV v59 (
  L (runCode Try.prog O L f15_c4) (f15_k4 O L k) [x0, x1, x2, x3, x4, x5, x6, x7, x8, x9, x10, x11, x12, x13, x14, x15, x16, x17, (.slice none 0 0), (.int .i64 0), x20, x21, x22, x23, x24, x25, x26, x27, x28, x29, x30, x31, x32, x33, x34, x35, x36, x37, x38, x39, x40, x41, x42, x43, x44, x45, x46, x47, x48, x49, x50, x51, x52, x53, x54, x55, x56, x57, x58, x59, x60, x61, x62, x63, x64, x65, x66, x67, x68, x69, x70, x71, x72, x73, x74, x75, x76, x77, x78, x79, x80, x81, x82, x83, x84, x85, x86, x87, x88, x89, x90, x91, x17, v57, v58, v59, x96, x97, x98, x99, x100, x101, x102, x103, x104, x105, x106, x107, x108, x109, x110, x111, x112, x113, x114, x115, x116, x117, x118, x119, x120, x121, x122, x123, x124, x125, x126, x127, x128, x129, x130, x131, x132, x133, x134, x135, x136, x137, x138] h59) (
  k (.exit 6) [x0, x1, x2, x3, x4, x5, x6, x7, x8, x9, x10, x11, x12, x13, x14, x15, x16, x17, x18, x19, x20, x21, x22, x23, x24, x25, x26, x27, x28, x29, x30, x31, x32, x33, x34, x35, x36, x37, x38, x39, x40, x41, x42, x43, x44, x45, x46, x47, x48, x49, x50, x51, x52, x53, x54, x55, x56, x57, x58, x59, x60, x61, x62, x63, x64, x65, x66, x67, x68, x69, x70, x71, x72, x73, x74, x75, x76, x77, x78, x79, x80, x81, x82, x83, x84, x85, x86, x87, x88, x89, x90, x91, x17, v57, v58, v59, x96, x97, x98, x99, x100, x101, x102, x103, x104, x105, x106, x107, x108, x109, x110, x111, x112, x113, x114, x115, x116, x117, x118, x119, x120, x121, x122, x123, x124, x125, x126, x127, x128, x129, x130, x131, x132, x133, x134, x135, x136, x137, x138] h59)
theorem f15_b3_eq (O : Oracle) (L : Loops (Value × Heap)) (k : Ex → K (Value × Heap)) (x0 x1 x2 x3 x4 x5 x6 x7 x8 x9 x10 x11 x12 x13 x14 x15 x16 x17 x18 x19 x20 x21 x22 x23 x24 x25 x26 x27 x28 x29 x30 x31 x32 x33 x34 x35 x36 x37 x38 x39 x40 x41 x42 x43 x44 x45 x46 x47 x48 x49 x50 x51 x52 x53 x54 x55 x56 x57 x58 x59 x60 x61 x62 x63 x64 x65 x66 x67 x68 x69 x70 x71 x72 x73 x74 x75 x76 x77 x78 x79 x80 x81 x82 x83 x84 x85 x86 x87 x88 x89 x90 x91 x92 x93 x94 x95 x96 x97 x98 x99 x100 x101 x102 x103 x104 x105 x106 x107 x108 x109 x110 x111 x112 x113 x114 x115 x116 x117 x118 x119 x120 x121 x122 x123 x124 x125 x126 x127 x128 x129 x130 x131 x132 x133 x134 x135 x136 x137 x138 : Value) (h : Heap) :
    runCode Try.prog O L f15_c3 k [x0, x1, x2, x3, x4, x5, x6, x7, x8, x9, x10, x11, x12, x13, x14, x15, x16, x17, x18, x19, x20, x21, x22, x23, x24, x25, x26, x27, x28, x29, x30, x31, x32, x33, x34, x35, x36, x37, x38, x39, x40, x41, x42, x43, x44, x45, x46, x47, x48, x49, x50, x51, x52, x53, x54, x55, x56, x57, x58, x59, x60, x61, x62, x63, x64, x65, x66, x67, x68, x69, x70, x71, x72, x73, x74, x75, x76, x77, x78, x79, x80, x81, x82, x83, x84, x85, x86, x87, x88, x89, x90, x91, x92, x93, x94, x95, x96, x97, x98, x99, x100, x101, x102, x103, x104, x105, x106, x107, x108, x109, x110, x111, x112, x113, x114, x115, x116, x117, x118, x119, x120, x121, x122, x123, x124, x125, x126, x127, x128, x129, x130, x131, x132, x133, x134, x135, x136, x137, x138] h = f15_b3 O L k x0 x1 x2 x3 x4 x5 x6 x7 x8 x9 x10 x11 x12 x13 x14 x15 x16 x17 x18 x19 x20 x21 x22 x23 x24 x25 x26 x27 x28 x29 x30 x31 x32 x33 x34 x35 x36 x37 x38 x39 x40 x41 x42 x43 x44 x45 x46 x47 x48 x49 x50 x51 x52 x53 x54 x55 x56 x57 x58 x59 x60 x61 x62 x63 x64 x65 x66 x67 x68 x69 x70 x71 x72 x73 x74 x75 x76 x77 x78 x79 x80 x81 x82 x83 x84 x85 x86 x87 x88 x89 x90 x91 x92 x93 x94 x95 x96 x97 x98 x99 x100 x101 x102 x103 x104 x105 x106 x107 x108 x109 x110 x111 x112 x113 x114 x115 x116 x117 x118 x119 x120 x121 x122 x123 x124 x125 x126 x127 x128 x129 x130 x131 x132 x133 x134 x135 x136 x137 x138 h := by kernel_rfl
noncomputable def f15_c2 : Code := sub [1, 1, 1, 1, 0, 1, 0, 0, 1, 0, 0, 1, 0, 0] (fbody Try.prog 15)
noncomputable def f15_k2 (O : Oracle) (L : Loops (Value × Heap)) (k : Ex → K (Value × Heap)) : Ex → K (Value × Heap) := (blockK 4 (blockK 3 (seqK Try.prog O L (sub [1, 1, 1, 1, 0, 1, 0, 0, 1, 1] (fbody Try.prog 15)) k)))
noncomputable def f15_e2_4 (O : Oracle) (L : Loops (Value × Heap)) (k : Ex → K (Value × Heap)) (x0 x1 x2 x3 x4 x5 x6 x7 x8 x9 x10 x11 x12 x13 x14 x15 x16 x17 x18 x19 x20 x21 x22 x23 x24 x25 x26 x27 x28 x29 x30 x31 x32 x33 x34 x35 x36 x37 x38 x39 x40 x41 x42 x43 x44 x45 x46 x47 x48 x49 x50 x51 x52 x53 x54 x55 x56 x57 x58 x59 x60 x61 x62 x63 x64 x65 x66 x67 x68 x69 x70 x71 x72 x73 x74 x75 x76 x77 x78 x79 x80 x81 x82 x83 x84 x85 x86 x87 x88 x89 x90 x91 x92 x93 x94 x95 x96 x97 x98 x99 x100 x101 x102 x103 x104 x105 x106 x107 x108 x109 x110 x111 x112 x113 x114 x115 x116 x117 x118 x119 x120 x121 x122 x123 x124 x125 x126 x127 x128 x129 x130 x131 x132 x133 x134 x135 x136 x137 x138 : Value) (h : Heap) : Option (Value × Heap) :=
  ob ((M.ofOpt (bin Try.prog .add 3 x14 (.int .i64 1))) h) fun v56 h56 =>
  k .normal [x0, x1, x2, x3, x4, x5, x6, x7, x8, x9, x10, x11, x12, x13, v56, x15, x16, x17, x18, x19, x20, x21, x22, x23, x24, x25, x26, x27, x28, x29, x30, x31, x32, x33, x34, x35, x36, x37, x38, x39, x40, x41, x42, x43, x44, x45, x46, x47, x48, x49, x50, x51, x52, x53, x54, x55, x56, x57, x58, x59, x60, x61, x62, x63, x64, x65, x66, x67, x68, x69, x70, x71, x14, v56, x74, x75, x76, x77, x78, x79, x80, x81, x82, x83, x84, x85, x86, x87, x88, x89, x90, x91, x92, x93, x94, x95, x96, x97, x98, x99, x100, x101, x102, x103, x104, x105, x106, x107, x108, x109, x110, x111, x112, x113, x114, x115, x116, x117, x118, x119, x120, x121, x122, x123, x124, x125, x126, x127, x128, x129, x130, x131, x132, x133, x134, x135, x136, x137, x138] h56
theorem f15_e2_4_eq (O : Oracle) (L : Loops (Value × Heap)) (k : Ex → K (Value × Heap)) (x0 x1 x2 x3 x4 x5 x6 x7 x8 x9 x10 x11 x12 x13 x14 x15 x16 x17 x18 x19 x20 x21 x22 x23 x24 x25 x26 x27 x28 x29 x30 x31 x32 x33 x34 x35 x36 x37 x38 x39 x40 x41 x42 x43 x44 x45 x46 x47 x48 x49 x50 x51 x52 x53 x54 x55 x56 x57 x58 x59 x60 x61 x62 x63 x64 x65 x66 x67 x68 x69 x70 x71 x72 x73 x74 x75 x76 x77 x78 x79 x80 x81 x82 x83 x84 x85 x86 x87 x88 x89 x90 x91 x92 x93 x94 x95 x96 x97 x98 x99 x100 x101 x102 x103 x104 x105 x106 x107 x108 x109 x110 x111 x112 x113 x114 x115 x116 x117 x118 x119 x120 x121 x122 x123 x124 x125 x126 x127 x128 x129 x130 x131 x132 x133 x134 x135 x136 x137 x138 : Value) (h : Heap) :
    f15_k2 O L k (.exit 4) [x0, x1, x2, x3, x4, x5, x6, x7, x8, x9, x10, x11, x12, x13, x14, x15, x16, x17, x18, x19, x20, x21, x22, x23, x24, x25, x26, x27, x28, x29, x30, x31, x32, x33, x34, x35, x36, x37, x38, x39, x40, x41, x42, x43, x44, x45, x46, x47, x48, x49, x50, x51, x52, x53, x54, x55, x56, x57, x58, x59, x60, x61, x62, x63, x64, x65, x66, x67, x68, x69, x70, x71, x72, x73, x74, x75, x76, x77, x78, x79, x80, x81, x82, x83, x84, x85, x86, x87, x88, x89, x90, x91, x92, x93, x94, x95, x96, x97, x98, x99, x100, x101, x102, x103, x104, x105, x106, x107, x108, x109, x110, x111, x112, x113, x114, x115, x116, x117, x118, x119, x120, x121, x122, x123, x124, x125, x126, x127, x128, x129, x130, x131, x132, x133, x134, x135, x136, x137, x138] h = f15_e2_4 O L k x0 x1 x2 x3 x4 x5 x6 x7 x8 x9 x10 x11 x12 x13 x14 x15 x16 x17 x18 x19 x20 x21 x22 x23 x24 x25 x26 x27 x28 x29 x30 x31 x32 x33 x34 x35 x36 x37 x38 x39 x40 x41 x42 x43 x44 x45 x46 x47 x48 x49 x50 x51 x52 x53 x54 x55 x56 x57 x58 x59 x60 x61 x62 x63 x64 x65 x66 x67 x68 x69 x70 x71 x72 x73 x74 x75 x76 x77 x78 x79 x80 x81 x82 x83 x84 x85 x86 x87 x88 x89 x90 x91 x92 x93 x94 x95 x96 x97 x98 x99 x100 x101 x102 x103 x104 x105 x106 x107 x108 x109 x110 x111 x112 x113 x114 x115 x116 x117 x118 x119 x120 x121 x122 x123 x124 x125 x126 x127 x128 x129 x130 x131 x132 x133 x134 x135 x136 x137 x138 h := by kernel_rfl
noncomputable def f15_b2 (O : Oracle) (L : Loops (Value × Heap)) (k : Ex → K (Value × Heap)) (x0 x1 x2 x3 x4 x5 x6 x7 x8 x9 x10 x11 x12 x13 x14 x15 x16 x17 x18 x19 x20 x21 x22 x23 x24 x25 x26 x27 x28 x29 x30 x31 x32 x33 x34 x35 x36 x37 x38 x39 x40 x41 x42 x43 x44 x45 x46 x47 x48 x49 x50 x51 x52 x53 x54 x55 x56 x57 x58 x59 x60 x61 x62 x63 x64 x65 x66 x67 x68 x69 x70 x71 x72 x73 x74 x75 x76 x77 x78 x79 x80 x81 x82 x83 x84 x85 x86 x87 x88 x89 x90 x91 x92 x93 x94 x95 x96 x97 x98 x99 x100 x101 x102 x103 x104 x105 x106 x107 x108 x109 x110 x111 x112 x113 x114 x115 x116 x117 x118 x119 x120 x121 x122 x123 x124 x125 x126 x127 x128 x129 x130 x131 x132 x133 x134 x135 x136 x137 x138 : Value) (h : Heap) : Option (Value × Heap) :=
  ob ((M.ofOpt (bin Try.prog .lss 3 x15 x14)) h) fun v42 h42 =>
  iteV v42 (
  ob ((M.ofOpt (bin Try.prog .rem 22 x13 (.int .u16 2))) h42) fun v43 h43 =>
  ob ((M.ofOpt (bin Try.prog .eql 22 v43 (.int .u16 1))) h43) fun v44 h44 =>
  iteV v44 (
  ob ((M.ofOpt (fAddr 1 x11)) h44) fun v45 h45 =>
  ob ((ld1 v45) h45) fun v46 h46 =>
  ob ((M.ofOpt (bld Try.prog 33 [(0, x15), (1, x14)])) h46) fun v47 h47 =>
  ob ((bldSlice 33 2 1 [(.int .i64 0), (.int .i64 0)] [(0, v47)]) h47) fun v48 h48 =>
  ob ((app 33 2 16 v46 v48) h48) fun v49 h49 =>
  ob ((M.ofOpt (fAddr 1 x11)) h49) fun v50 h50 =>
  ob ((stN 1 v50 v49) h50) fun v51 h51 =>
  ob ((M.ofOpt (bin Try.prog .quo 22 x13 (.int .u16 2))) h51) fun v52 h52 =>
  ob ((M.ofOpt (bin Try.prog .add 3 x15 (.int .i64 1))) h52) fun v53 h53 =>
  k .normal [x0, x1, x2, x3, x4, x5, x6, x7, x8, x9, x10, x11, x12, v52, x14, v53, x16, x17, x18, x19, x20, x21, x22, x23, x24, x25, x26, x27, x28, x29, x30, x31, x32, x33, x34, x35, x36, x37, x38, x39, x40, x41, x42, x43, x44, x45, x46, x47, x48, x49, x50, x51, x52, x53, x54, x55, x56, x57, x58, x59, x60, x61, x62, x63, x64, x65, x66, x67, x68, x69, x70, x71, x72, x73, x15, x14, v42, x15, v53, x13, v43, v44, v45, v46, x15, x14, v47, v48, v49, v50, x13, v52, x92, x93, x94, x95, x96, x97, x98, x99, x100, x101, x102, x103, x104, x105, x106, x107, x108, x109, x110, x111, x112, x113, x114, x115, x116, x117, x118, x119, x120, x121, x122, x123, x124, x125, x126, x127, x128, x129, x130, x131, x132, x133, x134, x135, x136, x137, x138] h53) (
  ob ((M.ofOpt (bin Try.prog .quo 22 x13 (.int .u16 2))) h44) fun v54 h54 =>
  ob ((M.ofOpt (bin Try.prog .add 3 x15 (.int .i64 1))) h54) fun v55 h55 =>
  k .normal [x0, x1, x2, x3, x4, x5, x6, x7, x8, x9, x10, x11, x12, v54, x14, v55, x16, x17, x18, x19, x20, x21, x22, x23, x24, x25, x26, x27, x28, x29, x30, x31, x32, x33, x34, x35, x36, x37, x38, x39, x40, x41, x42, x43, x44, x45, x46, x47, x48, x49, x50, x51, x52, x53, x54, x55, x56, x57, x58, x59, x60, x61, x62, x63, x64, x65, x66, x67, x68, x69, x70, x71, x72, x73, x15, x14, v42, x15, v55, x13, v43, v44, x82, x83, x84, x85, x86, x87, x88, x89, x13, v54, x92, x93, x94, x95, x96, x97, x98, x99, x100, x101, x102, x103, x104, x105, x106, x107, x108, x109, x110, x111, x112, x113, x114, x115, x116, x117, x118, x119, x120, x121, x122, x123, x124, x125, x126, x127, x128, x129, x130, x131, x132, x133, x134, x135, x136, x137, x138] h55)) (
  k (.exit 4) [x0, x1, x2, x3, x4, x5, x6, x7, x8, x9, x10, x11, x12, x13, x14, x15, x16, x17, x18, x19, x20, x21, x22, x23, x24, x25, x26, x27, x28, x29, x30, x31, x32, x33, x34, x35, x36, x37, x38, x39, x40, x41, x42, x43, x44, x45, x46, x47, x48, x49, x50, x51, x52, x53, x54, x55, x56, x57, x58, x59, x60, x61, x62, x63, x64, x65, x66, x67, x68, x69, x70, x71, x72, x73, x15, x14, v42, x77, x78, x79, x80, x81, x82, x83, x84, x85, x86, x87, x88, x89, x90, x91, x92, x93, x94, x95, x96, x97, x98, x99, x100, x101, x102, x103, x104, x105, x106, x107, x108, x109, x110, x111, x112, x113, x114, x115, x116, x117, x118, x119, x120, x121, x122, x123, x124, x125, x126, x127, x128, x129, x130, x131, x132, x133, x134, x135, x136, x137, x138] h42)
theorem f15_b2_eq (O : Oracle) (L : Loops (Value × Heap)) (k : Ex → K (Value × Heap)) (x0 x1 x2 x3 x4 x5 x6 x7 x8 x9 x10 x11 x12 x13 x14 x15 x16 x17 x18 x19 x20 x21 x22 x23 x24 x25 x26 x27 x28 x29 x30 x31 x32 x33 x34 x35 x36 x37 x38 x39 x40 x41 x42 x43 x44 x45 x46 x47 x48 x49 x50 x51 x52 x53 x54 x55 x56 x57 x58 x59 x60 x61 x62 x63 x64 x65 x66 x67 x68 x69 x70 x71 x72 x73 x74 x75 x76 x77 x78 x79 x80 x81 x82 x83 x84 x85 x86 x87 x88 x89 x90 x91 x92 x93 x94 x95 x96 x97 x98 x99 x100 x101 x102 x103 x104 x105 x106 x107 x108 x109 x110 x111 x112 x113 x114 x115 x116 x117 x118 x119 x120 x121 x122 x123 x124 x125 x126 x127 x128 x129 x130 x131 x132 x133 x134 x135 x136 x137 x138 : Value) (h : Heap) :
    runCode Try.prog O L f15_c2 k [x0, x1, x2, x3, x4, x5, x6, x7, x8, x9, x10, x11, x12, x13, x14, x15, x16, x17, x18, x19, x20, x21, x22, x23, x24, x25, x26, x27, x28, x29, x30, x31, x32, x33, x34, x35, x36, x37, x38, x39, x40, x41, x42, x43, x44, x45, x46, x47, x48, x49, x50, x51, x52, x53, x54, x55, x56, x57, x58, x59, x60, x61, x62, x63, x64, x65, x66, x67, x68, x69, x70, x71, x72, x73, x74, x75, x76, x77, x78, x79, x80, x81, x82, x83, x84, x85, x86, x87, x88, x89, x90, x91, x92, x93, x94, x95, x96, x97, x98, x99, x100, x101, x102, x103, x104, x105, x106, x107, x108, x109, x110, x111, x112, x113, x114, x115, x116, x117, x118, x119, x120, x121, x122, x123, x124, x125, x126, x127, x128, x129, x130, x131, x132, x133, x134, x135, x136, x137, x138] h = f15_b2 O L k x0 x1 x2 x3 x4 x5 x6 x7 x8 x9 x10 x11 x12 x13 x14 x15 x16 x17 x18 x19 x20 x21 x22 x23 x24 x25 x26 x27 x28 x29 x30 x31 x32 x33 x34 x35 x36 x37 x38 x39 x40 x41 x42 x43 x44 x45 x46 x47 x48 x49 x50 x51 x52 x53 x54 x55 x56 x57 x58 x59 x60 x61 x62 x63 x64 x65 x66 x67 x68 x69 x70 x71 x72 x73 x74 x75 x76 x77 x78 x79 x80 x81 x82 x83 x84 x85 x86 x87 x88 x89 x90 x91 x92 x93 x94 x95 x96 x97 x98 x99 x100 x101 x102 x103 x104 x105 x106 x107 x108 x109 x110 x111 x112 x113 x114 x115 x116 x117 x118 x119 x120 x121 x122 x123 x124 x125 x126 x127 x128 x129 x130 x131 x132 x133 x134 x135 x136 x137 x138 h := by kernel_rfl
noncomputable def f15_c1 : Code := sub [1, 1, 1, 1, 0, 1, 0, 0] (fbody Try.prog 15)
noncomputable def f15_k1 (O : Oracle) (L : Loops (Value × Heap)) : Ex → K (Value × Heap) := (blockK 2 (seqK Try.prog O L (sub [1, 1, 1, 1, 1] (fbody Try.prog 15)) (kRet Try.prog Try.f15)))
noncomputable def f15_e1_2 (O : Oracle) (L : Loops (Value × Heap)) (x0 x1 x2 x3 x4 x5 x6 x7 x8 x9 x10 x11 x12 x13 x14 x15 x16 x17 x18 x19 x20 x21 x22 x23 x24 x25 x26 x27 x28 x29 x30 x31 x32 x33 x34 x35 x36 x37 x38 x39 x40 x41 x42 x43 x44 x45 x46 x47 x48 x49 x50 x51 x52 x53 x54 x55 x56 x57 x58 x59 x60 x61 x62 x63 x64 x65 x66 x67 x68 x69 x70 x71 x72 x73 x74 x75 x76 x77 x78 x79 x80 x81 x82 x83 x84 x85 x86 x87 x88 x89 x90 x91 x92 x93 x94 x95 x96 x97 x98 x99 x100 x101 x102 x103 x104 x105 x106 x107 x108 x109 x110 x111 x112 x113 x114 x115 x116 x117 x118 x119 x120 x121 x122 x123 x124 x125 x126 x127 x128 x129 x130 x131 x132 x133 x134 x135 x136 x137 x138 : Value) (h : Heap) : Option (Value × Heap) :=
  L (runCode Try.prog O L f15_c3) (f15_k3 O L) [x0, x1, x2, x3, x4, x5, x6, x7, x8, x9, x10, x11, x12, x13, x14, x15, (.int .i64 0), (.int .i64 0), x18, x19, x20, x21, x22, x23, x24, x25, x26, x27, x28, x29, x30, x31, x32, x33, x34, x35, x36, x37, x38, x39, x40, x41, x42, x43, x44, x45, x46, x47, x48, x49, x50, x51, x52, x53, x54, x55, x56, x57, x58, x59, x60, x61, x62, x63, x64, x65, x66, x67, x68, x69, x70, x71, x72, x73, x74, x75, x76, x77, x78, x79, x80, x81, x82, x83, x84, x85, x86, x87, x88, x89, x90, x91, x92, x93, x94, x95, x96, x97, x98, x99, x100, x101, x102, x103, x104, x105, x106, x107, x108, x109, x110, x111, x112, x113, x114, x115, x116, x117, x118, x119, x120, x121, x122, x123, x124, x125, x126, x127, x128, x129, x130, x131, x132, x133, x134, x135, x136, x137, x138] h
theorem f15_e1_2_eq (O : Oracle) (L : Loops (Value × Heap)) (x0 x1 x2 x3 x4 x5 x6 x7 x8 x9 x10 x11 x12 x13 x14 x15 x16 x17 x18 x19 x20 x21 x22 x23 x24 x25 x26 x27 x28 x29 x30 x31 x32 x33 x34 x35 x36 x37 x38 x39 x40 x41 x42 x43 x44 x45 x46 x47 x48 x49 x50 x51 x52 x53 x54 x55 x56 x57 x58 x59 x60 x61 x62 x63 x64 x65 x66 x67 x68 x69 x70 x71 x72 x73 x74 x75 x76 x77 x78 x79 x80 x81 x82 x83 x84 x85 x86 x87 x88 x89 x90 x91 x92 x93 x94 x95 x96 x97 x98 x99 x100 x101 x102 x103 x104 x105 x106 x107 x108 x109 x110 x111 x112 x113 x114 x115 x116 x117 x118 x119 x120 x121 x122 x123 x124 x125 x126 x127 x128 x129 x130 x131 x132 x133 x134 x135 x136 x137 x138 : Value) (h : Heap) :
    f15_k1 O L (.exit 2) [x0, x1, x2, x3, x4, x5, x6, x7, x8, x9, x10, x11, x12, x13, x14, x15, x16, x17, x18, x19, x20, x21, x22, x23, x24, x25, x26, x27, x28, x29, x30, x31, x32, x33, x34, x35, x36, x37, x38, x39, x40, x41, x42, x43, x44, x45, x46, x47, x48, x49, x50, x51, x52, x53, x54, x55, x56, x57, x58, x59, x60, x61, x62, x63, x64, x65, x66, x67, x68, x69, x70, x71, x72, x73, x74, x75, x76, x77, x78, x79, x80, x81, x82, x83, x84, x85, x86, x87, x88, x89, x90, x91, x92, x93, x94, x95, x96, x97, x98, x99, x100, x101, x102, x103, x104, x105, x106, x107, x108, x109, x110, x111, x112, x113, x114, x115, x116, x117, x118, x119, x120, x121, x122, x123, x124, x125, x126, x127, x128, x129, x130, x131, x132, x133, x134, x135, x136, x137, x138] h = f15_e1_2 O L x0 x1 x2 x3 x4 x5 x6 x7 x8 x9 x10 x11 x12 x13 x14 x15 x16 x17 x18 x19 x20 x21 x22 x23 x24 x25 x26 x27 x28 x29 x30 x31 x32 x33 x34 x35 x36 x37 x38 x39 x40 x41 x42 x43 x44 x45 x46 x47 x48 x49 x50 x51 x52 x53 x54 x55 x56 x57 x58 x59 x60 x61 x62 x63 x64 x65 x66 x67 x68 x69 x70 x71 x72 x73 x74 x75 x76 x77 x78 x79 x80 x81 x82 x83 x84 x85 x86 x87 x88 x89 x90 x91 x92 x93 x94 x95 x96 x97 x98 x99 x100 x101 x102 x103 x104 x105 x106 x107 x108 x109 x110 x111 x112 x113 x114 x115 x116 x117 x118 x119 x120 x121 x122 x123 x124 x125 x126 x127 x128 x129 x130 x131 x132 x133 x134 x135 x136 x137 x138 h := by kernel_rfl
noncomputable def f15_b1 (O : Oracle) (L : Loops (Value × Heap)) (k : Ex → K (Value × Heap)) (x0 x1 x2 x3 x4 x5 x6 x7 x8 x9 x10 x11 x12 x13 x14 x15 x16 x17 x18 x19 x20 x21 x22 x23 x24 x25 x26 x27 x28 x29 x30 x31 x32 x33 x34 x35 x36 x37 x38 x39 x40 x41 x42 x43 x44 x45 x46 x47 x48 x49 x50 x51 x52 x53 x54 x55 x56 x57 x58 x59 x60 x61 x62 x63 x64 x65 x66 x67 x68 x69 x70 x71 x72 x73 x74 x75 x76 x77 x78 x79 x80 x81 x82 x83 x84 x85 x86 x87 x88 x89 x90 x91 x92 x93 x94 x95 x96 x97 x98 x99 x100 x101 x102 x103 x104 x105 x106 x107 x108 x109 x110 x111 x112 x113 x114 x115 x116 x117 x118 x119 x120 x121 x122 x123 x124 x125 x126 x127 x128 x129 x130 x131 x132 x133 x134 x135 x136 x137 x138 : Value) (h : Heap) : Option (Value × Heap) :=
  ob ((M.ofOpt (fAddr 0 x11)) h) fun v39 h39 =>
  ob ((ld1 v39) h39) fun v40 h40 =>
  ob ((M.ofOpt (bin Try.prog .lss 3 x14 v40)) h40) fun v41 h41 =>
  iteV v41 (
  L (runCode Try.prog O L f15_c2) (f15_k2 O L k) [x0, x1, x2, x3, x4, x5, x6, x7, x8, x9, x10, x11, x12, x13, x14, (.int .i64 0), x16, x17, x18, x19, x20, x21, x22, x23, x24, x25, x26, x27, x28, x29, x30, x31, x32, x33, x34, x35, x36, x37, x38, x39, x40, x41, x42, x43, x44, x45, x46, x47, x48, x49, x50, x51, x52, x53, x54, x55, x56, x57, x58, x59, x60, x61, x62, x63, x64, x65, x66, x67, x14, v39, v40, v41, x72, x73, x74, x75, x76, x77, x78, x79, x80, x81, x82, x83, x84, x85, x86, x87, x88, x89, x90, x91, x92, x93, x94, x95, x96, x97, x98, x99, x100, x101, x102, x103, x104, x105, x106, x107, x108, x109, x110, x111, x112, x113, x114, x115, x116, x117, x118, x119, x120, x121, x122, x123, x124, x125, x126, x127, x128, x129, x130, x131, x132, x133, x134, x135, x136, x137, x138] h41) (
  k (.exit 2) [x0, x1, x2, x3, x4, x5, x6, x7, x8, x9, x10, x11, x12, x13, x14, x15, x16, x17, x18, x19, x20, x21, x22, x23, x24, x25, x26, x27, x28, x29, x30, x31, x32, x33, x34, x35, x36, x37, x38, x39, x40, x41, x42, x43, x44, x45, x46, x47, x48, x49, x50, x51, x52, x53, x54, x55, x56, x57, x58, x59, x60, x61, x62, x63, x64, x65, x66, x67, x14, v39, v40, v41, x72, x73, x74, x75, x76, x77, x78, x79, x80, x81, x82, x83, x84, x85, x86, x87, x88, x89, x90, x91, x92, x93, x94, x95, x96, x97, x98, x99, x100, x101, x102, x103, x104, x105, x106, x107, x108, x109, x110, x111, x112, x113, x114, x115, x116, x117, x118, x119, x120, x121, x122, x123, x124, x125, x126, x127, x128, x129, x130, x131, x132, x133, x134, x135, x136, x137, x138] h41)
theorem f15_b1_eq (O : Oracle) (L : Loops (Value × Heap)) (k : Ex → K (Value × Heap)) (x0 x1 x2 x3 x4 x5 x6 x7 x8 x9 x10 x11 x12 x13 x14 x15 x16 x17 x18 x19 x20 x21 x22 x23 x24 x25 x26 x27 x28 x29 x30 x31 x32 x33 x34 x35 x36 x37 x38 x39 x40 x41 x42 x43 x44 x45 x46 x47 x48 x49 x50 x51 x52 x53 x54 x55 x56 x57 x58 x59 x60 x61 x62 x63 x64 x65 x66 x67 x68 x69 x70 x71 x72 x73 x74 x75 x76 x77 x78 x79 x80 x81 x82 x83 x84 x85 x86 x87 x88 x89 x90 x91 x92 x93 x94 x95 x96 x97 x98 x99 x100 x101 x102 x103 x104 x105 x106 x107 x108 x109 x110 x111 x112 x113 x114 x115 x116 x117 x118 x119 x120 x121 x122 x123 x124 x125 x126 x127 x128 x129 x130 x131 x132 x133 x134 x135 x136 x137 x138 : Value) (h : Heap) :
    runCode Try.prog O L f15_c1 k [x0, x1, x2, x3, x4, x5, x6, x7, x8, x9, x10, x11, x12, x13, x14, x15, x16, x17, x18, x19, x20, x21, x22, x23, x24, x25, x26, x27, x28, x29, x30, x31, x32, x33, x34, x35, x36, x37, x38, x39, x40, x41, x42, x43, x44, x45, x46, x47, x48, x49, x50, x51, x52, x53, x54, x55, x56, x57, x58, x59, x60, x61, x62, x63, x64, x65, x66, x67, x68, x69, x70, x71, x72, x73, x74, x75, x76, x77, x78, x79, x80, x81, x82, x83, x84, x85, x86, x87, x88, x89, x90, x91, x92, x93, x94, x95, x96, x97, x98, x99, x100, x101, x102, x103, x104, x105, x106, x107, x108, x109, x110, x111, x112, x113, x114, x115, x116, x117, x118, x119, x120, x121, x122, x123, x124, x125, x126, x127, x128, x129, x130, x131, x132, x133, x134, x135, x136, x137, x138] h = f15_b1 O L k x0 x1 x2 x3 x4 x5 x6 x7 x8 x9 x10 x11 x12 x13 x14 x15 x16 x17 x18 x19 x20 x21 x22 x23 x24 x25 x26 x27 x28 x29 x30 x31 x32 x33 x34 x35 x36 x37 x38 x39 x40 x41 x42 x43 x44 x45 x46 x47 x48 x49 x50 x51 x52 x53 x54 x55 x56 x57 x58 x59 x60 x61 x62 x63 x64 x65 x66 x67 x68 x69 x70 x71 x72 x73 x74 x75 x76 x77 x78 x79 x80 x81 x82 x83 x84 x85 x86 x87 x88 x89 x90 x91 x92 x93 x94 x95 x96 x97 x98 x99 x100 x101 x102 x103 x104 x105 x106 x107 x108 x109 x110 x111 x112 x113 x114 x115 x116 x117 x118 x119 x120 x121 x122 x123 x124 x125 x126 x127 x128 x129 x130 x131 x132 x133 x134 x135 x136 x137 x138 h := by kernel_rfl
noncomputable def f15_c0 : Code := sub [1, 1, 0, 1, 0, 0] (fbody Try.prog 15)
noncomputable def f15_k0 (O : Oracle) (L : Loops (Value × Heap)) : Ex → K (Value × Heap) := (blockK 0 (seqK Try.prog O L (sub [1, 1, 1] (fbody Try.prog 15)) (kRet Try.prog Try.f15)))
noncomputable def f15_e0_0 (O : Oracle) (L : Loops (Value × Heap)) (x0 x1 x2 x3 x4 x5 x6 x7 x8 x9 x10 x11 x12 x13 x14 x15 x16 x17 x18 x19 x20 x21 x22 x23 x24 x25 x26 x27 x28 x29 x30 x31 x32 x33 x34 x35 x36 x37 x38 x39 x40 x41 x42 x43 x44 x45 x46 x47 x48 x49 x50 x51 x52 x53 x54 x55 x56 x57 x58 x59 x60 x61 x62 x63 x64 x65 x66 x67 x68 x69 x70 x71 x72 x73 x74 x75 x76 x77 x78 x79 x80 x81 x82 x83 x84 x85 x86 x87 x88 x89 x90 x91 x92 x93 x94 x95 x96 x97 x98 x99 x100 x101 x102 x103 x104 x105 x106 x107 x108 x109 x110 x111 x112 x113 x114 x115 x116 x117 x118 x119 x120 x121 x122 x123 x124 x125 x126 x127 x128 x129 x130 x131 x132 x133 x134 x135 x136 x137 x138 : Value) (h : Heap) : Option (Value × Heap) :=
  L (runCode Try.prog O L f15_c1) (f15_k1 O L) [x0, x1, x2, x3, x4, x5, x6, x7, x8, x9, x10, x11, x12, x3, (.int .i64 1), x15, x16, x17, x18, x19, x20, x21, x22, x23, x24, x25, x26, x27, x28, x29, x30, x31, x32, x33, x34, x35, x36, x37, x38, x39, x40, x41, x42, x43, x44, x45, x46, x47, x48, x49, x50, x51, x52, x53, x54, x55, x56, x57, x58, x59, x60, x61, x62, x63, x64, x65, x66, x3, x68, x69, x70, x71, x72, x73, x74, x75, x76, x77, x78, x79, x80, x81, x82, x83, x84, x85, x86, x87, x88, x89, x90, x91, x92, x93, x94, x95, x96, x97, x98, x99, x100, x101, x102, x103, x104, x105, x106, x107, x108, x109, x110, x111, x112, x113, x114, x115, x116, x117, x118, x119, x120, x121, x122, x123, x124, x125, x126, x127, x128, x129, x130, x131, x132, x133, x134, x135, x136, x137, x138] h
theorem f15_e0_0_eq (O : Oracle) (L : Loops (Value × Heap)) (x0 x1 x2 x3 x4 x5 x6 x7 x8 x9 x10 x11 x12 x13 x14 x15 x16 x17 x18 x19 x20 x21 x22 x23 x24 x25 x26 x27 x28 x29 x30 x31 x32 x33 x34 x35 x36 x37 x38 x39 x40 x41 x42 x43 x44 x45 x46 x47 x48 x49 x50 x51 x52 x53 x54 x55 x56 x57 x58 x59 x60 x61 x62 x63 x64 x65 x66 x67 x68 x69 x70 x71 x72 x73 x74 x75 x76 x77 x78 x79 x80 x81 x82 x83 x84 x85 x86 x87 x88 x89 x90 x91 x92 x93 x94 x95 x96 x97 x98 x99 x100 x101 x102 x103 x104 x105 x106 x107 x108 x109 x110 x111 x112 x113 x114 x115 x116 x117 x118 x119 x120 x121 x122 x123 x124 x125 x126 x127 x128 x129 x130 x131 x132 x133 x134 x135 x136 x137 x138 : Value) (h : Heap) :
    f15_k0 O L (.exit 0) [x0, x1, x2, x3, x4, x5, x6, x7, x8, x9, x10, x11, x12, x13, x14, x15, x16, x17, x18, x19, x20, x21, x22, x23, x24, x25, x26, x27, x28, x29, x30, x31, x32, x33, x34, x35, x36, x37, x38, x39, x40, x41, x42, x43, x44, x45, x46, x47, x48, x49, x50, x51, x52, x53, x54, x55, x56, x57, x58, x59, x60, x61, x62, x63, x64, x65, x66, x67, x68, x69, x70, x71, x72, x73, x74, x75, x76, x77, x78, x79, x80, x81, x82, x83, x84, x85, x86, x87, x88, x89, x90, x91, x92, x93, x94, x95, x96, x97, x98, x99, x100, x101, x102, x103, x104, x105, x106, x107, x108, x109, x110, x111, x112, x113, x114, x115, x116, x117, x118, x119, x120, x121, x122, x123, x124, x125, x126, x127, x128, x129, x130, x131, x132, x133, x134, x135, x136, x137, x138] h = f15_e0_0 O L x0 x1 x2 x3 x4 x5 x6 x7 x8 x9 x10 x11 x12 x13 x14 x15 x16 x17 x18 x19 x20 x21 x22 x23 x24 x25 x26 x27 x28 x29 x30 x31 x32 x33 x34 x35 x36 x37 x38 x39 x40 x41 x42 x43 x44 x45 x46 x47 x48 x49 x50 x51 x52 x53 x54 x55 x56 x57 x58 x59 x60 x61 x62 x63 x64 x65 x66 x67 x68 x69 x70 x71 x72 x73 x74 x75 x76 x77 x78 x79 x80 x81 x82 x83 x84 x85 x86 x87 x88 x89 x90 x91 x92 x93 x94 x95 x96 x97 x98 x99 x100 x101 x102 x103 x104 x105 x106 x107 x108 x109 x110 x111 x112 x113 x114 x115 x116 x117 x118 x119 x120 x121 x122 x123 x124 x125 x126 x127 x128 x129 x130 x131 x132 x133 x134 x135 x136 x137 x138 h := by kernel_rfl
noncomputable def f15_b0 (O : Oracle) (L : Loops (Value × Heap)) (k : Ex → K (Value × Heap)) (x0 x1 x2 x3 x4 x5 x6 x7 x8 x9 x10 x11 x12 x13 x14 x15 x16 x17 x18 x19 x20 x21 x22 x23 x24 x25 x26 x27 x28 x29 x30 x31 x32 x33 x34 x35 x36 x37 x38 x39 x40 x41 x42 x43 x44 x45 x46 x47 x48 x49 x50 x51 x52 x53 x54 x55 x56 x57 x58 x59 x60 x61 x62 x63 x64 x65 x66 x67 x68 x69 x70 x71 x72 x73 x74 x75 x76 x77 x78 x79 x80 x81 x82 x83 x84 x85 x86 x87 x88 x89 x90 x91 x92 x93 x94 x95 x96 x97 x98 x99 x100 x101 x102 x103 x104 x105 x106 x107 x108 x109 x110 x111 x112 x113 x114 x115 x116 x117 x118 x119 x120 x121 x122 x123 x124 x125 x126 x127 x128 x129 x130 x131 x132 x133 x134 x135 x136 x137 x138 : Value) (h : Heap) : Option (Value × Heap) :=
  ob ((M.ofOpt (fAddr 2 x11)) h) fun v25 h25 =>
  ob ((ld1 v25) h25) fun v26 h26 =>
  ob ((M.ofOpt (bin Try.prog .lss 3 x12 v26)) h26) fun v27 h27 =>
  iteV v27 (
  ob ((M.ofOpt (fAddr 8 x11)) h27) fun v28 h28 =>
  ob ((ld1 v28) h28) fun v29 h29 =>
  ob ((conv Try.prog 5 3 x2) h29) fun v30 h30 =>
  ob ((M.ofOpt (bin Try.prog .add 3 x12 v30)) h30) fun v31 h31 =>
  ob ((M.ofOpt (bin Try.prog .rem 3 v31 (.int .i64 5))) h31) fun v32 h32 =>
  ob ((M.ofOpt (bin Try.prog .add 3 (.int .i64 1) v32)) h32) fun v33 h33 =>
  ob ((bldSlice 3 1 1 [(.int .i64 0)] [(0, v33)]) h33) fun v34 h34 =>
  ob ((app 3 1 8 v29 v34) h34) fun v35 h35 =>
  ob ((M.ofOpt (fAddr 8 x11)) h35) fun v36 h36 =>
  ob ((stN 1 v36 v35) h36) fun v37 h37 =>
  ob ((M.ofOpt (bin Try.prog .add 3 x12 (.int .i64 1))) h37) fun v38 h38 =>
  k .normal [x0, x1, x2, x3, x4, x5, x6, x7, x8, x9, x10, x11, v38, x13, x14, x15, x16, x17, x18, x19, x20, x21, x22, x23, x24, x25, x26, x27, x28, x29, x30, x31, x32, x33, x34, x35, x36, x37, x38, x39, x40, x41, x42, x43, x44, x45, x46, x47, x48, x49, x12, v25, v26, v27, x12, v38, v28, v29, x12, x2, v30, v31, v32, v33, v34, v35, v36, x67, x68, x69, x70, x71, x72, x73, x74, x75, x76, x77, x78, x79, x80, x81, x82, x83, x84, x85, x86, x87, x88, x89, x90, x91, x92, x93, x94, x95, x96, x97, x98, x99, x100, x101, x102, x103, x104, x105, x106, x107, x108, x109, x110, x111, x112, x113, x114, x115, x116, x117, x118, x119, x120, x121, x122, x123, x124, x125, x126, x127, x128, x129, x130, x131, x132, x133, x134, x135, x136, x137, x138] h38) (
  k (.exit 0) [x0, x1, x2, x3, x4, x5, x6, x7, x8, x9, x10, x11, x12, x13, x14, x15, x16, x17, x18, x19, x20, x21, x22, x23, x24, x25, x26, x27, x28, x29, x30, x31, x32, x33, x34, x35, x36, x37, x38, x39, x40, x41, x42, x43, x44, x45, x46, x47, x48, x49, x12, v25, v26, v27, x54, x55, x56, x57, x58, x59, x60, x61, x62, x63, x64, x65, x66, x67, x68, x69, x70, x71, x72, x73, x74, x75, x76, x77, x78, x79, x80, x81, x82, x83, x84, x85, x86, x87, x88, x89, x90, x91, x92, x93, x94, x95, x96, x97, x98, x99, x100, x101, x102, x103, x104, x105, x106, x107, x108, x109, x110, x111, x112, x113, x114, x115, x116, x117, x118, x119, x120, x121, x122, x123, x124, x125, x126, x127, x128, x129, x130, x131, x132, x133, x134, x135, x136, x137, x138] h27)
theorem f15_b0_eq (O : Oracle) (L : Loops (Value × Heap)) (k : Ex → K (Value × Heap)) (x0 x1 x2 x3 x4 x5 x6 x7 x8 x9 x10 x11 x12 x13 x14 x15 x16 x17 x18 x19 x20 x21 x22 x23 x24 x25 x26 x27 x28 x29 x30 x31 x32 x33 x34 x35 x36 x37 x38 x39 x40 x41 x42 x43 x44 x45 x46 x47 x48 x49 x50 x51 x52 x53 x54 x55 x56 x57 x58 x59 x60 x61 x62 x63 x64 x65 x66 x67 x68 x69 x70 x71 x72 x73 x74 x75 x76 x77 x78 x79 x80 x81 x82 x83 x84 x85 x86 x87 x88 x89 x90 x91 x92 x93 x94 x95 x96 x97 x98 x99 x100 x101 x102 x103 x104 x105 x106 x107 x108 x109 x110 x111 x112 x113 x114 x115 x116 x117 x118 x119 x120 x121 x122 x123 x124 x125 x126 x127 x128 x129 x130 x131 x132 x133 x134 x135 x136 x137 x138 : Value) (h : Heap) :
    runCode Try.prog O L f15_c0 k [x0, x1, x2, x3, x4, x5, x6, x7, x8, x9, x10, x11, x12, x13, x14, x15, x16, x17, x18, x19, x20, x21, x22, x23, x24, x25, x26, x27, x28, x29, x30, x31, x32, x33, x34, x35, x36, x37, x38, x39, x40, x41, x42, x43, x44, x45, x46, x47, x48, x49, x50, x51, x52, x53, x54, x55, x56, x57, x58, x59, x60, x61, x62, x63, x64, x65, x66, x67, x68, x69, x70, x71, x72, x73, x74, x75, x76, x77, x78, x79, x80, x81, x82, x83, x84, x85, x86, x87, x88, x89, x90, x91, x92, x93, x94, x95, x96, x97, x98, x99, x100, x101, x102, x103, x104, x105, x106, x107, x108, x109, x110, x111, x112, x113, x114, x115, x116, x117, x118, x119, x120, x121, x122, x123, x124, x125, x126, x127, x128, x129, x130, x131, x132, x133, x134, x135, x136, x137, x138] h = f15_b0 O L k x0 x1 x2 x3 x4 x5 x6 x7 x8 x9 x10 x11 x12 x13 x14 x15 x16 x17 x18 x19 x20 x21 x22 x23 x24 x25 x26 x27 x28 x29 x30 x31 x32 x33 x34 x35 x36 x37 x38 x39 x40 x41 x42 x43 x44 x45 x46 x47 x48 x49 x50 x51 x52 x53 x54 x55 x56 x57 x58 x59 x60 x61 x62 x63 x64 x65 x66 x67 x68 x69 x70 x71 x72 x73 x74 x75 x76 x77 x78 x79 x80 x81 x82 x83 x84 x85 x86 x87 x88 x89 x90 x91 x92 x93 x94 x95 x96 x97 x98 x99 x100 x101 x102 x103 x104 x105 x106 x107 x108 x109 x110 x111 x112 x113 x114 x115 x116 x117 x118 x119 x120 x121 x122 x123 x124 x125 x126 x127 x128 x129 x130 x131 x132 x133 x134 x135 x136 x137 x138 h := by kernel_rfl
noncomputable def f15 (O : Oracle) (L : Loops (Value × Heap)) (a0 a1 a2 a3 a4 : Value) (h : Heap) : Option (Value × Heap) :=
  ob ((newB 27 [(.int .i64 0), (.slice none 0 0), (.int .i64 0), (.int .i64 0), (.int .i64 0), (.int .i64 0), (.int .i64 0), (.int .i64 0), (.slice none 0 0), (.int .u16 0), (.slice none 0 0)] .fix) h) fun v0 h0 =>
  ob ((M.ofOpt (bin Try.prog .rem 5 a0 (.int .u8 5))) h0) fun v1 h1 =>
  ob ((conv Try.prog 5 3 v1) h1) fun v2 h2 =>
  ob ((M.ofOpt (bin Try.prog .add 3 (.int .i64 2) v2)) h2) fun v3 h3 =>
  ob ((M.ofOpt (bin Try.prog .rem 5 a2 (.int .u8 3))) h3) fun v4 h4 =>
  ob ((conv Try.prog 5 3 v4) h4) fun v5 h5 =>
  ob ((M.ofOpt (bin Try.prog .add 3 (.int .i64 1) v5)) h5) fun v6 h6 =>
  ob ((M.ofOpt (bin Try.prog .rem 5 a1 (.int .u8 8))) h6) fun v7 h7 =>
  ob ((conv Try.prog 5 3 v7) h7) fun v8 h8 =>
  ob ((M.ofOpt (bin Try.prog .add 3 (.int .i64 1) v8)) h8) fun v9 h9 =>
  ob ((M.ofOpt (bin Try.prog .quo 5 a1 (.int .u8 8))) h9) fun v10 h10 =>
  ob ((M.ofOpt (bin Try.prog .rem 5 v10 (.int .u8 8))) h10) fun v11 h11 =>
  ob ((conv Try.prog 5 3 v11) h11) fun v12 h12 =>
  ob ((M.ofOpt (bin Try.prog .add 3 (.int .i64 1) v12)) h12) fun v13 h13 =>
  ob ((M.ofOpt (bin Try.prog .quo 5 a2 (.int .u8 3))) h13) fun v14 h14 =>
  ob ((M.ofOpt (bin Try.prog .rem 5 v14 (.int .u8 4))) h14) fun v15 h15 =>
  ob ((conv Try.prog 5 3 v15) h15) fun v16 h16 =>
  ob ((M.ofOpt (bin Try.prog .add 3 (.int .i64 1) v16)) h16) fun v17 h17 =>
  ob ((M.ofOpt (bin Try.prog .quo 5 a2 (.int .u8 12))) h17) fun v18 h18 =>
  ob ((M.ofOpt (bin Try.prog .rem 5 v18 (.int .u8 8))) h18) fun v19 h19 =>
  ob ((conv Try.prog 5 3 v19) h19) fun v20 h20 =>
  ob ((M.ofOpt (bin Try.prog .add 3 (.int .i64 1) v20)) h20) fun v21 h21 =>
  ob ((M.ofOpt (bld Try.prog 27 [(0, v3), (2, v6), (3, v9), (4, v13), (5, v17), (6, v21), (7, (.int .i64 64)), (9, a3)])) h21) fun v22 h22 =>
  ob ((newB 27 [(.int .i64 0), (.slice none 0 0), (.int .i64 0), (.int .i64 0), (.int .i64 0), (.int .i64 0), (.int .i64 0), (.int .i64 0), (.slice none 0 0), (.int .u16 0), (.slice none 0 0)] .fix) h22) fun v23 h23 =>
  ob ((stN 11 v23 v22) h23) fun v24 h24 =>
  L (runCode Try.prog O L f15_c0) (f15_k0 O L) [a0, a1, a2, a3, a4, undef, undef, undef, undef, undef, v0, v23, (.int .i64 0), undef, undef, undef, undef, undef, undef, undef, undef, a0, v1, v2, v3, a2, v4, v5, v6, a1, v7, v8, v9, a1, v10, v11, v12, v13, a2, v14, v15, v16, v17, a2, v18, v19, v20, v21, a3, v22, undef, undef, undef, undef, undef, undef, undef, undef, undef, undef, undef, undef, undef, undef, undef, undef, undef, undef, undef, undef, undef, undef, undef, undef, undef, undef, undef, undef, undef, undef, undef, undef, undef, undef, undef, undef, undef, undef, undef, undef, undef, undef, undef, undef, undef, undef, undef, undef, undef, undef, undef, undef, undef, undef, undef, undef, undef, undef, undef, undef, undef, undef, undef, undef, undef, undef, undef, undef, undef, undef, undef, undef, undef, undef, undef, undef, undef, undef, undef, undef, undef, undef, undef, undef, undef, undef, undef, undef, undef] h24
theorem f15_eq (O : Oracle) (L : Loops (Value × Heap)) (a0 a1 a2 a3 a4 : Value) (h : Heap) :
    body Try.prog O L 15 [a0, a1, a2, a3, a4] h = f15 O L a0 a1 a2 a3 a4 h := by kernel_rfl

/-! 16: shunter/shunterlaw12.known; slots: [(p, 1), (l, 2), (h, 3)] -/
noncomputable def f16 (O : Oracle) (L : Loops (Value × Heap)) (h : Heap) : Option (Value × Heap) :=
  ob ((M.ofOpt (bld Try.prog 33 [(0, (.int .i64 0)), (1, (.int .i64 1))])) h) fun v0 h0 =>
  ob ((M.ofOpt (bld Try.prog 33 [(0, (.int .i64 1)), (1, (.int .i64 2))])) h0) fun v1 h1 =>
  ob ((bldSlice 33 2 2 [(.int .i64 0), (.int .i64 0)] [(0, v0), (1, v1)]) h1) fun v2 h2 =>
  ob ((M.ofOpt (bld Try.prog 27 [(0, (.int .i64 3)), (1, v2)])) h2) fun v3 h3 =>
  ob ((newB 27 [(.int .i64 0), (.slice none 0 0), (.int .i64 0), (.int .i64 0), (.int .i64 0), (.int .i64 0), (.int .i64 0), (.int .i64 0), (.slice none 0 0), (.int .u16 0), (.slice none 0 0)] .fix) h3) fun v4 h4 =>
  ob ((stN 11 v4 v3) h4) fun v5 h5 =>
  ob ((ldN 11 v4) h5) fun v6 h6 =>
  ob ((O (.func 22) [v6, (.int .i64 1)]) h6) fun v7 h7 =>
  ob ((ldN 11 v4) h7) fun v8 h8 =>
  ob ((O (.func 18) [v8]) h8) fun v9 h9 =>
  ob ((M.ofOpt (lenSl v7)) h9) fun v10 h10 =>
  ob ((M.ofOpt (bin Try.prog .eql 3 v10 (.int .i64 2))) h10) fun v11 h11 =>
  ob ((gd v11 true (M.ret v7)) h11) fun v12 h12 =>
  ob ((gd v11 true (M.ofOpt (iAddr 1 v12 (.int .i64 1)))) h12) fun v13 h13 =>
  ob ((gd v11 true (ld1 v13)) h13) fun v14 h14 =>
  ob ((gd v11 true (M.ofOpt (bin Try.prog .eql 3 v14 (.int .i64 2)))) h14) fun v15 h15 =>
  ob ((M.ofOpt (pick v11 v15 (.bool false))) h15) fun v16 h16 =>
  ob ((gd v16 true (ldN 11 v4)) h16) fun v17 h17 =>
  ob ((gd v16 true (O (.func 19) [v17, (.int .i64 1), (.int .i64 2)])) h17) fun v18 h18 =>
  ob ((gd v16 true (M.ofOpt (bin Try.prog .eql 3 v18 (.int .i64 2)))) h18) fun v19 h19 =>
  ob ((M.ofOpt (pick v16 v19 (.bool false))) h19) fun v20 h20 =>
  ob ((gd v20 true (ldN 11 v4)) h20) fun v21 h21 =>
  ob ((gd v20 true (O (.func 19) [v21, (.int .i64 0), (.int .i64 2)])) h21) fun v22 h22 =>
  ob ((gd v20 true (M.ofOpt (bin Try.prog .eql 3 v22 (.int .i64 (-1))))) h22) fun v23 h23 =>
  ob ((M.ofOpt (pick v20 v23 (.bool false))) h23) fun v24 h24 =>
  ob ((gd v24 true (M.ret v9)) h24) fun v25 h25 =>
  ob ((gd v24 true (M.ofOpt (lenSl v25))) h25) fun v26 h26 =>
  ob ((gd v24 true (M.ofOpt (bin Try.prog .eql 3 v26 (.int .i64 4)))) h26) fun v27 h27 =>
  ob ((M.ofOpt (pick v24 v27 (.bool false))) h27) fun v28 h28 =>
  ob ((gd v28 true (M.ret v9)) h28) fun v29 h29 =>
  ob ((gd v28 true (M.ofOpt (iAddr 2 v29 (.int .i64 3)))) h29) fun v30 h30 =>
  ob ((gd v28 true (ldN 2 v30)) h30) fun v31 h31 =>
  ob ((gd v28 true (M.ofOpt (bld Try.prog 38 [(0, (.int .i64 2)), (1, (.int .i64 1))]))) h31) fun v32 h32 =>
  ob ((gd v28 true (M.ofOpt (bin Try.prog .eql 38 v31 v32))) h32) fun v33 h33 =>
  ob ((M.ofOpt (pick v28 v33 (.bool false))) h33) fun v34 h34 =>
  ob ((gd v34 true (ldN 11 v4)) h34) fun v35 h35 =>
  ob ((gd v34 true (O (.func 17) [v35])) h35) fun v36 h36 =>
  ob ((gd v34 true (M.ofOpt (bin Try.prog .eql 30 v36 (.int .u16 120)))) h36) fun v37 h37 =>
  ob ((M.ofOpt (pick v34 v37 (.bool false))) h37) fun v38 h38 =>
  some (oneOf [v38], h38)
theorem f16_eq (O : Oracle) (L : Loops (Value × Heap)) (h : Heap) :
    body Try.prog O L 16 [] h = f16 O L h := by kernel_rfl

/-! 17: shunter/plan.Check; slots: [(p, 0), (p, 1), (odd, 3)] -/
noncomputable def f17 (O : Oracle) (L : Loops (Value × Heap)) (a0 : Value) (h : Heap) : Option (Value × Heap) :=
  ob ((newB 27 (Value.cells a0).toList .fix) h) fun v0 h0 =>
  ob ((ldN 11 v0) h0) fun v1 h1 =>
  ob ((O (.func 33) [v1]) h1) fun v2 h2 =>
  ob ((M.ofOpt (un Try.prog .not v2)) h2) fun v3 h3 =>
  iteV v3 (
  iteV v3 (
  some (oneOf [(.int .u16 120)], h3)) (
  ob ((M.ofOpt (fAddr 8 v0)) h3) fun v4 h4 =>
  ob ((ld1 v4) h4) fun v5 h5 =>
  ob ((M.ofOpt (lenSl v5)) h5) fun v6 h6 =>
  ob ((M.ofOpt (fAddr 2 v0)) h6) fun v7 h7 =>
  ob ((ld1 v7) h7) fun v8 h8 =>
  ob ((M.ofOpt (bin Try.prog .neq 3 v6 v8)) h8) fun v9 h9 =>
  iteV v9 (
  iteV v9 (
  some (oneOf [(.int .u16 120)], h9)) (
  ob ((M.ofOpt (fAddr 10 v0)) h9) fun v10 h10 =>
  ob ((ld1 v10) h10) fun v11 h11 =>
  ob ((M.ofOpt (lenSl v11)) h11) fun v12 h12 =>
  ob ((M.ofOpt (fAddr 0 v0)) h12) fun v13 h13 =>
  ob ((ld1 v13) h13) fun v14 h14 =>
  ob ((M.ofOpt (bin Try.prog .neq 3 v12 v14)) h14) fun v15 h15 =>
  iteV v15 (
  iteV v15 (
  some (oneOf [(.int .u16 120)], h15)) (
  some (oneOf [(.int .u16 0)], h15))) (
  ob ((M.ofOpt (fAddr 10 v0)) h15) fun v16 h16 =>
  ob ((ld1 v16) h16) fun v17 h17 =>
  ob ((O (.func 36) [v17, (.func (.func 32) #[] #[v0])]) h17) fun v18 h18 =>
  iteV v18 (
  some (oneOf [(.int .u16 120)], h18)) (
  some (oneOf [(.int .u16 0)], h18))))) (
  ob ((M.ofOpt (fAddr 8 v0)) h9) fun v19 h19 =>
  ob ((ld1 v19) h19) fun v20 h20 =>
  ob ((O (.func 35) [v20]) h20) fun v21 h21 =>
  ob ((M.ofOpt (bin Try.prog .eql 60 v21 (.pointer none))) h21) fun v22 h22 =>
  iteV v22 (
  some (oneOf [(.int .u16 120)], h22)) (
  ob ((M.ofOpt (fAddr 10 v0)) h22) fun v23 h23 =>
  ob ((ld1 v23) h23) fun v24 h24 =>
  ob ((M.ofOpt (lenSl v24)) h24) fun v25 h25 =>
  ob ((M.ofOpt (fAddr 0 v0)) h25) fun v26 h26 =>
  ob ((ld1 v26) h26) fun v27 h27 =>
  ob ((M.ofOpt (bin Try.prog .neq 3 v25 v27)) h27) fun v28 h28 =>
  iteV v28 (
  iteV v28 (
  some (oneOf [(.int .u16 120)], h28)) (
  some (oneOf [(.int .u16 0)], h28))) (
  ob ((M.ofOpt (fAddr 10 v0)) h28) fun v29 h29 =>
  ob ((ld1 v29) h29) fun v30 h30 =>
  ob ((O (.func 36) [v30, (.func (.func 32) #[] #[v0])]) h30) fun v31 h31 =>
  iteV v31 (
  some (oneOf [(.int .u16 120)], h31)) (
  some (oneOf [(.int .u16 0)], h31))))))) (
  ob ((ldN 11 v0) h3) fun v32 h32 =>
  ob ((O (.func 34) [v32]) h32) fun v33 h33 =>
  ob ((M.ofOpt (un Try.prog .not v33)) h33) fun v34 h34 =>
  iteV v34 (
  some (oneOf [(.int .u16 120)], h34)) (
  ob ((M.ofOpt (fAddr 8 v0)) h34) fun v35 h35 =>
  ob ((ld1 v35) h35) fun v36 h36 =>
  ob ((M.ofOpt (lenSl v36)) h36) fun v37 h37 =>
  ob ((M.ofOpt (fAddr 2 v0)) h37) fun v38 h38 =>
  ob ((ld1 v38) h38) fun v39 h39 =>
  ob ((M.ofOpt (bin Try.prog .neq 3 v37 v39)) h39) fun v40 h40 =>
  iteV v40 (
  iteV v40 (
  some (oneOf [(.int .u16 120)], h40)) (
  ob ((M.ofOpt (fAddr 10 v0)) h40) fun v41 h41 =>
  ob ((ld1 v41) h41) fun v42 h42 =>
  ob ((M.ofOpt (lenSl v42)) h42) fun v43 h43 =>
  ob ((M.ofOpt (fAddr 0 v0)) h43) fun v44 h44 =>
  ob ((ld1 v44) h44) fun v45 h45 =>
  ob ((M.ofOpt (bin Try.prog .neq 3 v43 v45)) h45) fun v46 h46 =>
  iteV v46 (
  iteV v46 (
  some (oneOf [(.int .u16 120)], h46)) (
  some (oneOf [(.int .u16 0)], h46))) (
  ob ((M.ofOpt (fAddr 10 v0)) h46) fun v47 h47 =>
  ob ((ld1 v47) h47) fun v48 h48 =>
  ob ((O (.func 36) [v48, (.func (.func 32) #[] #[v0])]) h48) fun v49 h49 =>
  iteV v49 (
  some (oneOf [(.int .u16 120)], h49)) (
  some (oneOf [(.int .u16 0)], h49))))) (
  ob ((M.ofOpt (fAddr 8 v0)) h40) fun v50 h50 =>
  ob ((ld1 v50) h50) fun v51 h51 =>
  ob ((O (.func 35) [v51]) h51) fun v52 h52 =>
  ob ((M.ofOpt (bin Try.prog .eql 60 v52 (.pointer none))) h52) fun v53 h53 =>
  iteV v53 (
  some (oneOf [(.int .u16 120)], h53)) (
  ob ((M.ofOpt (fAddr 10 v0)) h53) fun v54 h54 =>
  ob ((ld1 v54) h54) fun v55 h55 =>
  ob ((M.ofOpt (lenSl v55)) h55) fun v56 h56 =>
  ob ((M.ofOpt (fAddr 0 v0)) h56) fun v57 h57 =>
  ob ((ld1 v57) h57) fun v58 h58 =>
  ob ((M.ofOpt (bin Try.prog .neq 3 v56 v58)) h58) fun v59 h59 =>
  iteV v59 (
  iteV v59 (
  some (oneOf [(.int .u16 120)], h59)) (
  some (oneOf [(.int .u16 0)], h59))) (
  ob ((M.ofOpt (fAddr 10 v0)) h59) fun v60 h60 =>
  ob ((ld1 v60) h60) fun v61 h61 =>
  ob ((O (.func 36) [v61, (.func (.func 32) #[] #[v0])]) h61) fun v62 h62 =>
  iteV v62 (
  some (oneOf [(.int .u16 120)], h62)) (
  some (oneOf [(.int .u16 0)], h62)))))))
theorem f17_eq (O : Oracle) (L : Loops (Value × Heap)) (a0 : Value) (h : Heap) :
    body Try.prog O L 17 [a0] h = f17 O L a0 h := by kernel_rfl

/-! 18: shunter/plan.Hops; slots: [(p, 0), (p, 1), (out, 3), (v, 4), (_, 5), (w, 6)] -/
noncomputable def f18_c1 : Code := sub [1, 1, 0, 1, 0, 0, 1, 1, 0, 0, 1, 1, 0, 0] (fbody Try.prog 18)
noncomputable def f18_k1 (O : Oracle) (L : Loops (Value × Heap)) (k : Ex → K (Value × Heap)) : Ex → K (Value × Heap) := (blockK 2 (blockK 1 (seqK Try.prog O L (sub [1, 1, 0, 1, 0, 0, 1, 1, 1] (fbody Try.prog 18)) k)))
noncomputable def f18_e1_2 (O : Oracle) (L : Loops (Value × Heap)) (k : Ex → K (Value × Heap)) (x0 x1 x2 x3 x4 x5 x6 x7 x8 x9 x10 x11 x12 x13 x14 x15 x16 x17 x18 x19 x20 x21 x22 x23 x24 x25 x26 x27 x28 x29 x30 x31 x32 : Value) (h : Heap) : Option (Value × Heap) :=
  ob ((M.ofOpt (bin Try.prog .add 3 x11 (.int .i64 1))) h) fun v18 h18 =>
  k .normal [x0, x1, x2, x3, x4, x5, x6, x7, x8, x9, x10, v18, x12, x13, x14, x15, x16, x17, x18, x19, x20, x21, x22, x23, x24, x25, x26, x27, x28, x29, x30, v18, x32] h18
theorem f18_e1_2_eq (O : Oracle) (L : Loops (Value × Heap)) (k : Ex → K (Value × Heap)) (x0 x1 x2 x3 x4 x5 x6 x7 x8 x9 x10 x11 x12 x13 x14 x15 x16 x17 x18 x19 x20 x21 x22 x23 x24 x25 x26 x27 x28 x29 x30 x31 x32 : Value) (h : Heap) :
    f18_k1 O L k (.exit 2) [x0, x1, x2, x3, x4, x5, x6, x7, x8, x9, x10, x11, x12, x13, x14, x15, x16, x17, x18, x19, x20, x21, x22, x23, x24, x25, x26, x27, x28, x29, x30, x31, x32] h = f18_e1_2 O L k x0 x1 x2 x3 x4 x5 x6 x7 x8 x9 x10 x11 x12 x13 x14 x15 x16 x17 x18 x19 x20 x21 x22 x23 x24 x25 x26 x27 x28 x29 x30 x31 x32 h := by kernel_rfl
noncomputable def f18_b1 (O : Oracle) (L : Loops (Value × Heap)) (k : Ex → K (Value × Heap)) (x0 x1 x2 x3 x4 x5 x6 x7 x8 x9 x10 x11 x12 x13 x14 x15 x16 x17 x18 x19 x20 x21 x22 x23 x24 x25 x26 x27 x28 x29 x30 x31 x32 : Value) (h : Heap) : Option (Value × Heap) :=
  ob ((M.ofOpt (bin Try.prog .lss 3 x18 x17)) h) fun v9 h9 =>
  iteV v9 (
  ob ((M.ofOpt (iAddr 1 x16 x18)) h9) fun v10 h10 =>
  ob ((ld1 v10) h10) fun v11 h11 =>
  ob ((O (.func 37) [v11, (.int .i64 0), (.int .i64 5)]) h11) fun v12 h12 =>
  iteV v12 (
  ob ((M.ofOpt (bld Try.prog 38 [(0, x4), (1, v11)])) h12) fun v13 h13 =>
  ob ((bldSlice 38 2 1 [(.int .i64 0), (.int .i64 0)] [(0, v13)]) h13) fun v14 h14 =>
  ob ((app 38 2 16 x3 v14) h14) fun v15 h15 =>
  ob ((M.ofOpt (bin Try.prog .add 3 x18 (.int .i64 1))) h15) fun v16 h16 =>
  k .normal [x0, x1, x2, v15, x4, x5, v11, x7, x8, x9, x10, x11, x12, x13, x14, x15, x16, x17, v16, v9, v10, v11, v11, v12, x3, x4, v11, v13, v14, v15, v16, x31, x32] h16) (
  ob ((M.ofOpt (bin Try.prog .add 3 x18 (.int .i64 1))) h12) fun v17 h17 =>
  k .normal [x0, x1, x2, x3, x4, x5, v11, x7, x8, x9, x10, x11, x12, x13, x14, x15, x16, x17, v17, v9, v10, v11, v11, v12, x24, x25, x26, x27, x28, x29, v17, x31, x32] h17)) (
  k (.exit 2) [x0, x1, x2, x3, x4, x5, x6, x7, x8, x9, x10, x11, x12, x13, x14, x15, x16, x17, x18, v9, x20, x21, x22, x23, x24, x25, x26, x27, x28, x29, x30, x31, x32] h9)
theorem f18_b1_eq (O : Oracle) (L : Loops (Value × Heap)) (k : Ex → K (Value × Heap)) (x0 x1 x2 x3 x4 x5 x6 x7 x8 x9 x10 x11 x12 x13 x14 x15 x16 x17 x18 x19 x20 x21 x22 x23 x24 x25 x26 x27 x28 x29 x30 x31 x32 : Value) (h : Heap) :
    runCode Try.prog O L f18_c1 k [x0, x1, x2, x3, x4, x5, x6, x7, x8, x9, x10, x11, x12, x13, x14, x15, x16, x17, x18, x19, x20, x21, x22, x23, x24, x25, x26, x27, x28, x29, x30, x31, x32] h = f18_b1 O L k x0 x1 x2 x3 x4 x5 x6 x7 x8 x9 x10 x11 x12 x13 x14 x15 x16 x17 x18 x19 x20 x21 x22 x23 x24 x25 x26 x27 x28 x29 x30 x31 x32 h := by kernel_rfl
noncomputable def f18_c0 : Code := sub [1, 1, 0, 1, 0, 0] (fbody Try.prog 18)
noncomputable def f18_k0 (O : Oracle) (L : Loops (Value × Heap)) : Ex → K (Value × Heap) := (blockK 0 (seqK Try.prog O L (sub [1, 1, 1] (fbody Try.prog 18)) (kRet Try.prog Try.f18)))
noncomputable def f18_e0_0 (O : Oracle) (L : Loops (Value × Heap)) (x0 x1 x2 x3 x4 x5 x6 x7 x8 x9 x10 x11 x12 x13 x14 x15 x16 x17 x18 x19 x20 x21 x22 x23 x24 x25 x26 x27 x28 x29 x30 x31 x32 : Value) (h : Heap) : Option (Value × Heap) :=
  some (oneOf [x3], h)
theorem f18_e0_0_eq (O : Oracle) (L : Loops (Value × Heap)) (x0 x1 x2 x3 x4 x5 x6 x7 x8 x9 x10 x11 x12 x13 x14 x15 x16 x17 x18 x19 x20 x21 x22 x23 x24 x25 x26 x27 x28 x29 x30 x31 x32 : Value) (h : Heap) :
    f18_k0 O L (.exit 0) [x0, x1, x2, x3, x4, x5, x6, x7, x8, x9, x10, x11, x12, x13, x14, x15, x16, x17, x18, x19, x20, x21, x22, x23, x24, x25, x26, x27, x28, x29, x30, x31, x32] h = f18_e0_0 O L x0 x1 x2 x3 x4 x5 x6 x7 x8 x9 x10 x11 x12 x13 x14 x15 x16 x17 x18 x19 x20 x21 x22 x23 x24 x25 x26 x27 x28 x29 x30 x31 x32 h := by kernel_rfl
noncomputable def f18_b0 (O : Oracle) (L : Loops (Value × Heap)) (k : Ex → K (Value × Heap)) (x0 x1 x2 x3 x4 x5 x6 x7 x8 x9 x10 x11 x12 x13 x14 x15 x16 x17 x18 x19 x20 x21 x22 x23 x24 x25 x26 x27 x28 x29 x30 x31 x32 : Value) (h : Heap) : Option (Value × Heap) :=
  ob ((M.ofOpt (bin Try.prog .lss 3 x11 x10)) h) fun v5 h5 =>
  iteV v5 (
  ob ((ldN 11 x1) h5) fun v6 h6 =>
  ob ((O (.func 22) [v6, x11]) h6) fun v7 h7 =>
  ob ((M.ofOpt (lenSl v7)) h7) fun v8 h8 =>
  L (runCode Try.prog O L f18_c1) (f18_k1 O L k) [x0, x1, x2, x3, x11, x5, x6, x7, x8, x9, x10, x11, v5, x11, v6, x11, v7, v8, (.int .i64 0), x19, x20, x21, x22, x23, x24, x25, x26, x27, x28, x29, x30, x31, x32] h8) (
  k (.exit 0) [x0, x1, x2, x3, x4, x5, x6, x7, x8, x9, x10, x11, v5, x13, x14, x15, x16, x17, x18, x19, x20, x21, x22, x23, x24, x25, x26, x27, x28, x29, x30, x31, x32] h5)
theorem f18_b0_eq (O : Oracle) (L : Loops (Value × Heap)) (k : Ex → K (Value × Heap)) (x0 x1 x2 x3 x4 x5 x6 x7 x8 x9 x10 x11 x12 x13 x14 x15 x16 x17 x18 x19 x20 x21 x22 x23 x24 x25 x26 x27 x28 x29 x30 x31 x32 : Value) (h : Heap) :
    runCode Try.prog O L f18_c0 k [x0, x1, x2, x3, x4, x5, x6, x7, x8, x9, x10, x11, x12, x13, x14, x15, x16, x17, x18, x19, x20, x21, x22, x23, x24, x25, x26, x27, x28, x29, x30, x31, x32] h = f18_b0 O L k x0 x1 x2 x3 x4 x5 x6 x7 x8 x9 x10 x11 x12 x13 x14 x15 x16 x17 x18 x19 x20 x21 x22 x23 x24 x25 x26 x27 x28 x29 x30 x31 x32 h := by kernel_rfl
noncomputable def f18 (O : Oracle) (L : Loops (Value × Heap)) (a0 : Value) (h : Heap) : Option (Value × Heap) :=
  ob ((newB 27 (Value.cells a0).toList .fix) h) fun v0 h0 =>
  ob ((M.ofOpt (fAddr 0 v0)) h0) fun v1 h1 =>
  ob ((ld1 v1) h1) fun v2 h2 =>
  ob ((M.ofOpt (minmax Try.prog true [v2, (.int .i64 0)])) h2) fun v3 h3 =>
  ob ((M.ofOpt (minmax Try.prog false [v3, (.int .i64 6)])) h3) fun v4 h4 =>
  L (runCode Try.prog O L f18_c0) (f18_k0 O L) [a0, v0, (.slice none 0 0), (.slice none 0 0), undef, undef, undef, v1, v2, v3, v4, (.int .i64 0), undef, undef, undef, undef, undef, undef, undef, undef, undef, undef, undef, undef, undef, undef, undef, undef, undef, undef, undef, undef, undef] h4
theorem f18_eq (O : Oracle) (L : Loops (Value × Heap)) (a0 : Value) (h : Heap) :
    body Try.prog O L 18 [a0] h = f18 O L a0 h := by kernel_rfl

/-! 19: shunter/plan.Port; slots: [(p, 0), (v, 1), (w, 2), (p, 3), (v, 4), (w, 5), (i, 7)] -/
noncomputable def f19 (O : Oracle) (L : Loops (Value × Heap)) (a0 a1 a2 : Value) (h : Heap) : Option (Value × Heap) :=
  ob ((newB 27 (Value.cells a0).toList .fix) h) fun v0 h0 =>
  ob ((ldN 11 v0) h0) fun v1 h1 =>
  ob ((O (.func 22) [v1, a1]) h1) fun v2 h2 =>
  ob ((O (.func 38) [v2, a2]) h2) fun v3 h3 =>
  ob ((M.ofOpt (bin Try.prog .lss 3 v3 (.int .i64 0))) h3) fun v4 h4 =>
  iteV v4 (
  some (oneOf [v3], h4)) (
  ob ((M.ofOpt (bin Try.prog .add 3 v3 (.int .i64 1))) h4) fun v5 h5 =>
  some (oneOf [v5], h5))
theorem f19_eq (O : Oracle) (L : Loops (Value × Heap)) (a0 a1 a2 : Value) (h : Heap) :
    body Try.prog O L 19 [a0, a1, a2] h = f19 O L a0 a1 a2 h := by kernel_rfl

/-! 20: shunter/shunterlaw12.Heavy; slots: [(p, 0), (p, 1), (n, 3), (i, 4)] -/
noncomputable def f20_c0 : Code := sub [1, 1, 0, 1, 0, 0] (fbody Try.prog 20)
noncomputable def f20_k0 (O : Oracle) (L : Loops (Value × Heap)) : Ex → K (Value × Heap) := (blockK 0 (seqK Try.prog O L (sub [1, 1, 1] (fbody Try.prog 20)) (kRet Try.prog Try.f20)))
noncomputable def f20_e0_0 (O : Oracle) (L : Loops (Value × Heap)) (x0 x1 x2 x3 x4 x5 x6 x7 x8 x9 x10 x11 x12 x13 x14 x15 x16 x17 x18 x19 x20 x21 x22 x23 x24 x25 x26 x27 x28 : Value) (h : Heap) : Option (Value × Heap) :=
  some (oneOf [x3], h)
theorem f20_e0_0_eq (O : Oracle) (L : Loops (Value × Heap)) (x0 x1 x2 x3 x4 x5 x6 x7 x8 x9 x10 x11 x12 x13 x14 x15 x16 x17 x18 x19 x20 x21 x22 x23 x24 x25 x26 x27 x28 : Value) (h : Heap) :
    f20_k0 O L (.exit 0) [x0, x1, x2, x3, x4, x5, x6, x7, x8, x9, x10, x11, x12, x13, x14, x15, x16, x17, x18, x19, x20, x21, x22, x23, x24, x25, x26, x27, x28] h = f20_e0_0 O L x0 x1 x2 x3 x4 x5 x6 x7 x8 x9 x10 x11 x12 x13 x14 x15 x16 x17 x18 x19 x20 x21 x22 x23 x24 x25 x26 x27 x28 h := by kernel_rfl
noncomputable def f20_b0 (O : Oracle) (L : Loops (Value × Heap)) (k : Ex → K (Value × Heap)) (x0 x1 x2 x3 x4 x5 x6 x7 x8 x9 x10 x11 x12 x13 x14 x15 x16 x17 x18 x19 x20 x21 x22 x23 x24 x25 x26 x27 x28 : Value) (h : Heap) : Option (Value × Heap) :=
  ob ((M.ofOpt (fAddr 10 x1)) h) fun v8 h8 =>
  ob ((ld1 v8) h8) fun v9 h9 =>
  ob ((M.ofOpt (lenSl v9)) h9) fun v10 h10 =>
  ob ((M.ofOpt (bin Try.prog .lss 3 x4 v10)) h10) fun v11 h11 =>
  iteV v11 (
  ob ((M.ofOpt (fAddr 10 x1)) h11) fun v12 h12 =>
  ob ((ld1 v12) h12) fun v13 h13 =>
  ob ((M.ofOpt (iAddr 1 v13 x4)) h13) fun v14 h14 =>
  ob ((ld1 v14) h14) fun v15 h15 =>
  ob ((M.ofOpt (lenSl v15)) h15) fun v16 h16 =>
  ob ((M.ofOpt (bin Try.prog .add 3 (.int .i64 1) v16)) h16) fun v17 h17 =>
  ob ((M.ofOpt (bin Try.prog .add 3 x3 v17)) h17) fun v18 h18 =>
  ob ((M.ofOpt (bin Try.prog .add 3 x4 (.int .i64 1))) h18) fun v19 h19 =>
  k .normal [x0, x1, x2, v18, v19, x5, x6, x7, x8, x9, x10, x11, x4, v8, v9, v10, v11, x4, v19, x3, v12, v13, x4, v14, v15, v16, v17, v18, x28] h19) (
  k (.exit 0) [x0, x1, x2, x3, x4, x5, x6, x7, x8, x9, x10, x11, x4, v8, v9, v10, v11, x17, x18, x19, x20, x21, x22, x23, x24, x25, x26, x27, x28] h11)
theorem f20_b0_eq (O : Oracle) (L : Loops (Value × Heap)) (k : Ex → K (Value × Heap)) (x0 x1 x2 x3 x4 x5 x6 x7 x8 x9 x10 x11 x12 x13 x14 x15 x16 x17 x18 x19 x20 x21 x22 x23 x24 x25 x26 x27 x28 : Value) (h : Heap) :
    runCode Try.prog O L f20_c0 k [x0, x1, x2, x3, x4, x5, x6, x7, x8, x9, x10, x11, x12, x13, x14, x15, x16, x17, x18, x19, x20, x21, x22, x23, x24, x25, x26, x27, x28] h = f20_b0 O L k x0 x1 x2 x3 x4 x5 x6 x7 x8 x9 x10 x11 x12 x13 x14 x15 x16 x17 x18 x19 x20 x21 x22 x23 x24 x25 x26 x27 x28 h := by kernel_rfl
noncomputable def f20 (O : Oracle) (L : Loops (Value × Heap)) (a0 : Value) (h : Heap) : Option (Value × Heap) :=
  ob ((newB 27 (Value.cells a0).toList .fix) h) fun v0 h0 =>
  ob ((M.ofOpt (fAddr 1 v0)) h0) fun v1 h1 =>
  ob ((ld1 v1) h1) fun v2 h2 =>
  ob ((M.ofOpt (lenSl v2)) h2) fun v3 h3 =>
  ob ((M.ofOpt (fAddr 8 v0)) h3) fun v4 h4 =>
  ob ((ld1 v4) h4) fun v5 h5 =>
  ob ((M.ofOpt (lenSl v5)) h5) fun v6 h6 =>
  ob ((M.ofOpt (bin Try.prog .add 3 v3 v6)) h6) fun v7 h7 =>
  L (runCode Try.prog O L f20_c0) (f20_k0 O L) [a0, v0, (.int .i64 0), v7, (.int .i64 0), v1, v2, v3, v4, v5, v6, v7, undef, undef, undef, undef, undef, undef, undef, undef, undef, undef, undef, undef, undef, undef, undef, undef, undef] h7
theorem f20_eq (O : Oracle) (L : Loops (Value × Heap)) (a0 : Value) (h : Heap) :
    body Try.prog O L 20 [a0] h = f20 O L a0 h := by kernel_rfl

/-! 21: shunter/shunterlaw12.tells; slots: [(p, 0), (v, 1), (w, 2), (p, 3), (v, 4), (w, 5), (a, 7), (b, 8), (i, 9)] -/
noncomputable def f21_c0 : Code := sub [1, 1, 1, 1, 0, 1, 0, 0] (fbody Try.prog 21)
noncomputable def f21_k0 (O : Oracle) (L : Loops (Value × Heap)) : Ex → K (Value × Heap) := (blockK 0 (seqK Try.prog O L (sub [1, 1, 1, 1, 1] (fbody Try.prog 21)) (kRet Try.prog Try.f21)))
noncomputable def f21_e0_0 (O : Oracle) (L : Loops (Value × Heap)) (x0 x1 x2 x3 x4 x5 x6 x7 x8 x9 x10 x11 x12 x13 x14 x15 x16 x17 x18 x19 x20 x21 x22 x23 x24 x25 x26 x27 x28 x29 x30 x31 x32 x33 x34 x35 x36 x37 x38 x39 x40 x41 x42 x43 x44 x45 x46 x47 x48 x49 x50 x51 x52 x53 x54 x55 x56 x57 x58 x59 x60 x61 x62 : Value) (h : Heap) : Option (Value × Heap) :=
  some (oneOf [(.bool true)], h)
theorem f21_e0_0_eq (O : Oracle) (L : Loops (Value × Heap)) (x0 x1 x2 x3 x4 x5 x6 x7 x8 x9 x10 x11 x12 x13 x14 x15 x16 x17 x18 x19 x20 x21 x22 x23 x24 x25 x26 x27 x28 x29 x30 x31 x32 x33 x34 x35 x36 x37 x38 x39 x40 x41 x42 x43 x44 x45 x46 x47 x48 x49 x50 x51 x52 x53 x54 x55 x56 x57 x58 x59 x60 x61 x62 : Value) (h : Heap) :
    f21_k0 O L (.exit 0) [x0, x1, x2, x3, x4, x5, x6, x7, x8, x9, x10, x11, x12, x13, x14, x15, x16, x17, x18, x19, x20, x21, x22, x23, x24, x25, x26, x27, x28, x29, x30, x31, x32, x33, x34, x35, x36, x37, x38, x39, x40, x41, x42, x43, x44, x45, x46, x47, x48, x49, x50, x51, x52, x53, x54, x55, x56, x57, x58, x59, x60, x61, x62] h = f21_e0_0 O L x0 x1 x2 x3 x4 x5 x6 x7 x8 x9 x10 x11 x12 x13 x14 x15 x16 x17 x18 x19 x20 x21 x22 x23 x24 x25 x26 x27 x28 x29 x30 x31 x32 x33 x34 x35 x36 x37 x38 x39 x40 x41 x42 x43 x44 x45 x46 x47 x48 x49 x50 x51 x52 x53 x54 x55 x56 x57 x58 x59 x60 x61 x62 h := by kernel_rfl
noncomputable def f21_r0 (O : Oracle) (L : Loops (Value × Heap)) (x0 x1 x2 x3 x4 x5 x6 x7 x8 x9 x10 x11 x12 x13 x14 x15 x16 x17 x18 x19 x20 x21 x22 x23 x24 x25 x26 x27 x28 x29 x30 x31 x32 x33 x34 x35 x36 x37 x38 x39 x40 x41 x42 x43 x44 x45 x46 x47 x48 x49 x50 x51 x52 x53 x54 x55 x56 x57 x58 x59 x60 x61 x62 : Value) (h : Heap) : Option (Value × Heap) :=
  some (oneOf [x6], h)
theorem f21_r0_eq (O : Oracle) (L : Loops (Value × Heap)) (x0 x1 x2 x3 x4 x5 x6 x7 x8 x9 x10 x11 x12 x13 x14 x15 x16 x17 x18 x19 x20 x21 x22 x23 x24 x25 x26 x27 x28 x29 x30 x31 x32 x33 x34 x35 x36 x37 x38 x39 x40 x41 x42 x43 x44 x45 x46 x47 x48 x49 x50 x51 x52 x53 x54 x55 x56 x57 x58 x59 x60 x61 x62 : Value) (h : Heap) :
    f21_k0 O L .ret [x0, x1, x2, x3, x4, x5, x6, x7, x8, x9, x10, x11, x12, x13, x14, x15, x16, x17, x18, x19, x20, x21, x22, x23, x24, x25, x26, x27, x28, x29, x30, x31, x32, x33, x34, x35, x36, x37, x38, x39, x40, x41, x42, x43, x44, x45, x46, x47, x48, x49, x50, x51, x52, x53, x54, x55, x56, x57, x58, x59, x60, x61, x62] h = f21_r0 O L x0 x1 x2 x3 x4 x5 x6 x7 x8 x9 x10 x11 x12 x13 x14 x15 x16 x17 x18 x19 x20 x21 x22 x23 x24 x25 x26 x27 x28 x29 x30 x31 x32 x33 x34 x35 x36 x37 x38 x39 x40 x41 x42 x43 x44 x45 x46 x47 x48 x49 x50 x51 x52 x53 x54 x55 x56 x57 x58 x59 x60 x61 x62 h := by kernel_rfl
noncomputable def f21_b0 (O : Oracle) (L : Loops (Value × Heap)) (k : Ex → K (Value × Heap)) (x0 x1 x2 x3 x4 x5 x6 x7 x8 x9 x10 x11 x12 x13 x14 x15 x16 x17 x18 x19 x20 x21 x22 x23 x24 x25 x26 x27 x28 x29 x30 x31 x32 x33 x34 x35 x36 x37 x38 x39 x40 x41 x42 x43 x44 x45 x46 x47 x48 x49 x50 x51 x52 x53 x54 x55 x56 x57 x58 x59 x60 x61 x62 : Value) (h : Heap) : Option (Value × Heap) :=
  ob ((M.ofOpt (lenSl x7)) h) fun v34 h34 =>
  ob ((M.ofOpt (bin Try.prog .lss 3 x9 v34)) h34) fun v35 h35 =>
  iteV v35 (
  ob ((M.ofOpt (iAddr 2 x7 x9)) h35) fun v36 h36 =>
  ob ((ldN 2 v36) h36) fun v37 h37 =>
  ifB (true) (
  ob ((M.ofOpt (iAddr 2 x8 x9)) h37) fun v38 h38 =>
  ob ((ldN 2 v38) h38) fun v39 h39 =>
  ifB (true) (
  ob ((M.ofOpt (bin Try.prog .neq 38 v37 v39)) h39) fun v40 h40 =>
  iteV v40 (
  k .ret [x0, x1, x2, x3, x4, x5, (.bool false), x7, x8, x9, x10, x11, x12, x13, x14, x15, x16, x17, x18, x19, x20, x21, x22, x23, x24, x25, x26, x27, x28, x29, x30, x31, x32, x33, x34, x35, x36, x37, x38, x39, x40, x41, x42, x43, x44, x45, x46, x47, x9, x7, v34, v35, x52, x53, x7, x9, v36, v37, x8, x9, v38, v39, v40] h40) (
  ob ((M.ofOpt (bin Try.prog .add 3 x9 (.int .i64 1))) h40) fun v41 h41 =>
  k .normal [x0, x1, x2, x3, x4, x5, x6, x7, x8, v41, x10, x11, x12, x13, x14, x15, x16, x17, x18, x19, x20, x21, x22, x23, x24, x25, x26, x27, x28, x29, x30, x31, x32, x33, x34, x35, x36, x37, x38, x39, x40, x41, x42, x43, x44, x45, x46, x47, x9, x7, v34, v35, x9, v41, x7, x9, v36, v37, x8, x9, v38, v39, v40] h41)))) (
  k (.exit 0) [x0, x1, x2, x3, x4, x5, x6, x7, x8, x9, x10, x11, x12, x13, x14, x15, x16, x17, x18, x19, x20, x21, x22, x23, x24, x25, x26, x27, x28, x29, x30, x31, x32, x33, x34, x35, x36, x37, x38, x39, x40, x41, x42, x43, x44, x45, x46, x47, x9, x7, v34, v35, x52, x53, x54, x55, x56, x57, x58, x59, x60, x61, x62] h35)
theorem f21_b0_eq (O : Oracle) (L : Loops (Value × Heap)) (k : Ex → K (Value × Heap)) (x0 x1 x2 x3 x4 x5 x6 x7 x8 x9 x10 x11 x12 x13 x14 x15 x16 x17 x18 x19 x20 x21 x22 x23 x24 x25 x26 x27 x28 x29 x30 x31 x32 x33 x34 x35 x36 x37 x38 x39 x40 x41 x42 x43 x44 x45 x46 x47 x48 x49 x50 x51 x52 x53 x54 x55 x56 x57 x58 x59 x60 x61 x62 : Value) (h : Heap) :
    runCode Try.prog O L f21_c0 k [x0, x1, x2, x3, x4, x5, x6, x7, x8, x9, x10, x11, x12, x13, x14, x15, x16, x17, x18, x19, x20, x21, x22, x23, x24, x25, x26, x27, x28, x29, x30, x31, x32, x33, x34, x35, x36, x37, x38, x39, x40, x41, x42, x43, x44, x45, x46, x47, x48, x49, x50, x51, x52, x53, x54, x55, x56, x57, x58, x59, x60, x61, x62] h = f21_b0 O L k x0 x1 x2 x3 x4 x5 x6 x7 x8 x9 x10 x11 x12 x13 x14 x15 x16 x17 x18 x19 x20 x21 x22 x23 x24 x25 x26 x27 x28 x29 x30 x31 x32 x33 x34 x35 x36 x37 x38 x39 x40 x41 x42 x43 x44 x45 x46 x47 x48 x49 x50 x51 x52 x53 x54 x55 x56 x57 x58 x59 x60 x61 x62 h := by kernel_rfl
noncomputable def f21 (O : Oracle) (L : Loops (Value × Heap)) (a0 a1 a2 : Value) (h : Heap) : Option (Value × Heap) :=
  ob ((newB 27 (Value.cells a0).toList .fix) h) fun v0 h0 =>
  ob ((ldN 11 v0) h0) fun v1 h1 =>
  ob ((O (.func 18) [v1]) h1) fun v2 h2 =>
  ob ((ldN 11 v0) h2) fun v3 h3 =>
  ob ((O (.func 39) [v3]) h3) fun v4 h4 =>
  ob ((M.ofOpt (lenSl v2)) h4) fun v5 h5 =>
  ob ((M.ofOpt (lenSl v4)) h5) fun v6 h6 =>
  ob ((M.ofOpt (bin Try.prog .neq 3 v5 v6)) h6) fun v7 h7 =>
  ob ((gd v7 false (ldN 11 v0)) h7) fun v8 h8 =>
  ifB (true) (
  ob ((gd v7 false (O (.func 17) [v8])) h8) fun v9 h9 =>
  ifB (true) (
  ob ((gd v7 false (conv Try.prog 30 3 v9)) h9) fun v10 h10 =>
  ob ((gd v7 false (ldN 11 v0)) h10) fun v11 h11 =>
  ifB (chk ((gd v7 false (ldN 11 v0)) h8) v11 && (true)) (
  ob ((gd v7 false (O (.func 40) [v11])) h11) fun v12 h12 =>
  ifB (true) (
  ob ((gd v7 false (M.ofOpt (bin Try.prog .neq 3 v10 v12))) h12) fun v13 h13 =>
  ob ((M.ofOpt (pick v7 (.bool true) v13)) h13) fun v14 h14 =>
  ob ((gd v14 false (ldN 11 v0)) h14) fun v15 h15 =>
  ifB (true) (
  ob ((gd v14 false (M.ret a1)) h15) fun v16 h16 =>
  ob ((gd v14 false (O (.func 22) [v15, v16])) h16) fun v17 h17 =>
  ifB (true) (
  ob ((gd v14 false (ldN 11 v0)) h17) fun v18 h18 =>
  ifB (chk ((gd v14 false (ldN 11 v0)) h16) v18 && (true)) (
  ob ((gd v14 false (M.ret a1)) h18) fun v19 h19 =>
  ob ((gd v14 false (O (.func 42) [v18, v19])) h19) fun v20 h20 =>
  ifB (true) (
  ob ((gd v14 false (O (.func 41) [v17, v20])) h20) fun v21 h21 =>
  ifB (true) (
  ob ((gd v14 false (M.ofOpt (un Try.prog .not v21))) h21) fun v22 h22 =>
  ob ((M.ofOpt (pick v14 (.bool true) v22)) h22) fun v23 h23 =>
  ob ((gd v23 false (ldN 11 v0)) h23) fun v24 h24 =>
  ifB (true) (
  ob ((gd v23 false (M.ret a1)) h24) fun v25 h25 =>
  ob ((gd v23 false (M.ret a2)) h25) fun v26 h26 =>
  ob ((gd v23 false (O (.func 19) [v24, v25, v26])) h26) fun v27 h27 =>
  ifB (true) (
  ob ((gd v23 false (ldN 11 v0)) h27) fun v28 h28 =>
  ifB (chk ((gd v23 false (ldN 11 v0)) h26) v28 && (true)) (
  ob ((gd v23 false (M.ret a1)) h28) fun v29 h29 =>
  ob ((gd v23 false (M.ret a2)) h29) fun v30 h30 =>
  ob ((gd v23 false (O (.func 43) [v28, v29, v30])) h30) fun v31 h31 =>
  ifB (true) (
  ob ((gd v23 false (M.ofOpt (bin Try.prog .neq 3 v27 v31))) h31) fun v32 h32 =>
  ob ((M.ofOpt (pick v23 (.bool true) v32)) h32) fun v33 h33 =>
  iteV v33 (
  some (oneOf [(.bool false)], h33)) (
  L (runCode Try.prog O L f21_c0) (f21_k0 O L) [a0, a1, a2, v0, undef, undef, (.bool false), v2, v4, (.int .i64 0), v1, v2, v3, v4, v2, v5, v4, v6, v7, v7, v8, v9, v10, v11, v12, v13, v14, v14, v15, v16, v17, v18, v19, v20, v21, v22, v23, v23, v24, v25, v26, v27, v28, v29, v30, v31, v32, v33, undef, undef, undef, undef, undef, undef, undef, undef, undef, undef, undef, undef, undef, undef, undef] h33))))))))))))))
theorem f21_eq (O : Oracle) (L : Loops (Value × Heap)) (a0 a1 a2 : Value) (h : Heap) :
    body Try.prog O L 21 [a0, a1, a2] h = f21 O L a0 a1 a2 h := by kernel_rfl

/-! 22: shunter/plan.Beside; slots: [(p, 0), (v, 1), (p, 2), (v, 3), (l, 5), (_, 6), (e, 7)] -/
noncomputable def f22_c0 : Code := sub [1, 1, 0, 1, 0, 0] (fbody Try.prog 22)
noncomputable def f22_k0 (O : Oracle) (L : Loops (Value × Heap)) : Ex → K (Value × Heap) := (blockK 0 (seqK Try.prog O L (sub [1, 1, 1] (fbody Try.prog 22)) (kRet Try.prog Try.f22)))
noncomputable def f22_e0_0 (O : Oracle) (L : Loops (Value × Heap)) (x0 x1 x2 x3 x4 x5 x6 x7 x8 x9 x10 x11 x12 x13 x14 x15 x16 x17 x18 x19 x20 x21 x22 x23 x24 x25 x26 x27 x28 x29 x30 x31 x32 x33 x34 x35 x36 x37 x38 x39 x40 x41 x42 x43 x44 x45 : Value) (h : Heap) : Option (Value × Heap) :=
  ob ((O (.func 44) [x5]) h) fun v32 h32 =>
  ob ((O (.func 45) [x5]) h32) fun v33 h33 =>
  some (oneOf [v33], h33)
theorem f22_e0_0_eq (O : Oracle) (L : Loops (Value × Heap)) (x0 x1 x2 x3 x4 x5 x6 x7 x8 x9 x10 x11 x12 x13 x14 x15 x16 x17 x18 x19 x20 x21 x22 x23 x24 x25 x26 x27 x28 x29 x30 x31 x32 x33 x34 x35 x36 x37 x38 x39 x40 x41 x42 x43 x44 x45 : Value) (h : Heap) :
    f22_k0 O L (.exit 0) [x0, x1, x2, x3, x4, x5, x6, x7, x8, x9, x10, x11, x12, x13, x14, x15, x16, x17, x18, x19, x20, x21, x22, x23, x24, x25, x26, x27, x28, x29, x30, x31, x32, x33, x34, x35, x36, x37, x38, x39, x40, x41, x42, x43, x44, x45] h = f22_e0_0 O L x0 x1 x2 x3 x4 x5 x6 x7 x8 x9 x10 x11 x12 x13 x14 x15 x16 x17 x18 x19 x20 x21 x22 x23 x24 x25 x26 x27 x28 x29 x30 x31 x32 x33 x34 x35 x36 x37 x38 x39 x40 x41 x42 x43 x44 x45 h := by kernel_rfl
noncomputable def f22_b0 (O : Oracle) (L : Loops (Value × Heap)) (k : Ex → K (Value × Heap)) (x0 x1 x2 x3 x4 x5 x6 x7 x8 x9 x10 x11 x12 x13 x14 x15 x16 x17 x18 x19 x20 x21 x22 x23 x24 x25 x26 x27 x28 x29 x30 x31 x32 x33 x34 x35 x36 x37 x38 x39 x40 x41 x42 x43 x44 x45 : Value) (h : Heap) : Option (Value × Heap) :=
  ob ((M.ofOpt (bin Try.prog .lss 3 x11 x10)) h) fun v4 h4 =>
  iteV v4 (
  ob ((M.ofOpt (iAddr 2 x9 x11)) h4) fun v5 h5 =>
  ob ((ldN 2 v5) h5) fun v6 h6 =>
  ob ((newB 33 [(.int .i64 0), (.int .i64 0)] .fix) h6) fun v7 h7 =>
  ob ((stN 2 v7 v6) h7) fun v8 h8 =>
  ob ((M.ofOpt (fAddr 0 v7)) h8) fun v9 h9 =>
  ob ((ld1 v9) h9) fun v10 h10 =>
  ob ((M.ofOpt (fAddr 1 v7)) h10) fun v11 h11 =>
  ob ((ld1 v11) h11) fun v12 h12 =>
  ob ((M.ofOpt (bin Try.prog .eql 3 v10 v12)) h12) fun v13 h13 =>
  iteV v13 (
  ob ((M.ofOpt (bin Try.prog .add 3 x11 (.int .i64 1))) h13) fun v14 h14 =>
  k .normal [x0, x1, x2, x3, x4, x5, x6, v7, x8, x9, x10, v14, v4, v5, v6, v13, v9, v10, v11, v12, v13, x21, x22, x23, x24, x25, x26, x27, x28, x29, x30, x31, x32, x33, x34, x35, x36, x37, x38, x39, x40, v14, x42, x43, x44, x45] h14) (
  ob ((M.ofOpt (fAddr 0 v7)) h13) fun v15 h15 =>
  ob ((ld1 v15) h15) fun v16 h16 =>
  ob ((M.ofOpt (bin Try.prog .eql 3 v16 x1)) h16) fun v17 h17 =>
  iteV v17 (
  ob ((M.ofOpt (fAddr 1 v7)) h17) fun v18 h18 =>
  ob ((ld1 v18) h18) fun v19 h19 =>
  ob ((bldSlice 3 1 1 [(.int .i64 0)] [(0, v19)]) h19) fun v20 h20 =>
  ob ((app 3 1 8 x5 v20) h20) fun v21 h21 =>
  ob ((M.ofOpt (bin Try.prog .add 3 x11 (.int .i64 1))) h21) fun v22 h22 =>
  k .normal [x0, x1, x2, x3, x4, v21, x6, v7, x8, x9, x10, v22, v4, v5, v6, v13, v9, v10, v11, v12, v13, v17, v15, v16, x1, v17, x5, v18, v19, v20, v21, x31, x32, x33, x34, x35, x36, x37, x38, x39, x40, v22, x42, x43, x44, x45] h22) (
  ob ((M.ofOpt (fAddr 1 v7)) h17) fun v23 h23 =>
  ob ((ld1 v23) h23) fun v24 h24 =>
  ob ((M.ofOpt (bin Try.prog .eql 3 v24 x1)) h24) fun v25 h25 =>
  iteV v25 (
  ob ((M.ofOpt (fAddr 0 v7)) h25) fun v26 h26 =>
  ob ((ld1 v26) h26) fun v27 h27 =>
  ob ((bldSlice 3 1 1 [(.int .i64 0)] [(0, v27)]) h27) fun v28 h28 =>
  ob ((app 3 1 8 x5 v28) h28) fun v29 h29 =>
  ob ((M.ofOpt (bin Try.prog .add 3 x11 (.int .i64 1))) h29) fun v30 h30 =>
  k .normal [x0, x1, x2, x3, x4, v29, x6, v7, x8, x9, x10, v30, v4, v5, v6, v13, v9, v10, v11, v12, v13, v17, v15, v16, x1, v17, x26, x27, x28, x29, x30, v25, v23, v24, x1, v25, x5, v26, v27, v28, v29, v30, x42, x43, x44, x45] h30) (
  ob ((M.ofOpt (bin Try.prog .add 3 x11 (.int .i64 1))) h25) fun v31 h31 =>
  k .normal [x0, x1, x2, x3, x4, x5, x6, v7, x8, x9, x10, v31, v4, v5, v6, v13, v9, v10, v11, v12, v13, v17, v15, v16, x1, v17, x26, x27, x28, x29, x30, v25, v23, v24, x1, v25, x36, x37, x38, x39, x40, v31, x42, x43, x44, x45] h31)))) (
  k (.exit 0) [x0, x1, x2, x3, x4, x5, x6, x7, x8, x9, x10, x11, v4, x13, x14, x15, x16, x17, x18, x19, x20, x21, x22, x23, x24, x25, x26, x27, x28, x29, x30, x31, x32, x33, x34, x35, x36, x37, x38, x39, x40, x41, x42, x43, x44, x45] h4)
theorem f22_b0_eq (O : Oracle) (L : Loops (Value × Heap)) (k : Ex → K (Value × Heap)) (x0 x1 x2 x3 x4 x5 x6 x7 x8 x9 x10 x11 x12 x13 x14 x15 x16 x17 x18 x19 x20 x21 x22 x23 x24 x25 x26 x27 x28 x29 x30 x31 x32 x33 x34 x35 x36 x37 x38 x39 x40 x41 x42 x43 x44 x45 : Value) (h : Heap) :
    runCode Try.prog O L f22_c0 k [x0, x1, x2, x3, x4, x5, x6, x7, x8, x9, x10, x11, x12, x13, x14, x15, x16, x17, x18, x19, x20, x21, x22, x23, x24, x25, x26, x27, x28, x29, x30, x31, x32, x33, x34, x35, x36, x37, x38, x39, x40, x41, x42, x43, x44, x45] h = f22_b0 O L k x0 x1 x2 x3 x4 x5 x6 x7 x8 x9 x10 x11 x12 x13 x14 x15 x16 x17 x18 x19 x20 x21 x22 x23 x24 x25 x26 x27 x28 x29 x30 x31 x32 x33 x34 x35 x36 x37 x38 x39 x40 x41 x42 x43 x44 x45 h := by kernel_rfl
noncomputable def f22 (O : Oracle) (L : Loops (Value × Heap)) (a0 a1 : Value) (h : Heap) : Option (Value × Heap) :=
  ob ((newB 27 (Value.cells a0).toList .fix) h) fun v0 h0 =>
  ob ((M.ofOpt (fAddr 1 v0)) h0) fun v1 h1 =>
  ob ((ld1 v1) h1) fun v2 h2 =>
  ob ((M.ofOpt (lenSl v2)) h2) fun v3 h3 =>
  L (runCode Try.prog O L f22_c0) (f22_k0 O L) [a0, a1, v0, undef, (.slice none 0 0), (.slice none 0 0), undef, undef, v1, v2, v3, (.int .i64 0), undef, undef, undef, undef, undef, undef, undef, undef, undef, undef, undef, undef, undef, undef, undef, undef, undef, undef, undef, undef, undef, undef, undef, undef, undef, undef, undef, undef, undef, undef, undef, undef, undef, undef] h3
theorem f22_eq (O : Oracle) (L : Loops (Value × Heap)) (a0 a1 : Value) (h : Heap) :
    body Try.prog O L 22 [a0, a1] h = f22 O L a0 a1 h := by kernel_rfl

/-! 32: shunter/plan.Check$1; slots: [(l, 0), (l, 2)] -/
noncomputable def f32 (O : Oracle) (L : Loops (Value × Heap)) (a0 a1 : Value) (h : Heap) : Option (Value × Heap) :=
  ob ((M.ofOpt (lenSl a0)) h) fun v0 h0 =>
  ob ((M.ofOpt (fAddr 0 a1)) h0) fun v1 h1 =>
  ob ((ld1 v1) h1) fun v2 h2 =>
  ob ((M.ofOpt (bin Try.prog .neq 3 v0 v2)) h2) fun v3 h3 =>
  some (oneOf [v3], h3)
theorem f32_eq (O : Oracle) (L : Loops (Value × Heap)) (a0 a1 : Value) (h : Heap) :
    body Try.prog O L 32 [a0, a1] h = f32 O L a0 a1 h := by kernel_rfl

/-! 33: shunter/plan.numbers; slots: [(p, 0), (p, 1)] -/
noncomputable def f33 (O : Oracle) (L : Loops (Value × Heap)) (a0 : Value) (h : Heap) : Option (Value × Heap) :=
  ob ((newB 27 (Value.cells a0).toList .fix) h) fun v0 h0 =>
  ob ((M.ofOpt (fAddr 0 v0)) h0) fun v1 h1 =>
  ob ((ld1 v1) h1) fun v2 h2 =>
  ob ((O (.func 37) [v2, (.int .i64 2), (.int .i64 6)]) h2) fun v3 h3 =>
  ob ((gd v3 true (M.ofOpt (fAddr 2 v0))) h3) fun v4 h4 =>
  ob ((gd v3 true (ld1 v4)) h4) fun v5 h5 =>
  ob ((gd v3 true (O (.func 37) [v5, (.int .i64 1), (.int .i64 3)])) h5) fun v6 h6 =>
  ob ((M.ofOpt (pick v3 v6 (.bool false))) h6) fun v7 h7 =>
  ob ((gd v7 true (M.ofOpt (fAddr 3 v0))) h7) fun v8 h8 =>
  ob ((gd v7 true (ld1 v8)) h8) fun v9 h9 =>
  ob ((gd v7 true (O (.func 37) [v9, (.int .i64 1), (.int .i64 8)])) h9) fun v10 h10 =>
  ob ((M.ofOpt (pick v7 v10 (.bool false))) h10) fun v11 h11 =>
  ob ((gd v11 true (M.ofOpt (fAddr 4 v0))) h11) fun v12 h12 =>
  ob ((gd v11 true (ld1 v12)) h12) fun v13 h13 =>
  ob ((gd v11 true (O (.func 37) [v13, (.int .i64 1), (.int .i64 8)])) h13) fun v14 h14 =>
  ob ((M.ofOpt (pick v11 v14 (.bool false))) h14) fun v15 h15 =>
  ob ((gd v15 true (M.ofOpt (fAddr 5 v0))) h15) fun v16 h16 =>
  ob ((gd v15 true (ld1 v16)) h16) fun v17 h17 =>
  ob ((gd v15 true (O (.func 37) [v17, (.int .i64 1), (.int .i64 4)])) h17) fun v18 h18 =>
  ob ((M.ofOpt (pick v15 v18 (.bool false))) h18) fun v19 h19 =>
  ob ((gd v19 true (M.ofOpt (fAddr 6 v0))) h19) fun v20 h20 =>
  ob ((gd v19 true (ld1 v20)) h20) fun v21 h21 =>
  ob ((gd v19 true (O (.func 37) [v21, (.int .i64 1), (.int .i64 8)])) h21) fun v22 h22 =>
  ob ((M.ofOpt (pick v19 v22 (.bool false))) h22) fun v23 h23 =>
  ob ((gd v23 true (M.ofOpt (fAddr 7 v0))) h23) fun v24 h24 =>
  ob ((gd v23 true (ld1 v24)) h24) fun v25 h25 =>
  ob ((gd v23 true (O (.func 37) [v25, (.int .i64 1), (.int .i64 64)])) h25) fun v26 h26 =>
  ob ((M.ofOpt (pick v23 v26 (.bool false))) h26) fun v27 h27 =>
  some (oneOf [v27], h27)
theorem f33_eq (O : Oracle) (L : Loops (Value × Heap)) (a0 : Value) (h : Heap) :
    body Try.prog O L 33 [a0] h = f33 O L a0 h := by kernel_rfl

/-! 34: shunter/plan.edges; slots: [(p, 0), (p, 1), (i, 3), (e, 4)] -/
noncomputable def f34_c0 : Code := sub [1, 0, 1, 0, 0] (fbody Try.prog 34)
noncomputable def f34_k0 (O : Oracle) (L : Loops (Value × Heap)) : Ex → K (Value × Heap) := (blockK 0 (seqK Try.prog O L (sub [1, 1] (fbody Try.prog 34)) (kRet Try.prog Try.f34)))
noncomputable def f34_e0_0 (O : Oracle) (L : Loops (Value × Heap)) (x0 x1 x2 x3 x4 x5 x6 x7 x8 x9 x10 x11 x12 x13 x14 x15 x16 x17 x18 x19 x20 x21 x22 x23 x24 x25 x26 x27 x28 x29 x30 x31 x32 x33 x34 x35 x36 x37 x38 x39 x40 x41 x42 : Value) (h : Heap) : Option (Value × Heap) :=
  ob ((M.ofOpt (fAddr 1 x1)) h) fun v32 h32 =>
  ob ((ld1 v32) h32) fun v33 h33 =>
  ob ((M.ofOpt (lenSl v33)) h33) fun v34 h34 =>
  ob ((M.ofOpt (bin Try.prog .leq 3 v34 (.int .i64 15))) h34) fun v35 h35 =>
  some (oneOf [v35], h35)
theorem f34_e0_0_eq (O : Oracle) (L : Loops (Value × Heap)) (x0 x1 x2 x3 x4 x5 x6 x7 x8 x9 x10 x11 x12 x13 x14 x15 x16 x17 x18 x19 x20 x21 x22 x23 x24 x25 x26 x27 x28 x29 x30 x31 x32 x33 x34 x35 x36 x37 x38 x39 x40 x41 x42 : Value) (h : Heap) :
    f34_k0 O L (.exit 0) [x0, x1, x2, x3, x4, x5, x6, x7, x8, x9, x10, x11, x12, x13, x14, x15, x16, x17, x18, x19, x20, x21, x22, x23, x24, x25, x26, x27, x28, x29, x30, x31, x32, x33, x34, x35, x36, x37, x38, x39, x40, x41, x42] h = f34_e0_0 O L x0 x1 x2 x3 x4 x5 x6 x7 x8 x9 x10 x11 x12 x13 x14 x15 x16 x17 x18 x19 x20 x21 x22 x23 x24 x25 x26 x27 x28 x29 x30 x31 x32 x33 x34 x35 x36 x37 x38 x39 x40 x41 x42 h := by kernel_rfl
noncomputable def f34_r0 (O : Oracle) (L : Loops (Value × Heap)) (x0 x1 x2 x3 x4 x5 x6 x7 x8 x9 x10 x11 x12 x13 x14 x15 x16 x17 x18 x19 x20 x21 x22 x23 x24 x25 x26 x27 x28 x29 x30 x31 x32 x33 x34 x35 x36 x37 x38 x39 x40 x41 x42 : Value) (h : Heap) : Option (Value × Heap) :=
  some (oneOf [x2], h)
theorem f34_r0_eq (O : Oracle) (L : Loops (Value × Heap)) (x0 x1 x2 x3 x4 x5 x6 x7 x8 x9 x10 x11 x12 x13 x14 x15 x16 x17 x18 x19 x20 x21 x22 x23 x24 x25 x26 x27 x28 x29 x30 x31 x32 x33 x34 x35 x36 x37 x38 x39 x40 x41 x42 : Value) (h : Heap) :
    f34_k0 O L .ret [x0, x1, x2, x3, x4, x5, x6, x7, x8, x9, x10, x11, x12, x13, x14, x15, x16, x17, x18, x19, x20, x21, x22, x23, x24, x25, x26, x27, x28, x29, x30, x31, x32, x33, x34, x35, x36, x37, x38, x39, x40, x41, x42] h = f34_r0 O L x0 x1 x2 x3 x4 x5 x6 x7 x8 x9 x10 x11 x12 x13 x14 x15 x16 x17 x18 x19 x20 x21 x22 x23 x24 x25 x26 x27 x28 x29 x30 x31 x32 x33 x34 x35 x36 x37 x38 x39 x40 x41 x42 h := by kernel_rfl
noncomputable def f34_b0 (O : Oracle) (L : Loops (Value × Heap)) (k : Ex → K (Value × Heap)) (x0 x1 x2 x3 x4 x5 x6 x7 x8 x9 x10 x11 x12 x13 x14 x15 x16 x17 x18 x19 x20 x21 x22 x23 x24 x25 x26 x27 x28 x29 x30 x31 x32 x33 x34 x35 x36 x37 x38 x39 x40 x41 x42 : Value) (h : Heap) : Option (Value × Heap) :=
  ob ((M.ofOpt (bin Try.prog .lss 3 x8 x7)) h) fun v4 h4 =>
  iteV v4 (
  ob ((M.ofOpt (iAddr 2 x6 x8)) h4) fun v5 h5 =>
  ob ((ldN 2 v5) h5) fun v6 h6 =>
  ob ((newB 33 [(.int .i64 0), (.int .i64 0)] .fix) h6) fun v7 h7 =>
  ob ((stN 2 v7 v6) h7) fun v8 h8 =>
  ob ((M.ofOpt (fAddr 0 v7)) h8) fun v9 h9 =>
  ob ((ld1 v9) h9) fun v10 h10 =>
  ifB (true) (
  ob ((M.ofOpt (bin Try.prog .lss 3 v10 (.int .i64 0))) h10) fun v11 h11 =>
  ob ((gd v11 false (M.ofOpt (fAddr 0 v7))) h11) fun v12 h12 =>
  ob ((gd v11 false (ld1 v12)) h12) fun v13 h13 =>
  ifB (true) (
  ob ((gd v11 false (M.ofOpt (fAddr 1 v7))) h13) fun v14 h14 =>
  ob ((gd v11 false (ld1 v14)) h14) fun v15 h15 =>
  ifB (true) (
  ob ((gd v11 false (M.ofOpt (bin Try.prog .geq 3 v13 v15))) h15) fun v16 h16 =>
  ob ((M.ofOpt (pick v11 (.bool true) v16)) h16) fun v17 h17 =>
  ob ((gd v17 false (M.ofOpt (fAddr 1 v7))) h17) fun v18 h18 =>
  ob ((gd v17 false (ld1 v18)) h18) fun v19 h19 =>
  ifB (true) (
  ob ((gd v17 false (M.ofOpt (fAddr 0 x1))) h19) fun v20 h20 =>
  ob ((gd v17 false (ld1 v20)) h20) fun v21 h21 =>
  ifB (true) (
  ob ((gd v17 false (M.ofOpt (bin Try.prog .geq 3 v19 v21))) h21) fun v22 h22 =>
  ob ((M.ofOpt (pick v17 (.bool true) v22)) h22) fun v23 h23 =>
  ob ((gd v23 false (M.ofOpt (fAddr 1 x1))) h23) fun v24 h24 =>
  ob ((gd v23 false (ld1 v24)) h24) fun v25 h25 =>
  ifB (true) (
  ob ((gd v23 false (M.ret x8)) h25) fun v26 h26 =>
  ob ((gd v23 false (slc Try.prog 2 v25 none (some v26) none)) h26) fun v27 h27 =>
  ifB (true) (
  ob ((gd v23 false (ldN 2 v7)) h27) fun v28 h28 =>
  ifB (true) (
  ob ((gd v23 false (O (.func 55) [v27, v28])) h28) fun v29 h29 =>
  ifB (true) (
  ob ((M.ofOpt (pick v23 (.bool true) v29)) h29) fun v30 h30 =>
  iteV v30 (
  k .ret [x0, x1, (.bool false), x8, v7, x5, x6, x7, x8, v4, x8, v5, v6, v9, v10, v11, v11, v12, v13, v14, v15, v16, v17, v17, v18, v19, v20, v21, v22, v23, v23, v24, v25, v26, v27, v28, v29, v30, x38, x39, x40, x41, x42] h30) (
  ob ((M.ofOpt (bin Try.prog .add 3 x8 (.int .i64 1))) h30) fun v31 h31 =>
  k .normal [x0, x1, x2, x8, v7, x5, x6, x7, v31, v4, x8, v5, v6, v9, v10, v11, v11, v12, v13, v14, v15, v16, v17, v17, v18, v19, v20, v21, v22, v23, v23, v24, v25, v26, v27, v28, v29, v30, v31, x39, x40, x41, x42] h31))))))))))) (
  k (.exit 0) [x0, x1, x2, x3, x4, x5, x6, x7, x8, v4, x10, x11, x12, x13, x14, x15, x16, x17, x18, x19, x20, x21, x22, x23, x24, x25, x26, x27, x28, x29, x30, x31, x32, x33, x34, x35, x36, x37, x38, x39, x40, x41, x42] h4)
theorem f34_b0_eq (O : Oracle) (L : Loops (Value × Heap)) (k : Ex → K (Value × Heap)) (x0 x1 x2 x3 x4 x5 x6 x7 x8 x9 x10 x11 x12 x13 x14 x15 x16 x17 x18 x19 x20 x21 x22 x23 x24 x25 x26 x27 x28 x29 x30 x31 x32 x33 x34 x35 x36 x37 x38 x39 x40 x41 x42 : Value) (h : Heap) :
    runCode Try.prog O L f34_c0 k [x0, x1, x2, x3, x4, x5, x6, x7, x8, x9, x10, x11, x12, x13, x14, x15, x16, x17, x18, x19, x20, x21, x22, x23, x24, x25, x26, x27, x28, x29, x30, x31, x32, x33, x34, x35, x36, x37, x38, x39, x40, x41, x42] h = f34_b0 O L k x0 x1 x2 x3 x4 x5 x6 x7 x8 x9 x10 x11 x12 x13 x14 x15 x16 x17 x18 x19 x20 x21 x22 x23 x24 x25 x26 x27 x28 x29 x30 x31 x32 x33 x34 x35 x36 x37 x38 x39 x40 x41 x42 h := by kernel_rfl
noncomputable def f34 (O : Oracle) (L : Loops (Value × Heap)) (a0 : Value) (h : Heap) : Option (Value × Heap) :=
  ob ((newB 27 (Value.cells a0).toList .fix) h) fun v0 h0 =>
  ob ((M.ofOpt (fAddr 1 v0)) h0) fun v1 h1 =>
  ob ((ld1 v1) h1) fun v2 h2 =>
  ob ((M.ofOpt (lenSl v2)) h2) fun v3 h3 =>
  L (runCode Try.prog O L f34_c0) (f34_k0 O L) [a0, v0, (.bool false), undef, undef, v1, v2, v3, (.int .i64 0), undef, undef, undef, undef, undef, undef, undef, undef, undef, undef, undef, undef, undef, undef, undef, undef, undef, undef, undef, undef, undef, undef, undef, undef, undef, undef, undef, undef, undef, undef, undef, undef, undef, undef] h3
theorem f34_eq (O : Oracle) (L : Loops (Value × Heap)) (a0 : Value) (h : Heap) :
    body Try.prog O L 34 [a0] h = f34 O L a0 h := by kernel_rfl

/-! 35: shunter/wrr.New; slots: [(weights, 0), (weights, 1), (odd, 3)] -/
noncomputable def f35 (O : Oracle) (L : Loops (Value × Heap)) (a0 : Value) (h : Heap) : Option (Value × Heap) :=
  ob ((M.ofOpt (lenSl a0)) h) fun v0 h0 =>
  ob ((M.ofOpt (bin Try.prog .eql 3 v0 (.int .i64 0))) h0) fun v1 h1 =>
  ob ((gd v1 false (M.ret a0)) h1) fun v2 h2 =>
  ob ((gd v1 false (M.ofOpt (lenSl v2))) h2) fun v3 h3 =>
  ob ((gd v1 false (M.ofOpt (bin Try.prog .gtr 3 v3 (.int .i64 3)))) h3) fun v4 h4 =>
  ob ((M.ofOpt (pick v1 (.bool true) v4)) h4) fun v5 h5 =>
  ob ((gd v5 false (M.ret a0)) h5) fun v6 h6 =>
  ob ((gd v5 false (M.ret (.func (.func 56) #[] #[]))) h6) fun v7 h7 =>
  ob ((gd v5 false (O (.func 57) [v6, v7])) h7) fun v8 h8 =>
  ob ((M.ofOpt (pick v5 (.bool true) v8)) h8) fun v9 h9 =>
  iteV v9 (
  some (oneOf [(.pointer none)], h9)) (
  ob ((O (.func 58) [a0]) h9) fun v10 h10 =>
  ob ((O (.func 58) [a0]) h10) fun v11 h11 =>
  ob ((M.ofOpt (bld Try.prog 79 [(0, v10), (1, v11)])) h11) fun v12 h12 =>
  ob ((newB 79 (Value.cells v12).toList .fix) h12) fun v13 h13 =>
  some (oneOf [v13], h13))
theorem f35_eq (O : Oracle) (L : Loops (Value × Heap)) (a0 : Value) (h : Heap) :
    body Try.prog O L 35 [a0] h = f35 O L a0 h := by kernel_rfl

/-! 36: slices.ContainsFunc[[][]int,[]int]; slots: [(s, 0), (f, 1), (s, 2), (f, 3)] -/
noncomputable def f36 (O : Oracle) (L : Loops (Value × Heap)) (a0 a1 : Value) (h : Heap) : Option (Value × Heap) :=
  ob ((O (.func 59) [a0, a1]) h) fun v0 h0 =>
  ob ((M.ofOpt (bin Try.prog .geq 3 v0 (.int .i64 0))) h0) fun v1 h1 =>
  some (oneOf [v1], h1)
theorem f36_eq (O : Oracle) (L : Loops (Value × Heap)) (a0 a1 : Value) (h : Heap) :
    body Try.prog O L 36 [a0, a1] h = f36 O L a0 a1 h := by kernel_rfl

/-! 37: shunter/plan.within[int]; slots: [(x, 0), (low, 1), (high, 2), (x, 3), (low, 4), (high, 5)] -/
noncomputable def f37 (O : Oracle) (L : Loops (Value × Heap)) (a0 a1 a2 : Value) (h : Heap) : Option (Value × Heap) :=
  ob ((M.ofOpt (bin Try.prog .geq 3 a0 a1)) h) fun v0 h0 =>
  ob ((gd v0 true (M.ret a0)) h0) fun v1 h1 =>
  ob ((gd v0 true (M.ret a2)) h1) fun v2 h2 =>
  ob ((gd v0 true (M.ofOpt (bin Try.prog .leq 3 v1 v2))) h2) fun v3 h3 =>
  ob ((M.ofOpt (pick v0 v3 (.bool false))) h3) fun v4 h4 =>
  some (oneOf [v4], h4)
theorem f37_eq (O : Oracle) (L : Loops (Value × Heap)) (a0 a1 a2 : Value) (h : Heap) :
    body Try.prog O L 37 [a0, a1, a2] h = f37 O L a0 a1 a2 h := by kernel_rfl

/-! 38: slices.Index[[]int,int]; slots: [(s, 0), (v, 1), (s, 2), (v, 3), (i, 5)] -/
noncomputable def f38_c0 : Code := sub [1, 0, 1, 0, 0] (fbody Try.prog 38)
noncomputable def f38_k0 (O : Oracle) (L : Loops (Value × Heap)) : Ex → K (Value × Heap) := (blockK 0 (seqK Try.prog O L (sub [1, 1] (fbody Try.prog 38)) (kRet Try.prog Try.f38)))
noncomputable def f38_e0_0 (O : Oracle) (L : Loops (Value × Heap)) (x0 x1 x2 x3 x4 x5 x6 x7 x8 x9 x10 x11 x12 x13 x14 x15 x16 x17 x18 : Value) (h : Heap) : Option (Value × Heap) :=
  some (oneOf [(.int .i64 (-1))], h)
theorem f38_e0_0_eq (O : Oracle) (L : Loops (Value × Heap)) (x0 x1 x2 x3 x4 x5 x6 x7 x8 x9 x10 x11 x12 x13 x14 x15 x16 x17 x18 : Value) (h : Heap) :
    f38_k0 O L (.exit 0) [x0, x1, x2, x3, x4, x5, x6, x7, x8, x9, x10, x11, x12, x13, x14, x15, x16, x17, x18] h = f38_e0_0 O L x0 x1 x2 x3 x4 x5 x6 x7 x8 x9 x10 x11 x12 x13 x14 x15 x16 x17 x18 h := by kernel_rfl
noncomputable def f38_r0 (O : Oracle) (L : Loops (Value × Heap)) (x0 x1 x2 x3 x4 x5 x6 x7 x8 x9 x10 x11 x12 x13 x14 x15 x16 x17 x18 : Value) (h : Heap) : Option (Value × Heap) :=
  some (oneOf [x4], h)
theorem f38_r0_eq (O : Oracle) (L : Loops (Value × Heap)) (x0 x1 x2 x3 x4 x5 x6 x7 x8 x9 x10 x11 x12 x13 x14 x15 x16 x17 x18 : Value) (h : Heap) :
    f38_k0 O L .ret [x0, x1, x2, x3, x4, x5, x6, x7, x8, x9, x10, x11, x12, x13, x14, x15, x16, x17, x18] h = f38_r0 O L x0 x1 x2 x3 x4 x5 x6 x7 x8 x9 x10 x11 x12 x13 x14 x15 x16 x17 x18 h := by kernel_rfl
noncomputable def f38_b0 (O : Oracle) (L : Loops (Value × Heap)) (k : Ex → K (Value × Heap)) (x0 x1 x2 x3 x4 x5 x6 x7 x8 x9 x10 x11 x12 x13 x14 x15 x16 x17 x18 : Value) (h : Heap) : Option (Value × Heap) :=
  ob ((M.ofOpt (bin Try.prog .lss 3 x8 x7)) h) fun v1 h1 =>
  iteV v1 (
  ob ((M.ofOpt (iAddr 1 x0 x8)) h1) fun v2 h2 =>
  ob ((ld1 v2) h2) fun v3 h3 =>
  ob ((M.ofOpt (bin Try.prog .eql 3 x1 v3)) h3) fun v4 h4 =>
  iteV v4 (
  k .ret [x0, x1, x2, x3, x8, x8, x6, x7, x8, v1, x8, x1, x0, x8, v2, v3, v4, x8, x18] h4) (
  ob ((M.ofOpt (bin Try.prog .add 3 x8 (.int .i64 1))) h4) fun v5 h5 =>
  k .normal [x0, x1, x2, x3, x4, x8, x6, x7, v5, v1, x8, x1, x0, x8, v2, v3, v4, x17, v5] h5)) (
  k (.exit 0) [x0, x1, x2, x3, x4, x5, x6, x7, x8, v1, x10, x11, x12, x13, x14, x15, x16, x17, x18] h1)
theorem f38_b0_eq (O : Oracle) (L : Loops (Value × Heap)) (k : Ex → K (Value × Heap)) (x0 x1 x2 x3 x4 x5 x6 x7 x8 x9 x10 x11 x12 x13 x14 x15 x16 x17 x18 : Value) (h : Heap) :
    runCode Try.prog O L f38_c0 k [x0, x1, x2, x3, x4, x5, x6, x7, x8, x9, x10, x11, x12, x13, x14, x15, x16, x17, x18] h = f38_b0 O L k x0 x1 x2 x3 x4 x5 x6 x7 x8 x9 x10 x11 x12 x13 x14 x15 x16 x17 x18 h := by kernel_rfl
noncomputable def f38 (O : Oracle) (L : Loops (Value × Heap)) (a0 a1 : Value) (h : Heap) : Option (Value × Heap) :=
  ob ((M.ofOpt (lenSl a0)) h) fun v0 h0 =>
  L (runCode Try.prog O L f38_c0) (f38_k0 O L) [a0, a1, undef, undef, (.int .i64 0), undef, a0, v0, (.int .i64 0), undef, undef, undef, undef, undef, undef, undef, undef, undef, undef] h0
theorem f38_eq (O : Oracle) (L : Loops (Value × Heap)) (a0 a1 : Value) (h : Heap) :
    body Try.prog O L 38 [a0, a1] h = f38 O L a0 a1 h := by kernel_rfl

/-! 39: shunter/shunterref12.Hops; slots: [(p, 0), (p, 1), (out, 3), (v, 4), (l, 5), (i, 6)] -/
noncomputable def f39_c1 : Code := sub [1, 1, 0, 1, 0, 0, 1, 0, 0, 1, 1, 0, 0] (fbody Try.prog 39)
noncomputable def f39_k1 (O : Oracle) (L : Loops (Value × Heap)) (k : Ex → K (Value × Heap)) : Ex → K (Value × Heap) := (blockK 2 (blockK 1 (seqK Try.prog O L (sub [1, 1, 0, 1, 0, 0, 1, 1] (fbody Try.prog 39)) k)))
noncomputable def f39_e1_2 (O : Oracle) (L : Loops (Value × Heap)) (k : Ex → K (Value × Heap)) (x0 x1 x2 x3 x4 x5 x6 x7 x8 x9 x10 x11 x12 x13 x14 x15 x16 x17 x18 x19 x20 x21 x22 x23 x24 x25 x26 x27 x28 x29 x30 x31 x32 x33 x34 x35 x36 x37 x38 x39 x40 x41 x42 x43 x44 x45 x46 x47 : Value) (h : Heap) : Option (Value × Heap) :=
  ob ((M.ofOpt (bin Try.prog .add 3 x4 (.int .i64 1))) h) fun v27 h27 =>
  k .normal [x0, x1, x2, x3, v27, x5, x6, x7, x8, x9, x10, x11, x12, x13, x14, x4, v27, x17, x18, x19, x20, x21, x22, x23, x24, x25, x26, x27, x28, x29, x30, x31, x32, x33, x34, x35, x36, x37, x38, x39, x40, x41, x42, x43, x44, x45, x46, x47] h27
theorem f39_e1_2_eq (O : Oracle) (L : Loops (Value × Heap)) (k : Ex → K (Value × Heap)) (x0 x1 x2 x3 x4 x5 x6 x7 x8 x9 x10 x11 x12 x13 x14 x15 x16 x17 x18 x19 x20 x21 x22 x23 x24 x25 x26 x27 x28 x29 x30 x31 x32 x33 x34 x35 x36 x37 x38 x39 x40 x41 x42 x43 x44 x45 x46 x47 : Value) (h : Heap) :
    f39_k1 O L k (.exit 2) [x0, x1, x2, x3, x4, x5, x6, x7, x8, x9, x10, x11, x12, x13, x14, x15, x16, x17, x18, x19, x20, x21, x22, x23, x24, x25, x26, x27, x28, x29, x30, x31, x32, x33, x34, x35, x36, x37, x38, x39, x40, x41, x42, x43, x44, x45, x46, x47] h = f39_e1_2 O L k x0 x1 x2 x3 x4 x5 x6 x7 x8 x9 x10 x11 x12 x13 x14 x15 x16 x17 x18 x19 x20 x21 x22 x23 x24 x25 x26 x27 x28 x29 x30 x31 x32 x33 x34 x35 x36 x37 x38 x39 x40 x41 x42 x43 x44 x45 x46 x47 h := by kernel_rfl
noncomputable def f39_b1 (O : Oracle) (L : Loops (Value × Heap)) (k : Ex → K (Value × Heap)) (x0 x1 x2 x3 x4 x5 x6 x7 x8 x9 x10 x11 x12 x13 x14 x15 x16 x17 x18 x19 x20 x21 x22 x23 x24 x25 x26 x27 x28 x29 x30 x31 x32 x33 x34 x35 x36 x37 x38 x39 x40 x41 x42 x43 x44 x45 x46 x47 : Value) (h : Heap) : Option (Value × Heap) :=
  ob ((M.ofOpt (lenSl x5)) h) fun v9 h9 =>
  ob ((M.ofOpt (bin Try.prog .lss 3 x6 v9)) h9) fun v10 h10 =>
  iteV v10 (
  ob ((M.ofOpt (iAddr 1 x5 x6)) h10) fun v11 h11 =>
  ob ((ld1 v11) h11) fun v12 h12 =>
  ob ((M.ofOpt (bin Try.prog .geq 3 v12 (.int .i64 0))) h12) fun v13 h13 =>
  ob ((gd v13 true (M.ret x5)) h13) fun v14 h14 =>
  ob ((gd v13 true (M.ret x6)) h14) fun v15 h15 =>
  ob ((gd v13 true (M.ofOpt (iAddr 1 v14 v15))) h15) fun v16 h16 =>
  ob ((gd v13 true (ld1 v16)) h16) fun v17 h17 =>
  ob ((gd v13 true (M.ofOpt (bin Try.prog .lss 3 v17 (.int .i64 6)))) h17) fun v18 h18 =>
  ob ((M.ofOpt (pick v13 v18 (.bool false))) h18) fun v19 h19 =>
  iteV v19 (
  ob ((M.ofOpt (iAddr 1 x5 x6)) h19) fun v20 h20 =>
  ob ((ld1 v20) h20) fun v21 h21 =>
  ob ((M.ofOpt (bld Try.prog 38 [(0, x4), (1, v21)])) h21) fun v22 h22 =>
  ob ((bldSlice 38 2 1 [(.int .i64 0), (.int .i64 0)] [(0, v22)]) h22) fun v23 h23 =>
  ob ((app 38 2 16 x3 v23) h23) fun v24 h24 =>
  ob ((M.ofOpt (bin Try.prog .add 3 x6 (.int .i64 1))) h24) fun v25 h25 =>
  k .normal [x0, x1, x2, v24, x4, x5, v25, x7, x8, x9, x10, x11, x12, x13, x14, x15, x16, x17, x18, x19, x6, x5, v9, v10, x6, v25, x5, x6, v11, v12, v13, v13, v14, v15, v16, v17, v18, v19, x3, x4, x5, x6, v20, v21, v22, v23, v24, x47] h25) (
  ob ((M.ofOpt (bin Try.prog .add 3 x6 (.int .i64 1))) h19) fun v26 h26 =>
  k .normal [x0, x1, x2, x3, x4, x5, v26, x7, x8, x9, x10, x11, x12, x13, x14, x15, x16, x17, x18, x19, x6, x5, v9, v10, x6, v26, x5, x6, v11, v12, v13, v13, v14, v15, v16, v17, v18, v19, x38, x39, x40, x41, x42, x43, x44, x45, x46, x47] h26)) (
  k (.exit 2) [x0, x1, x2, x3, x4, x5, x6, x7, x8, x9, x10, x11, x12, x13, x14, x15, x16, x17, x18, x19, x6, x5, v9, v10, x24, x25, x26, x27, x28, x29, x30, x31, x32, x33, x34, x35, x36, x37, x38, x39, x40, x41, x42, x43, x44, x45, x46, x47] h10)
theorem f39_b1_eq (O : Oracle) (L : Loops (Value × Heap)) (k : Ex → K (Value × Heap)) (x0 x1 x2 x3 x4 x5 x6 x7 x8 x9 x10 x11 x12 x13 x14 x15 x16 x17 x18 x19 x20 x21 x22 x23 x24 x25 x26 x27 x28 x29 x30 x31 x32 x33 x34 x35 x36 x37 x38 x39 x40 x41 x42 x43 x44 x45 x46 x47 : Value) (h : Heap) :
    runCode Try.prog O L f39_c1 k [x0, x1, x2, x3, x4, x5, x6, x7, x8, x9, x10, x11, x12, x13, x14, x15, x16, x17, x18, x19, x20, x21, x22, x23, x24, x25, x26, x27, x28, x29, x30, x31, x32, x33, x34, x35, x36, x37, x38, x39, x40, x41, x42, x43, x44, x45, x46, x47] h = f39_b1 O L k x0 x1 x2 x3 x4 x5 x6 x7 x8 x9 x10 x11 x12 x13 x14 x15 x16 x17 x18 x19 x20 x21 x22 x23 x24 x25 x26 x27 x28 x29 x30 x31 x32 x33 x34 x35 x36 x37 x38 x39 x40 x41 x42 x43 x44 x45 x46 x47 h := by kernel_rfl
noncomputable def f39_c0 : Code := sub [1, 1, 0, 1, 0, 0] (fbody Try.prog 39)
noncomputable def f39_k0 (O : Oracle) (L : Loops (Value × Heap)) : Ex → K (Value × Heap) := (blockK 0 (seqK Try.prog O L (sub [1, 1, 1] (fbody Try.prog 39)) (kRet Try.prog Try.f39)))
noncomputable def f39_e0_0 (O : Oracle) (L : Loops (Value × Heap)) (x0 x1 x2 x3 x4 x5 x6 x7 x8 x9 x10 x11 x12 x13 x14 x15 x16 x17 x18 x19 x20 x21 x22 x23 x24 x25 x26 x27 x28 x29 x30 x31 x32 x33 x34 x35 x36 x37 x38 x39 x40 x41 x42 x43 x44 x45 x46 x47 : Value) (h : Heap) : Option (Value × Heap) :=
  some (oneOf [x3], h)
theorem f39_e0_0_eq (O : Oracle) (L : Loops (Value × Heap)) (x0 x1 x2 x3 x4 x5 x6 x7 x8 x9 x10 x11 x12 x13 x14 x15 x16 x17 x18 x19 x20 x21 x22 x23 x24 x25 x26 x27 x28 x29 x30 x31 x32 x33 x34 x35 x36 x37 x38 x39 x40 x41 x42 x43 x44 x45 x46 x47 : Value) (h : Heap) :
    f39_k0 O L (.exit 0) [x0, x1, x2, x3, x4, x5, x6, x7, x8, x9, x10, x11, x12, x13, x14, x15, x16, x17, x18, x19, x20, x21, x22, x23, x24, x25, x26, x27, x28, x29, x30, x31, x32, x33, x34, x35, x36, x37, x38, x39, x40, x41, x42, x43, x44, x45, x46, x47] h = f39_e0_0 O L x0 x1 x2 x3 x4 x5 x6 x7 x8 x9 x10 x11 x12 x13 x14 x15 x16 x17 x18 x19 x20 x21 x22 x23 x24 x25 x26 x27 x28 x29 x30 x31 x32 x33 x34 x35 x36 x37 x38 x39 x40 x41 x42 x43 x44 x45 x46 x47 h := by kernel_rfl
noncomputable def f39_b0 (O : Oracle) (L : Loops (Value × Heap)) (k : Ex → K (Value × Heap)) (x0 x1 x2 x3 x4 x5 x6 x7 x8 x9 x10 x11 x12 x13 x14 x15 x16 x17 x18 x19 x20 x21 x22 x23 x24 x25 x26 x27 x28 x29 x30 x31 x32 x33 x34 x35 x36 x37 x38 x39 x40 x41 x42 x43 x44 x45 x46 x47 : Value) (h : Heap) : Option (Value × Heap) :=
  ob ((M.ofOpt (fAddr 0 x1)) h) fun v1 h1 =>
  ob ((ld1 v1) h1) fun v2 h2 =>
  ob ((M.ofOpt (bin Try.prog .lss 3 x4 v2)) h2) fun v3 h3 =>
  ob ((gd v3 true (M.ret x4)) h3) fun v4 h4 =>
  ob ((gd v3 true (M.ofOpt (bin Try.prog .lss 3 v4 (.int .i64 6)))) h4) fun v5 h5 =>
  ob ((M.ofOpt (pick v3 v5 (.bool false))) h5) fun v6 h6 =>
  iteV v6 (
  ob ((ldN 11 x1) h6) fun v7 h7 =>
  ob ((O (.func 42) [v7, x4]) h7) fun v8 h8 =>
  L (runCode Try.prog O L f39_c1) (f39_k1 O L k) [x0, x1, x2, x3, x4, v8, (.int .i64 0), x4, v1, v2, v3, v3, v4, v5, v6, x15, x16, v7, x4, v8, x20, x21, x22, x23, x24, x25, x26, x27, x28, x29, x30, x31, x32, x33, x34, x35, x36, x37, x38, x39, x40, x41, x42, x43, x44, x45, x46, x47] h8) (
  k (.exit 0) [x0, x1, x2, x3, x4, x5, x6, x4, v1, v2, v3, v3, v4, v5, v6, x15, x16, x17, x18, x19, x20, x21, x22, x23, x24, x25, x26, x27, x28, x29, x30, x31, x32, x33, x34, x35, x36, x37, x38, x39, x40, x41, x42, x43, x44, x45, x46, x47] h6)
theorem f39_b0_eq (O : Oracle) (L : Loops (Value × Heap)) (k : Ex → K (Value × Heap)) (x0 x1 x2 x3 x4 x5 x6 x7 x8 x9 x10 x11 x12 x13 x14 x15 x16 x17 x18 x19 x20 x21 x22 x23 x24 x25 x26 x27 x28 x29 x30 x31 x32 x33 x34 x35 x36 x37 x38 x39 x40 x41 x42 x43 x44 x45 x46 x47 : Value) (h : Heap) :
    runCode Try.prog O L f39_c0 k [x0, x1, x2, x3, x4, x5, x6, x7, x8, x9, x10, x11, x12, x13, x14, x15, x16, x17, x18, x19, x20, x21, x22, x23, x24, x25, x26, x27, x28, x29, x30, x31, x32, x33, x34, x35, x36, x37, x38, x39, x40, x41, x42, x43, x44, x45, x46, x47] h = f39_b0 O L k x0 x1 x2 x3 x4 x5 x6 x7 x8 x9 x10 x11 x12 x13 x14 x15 x16 x17 x18 x19 x20 x21 x22 x23 x24 x25 x26 x27 x28 x29 x30 x31 x32 x33 x34 x35 x36 x37 x38 x39 x40 x41 x42 x43 x44 x45 x46 x47 h := by kernel_rfl
noncomputable def f39 (O : Oracle) (L : Loops (Value × Heap)) (a0 : Value) (h : Heap) : Option (Value × Heap) :=
  ob ((newB 27 (Value.cells a0).toList .fix) h) fun v0 h0 =>
  L (runCode Try.prog O L f39_c0) (f39_k0 O L) [a0, v0, (.slice none 0 0), (.slice none 0 0), (.int .i64 0), undef, undef, undef, undef, undef, undef, undef, undef, undef, undef, undef, undef, undef, undef, undef, undef, undef, undef, undef, undef, undef, undef, undef, undef, undef, undef, undef, undef, undef, undef, undef, undef, undef, undef, undef, undef, undef, undef, undef, undef, undef, undef, undef] h0
theorem f39_eq (O : Oracle) (L : Loops (Value × Heap)) (a0 : Value) (h : Heap) :
    body Try.prog O L 39 [a0] h = f39 O L a0 h := by kernel_rfl

/-! 40: shunter/shunterref12.Check; slots: [(p, 0), (p, 1), (fine, 3), (i, 4)] -/
noncomputable def f40_c0 : Code := sub [1, 1, 1, 0, 1, 0, 0] (fbody Try.prog 40)
noncomputable def f40_k0 (O : Oracle) (L : Loops (Value × Heap)) : Ex → K (Value × Heap) := (blockK 0 (seqK Try.prog O L (sub [1, 1, 1, 1] (fbody Try.prog 40)) (kRet Try.prog Try.f40)))
noncomputable def f40_e0_0 (O : Oracle) (L : Loops (Value × Heap)) (x0 x1 x2 x3 x4 x5 x6 x7 x8 x9 x10 x11 x12 x13 x14 x15 x16 x17 x18 x19 x20 x21 x22 x23 x24 x25 x26 x27 x28 x29 x30 x31 x32 x33 x34 x35 x36 x37 x38 x39 x40 x41 x42 x43 x44 x45 x46 x47 x48 x49 x50 x51 x52 x53 x54 x55 x56 x57 x58 x59 x60 x61 x62 x63 x64 x65 x66 x67 x68 x69 x70 x71 x72 x73 x74 x75 x76 x77 x78 x79 x80 x81 x82 : Value) (h : Heap) : Option (Value × Heap) :=
  some (oneOf [(.int .i64 0)], h)
theorem f40_e0_0_eq (O : Oracle) (L : Loops (Value × Heap)) (x0 x1 x2 x3 x4 x5 x6 x7 x8 x9 x10 x11 x12 x13 x14 x15 x16 x17 x18 x19 x20 x21 x22 x23 x24 x25 x26 x27 x28 x29 x30 x31 x32 x33 x34 x35 x36 x37 x38 x39 x40 x41 x42 x43 x44 x45 x46 x47 x48 x49 x50 x51 x52 x53 x54 x55 x56 x57 x58 x59 x60 x61 x62 x63 x64 x65 x66 x67 x68 x69 x70 x71 x72 x73 x74 x75 x76 x77 x78 x79 x80 x81 x82 : Value) (h : Heap) :
    f40_k0 O L (.exit 0) [x0, x1, x2, x3, x4, x5, x6, x7, x8, x9, x10, x11, x12, x13, x14, x15, x16, x17, x18, x19, x20, x21, x22, x23, x24, x25, x26, x27, x28, x29, x30, x31, x32, x33, x34, x35, x36, x37, x38, x39, x40, x41, x42, x43, x44, x45, x46, x47, x48, x49, x50, x51, x52, x53, x54, x55, x56, x57, x58, x59, x60, x61, x62, x63, x64, x65, x66, x67, x68, x69, x70, x71, x72, x73, x74, x75, x76, x77, x78, x79, x80, x81, x82] h = f40_e0_0 O L x0 x1 x2 x3 x4 x5 x6 x7 x8 x9 x10 x11 x12 x13 x14 x15 x16 x17 x18 x19 x20 x21 x22 x23 x24 x25 x26 x27 x28 x29 x30 x31 x32 x33 x34 x35 x36 x37 x38 x39 x40 x41 x42 x43 x44 x45 x46 x47 x48 x49 x50 x51 x52 x53 x54 x55 x56 x57 x58 x59 x60 x61 x62 x63 x64 x65 x66 x67 x68 x69 x70 x71 x72 x73 x74 x75 x76 x77 x78 x79 x80 x81 x82 h := by kernel_rfl
noncomputable def f40_r0 (O : Oracle) (L : Loops (Value × Heap)) (x0 x1 x2 x3 x4 x5 x6 x7 x8 x9 x10 x11 x12 x13 x14 x15 x16 x17 x18 x19 x20 x21 x22 x23 x24 x25 x26 x27 x28 x29 x30 x31 x32 x33 x34 x35 x36 x37 x38 x39 x40 x41 x42 x43 x44 x45 x46 x47 x48 x49 x50 x51 x52 x53 x54 x55 x56 x57 x58 x59 x60 x61 x62 x63 x64 x65 x66 x67 x68 x69 x70 x71 x72 x73 x74 x75 x76 x77 x78 x79 x80 x81 x82 : Value) (h : Heap) : Option (Value × Heap) :=
  some (oneOf [x2], h)
theorem f40_r0_eq (O : Oracle) (L : Loops (Value × Heap)) (x0 x1 x2 x3 x4 x5 x6 x7 x8 x9 x10 x11 x12 x13 x14 x15 x16 x17 x18 x19 x20 x21 x22 x23 x24 x25 x26 x27 x28 x29 x30 x31 x32 x33 x34 x35 x36 x37 x38 x39 x40 x41 x42 x43 x44 x45 x46 x47 x48 x49 x50 x51 x52 x53 x54 x55 x56 x57 x58 x59 x60 x61 x62 x63 x64 x65 x66 x67 x68 x69 x70 x71 x72 x73 x74 x75 x76 x77 x78 x79 x80 x81 x82 : Value) (h : Heap) :
    f40_k0 O L .ret [x0, x1, x2, x3, x4, x5, x6, x7, x8, x9, x10, x11, x12, x13, x14, x15, x16, x17, x18, x19, x20, x21, x22, x23, x24, x25, x26, x27, x28, x29, x30, x31, x32, x33, x34, x35, x36, x37, x38, x39, x40, x41, x42, x43, x44, x45, x46, x47, x48, x49, x50, x51, x52, x53, x54, x55, x56, x57, x58, x59, x60, x61, x62, x63, x64, x65, x66, x67, x68, x69, x70, x71, x72, x73, x74, x75, x76, x77, x78, x79, x80, x81, x82] h = f40_r0 O L x0 x1 x2 x3 x4 x5 x6 x7 x8 x9 x10 x11 x12 x13 x14 x15 x16 x17 x18 x19 x20 x21 x22 x23 x24 x25 x26 x27 x28 x29 x30 x31 x32 x33 x34 x35 x36 x37 x38 x39 x40 x41 x42 x43 x44 x45 x46 x47 x48 x49 x50 x51 x52 x53 x54 x55 x56 x57 x58 x59 x60 x61 x62 x63 x64 x65 x66 x67 x68 x69 x70 x71 x72 x73 x74 x75 x76 x77 x78 x79 x80 x81 x82 h := by kernel_rfl
noncomputable def f40_b0 (O : Oracle) (L : Loops (Value × Heap)) (k : Ex → K (Value × Heap)) (x0 x1 x2 x3 x4 x5 x6 x7 x8 x9 x10 x11 x12 x13 x14 x15 x16 x17 x18 x19 x20 x21 x22 x23 x24 x25 x26 x27 x28 x29 x30 x31 x32 x33 x34 x35 x36 x37 x38 x39 x40 x41 x42 x43 x44 x45 x46 x47 x48 x49 x50 x51 x52 x53 x54 x55 x56 x57 x58 x59 x60 x61 x62 x63 x64 x65 x66 x67 x68 x69 x70 x71 x72 x73 x74 x75 x76 x77 x78 x79 x80 x81 x82 : Value) (h : Heap) : Option (Value × Heap) :=
  ob ((M.ofOpt (fAddr 10 x1)) h) fun v52 h52 =>
  ob ((ld1 v52) h52) fun v53 h53 =>
  ob ((M.ofOpt (lenSl v53)) h53) fun v54 h54 =>
  ob ((M.ofOpt (bin Try.prog .lss 3 x4 v54)) h54) fun v55 h55 =>
  iteV v55 (
  ob ((M.ofOpt (fAddr 10 x1)) h55) fun v56 h56 =>
  ob ((ld1 v56) h56) fun v57 h57 =>
  ifB (true) (
  ob ((M.ofOpt (iAddr 1 v57 x4)) h57) fun v58 h58 =>
  ob ((ld1 v58) h58) fun v59 h59 =>
  ifB (true) (
  ob ((M.ofOpt (lenSl v59)) h59) fun v60 h60 =>
  ob ((M.ofOpt (fAddr 0 x1)) h60) fun v61 h61 =>
  ob ((ld1 v61) h61) fun v62 h62 =>
  ifB (true) (
  ob ((M.ofOpt (bin Try.prog .neq 3 v60 v62)) h62) fun v63 h63 =>
  iteV v63 (
  k .ret [x0, x1, (.int .i64 120), x3, x4, x5, x6, x7, x8, x9, x10, x11, x12, x13, x14, x15, x16, x17, x18, x19, x20, x21, x22, x23, x24, x25, x26, x27, x28, x29, x30, x31, x32, x33, x34, x35, x36, x37, x38, x39, x40, x41, x42, x43, x44, x45, x46, x47, x48, x49, x50, x51, x52, x53, x54, x55, x56, x57, x58, x59, x60, x61, x62, x63, x64, x65, x66, x4, v52, v53, v54, v55, x72, x73, v56, v57, x4, v58, v59, v60, v61, v62, v63] h63) (
  ob ((M.ofOpt (bin Try.prog .add 3 x4 (.int .i64 1))) h63) fun v64 h64 =>
  k .normal [x0, x1, x2, x3, v64, x5, x6, x7, x8, x9, x10, x11, x12, x13, x14, x15, x16, x17, x18, x19, x20, x21, x22, x23, x24, x25, x26, x27, x28, x29, x30, x31, x32, x33, x34, x35, x36, x37, x38, x39, x40, x41, x42, x43, x44, x45, x46, x47, x48, x49, x50, x51, x52, x53, x54, x55, x56, x57, x58, x59, x60, x61, x62, x63, x64, x65, x66, x4, v52, v53, v54, v55, x4, v64, v56, v57, x4, v58, v59, v60, v61, v62, v63] h64))))) (
  k (.exit 0) [x0, x1, x2, x3, x4, x5, x6, x7, x8, x9, x10, x11, x12, x13, x14, x15, x16, x17, x18, x19, x20, x21, x22, x23, x24, x25, x26, x27, x28, x29, x30, x31, x32, x33, x34, x35, x36, x37, x38, x39, x40, x41, x42, x43, x44, x45, x46, x47, x48, x49, x50, x51, x52, x53, x54, x55, x56, x57, x58, x59, x60, x61, x62, x63, x64, x65, x66, x4, v52, v53, v54, v55, x72, x73, x74, x75, x76, x77, x78, x79, x80, x81, x82] h55)
theorem f40_b0_eq (O : Oracle) (L : Loops (Value × Heap)) (k : Ex → K (Value × Heap)) (x0 x1 x2 x3 x4 x5 x6 x7 x8 x9 x10 x11 x12 x13 x14 x15 x16 x17 x18 x19 x20 x21 x22 x23 x24 x25 x26 x27 x28 x29 x30 x31 x32 x33 x34 x35 x36 x37 x38 x39 x40 x41 x42 x43 x44 x45 x46 x47 x48 x49 x50 x51 x52 x53 x54 x55 x56 x57 x58 x59 x60 x61 x62 x63 x64 x65 x66 x67 x68 x69 x70 x71 x72 x73 x74 x75 x76 x77 x78 x79 x80 x81 x82 : Value) (h : Heap) :
    runCode Try.prog O L f40_c0 k [x0, x1, x2, x3, x4, x5, x6, x7, x8, x9, x10, x11, x12, x13, x14, x15, x16, x17, x18, x19, x20, x21, x22, x23, x24, x25, x26, x27, x28, x29, x30, x31, x32, x33, x34, x35, x36, x37, x38, x39, x40, x41, x42, x43, x44, x45, x46, x47, x48, x49, x50, x51, x52, x53, x54, x55, x56, x57, x58, x59, x60, x61, x62, x63, x64, x65, x66, x67, x68, x69, x70, x71, x72, x73, x74, x75, x76, x77, x78, x79, x80, x81, x82] h = f40_b0 O L k x0 x1 x2 x3 x4 x5 x6 x7 x8 x9 x10 x11 x12 x13 x14 x15 x16 x17 x18 x19 x20 x21 x22 x23 x24 x25 x26 x27 x28 x29 x30 x31 x32 x33 x34 x35 x36 x37 x38 x39 x40 x41 x42 x43 x44 x45 x46 x47 x48 x49 x50 x51 x52 x53 x54 x55 x56 x57 x58 x59 x60 x61 x62 x63 x64 x65 x66 x67 x68 x69 x70 x71 x72 x73 x74 x75 x76 x77 x78 x79 x80 x81 x82 h := by kernel_rfl
noncomputable def f40 (O : Oracle) (L : Loops (Value × Heap)) (a0 : Value) (h : Heap) : Option (Value × Heap) :=
  ob ((newB 27 (Value.cells a0).toList .fix) h) fun v0 h0 =>
  ob ((M.ofOpt (fAddr 0 v0)) h0) fun v1 h1 =>
  ob ((ld1 v1) h1) fun v2 h2 =>
  ob ((O (.func 60) [v2, (.int .i64 2), (.int .i64 6)]) h2) fun v3 h3 =>
  ob ((gd v3 true (M.ofOpt (fAddr 2 v0))) h3) fun v4 h4 =>
  ob ((gd v3 true (ld1 v4)) h4) fun v5 h5 =>
  ob ((gd v3 true (O (.func 60) [v5, (.int .i64 1), (.int .i64 3)])) h5) fun v6 h6 =>
  ob ((M.ofOpt (pick v3 v6 (.bool false))) h6) fun v7 h7 =>
  ob ((gd v7 true (M.ofOpt (fAddr 3 v0))) h7) fun v8 h8 =>
  ob ((gd v7 true (ld1 v8)) h8) fun v9 h9 =>
  ob ((gd v7 true (O (.func 60) [v9, (.int .i64 1), (.int .i64 8)])) h9) fun v10 h10 =>
  ob ((M.ofOpt (pick v7 v10 (.bool false))) h10) fun v11 h11 =>
  ob ((gd v11 true (M.ofOpt (fAddr 4 v0))) h11) fun v12 h12 =>
  ob ((gd v11 true (ld1 v12)) h12) fun v13 h13 =>
  ob ((gd v11 true (O (.func 60) [v13, (.int .i64 1), (.int .i64 8)])) h13) fun v14 h14 =>
  ob ((M.ofOpt (pick v11 v14 (.bool false))) h14) fun v15 h15 =>
  ob ((gd v15 true (M.ofOpt (fAddr 5 v0))) h15) fun v16 h16 =>
  ob ((gd v15 true (ld1 v16)) h16) fun v17 h17 =>
  ob ((gd v15 true (O (.func 60) [v17, (.int .i64 1), (.int .i64 4)])) h17) fun v18 h18 =>
  ob ((M.ofOpt (pick v15 v18 (.bool false))) h18) fun v19 h19 =>
  ob ((gd v19 true (M.ofOpt (fAddr 6 v0))) h19) fun v20 h20 =>
  ob ((gd v19 true (ld1 v20)) h20) fun v21 h21 =>
  ob ((gd v19 true (O (.func 60) [v21, (.int .i64 1), (.int .i64 8)])) h21) fun v22 h22 =>
  ob ((M.ofOpt (pick v19 v22 (.bool false))) h22) fun v23 h23 =>
  ob ((gd v23 true (M.ofOpt (fAddr 7 v0))) h23) fun v24 h24 =>
  ob ((gd v23 true (ld1 v24)) h24) fun v25 h25 =>
  ob ((gd v23 true (O (.func 60) [v25, (.int .i64 1), (.int .i64 64)])) h25) fun v26 h26 =>
  ob ((M.ofOpt (pick v23 v26 (.bool false))) h26) fun v27 h27 =>
  ob ((M.ofOpt (un Try.prog .not v27)) h27) fun v28 h28 =>
  ob ((gd v28 false (ldN 11 v0)) h28) fun v29 h29 =>
  ob ((gd v28 false (O (.func 61) [v29])) h29) fun v30 h30 =>
  ob ((gd v28 false (M.ofOpt (un Try.prog .not v30))) h30) fun v31 h31 =>
  ob ((M.ofOpt (pick v28 (.bool true) v31)) h31) fun v32 h32 =>
  ob ((gd v32 false (M.ofOpt (fAddr 8 v0))) h32) fun v33 h33 =>
  ob ((gd v32 false (ld1 v33)) h33) fun v34 h34 =>
  ob ((gd v32 false (M.ofOpt (lenSl v34))) h34) fun v35 h35 =>
  ob ((gd v32 false (M.ofOpt (fAddr 2 v0))) h35) fun v36 h36 =>
  ob ((gd v32 false (ld1 v36)) h36) fun v37 h37 =>
  ob ((gd v32 false (M.ofOpt (bin Try.prog .neq 3 v35 v37))) h37) fun v38 h38 =>
  ob ((M.ofOpt (pick v32 (.bool true) v38)) h38) fun v39 h39 =>
  ob ((gd v39 false (M.ofOpt (fAddr 8 v0))) h39) fun v40 h40 =>
  ob ((gd v39 false (ld1 v40)) h40) fun v41 h41 =>
  ob ((gd v39 false (O (.func 62) [v41])) h41) fun v42 h42 =>
  ob ((gd v39 false (M.ofOpt (bin Try.prog .eql 81 v42 (.pointer none)))) h42) fun v43 h43 =>
  ob ((M.ofOpt (pick v39 (.bool true) v43)) h43) fun v44 h44 =>
  ob ((gd v44 false (M.ofOpt (fAddr 10 v0))) h44) fun v45 h45 =>
  ob ((gd v44 false (ld1 v45)) h45) fun v46 h46 =>
  ob ((gd v44 false (M.ofOpt (lenSl v46))) h46) fun v47 h47 =>
  ob ((gd v44 false (M.ofOpt (fAddr 0 v0))) h47) fun v48 h48 =>
  ob ((gd v44 false (ld1 v48)) h48) fun v49 h49 =>
  ob ((gd v44 false (M.ofOpt (bin Try.prog .neq 3 v47 v49))) h49) fun v50 h50 =>
  ob ((M.ofOpt (pick v44 (.bool true) v50)) h50) fun v51 h51 =>
  iteV v51 (
  some (oneOf [(.int .i64 120)], h51)) (
  L (runCode Try.prog O L f40_c0) (f40_k0 O L) [a0, v0, (.int .i64 0), v27, (.int .i64 0), v1, v2, v3, v3, v4, v5, v6, v7, v7, v8, v9, v10, v11, v11, v12, v13, v14, v15, v15, v16, v17, v18, v19, v19, v20, v21, v22, v23, v23, v24, v25, v26, v27, v27, v28, v28, v29, v30, v31, v32, v32, v33, v34, v35, v36, v37, v38, v39, v39, v40, v41, v42, v43, v44, v44, v45, v46, v47, v48, v49, v50, v51, undef, undef, undef, undef, undef, undef, undef, undef, undef, undef, undef, undef, undef, undef, undef, undef] h51)
theorem f40_eq (O : Oracle) (L : Loops (Value × Heap)) (a0 : Value) (h : Heap) :
    body Try.prog O L 40 [a0] h = f40 O L a0 h := by kernel_rfl

/-! 41: shunter/shunterlaw12.same; slots: [(a, 0), (b, 1), (a, 2), (b, 3), (i, 5)] -/
noncomputable def f41_c0 : Code := sub [1, 1, 0, 1, 0, 0] (fbody Try.prog 41)
noncomputable def f41_k0 (O : Oracle) (L : Loops (Value × Heap)) : Ex → K (Value × Heap) := (blockK 0 (seqK Try.prog O L (sub [1, 1, 1] (fbody Try.prog 41)) (kRet Try.prog Try.f41)))
noncomputable def f41_e0_0 (O : Oracle) (L : Loops (Value × Heap)) (x0 x1 x2 x3 x4 x5 x6 x7 x8 x9 x10 x11 x12 x13 x14 x15 x16 x17 x18 x19 x20 x21 x22 x23 x24 x25 : Value) (h : Heap) : Option (Value × Heap) :=
  some (oneOf [(.bool true)], h)
theorem f41_e0_0_eq (O : Oracle) (L : Loops (Value × Heap)) (x0 x1 x2 x3 x4 x5 x6 x7 x8 x9 x10 x11 x12 x13 x14 x15 x16 x17 x18 x19 x20 x21 x22 x23 x24 x25 : Value) (h : Heap) :
    f41_k0 O L (.exit 0) [x0, x1, x2, x3, x4, x5, x6, x7, x8, x9, x10, x11, x12, x13, x14, x15, x16, x17, x18, x19, x20, x21, x22, x23, x24, x25] h = f41_e0_0 O L x0 x1 x2 x3 x4 x5 x6 x7 x8 x9 x10 x11 x12 x13 x14 x15 x16 x17 x18 x19 x20 x21 x22 x23 x24 x25 h := by kernel_rfl
noncomputable def f41_r0 (O : Oracle) (L : Loops (Value × Heap)) (x0 x1 x2 x3 x4 x5 x6 x7 x8 x9 x10 x11 x12 x13 x14 x15 x16 x17 x18 x19 x20 x21 x22 x23 x24 x25 : Value) (h : Heap) : Option (Value × Heap) :=
  some (oneOf [x4], h)
theorem f41_r0_eq (O : Oracle) (L : Loops (Value × Heap)) (x0 x1 x2 x3 x4 x5 x6 x7 x8 x9 x10 x11 x12 x13 x14 x15 x16 x17 x18 x19 x20 x21 x22 x23 x24 x25 : Value) (h : Heap) :
    f41_k0 O L .ret [x0, x1, x2, x3, x4, x5, x6, x7, x8, x9, x10, x11, x12, x13, x14, x15, x16, x17, x18, x19, x20, x21, x22, x23, x24, x25] h = f41_r0 O L x0 x1 x2 x3 x4 x5 x6 x7 x8 x9 x10 x11 x12 x13 x14 x15 x16 x17 x18 x19 x20 x21 x22 x23 x24 x25 h := by kernel_rfl
noncomputable def f41_b0 (O : Oracle) (L : Loops (Value × Heap)) (k : Ex → K (Value × Heap)) (x0 x1 x2 x3 x4 x5 x6 x7 x8 x9 x10 x11 x12 x13 x14 x15 x16 x17 x18 x19 x20 x21 x22 x23 x24 x25 : Value) (h : Heap) : Option (Value × Heap) :=
  ob ((M.ofOpt (lenSl x0)) h) fun v3 h3 =>
  ob ((M.ofOpt (bin Try.prog .lss 3 x5 v3)) h3) fun v4 h4 =>
  iteV v4 (
  ob ((M.ofOpt (iAddr 1 x0 x5)) h4) fun v5 h5 =>
  ob ((ld1 v5) h5) fun v6 h6 =>
  ifB (true) (
  ob ((M.ofOpt (iAddr 1 x1 x5)) h6) fun v7 h7 =>
  ob ((ld1 v7) h7) fun v8 h8 =>
  ifB (true) (
  ob ((M.ofOpt (bin Try.prog .neq 3 v6 v8)) h8) fun v9 h9 =>
  iteV v9 (
  k .ret [x0, x1, x2, x3, (.bool false), x5, x6, x7, x8, x9, x10, x5, x0, v3, v4, x15, x16, x0, x5, v5, v6, x1, x5, v7, v8, v9] h9) (
  ob ((M.ofOpt (bin Try.prog .add 3 x5 (.int .i64 1))) h9) fun v10 h10 =>
  k .normal [x0, x1, x2, x3, x4, v10, x6, x7, x8, x9, x10, x5, x0, v3, v4, x5, v10, x0, x5, v5, v6, x1, x5, v7, v8, v9] h10)))) (
  k (.exit 0) [x0, x1, x2, x3, x4, x5, x6, x7, x8, x9, x10, x5, x0, v3, v4, x15, x16, x17, x18, x19, x20, x21, x22, x23, x24, x25] h4)
theorem f41_b0_eq (O : Oracle) (L : Loops (Value × Heap)) (k : Ex → K (Value × Heap)) (x0 x1 x2 x3 x4 x5 x6 x7 x8 x9 x10 x11 x12 x13 x14 x15 x16 x17 x18 x19 x20 x21 x22 x23 x24 x25 : Value) (h : Heap) :
    runCode Try.prog O L f41_c0 k [x0, x1, x2, x3, x4, x5, x6, x7, x8, x9, x10, x11, x12, x13, x14, x15, x16, x17, x18, x19, x20, x21, x22, x23, x24, x25] h = f41_b0 O L k x0 x1 x2 x3 x4 x5 x6 x7 x8 x9 x10 x11 x12 x13 x14 x15 x16 x17 x18 x19 x20 x21 x22 x23 x24 x25 h := by kernel_rfl
noncomputable def f41 (O : Oracle) (L : Loops (Value × Heap)) (a0 a1 : Value) (h : Heap) : Option (Value × Heap) :=
  ob ((M.ofOpt (lenSl a0)) h) fun v0 h0 =>
  ob ((M.ofOpt (lenSl a1)) h0) fun v1 h1 =>
  ob ((M.ofOpt (bin Try.prog .neq 3 v0 v1)) h1) fun v2 h2 =>
  iteV v2 (
  some (oneOf [(.bool false)], h2)) (
  L (runCode Try.prog O L f41_c0) (f41_k0 O L) [a0, a1, undef, undef, (.bool false), (.int .i64 0), a0, v0, a1, v1, v2, undef, undef, undef, undef, undef, undef, undef, undef, undef, undef, undef, undef, undef, undef, undef] h2)
theorem f41_eq (O : Oracle) (L : Loops (Value × Heap)) (a0 a1 : Value) (h : Heap) :
    body Try.prog O L 41 [a0, a1] h = f41 O L a0 a1 h := by kernel_rfl

/-! 42: shunter/shunterref12.Beside; slots: [(p, 0), (v, 1), (p, 2), (v, 3), (out, 5), (i, 6), (e, 7)] -/
noncomputable def f42_c0 : Code := sub [1, 1, 0, 1, 0, 0] (fbody Try.prog 42)
noncomputable def f42_k0 (O : Oracle) (L : Loops (Value × Heap)) : Ex → K (Value × Heap) := (blockK 0 (seqK Try.prog O L (sub [1, 1, 1] (fbody Try.prog 42)) (kRet Try.prog Try.f42)))
noncomputable def f42_e0_0 (O : Oracle) (L : Loops (Value × Heap)) (x0 x1 x2 x3 x4 x5 x6 x7 x8 x9 x10 x11 x12 x13 x14 x15 x16 x17 x18 x19 x20 x21 x22 x23 x24 x25 x26 x27 x28 x29 x30 x31 x32 x33 x34 x35 x36 x37 x38 x39 x40 x41 x42 x43 x44 x45 x46 x47 x48 : Value) (h : Heap) : Option (Value × Heap) :=
  some (oneOf [x5], h)
theorem f42_e0_0_eq (O : Oracle) (L : Loops (Value × Heap)) (x0 x1 x2 x3 x4 x5 x6 x7 x8 x9 x10 x11 x12 x13 x14 x15 x16 x17 x18 x19 x20 x21 x22 x23 x24 x25 x26 x27 x28 x29 x30 x31 x32 x33 x34 x35 x36 x37 x38 x39 x40 x41 x42 x43 x44 x45 x46 x47 x48 : Value) (h : Heap) :
    f42_k0 O L (.exit 0) [x0, x1, x2, x3, x4, x5, x6, x7, x8, x9, x10, x11, x12, x13, x14, x15, x16, x17, x18, x19, x20, x21, x22, x23, x24, x25, x26, x27, x28, x29, x30, x31, x32, x33, x34, x35, x36, x37, x38, x39, x40, x41, x42, x43, x44, x45, x46, x47, x48] h = f42_e0_0 O L x0 x1 x2 x3 x4 x5 x6 x7 x8 x9 x10 x11 x12 x13 x14 x15 x16 x17 x18 x19 x20 x21 x22 x23 x24 x25 x26 x27 x28 x29 x30 x31 x32 x33 x34 x35 x36 x37 x38 x39 x40 x41 x42 x43 x44 x45 x46 x47 x48 h := by kernel_rfl
noncomputable def f42_b0 (O : Oracle) (L : Loops (Value × Heap)) (k : Ex → K (Value × Heap)) (x0 x1 x2 x3 x4 x5 x6 x7 x8 x9 x10 x11 x12 x13 x14 x15 x16 x17 x18 x19 x20 x21 x22 x23 x24 x25 x26 x27 x28 x29 x30 x31 x32 x33 x34 x35 x36 x37 x38 x39 x40 x41 x42 x43 x44 x45 x46 x47 x48 : Value) (h : Heap) : Option (Value × Heap) :=
  ob ((M.ofOpt (fAddr 1 x2)) h) fun v1 h1 =>
  ob ((ld1 v1) h1) fun v2 h2 =>
  ob ((M.ofOpt (lenSl v2)) h2) fun v3 h3 =>
  ob ((M.ofOpt (bin Try.prog .lss 3 x6 v3)) h3) fun v4 h4 =>
  iteV v4 (
  ob ((M.ofOpt (fAddr 1 x2)) h4) fun v5 h5 =>
  ob ((ld1 v5) h5) fun v6 h6 =>
  ob ((M.ofOpt (iAddr 2 v6 x6)) h6) fun v7 h7 =>
  ob ((ldN 2 v7) h7) fun v8 h8 =>
  ob ((newB 33 [(.int .i64 0), (.int .i64 0)] .fix) h8) fun v9 h9 =>
  ob ((stN 2 v9 v8) h9) fun v10 h10 =>
  ob ((M.ofOpt (fAddr 0 v9)) h10) fun v11 h11 =>
  ob ((ld1 v11) h11) fun v12 h12 =>
  ob ((M.ofOpt (bin Try.prog .eql 3 v12 x1)) h12) fun v13 h13 =>
  ob ((gd v13 true (M.ofOpt (fAddr 1 v9))) h13) fun v14 h14 =>
  ob ((gd v13 true (ld1 v14)) h14) fun v15 h15 =>
  ob ((gd v13 true (M.ret x1)) h15) fun v16 h16 =>
  ob ((gd v13 true (M.ofOpt (bin Try.prog .neq 3 v15 v16))) h16) fun v17 h17 =>
  ob ((M.ofOpt (pick v13 v17 (.bool false))) h17) fun v18 h18 =>
  iteV v18 (
  ob ((M.ofOpt (fAddr 1 v9)) h18) fun v19 h19 =>
  ob ((ld1 v19) h19) fun v20 h20 =>
  ob ((O (.func 63) [x5, v20]) h20) fun v21 h21 =>
  ob ((M.ofOpt (fAddr 1 v9)) h21) fun v22 h22 =>
  ob ((ld1 v22) h22) fun v23 h23 =>
  ob ((M.ofOpt (bin Try.prog .eql 3 v23 x1)) h23) fun v24 h24 =>
  ob ((gd v24 true (M.ofOpt (fAddr 0 v9))) h24) fun v25 h25 =>
  ob ((gd v24 true (ld1 v25)) h25) fun v26 h26 =>
  ob ((gd v24 true (M.ret x1)) h26) fun v27 h27 =>
  ob ((gd v24 true (M.ofOpt (bin Try.prog .neq 3 v26 v27))) h27) fun v28 h28 =>
  ob ((M.ofOpt (pick v24 v28 (.bool false))) h28) fun v29 h29 =>
  iteV v29 (
  ob ((M.ofOpt (fAddr 0 v9)) h29) fun v30 h30 =>
  ob ((ld1 v30) h30) fun v31 h31 =>
  ob ((O (.func 63) [v21, v31]) h31) fun v32 h32 =>
  ob ((M.ofOpt (bin Try.prog .add 3 x6 (.int .i64 1))) h32) fun v33 h33 =>
  k .normal [x0, x1, x2, x3, x4, v32, v33, v9, x6, v1, v2, v3, v4, x6, v33, v5, v6, x6, v7, v8, v11, v12, x1, v13, v13, v14, v15, v16, v17, v18, x5, v19, v20, v21, v22, v23, x1, v24, v24, v25, v26, v27, v28, v29, v21, v30, v31, v32, x48] h33) (
  ob ((M.ofOpt (bin Try.prog .add 3 x6 (.int .i64 1))) h29) fun v34 h34 =>
  k .normal [x0, x1, x2, x3, x4, v21, v34, v9, x6, v1, v2, v3, v4, x6, v34, v5, v6, x6, v7, v8, v11, v12, x1, v13, v13, v14, v15, v16, v17, v18, x5, v19, v20, v21, v22, v23, x1, v24, v24, v25, v26, v27, v28, v29, x44, x45, x46, x47, x48] h34)) (
  ob ((M.ofOpt (fAddr 1 v9)) h18) fun v35 h35 =>
  ob ((ld1 v35) h35) fun v36 h36 =>
  ob ((M.ofOpt (bin Try.prog .eql 3 v36 x1)) h36) fun v37 h37 =>
  ob ((gd v37 true (M.ofOpt (fAddr 0 v9))) h37) fun v38 h38 =>
  ob ((gd v37 true (ld1 v38)) h38) fun v39 h39 =>
  ob ((gd v37 true (M.ret x1)) h39) fun v40 h40 =>
  ob ((gd v37 true (M.ofOpt (bin Try.prog .neq 3 v39 v40))) h40) fun v41 h41 =>
  ob ((M.ofOpt (pick v37 v41 (.bool false))) h41) fun v42 h42 =>
  iteV v42 (
  ob ((M.ofOpt (fAddr 0 v9)) h42) fun v43 h43 =>
  ob ((ld1 v43) h43) fun v44 h44 =>
  ob ((O (.func 63) [x5, v44]) h44) fun v45 h45 =>
  ob ((M.ofOpt (bin Try.prog .add 3 x6 (.int .i64 1))) h45) fun v46 h46 =>
  k .normal [x0, x1, x2, x3, x4, v45, v46, v9, x6, v1, v2, v3, v4, x6, v46, v5, v6, x6, v7, v8, v11, v12, x1, v13, v13, v14, v15, v16, v17, v18, x30, x31, x32, x33, v35, v36, x1, v37, v37, v38, v39, v40, v41, v42, x5, v43, v44, v45, x48] h46) (
  ob ((M.ofOpt (bin Try.prog .add 3 x6 (.int .i64 1))) h42) fun v47 h47 =>
  k .normal [x0, x1, x2, x3, x4, x5, v47, v9, x6, v1, v2, v3, v4, x6, v47, v5, v6, x6, v7, v8, v11, v12, x1, v13, v13, v14, v15, v16, v17, v18, x30, x31, x32, x33, v35, v36, x1, v37, v37, v38, v39, v40, v41, v42, x44, x45, x46, x47, x48] h47))) (
  k (.exit 0) [x0, x1, x2, x3, x4, x5, x6, x7, x6, v1, v2, v3, v4, x13, x14, x15, x16, x17, x18, x19, x20, x21, x22, x23, x24, x25, x26, x27, x28, x29, x30, x31, x32, x33, x34, x35, x36, x37, x38, x39, x40, x41, x42, x43, x44, x45, x46, x47, x48] h4)
theorem f42_b0_eq (O : Oracle) (L : Loops (Value × Heap)) (k : Ex → K (Value × Heap)) (x0 x1 x2 x3 x4 x5 x6 x7 x8 x9 x10 x11 x12 x13 x14 x15 x16 x17 x18 x19 x20 x21 x22 x23 x24 x25 x26 x27 x28 x29 x30 x31 x32 x33 x34 x35 x36 x37 x38 x39 x40 x41 x42 x43 x44 x45 x46 x47 x48 : Value) (h : Heap) :
    runCode Try.prog O L f42_c0 k [x0, x1, x2, x3, x4, x5, x6, x7, x8, x9, x10, x11, x12, x13, x14, x15, x16, x17, x18, x19, x20, x21, x22, x23, x24, x25, x26, x27, x28, x29, x30, x31, x32, x33, x34, x35, x36, x37, x38, x39, x40, x41, x42, x43, x44, x45, x46, x47, x48] h = f42_b0 O L k x0 x1 x2 x3 x4 x5 x6 x7 x8 x9 x10 x11 x12 x13 x14 x15 x16 x17 x18 x19 x20 x21 x22 x23 x24 x25 x26 x27 x28 x29 x30 x31 x32 x33 x34 x35 x36 x37 x38 x39 x40 x41 x42 x43 x44 x45 x46 x47 x48 h := by kernel_rfl
noncomputable def f42 (O : Oracle) (L : Loops (Value × Heap)) (a0 a1 : Value) (h : Heap) : Option (Value × Heap) :=
  ob ((newB 27 (Value.cells a0).toList .fix) h) fun v0 h0 =>
  L (runCode Try.prog O L f42_c0) (f42_k0 O L) [a0, a1, v0, undef, (.slice none 0 0), (.slice none 0 0), (.int .i64 0), undef, undef, undef, undef, undef, undef, undef, undef, undef, undef, undef, undef, undef, undef, undef, undef, undef, undef, undef, undef, undef, undef, undef, undef, undef, undef, undef, undef, undef, undef, undef, undef, undef, undef, undef, undef, undef, undef, undef, undef, undef, undef] h0
theorem f42_eq (O : Oracle) (L : Loops (Value × Heap)) (a0 a1 : Value) (h : Heap) :
    body Try.prog O L 42 [a0, a1] h = f42 O L a0 a1 h := by kernel_rfl

/-! 43: shunter/shunterref12.Port; slots: [(p, 0), (v, 1), (w, 2), (p, 3), (v, 4), (w, 5), (l, 7), (i, 8)] -/
noncomputable def f43_c0 : Code := sub [1, 1, 0, 1, 0, 0] (fbody Try.prog 43)
noncomputable def f43_k0 (O : Oracle) (L : Loops (Value × Heap)) : Ex → K (Value × Heap) := (blockK 0 (seqK Try.prog O L (sub [1, 1, 1] (fbody Try.prog 43)) (kRet Try.prog Try.f43)))
noncomputable def f43_e0_0 (O : Oracle) (L : Loops (Value × Heap)) (x0 x1 x2 x3 x4 x5 x6 x7 x8 x9 x10 x11 x12 x13 x14 x15 x16 x17 x18 x19 x20 x21 x22 x23 x24 x25 : Value) (h : Heap) : Option (Value × Heap) :=
  some (oneOf [(.int .i64 (-1))], h)
theorem f43_e0_0_eq (O : Oracle) (L : Loops (Value × Heap)) (x0 x1 x2 x3 x4 x5 x6 x7 x8 x9 x10 x11 x12 x13 x14 x15 x16 x17 x18 x19 x20 x21 x22 x23 x24 x25 : Value) (h : Heap) :
    f43_k0 O L (.exit 0) [x0, x1, x2, x3, x4, x5, x6, x7, x8, x9, x10, x11, x12, x13, x14, x15, x16, x17, x18, x19, x20, x21, x22, x23, x24, x25] h = f43_e0_0 O L x0 x1 x2 x3 x4 x5 x6 x7 x8 x9 x10 x11 x12 x13 x14 x15 x16 x17 x18 x19 x20 x21 x22 x23 x24 x25 h := by kernel_rfl
noncomputable def f43_r0 (O : Oracle) (L : Loops (Value × Heap)) (x0 x1 x2 x3 x4 x5 x6 x7 x8 x9 x10 x11 x12 x13 x14 x15 x16 x17 x18 x19 x20 x21 x22 x23 x24 x25 : Value) (h : Heap) : Option (Value × Heap) :=
  some (oneOf [x6], h)
theorem f43_r0_eq (O : Oracle) (L : Loops (Value × Heap)) (x0 x1 x2 x3 x4 x5 x6 x7 x8 x9 x10 x11 x12 x13 x14 x15 x16 x17 x18 x19 x20 x21 x22 x23 x24 x25 : Value) (h : Heap) :
    f43_k0 O L .ret [x0, x1, x2, x3, x4, x5, x6, x7, x8, x9, x10, x11, x12, x13, x14, x15, x16, x17, x18, x19, x20, x21, x22, x23, x24, x25] h = f43_r0 O L x0 x1 x2 x3 x4 x5 x6 x7 x8 x9 x10 x11 x12 x13 x14 x15 x16 x17 x18 x19 x20 x21 x22 x23 x24 x25 h := by kernel_rfl
noncomputable def f43_b0 (O : Oracle) (L : Loops (Value × Heap)) (k : Ex → K (Value × Heap)) (x0 x1 x2 x3 x4 x5 x6 x7 x8 x9 x10 x11 x12 x13 x14 x15 x16 x17 x18 x19 x20 x21 x22 x23 x24 x25 : Value) (h : Heap) : Option (Value × Heap) :=
  ob ((M.ofOpt (lenSl x7)) h) fun v3 h3 =>
  ob ((M.ofOpt (bin Try.prog .lss 3 x8 v3)) h3) fun v4 h4 =>
  iteV v4 (
  ob ((M.ofOpt (iAddr 1 x7 x8)) h4) fun v5 h5 =>
  ob ((ld1 v5) h5) fun v6 h6 =>
  ob ((M.ofOpt (bin Try.prog .eql 3 v6 x2)) h6) fun v7 h7 =>
  iteV v7 (
  ob ((M.ofOpt (bin Try.prog .add 3 x8 (.int .i64 1))) h7) fun v8 h8 =>
  k .ret [x0, x1, x2, x3, x4, x5, v8, x7, x8, x9, x10, x11, x8, x7, v3, v4, x16, x17, x7, x8, v5, v6, x2, v7, x8, v8] h8) (
  ob ((M.ofOpt (bin Try.prog .add 3 x8 (.int .i64 1))) h7) fun v9 h9 =>
  k .normal [x0, x1, x2, x3, x4, x5, x6, x7, v9, x9, x10, x11, x8, x7, v3, v4, x8, v9, x7, x8, v5, v6, x2, v7, x24, x25] h9)) (
  k (.exit 0) [x0, x1, x2, x3, x4, x5, x6, x7, x8, x9, x10, x11, x8, x7, v3, v4, x16, x17, x18, x19, x20, x21, x22, x23, x24, x25] h4)
theorem f43_b0_eq (O : Oracle) (L : Loops (Value × Heap)) (k : Ex → K (Value × Heap)) (x0 x1 x2 x3 x4 x5 x6 x7 x8 x9 x10 x11 x12 x13 x14 x15 x16 x17 x18 x19 x20 x21 x22 x23 x24 x25 : Value) (h : Heap) :
    runCode Try.prog O L f43_c0 k [x0, x1, x2, x3, x4, x5, x6, x7, x8, x9, x10, x11, x12, x13, x14, x15, x16, x17, x18, x19, x20, x21, x22, x23, x24, x25] h = f43_b0 O L k x0 x1 x2 x3 x4 x5 x6 x7 x8 x9 x10 x11 x12 x13 x14 x15 x16 x17 x18 x19 x20 x21 x22 x23 x24 x25 h := by kernel_rfl
noncomputable def f43 (O : Oracle) (L : Loops (Value × Heap)) (a0 a1 a2 : Value) (h : Heap) : Option (Value × Heap) :=
  ob ((newB 27 (Value.cells a0).toList .fix) h) fun v0 h0 =>
  ob ((ldN 11 v0) h0) fun v1 h1 =>
  ob ((O (.func 42) [v1, a1]) h1) fun v2 h2 =>
  L (runCode Try.prog O L f43_c0) (f43_k0 O L) [a0, a1, a2, v0, undef, undef, (.int .i64 0), v2, (.int .i64 0), v1, a1, v2, undef, undef, undef, undef, undef, undef, undef, undef, undef, undef, undef, undef, undef, undef] h2
theorem f43_eq (O : Oracle) (L : Loops (Value × Heap)) (a0 a1 a2 : Value) (h : Heap) :
    body Try.prog O L 43 [a0, a1, a2] h = f43 O L a0 a1 a2 h := by kernel_rfl

/-! 45: slices.Compact[[]int,int]; slots: [(s, 0), (s, 1), (k, 3), (s2, 4), (k2, 5)] -/
noncomputable def f45_c1 : Code := sub [1, 1, 0, 1, 0, 0, 1, 0, 0, 1, 0, 1, 0, 1, 0, 0] (fbody Try.prog 45)
noncomputable def f45_k1 (O : Oracle) (L : Loops (Value × Heap)) (k : Ex → K (Value × Heap)) : Ex → K (Value × Heap) := (blockK 2 (seqK Try.prog O L (sub [1, 1, 0, 1, 0, 0, 1, 0, 0, 1, 0, 1, 1] (fbody Try.prog 45)) (blockK 1 (seqK Try.prog O L (sub [1, 1, 0, 1, 0, 0, 1, 1] (fbody Try.prog 45)) k))))
noncomputable def f45_e1_2 (O : Oracle) (L : Loops (Value × Heap)) (k : Ex → K (Value × Heap)) (x0 x1 x2 x3 x4 x5 x6 x7 x8 x9 x10 x11 x12 x13 x14 x15 x16 x17 x18 x19 x20 x21 x22 x23 x24 x25 x26 x27 x28 x29 x30 x31 x32 x33 x34 x35 x36 x37 x38 x39 x40 x41 x42 x43 x44 x45 x46 x47 x48 x49 x50 x51 x52 x53 x54 x55 x56 x57 x58 x59 x60 : Value) (h : Heap) : Option (Value × Heap) :=
  ob ((slc Try.prog 1 x0 (some x3) none none) h) fun v27 h27 =>
  ob ((clr 1 [(.int .i64 0)] v27) h27) fun v28 h28 =>
  ob ((slc Try.prog 1 x0 none (some x3) none) h28) fun v29 h29 =>
  k .ret [x0, x1, v29, x3, x4, x5, x6, x7, x8, x9, x10, x11, x12, x13, x14, x15, x16, x17, x18, x19, x20, x21, x22, x23, x24, x25, x26, x27, x28, x29, x30, x31, x32, x33, x34, x35, x36, x37, x38, x39, x40, x41, x42, x43, x44, x45, x46, x47, x48, x49, x50, x51, x52, x53, x0, x3, v27, x0, x3, v29, x60] h29
theorem f45_e1_2_eq (O : Oracle) (L : Loops (Value × Heap)) (k : Ex → K (Value × Heap)) (x0 x1 x2 x3 x4 x5 x6 x7 x8 x9 x10 x11 x12 x13 x14 x15 x16 x17 x18 x19 x20 x21 x22 x23 x24 x25 x26 x27 x28 x29 x30 x31 x32 x33 x34 x35 x36 x37 x38 x39 x40 x41 x42 x43 x44 x45 x46 x47 x48 x49 x50 x51 x52 x53 x54 x55 x56 x57 x58 x59 x60 : Value) (h : Heap) :
    f45_k1 O L k (.exit 2) [x0, x1, x2, x3, x4, x5, x6, x7, x8, x9, x10, x11, x12, x13, x14, x15, x16, x17, x18, x19, x20, x21, x22, x23, x24, x25, x26, x27, x28, x29, x30, x31, x32, x33, x34, x35, x36, x37, x38, x39, x40, x41, x42, x43, x44, x45, x46, x47, x48, x49, x50, x51, x52, x53, x54, x55, x56, x57, x58, x59, x60] h = f45_e1_2 O L k x0 x1 x2 x3 x4 x5 x6 x7 x8 x9 x10 x11 x12 x13 x14 x15 x16 x17 x18 x19 x20 x21 x22 x23 x24 x25 x26 x27 x28 x29 x30 x31 x32 x33 x34 x35 x36 x37 x38 x39 x40 x41 x42 x43 x44 x45 x46 x47 x48 x49 x50 x51 x52 x53 x54 x55 x56 x57 x58 x59 x60 h := by kernel_rfl
noncomputable def f45_b1 (O : Oracle) (L : Loops (Value × Heap)) (k : Ex → K (Value × Heap)) (x0 x1 x2 x3 x4 x5 x6 x7 x8 x9 x10 x11 x12 x13 x14 x15 x16 x17 x18 x19 x20 x21 x22 x23 x24 x25 x26 x27 x28 x29 x30 x31 x32 x33 x34 x35 x36 x37 x38 x39 x40 x41 x42 x43 x44 x45 x46 x47 x48 x49 x50 x51 x52 x53 x54 x55 x56 x57 x58 x59 x60 : Value) (h : Heap) : Option (Value × Heap) :=
  ob ((M.ofOpt (lenSl x4)) h) fun v12 h12 =>
  ob ((M.ofOpt (bin Try.prog .lss 3 x5 v12)) h12) fun v13 h13 =>
  iteV v13 (
  ob ((M.ofOpt (iAddr 1 x4 x5)) h13) fun v14 h14 =>
  ob ((ld1 v14) h14) fun v15 h15 =>
  ifB (true) (
  ob ((M.ofOpt (bin Try.prog .sub 3 x5 (.int .i64 1))) h15) fun v16 h16 =>
  ob ((M.ofOpt (iAddr 1 x4 v16)) h16) fun v17 h17 =>
  ob ((ld1 v17) h17) fun v18 h18 =>
  ifB (true) (
  ob ((M.ofOpt (bin Try.prog .neq 3 v15 v18)) h18) fun v19 h19 =>
  iteV v19 (
  ob ((M.ofOpt (iAddr 1 x4 x5)) h19) fun v20 h20 =>
  ob ((ld1 v20) h20) fun v21 h21 =>
  ob ((M.ofOpt (iAddr 1 x0 x3)) h21) fun v22 h22 =>
  ob ((stN 1 v22 v21) h22) fun v23 h23 =>
  ob ((M.ofOpt (bin Try.prog .add 3 x3 (.int .i64 1))) h23) fun v24 h24 =>
  ob ((M.ofOpt (bin Try.prog .add 3 x5 (.int .i64 1))) h24) fun v25 h25 =>
  k .normal [x0, x1, x2, v24, x4, v25, x6, x7, x8, x9, x10, x11, x12, x13, x14, x15, x16, x17, x18, x19, x20, x21, x22, x23, x24, x25, x26, x27, x28, x5, x4, v12, v13, x5, v25, x4, x5, v14, v15, x4, x5, v16, v17, v18, v19, x0, x3, x4, x5, v20, v21, v22, x3, v24, x54, x55, x56, x57, x58, x59, x60] h25) (
  ob ((M.ofOpt (bin Try.prog .add 3 x5 (.int .i64 1))) h19) fun v26 h26 =>
  k .normal [x0, x1, x2, x3, x4, v26, x6, x7, x8, x9, x10, x11, x12, x13, x14, x15, x16, x17, x18, x19, x20, x21, x22, x23, x24, x25, x26, x27, x28, x5, x4, v12, v13, x5, v26, x4, x5, v14, v15, x4, x5, v16, v17, v18, v19, x45, x46, x47, x48, x49, x50, x51, x52, x53, x54, x55, x56, x57, x58, x59, x60] h26)))) (
  k (.exit 2) [x0, x1, x2, x3, x4, x5, x6, x7, x8, x9, x10, x11, x12, x13, x14, x15, x16, x17, x18, x19, x20, x21, x22, x23, x24, x25, x26, x27, x28, x5, x4, v12, v13, x33, x34, x35, x36, x37, x38, x39, x40, x41, x42, x43, x44, x45, x46, x47, x48, x49, x50, x51, x52, x53, x54, x55, x56, x57, x58, x59, x60] h13)
theorem f45_b1_eq (O : Oracle) (L : Loops (Value × Heap)) (k : Ex → K (Value × Heap)) (x0 x1 x2 x3 x4 x5 x6 x7 x8 x9 x10 x11 x12 x13 x14 x15 x16 x17 x18 x19 x20 x21 x22 x23 x24 x25 x26 x27 x28 x29 x30 x31 x32 x33 x34 x35 x36 x37 x38 x39 x40 x41 x42 x43 x44 x45 x46 x47 x48 x49 x50 x51 x52 x53 x54 x55 x56 x57 x58 x59 x60 : Value) (h : Heap) :
    runCode Try.prog O L f45_c1 k [x0, x1, x2, x3, x4, x5, x6, x7, x8, x9, x10, x11, x12, x13, x14, x15, x16, x17, x18, x19, x20, x21, x22, x23, x24, x25, x26, x27, x28, x29, x30, x31, x32, x33, x34, x35, x36, x37, x38, x39, x40, x41, x42, x43, x44, x45, x46, x47, x48, x49, x50, x51, x52, x53, x54, x55, x56, x57, x58, x59, x60] h = f45_b1 O L k x0 x1 x2 x3 x4 x5 x6 x7 x8 x9 x10 x11 x12 x13 x14 x15 x16 x17 x18 x19 x20 x21 x22 x23 x24 x25 x26 x27 x28 x29 x30 x31 x32 x33 x34 x35 x36 x37 x38 x39 x40 x41 x42 x43 x44 x45 x46 x47 x48 x49 x50 x51 x52 x53 x54 x55 x56 x57 x58 x59 x60 h := by kernel_rfl
noncomputable def f45_c0 : Code := sub [1, 1, 0, 1, 0, 0] (fbody Try.prog 45)
noncomputable def f45_k0 (O : Oracle) (L : Loops (Value × Heap)) : Ex → K (Value × Heap) := (blockK 0 (seqK Try.prog O L (sub [1, 1, 1] (fbody Try.prog 45)) (kRet Try.prog Try.f45)))
noncomputable def f45_e0_0 (O : Oracle) (L : Loops (Value × Heap)) (x0 x1 x2 x3 x4 x5 x6 x7 x8 x9 x10 x11 x12 x13 x14 x15 x16 x17 x18 x19 x20 x21 x22 x23 x24 x25 x26 x27 x28 x29 x30 x31 x32 x33 x34 x35 x36 x37 x38 x39 x40 x41 x42 x43 x44 x45 x46 x47 x48 x49 x50 x51 x52 x53 x54 x55 x56 x57 x58 x59 x60 : Value) (h : Heap) : Option (Value × Heap) :=
  some (oneOf [x0], h)
theorem f45_e0_0_eq (O : Oracle) (L : Loops (Value × Heap)) (x0 x1 x2 x3 x4 x5 x6 x7 x8 x9 x10 x11 x12 x13 x14 x15 x16 x17 x18 x19 x20 x21 x22 x23 x24 x25 x26 x27 x28 x29 x30 x31 x32 x33 x34 x35 x36 x37 x38 x39 x40 x41 x42 x43 x44 x45 x46 x47 x48 x49 x50 x51 x52 x53 x54 x55 x56 x57 x58 x59 x60 : Value) (h : Heap) :
    f45_k0 O L (.exit 0) [x0, x1, x2, x3, x4, x5, x6, x7, x8, x9, x10, x11, x12, x13, x14, x15, x16, x17, x18, x19, x20, x21, x22, x23, x24, x25, x26, x27, x28, x29, x30, x31, x32, x33, x34, x35, x36, x37, x38, x39, x40, x41, x42, x43, x44, x45, x46, x47, x48, x49, x50, x51, x52, x53, x54, x55, x56, x57, x58, x59, x60] h = f45_e0_0 O L x0 x1 x2 x3 x4 x5 x6 x7 x8 x9 x10 x11 x12 x13 x14 x15 x16 x17 x18 x19 x20 x21 x22 x23 x24 x25 x26 x27 x28 x29 x30 x31 x32 x33 x34 x35 x36 x37 x38 x39 x40 x41 x42 x43 x44 x45 x46 x47 x48 x49 x50 x51 x52 x53 x54 x55 x56 x57 x58 x59 x60 h := by kernel_rfl
noncomputable def f45_r0 (O : Oracle) (L : Loops (Value × Heap)) (x0 x1 x2 x3 x4 x5 x6 x7 x8 x9 x10 x11 x12 x13 x14 x15 x16 x17 x18 x19 x20 x21 x22 x23 x24 x25 x26 x27 x28 x29 x30 x31 x32 x33 x34 x35 x36 x37 x38 x39 x40 x41 x42 x43 x44 x45 x46 x47 x48 x49 x50 x51 x52 x53 x54 x55 x56 x57 x58 x59 x60 : Value) (h : Heap) : Option (Value × Heap) :=
  some (oneOf [x2], h)
theorem f45_r0_eq (O : Oracle) (L : Loops (Value × Heap)) (x0 x1 x2 x3 x4 x5 x6 x7 x8 x9 x10 x11 x12 x13 x14 x15 x16 x17 x18 x19 x20 x21 x22 x23 x24 x25 x26 x27 x28 x29 x30 x31 x32 x33 x34 x35 x36 x37 x38 x39 x40 x41 x42 x43 x44 x45 x46 x47 x48 x49 x50 x51 x52 x53 x54 x55 x56 x57 x58 x59 x60 : Value) (h : Heap) :
    f45_k0 O L .ret [x0, x1, x2, x3, x4, x5, x6, x7, x8, x9, x10, x11, x12, x13, x14, x15, x16, x17, x18, x19, x20, x21, x22, x23, x24, x25, x26, x27, x28, x29, x30, x31, x32, x33, x34, x35, x36, x37, x38, x39, x40, x41, x42, x43, x44, x45, x46, x47, x48, x49, x50, x51, x52, x53, x54, x55, x56, x57, x58, x59, x60] h = f45_r0 O L x0 x1 x2 x3 x4 x5 x6 x7 x8 x9 x10 x11 x12 x13 x14 x15 x16 x17 x18 x19 x20 x21 x22 x23 x24 x25 x26 x27 x28 x29 x30 x31 x32 x33 x34 x35 x36 x37 x38 x39 x40 x41 x42 x43 x44 x45 x46 x47 x48 x49 x50 x51 x52 x53 x54 x55 x56 x57 x58 x59 x60 h := by kernel_rfl
noncomputable def f45_b0 (O : Oracle) (L : Loops (Value × Heap)) (k : Ex → K (Value × Heap)) (x0 x1 x2 x3 x4 x5 x6 x7 x8 x9 x10 x11 x12 x13 x14 x15 x16 x17 x18 x19 x20 x21 x22 x23 x24 x25 x26 x27 x28 x29 x30 x31 x32 x33 x34 x35 x36 x37 x38 x39 x40 x41 x42 x43 x44 x45 x46 x47 x48 x49 x50 x51 x52 x53 x54 x55 x56 x57 x58 x59 x60 : Value) (h : Heap) : Option (Value × Heap) :=
  ob ((M.ofOpt (lenSl x0)) h) fun v2 h2 =>
  ob ((M.ofOpt (bin Try.prog .lss 3 x3 v2)) h2) fun v3 h3 =>
  iteV v3 (
  ob ((M.ofOpt (iAddr 1 x0 x3)) h3) fun v4 h4 =>
  ob ((ld1 v4) h4) fun v5 h5 =>
  ifB (true) (
  ob ((M.ofOpt (bin Try.prog .sub 3 x3 (.int .i64 1))) h5) fun v6 h6 =>
  ob ((M.ofOpt (iAddr 1 x0 v6)) h6) fun v7 h7 =>
  ob ((ld1 v7) h7) fun v8 h8 =>
  ifB (true) (
  ob ((M.ofOpt (bin Try.prog .eql 3 v5 v8)) h8) fun v9 h9 =>
  iteV v9 (
  ob ((slc Try.prog 1 x0 (some x3) none none) h9) fun v10 h10 =>
  L (runCode Try.prog O L f45_c1) (f45_k1 O L k) [x0, x1, x2, x3, v10, (.int .i64 1), x6, x7, x8, x9, x3, x0, v2, v3, x14, x15, x0, x3, v4, v5, x0, x3, v6, v7, v8, v9, x0, x3, v10, x29, x30, x31, x32, x33, x34, x35, x36, x37, x38, x39, x40, x41, x42, x43, x44, x45, x46, x47, x48, x49, x50, x51, x52, x53, x54, x55, x56, x57, x58, x59, x60] h10) (
  ob ((M.ofOpt (bin Try.prog .add 3 x3 (.int .i64 1))) h9) fun v11 h11 =>
  k .normal [x0, x1, x2, v11, x4, x5, x6, x7, x8, x9, x3, x0, v2, v3, x3, v11, x0, x3, v4, v5, x0, x3, v6, v7, v8, v9, x26, x27, x28, x29, x30, x31, x32, x33, x34, x35, x36, x37, x38, x39, x40, x41, x42, x43, x44, x45, x46, x47, x48, x49, x50, x51, x52, x53, x54, x55, x56, x57, x58, x59, x60] h11)))) (
  k (.exit 0) [x0, x1, x2, x3, x4, x5, x6, x7, x8, x9, x3, x0, v2, v3, x14, x15, x16, x17, x18, x19, x20, x21, x22, x23, x24, x25, x26, x27, x28, x29, x30, x31, x32, x33, x34, x35, x36, x37, x38, x39, x40, x41, x42, x43, x44, x45, x46, x47, x48, x49, x50, x51, x52, x53, x54, x55, x56, x57, x58, x59, x60] h3)
theorem f45_b0_eq (O : Oracle) (L : Loops (Value × Heap)) (k : Ex → K (Value × Heap)) (x0 x1 x2 x3 x4 x5 x6 x7 x8 x9 x10 x11 x12 x13 x14 x15 x16 x17 x18 x19 x20 x21 x22 x23 x24 x25 x26 x27 x28 x29 x30 x31 x32 x33 x34 x35 x36 x37 x38 x39 x40 x41 x42 x43 x44 x45 x46 x47 x48 x49 x50 x51 x52 x53 x54 x55 x56 x57 x58 x59 x60 : Value) (h : Heap) :
    runCode Try.prog O L f45_c0 k [x0, x1, x2, x3, x4, x5, x6, x7, x8, x9, x10, x11, x12, x13, x14, x15, x16, x17, x18, x19, x20, x21, x22, x23, x24, x25, x26, x27, x28, x29, x30, x31, x32, x33, x34, x35, x36, x37, x38, x39, x40, x41, x42, x43, x44, x45, x46, x47, x48, x49, x50, x51, x52, x53, x54, x55, x56, x57, x58, x59, x60] h = f45_b0 O L k x0 x1 x2 x3 x4 x5 x6 x7 x8 x9 x10 x11 x12 x13 x14 x15 x16 x17 x18 x19 x20 x21 x22 x23 x24 x25 x26 x27 x28 x29 x30 x31 x32 x33 x34 x35 x36 x37 x38 x39 x40 x41 x42 x43 x44 x45 x46 x47 x48 x49 x50 x51 x52 x53 x54 x55 x56 x57 x58 x59 x60 h := by kernel_rfl
noncomputable def f45 (O : Oracle) (L : Loops (Value × Heap)) (a0 : Value) (h : Heap) : Option (Value × Heap) :=
  ob ((M.ofOpt (lenSl a0)) h) fun v0 h0 =>
  ob ((M.ofOpt (bin Try.prog .lss 3 v0 (.int .i64 2))) h0) fun v1 h1 =>
  iteV v1 (
  some (oneOf [a0], h1)) (
  L (runCode Try.prog O L f45_c0) (f45_k0 O L) [a0, undef, (.slice none 0 0), (.int .i64 1), undef, undef, a0, v0, v1, undef, undef, undef, undef, undef, undef, undef, undef, undef, undef, undef, undef, undef, undef, undef, undef, undef, undef, undef, undef, undef, undef, undef, undef, undef, undef, undef, undef, undef, undef, undef, undef, undef, undef, undef, undef, undef, undef, undef, undef, undef, undef, undef, undef, undef, undef, undef, undef, undef, undef, undef, undef] h1)
theorem f45_eq (O : Oracle) (L : Loops (Value × Heap)) (a0 : Value) (h : Heap) :
    body Try.prog O L 45 [a0] h = f45 O L a0 h := by kernel_rfl

/-! 55: slices.Contains[[]shunter/api.Edge,shunter/api.Edge]; slots: [(s, 0), (v, 1), (s, 2), (v, 3)] -/
noncomputable def f55 (O : Oracle) (L : Loops (Value × Heap)) (a0 a1 : Value) (h : Heap) : Option (Value × Heap) :=
  ob ((newB 33 (Value.cells a1).toList .fix) h) fun v0 h0 =>
  ob ((ldN 2 v0) h0) fun v1 h1 =>
  ob ((O (.func 70) [a0, v1]) h1) fun v2 h2 =>
  ob ((M.ofOpt (bin Try.prog .geq 3 v2 (.int .i64 0))) h2) fun v3 h3 =>
  some (oneOf [v3], h3)
theorem f55_eq (O : Oracle) (L : Loops (Value × Heap)) (a0 a1 : Value) (h : Heap) :
    body Try.prog O L 55 [a0, a1] h = f55 O L a0 a1 h := by kernel_rfl

/-! 56: shunter/wrr.New$1; slots: [(n, 0), (n, 1)] -/
noncomputable def f56 (O : Oracle) (L : Loops (Value × Heap)) (a0 : Value) (h : Heap) : Option (Value × Heap) :=
  ob ((M.ofOpt (bin Try.prog .lss 3 a0 (.int .i64 1))) h) fun v0 h0 =>
  ob ((gd v0 false (M.ret a0)) h0) fun v1 h1 =>
  ob ((gd v0 false (M.ofOpt (bin Try.prog .gtr 3 v1 (.int .i64 5)))) h1) fun v2 h2 =>
  ob ((M.ofOpt (pick v0 (.bool true) v2)) h2) fun v3 h3 =>
  some (oneOf [v3], h3)
theorem f56_eq (O : Oracle) (L : Loops (Value × Heap)) (a0 : Value) (h : Heap) :
    body Try.prog O L 56 [a0] h = f56 O L a0 h := by kernel_rfl

/-! 57: slices.ContainsFunc[[]int,int]; slots: [(s, 0), (f, 1), (s, 2), (f, 3)] -/
noncomputable def f57 (O : Oracle) (L : Loops (Value × Heap)) (a0 a1 : Value) (h : Heap) : Option (Value × Heap) :=
  ob ((O (.func 71) [a0, a1]) h) fun v0 h0 =>
  ob ((M.ofOpt (bin Try.prog .geq 3 v0 (.int .i64 0))) h0) fun v1 h1 =>
  some (oneOf [v1], h1)
theorem f57_eq (O : Oracle) (L : Loops (Value × Heap)) (a0 a1 : Value) (h : Heap) :
    body Try.prog O L 57 [a0, a1] h = f57 O L a0 a1 h := by kernel_rfl

/-! 58: slices.Clone[[]int,int]; slots: [(s, 0), (s, 1)] -/
noncomputable def f58 (O : Oracle) (L : Loops (Value × Heap)) (a0 : Value) (h : Heap) : Option (Value × Heap) :=
  ob ((M.ofOpt (bin Try.prog .eql 24 a0 (.slice none 0 0))) h) fun v0 h0 =>
  iteV v0 (
  some (oneOf [(.slice none 0 0)], h0)) (
  ob ((bldSlice 3 1 0 [(.int .i64 0)] []) h0) fun v1 h1 =>
  ob ((app 3 1 8 v1 a0) h1) fun v2 h2 =>
  some (oneOf [v2], h2))
theorem f58_eq (O : Oracle) (L : Loops (Value × Heap)) (a0 : Value) (h : Heap) :
    body Try.prog O L 58 [a0] h = f58 O L a0 h := by kernel_rfl

/-! 59: slices.IndexFunc[[][]int,[]int]; slots: [(s, 0), (f, 1), (s, 2), (f, 3), (i, 5)] -/
noncomputable def f59_c0 : Code := sub [1, 0, 1, 0, 0] (fbody Try.prog 59)
noncomputable def f59_k0 (O : Oracle) (L : Loops (Value × Heap)) : Ex → K (Value × Heap) := (blockK 0 (seqK Try.prog O L (sub [1, 1] (fbody Try.prog 59)) (kRet Try.prog Try.f59)))
noncomputable def f59_e0_0 (O : Oracle) (L : Loops (Value × Heap)) (x0 x1 x2 x3 x4 x5 x6 x7 x8 x9 x10 x11 x12 x13 x14 x15 x16 x17 x18 : Value) (h : Heap) : Option (Value × Heap) :=
  some (oneOf [(.int .i64 (-1))], h)
theorem f59_e0_0_eq (O : Oracle) (L : Loops (Value × Heap)) (x0 x1 x2 x3 x4 x5 x6 x7 x8 x9 x10 x11 x12 x13 x14 x15 x16 x17 x18 : Value) (h : Heap) :
    f59_k0 O L (.exit 0) [x0, x1, x2, x3, x4, x5, x6, x7, x8, x9, x10, x11, x12, x13, x14, x15, x16, x17, x18] h = f59_e0_0 O L x0 x1 x2 x3 x4 x5 x6 x7 x8 x9 x10 x11 x12 x13 x14 x15 x16 x17 x18 h := by kernel_rfl
noncomputable def f59_r0 (O : Oracle) (L : Loops (Value × Heap)) (x0 x1 x2 x3 x4 x5 x6 x7 x8 x9 x10 x11 x12 x13 x14 x15 x16 x17 x18 : Value) (h : Heap) : Option (Value × Heap) :=
  some (oneOf [x4], h)
theorem f59_r0_eq (O : Oracle) (L : Loops (Value × Heap)) (x0 x1 x2 x3 x4 x5 x6 x7 x8 x9 x10 x11 x12 x13 x14 x15 x16 x17 x18 : Value) (h : Heap) :
    f59_k0 O L .ret [x0, x1, x2, x3, x4, x5, x6, x7, x8, x9, x10, x11, x12, x13, x14, x15, x16, x17, x18] h = f59_r0 O L x0 x1 x2 x3 x4 x5 x6 x7 x8 x9 x10 x11 x12 x13 x14 x15 x16 x17 x18 h := by kernel_rfl
noncomputable def f59_b0 (O : Oracle) (L : Loops (Value × Heap)) (k : Ex → K (Value × Heap)) (x0 x1 x2 x3 x4 x5 x6 x7 x8 x9 x10 x11 x12 x13 x14 x15 x16 x17 x18 : Value) (h : Heap) : Option (Value × Heap) :=
  ob ((M.ofOpt (bin Try.prog .lss 3 x8 x7)) h) fun v1 h1 =>
  iteV v1 (
  ob ((M.ofOpt (iAddr 1 x0 x8)) h1) fun v2 h2 =>
  ob ((ld1 v2) h2) fun v3 h3 =>
  ob ((callV O x1 [v3]) h3) fun v4 h4 =>
  iteV v4 (
  k .ret [x0, x1, x2, x3, x8, x8, x6, x7, x8, v1, x8, x1, x0, x8, v2, v3, v4, x8, x18] h4) (
  ob ((M.ofOpt (bin Try.prog .add 3 x8 (.int .i64 1))) h4) fun v5 h5 =>
  k .normal [x0, x1, x2, x3, x4, x8, x6, x7, v5, v1, x8, x1, x0, x8, v2, v3, v4, x17, v5] h5)) (
  k (.exit 0) [x0, x1, x2, x3, x4, x5, x6, x7, x8, v1, x10, x11, x12, x13, x14, x15, x16, x17, x18] h1)
theorem f59_b0_eq (O : Oracle) (L : Loops (Value × Heap)) (k : Ex → K (Value × Heap)) (x0 x1 x2 x3 x4 x5 x6 x7 x8 x9 x10 x11 x12 x13 x14 x15 x16 x17 x18 : Value) (h : Heap) :
    runCode Try.prog O L f59_c0 k [x0, x1, x2, x3, x4, x5, x6, x7, x8, x9, x10, x11, x12, x13, x14, x15, x16, x17, x18] h = f59_b0 O L k x0 x1 x2 x3 x4 x5 x6 x7 x8 x9 x10 x11 x12 x13 x14 x15 x16 x17 x18 h := by kernel_rfl
noncomputable def f59 (O : Oracle) (L : Loops (Value × Heap)) (a0 a1 : Value) (h : Heap) : Option (Value × Heap) :=
  ob ((M.ofOpt (lenSl a0)) h) fun v0 h0 =>
  L (runCode Try.prog O L f59_c0) (f59_k0 O L) [a0, a1, undef, undef, (.int .i64 0), undef, a0, v0, (.int .i64 0), undef, undef, undef, undef, undef, undef, undef, undef, undef, undef] h0
theorem f59_eq (O : Oracle) (L : Loops (Value × Heap)) (a0 a1 : Value) (h : Heap) :
    body Try.prog O L 59 [a0, a1] h = f59 O L a0 a1 h := by kernel_rfl

/-! 60: shunter/shunterref12.within; slots: [(n, 0), (low, 1), (high, 2), (n, 3), (low, 4), (high, 5)] -/
noncomputable def f60 (O : Oracle) (L : Loops (Value × Heap)) (a0 a1 a2 : Value) (h : Heap) : Option (Value × Heap) :=
  ob ((M.ofOpt (bin Try.prog .geq 3 a0 a1)) h) fun v0 h0 =>
  ob ((gd v0 true (M.ret a0)) h0) fun v1 h1 =>
  ob ((gd v0 true (M.ret a2)) h1) fun v2 h2 =>
  ob ((gd v0 true (M.ofOpt (bin Try.prog .leq 3 v1 v2))) h2) fun v3 h3 =>
  ob ((M.ofOpt (pick v0 v3 (.bool false))) h3) fun v4 h4 =>
  some (oneOf [v4], h4)
theorem f60_eq (O : Oracle) (L : Loops (Value × Heap)) (a0 a1 a2 : Value) (h : Heap) :
    body Try.prog O L 60 [a0, a1, a2] h = f60 O L a0 a1 a2 h := by kernel_rfl

/-! 61: shunter/shunterref12.edges; slots: [(p, 0), (p, 1), (i, 3), (e, 4), (k, 5)] -/
noncomputable def f61_c1 : Code := sub [1, 0, 1, 0, 0, 1, 0, 0, 1, 1, 1, 0, 0] (fbody Try.prog 61)
noncomputable def f61_k1 (O : Oracle) (L : Loops (Value × Heap)) (k : Ex → K (Value × Heap)) : Ex → K (Value × Heap) := (blockK 2 (blockK 1 (seqK Try.prog O L (sub [1, 0, 1, 0, 0, 1, 1] (fbody Try.prog 61)) k)))
noncomputable def f61_e1_2 (O : Oracle) (L : Loops (Value × Heap)) (k : Ex → K (Value × Heap)) (x0 x1 x2 x3 x4 x5 x6 x7 x8 x9 x10 x11 x12 x13 x14 x15 x16 x17 x18 x19 x20 x21 x22 x23 x24 x25 x26 x27 x28 x29 x30 x31 x32 x33 x34 x35 x36 x37 x38 x39 x40 x41 x42 x43 x44 x45 x46 x47 x48 x49 x50 : Value) (h : Heap) : Option (Value × Heap) :=
  ob ((M.ofOpt (bin Try.prog .add 3 x3 (.int .i64 1))) h) fun v38 h38 =>
  k .normal [x0, x1, x2, v38, x4, x5, x6, x7, x8, x9, x10, x3, v38, x13, x14, x15, x16, x17, x18, x19, x20, x21, x22, x23, x24, x25, x26, x27, x28, x29, x30, x31, x32, x33, x34, x35, x36, x37, x38, x39, x40, x41, x42, x43, x44, x45, x46, x47, x48, x49, x50] h38
theorem f61_e1_2_eq (O : Oracle) (L : Loops (Value × Heap)) (k : Ex → K (Value × Heap)) (x0 x1 x2 x3 x4 x5 x6 x7 x8 x9 x10 x11 x12 x13 x14 x15 x16 x17 x18 x19 x20 x21 x22 x23 x24 x25 x26 x27 x28 x29 x30 x31 x32 x33 x34 x35 x36 x37 x38 x39 x40 x41 x42 x43 x44 x45 x46 x47 x48 x49 x50 : Value) (h : Heap) :
    f61_k1 O L k (.exit 2) [x0, x1, x2, x3, x4, x5, x6, x7, x8, x9, x10, x11, x12, x13, x14, x15, x16, x17, x18, x19, x20, x21, x22, x23, x24, x25, x26, x27, x28, x29, x30, x31, x32, x33, x34, x35, x36, x37, x38, x39, x40, x41, x42, x43, x44, x45, x46, x47, x48, x49, x50] h = f61_e1_2 O L k x0 x1 x2 x3 x4 x5 x6 x7 x8 x9 x10 x11 x12 x13 x14 x15 x16 x17 x18 x19 x20 x21 x22 x23 x24 x25 x26 x27 x28 x29 x30 x31 x32 x33 x34 x35 x36 x37 x38 x39 x40 x41 x42 x43 x44 x45 x46 x47 x48 x49 x50 h := by kernel_rfl
noncomputable def f61_r1 (O : Oracle) (L : Loops (Value × Heap)) (k : Ex → K (Value × Heap)) (x0 x1 x2 x3 x4 x5 x6 x7 x8 x9 x10 x11 x12 x13 x14 x15 x16 x17 x18 x19 x20 x21 x22 x23 x24 x25 x26 x27 x28 x29 x30 x31 x32 x33 x34 x35 x36 x37 x38 x39 x40 x41 x42 x43 x44 x45 x46 x47 x48 x49 x50 : Value) (h : Heap) : Option (Value × Heap) :=
  k .ret [x0, x1, x2, x3, x4, x5, x6, x7, x8, x9, x10, x11, x12, x13, x14, x15, x16, x17, x18, x19, x20, x21, x22, x23, x24, x25, x26, x27, x28, x29, x30, x31, x32, x33, x34, x35, x36, x37, x38, x39, x40, x41, x42, x43, x44, x45, x46, x47, x48, x49, x50] h
theorem f61_r1_eq (O : Oracle) (L : Loops (Value × Heap)) (k : Ex → K (Value × Heap)) (x0 x1 x2 x3 x4 x5 x6 x7 x8 x9 x10 x11 x12 x13 x14 x15 x16 x17 x18 x19 x20 x21 x22 x23 x24 x25 x26 x27 x28 x29 x30 x31 x32 x33 x34 x35 x36 x37 x38 x39 x40 x41 x42 x43 x44 x45 x46 x47 x48 x49 x50 : Value) (h : Heap) :
    f61_k1 O L k .ret [x0, x1, x2, x3, x4, x5, x6, x7, x8, x9, x10, x11, x12, x13, x14, x15, x16, x17, x18, x19, x20, x21, x22, x23, x24, x25, x26, x27, x28, x29, x30, x31, x32, x33, x34, x35, x36, x37, x38, x39, x40, x41, x42, x43, x44, x45, x46, x47, x48, x49, x50] h = f61_r1 O L k x0 x1 x2 x3 x4 x5 x6 x7 x8 x9 x10 x11 x12 x13 x14 x15 x16 x17 x18 x19 x20 x21 x22 x23 x24 x25 x26 x27 x28 x29 x30 x31 x32 x33 x34 x35 x36 x37 x38 x39 x40 x41 x42 x43 x44 x45 x46 x47 x48 x49 x50 h := by kernel_rfl
noncomputable def f61_b1 (O : Oracle) (L : Loops (Value × Heap)) (k : Ex → K (Value × Heap)) (x0 x1 x2 x3 x4 x5 x6 x7 x8 x9 x10 x11 x12 x13 x14 x15 x16 x17 x18 x19 x20 x21 x22 x23 x24 x25 x26 x27 x28 x29 x30 x31 x32 x33 x34 x35 x36 x37 x38 x39 x40 x41 x42 x43 x44 x45 x46 x47 x48 x49 x50 : Value) (h : Heap) : Option (Value × Heap) :=
  ob ((M.ofOpt (bin Try.prog .lss 3 x5 x3)) h) fun v30 h30 =>
  iteV v30 (
  ob ((M.ofOpt (fAddr 1 x1)) h30) fun v31 h31 =>
  ob ((ld1 v31) h31) fun v32 h32 =>
  ifB (true) (
  ob ((M.ofOpt (iAddr 2 v32 x5)) h32) fun v33 h33 =>
  ob ((ldN 2 v33) h33) fun v34 h34 =>
  ifB (true) (
  ob ((ldN 2 x4) h34) fun v35 h35 =>
  ifB (true) (
  ob ((M.ofOpt (bin Try.prog .eql 33 v34 v35)) h35) fun v36 h36 =>
  iteV v36 (
  k .ret [x0, x1, (.bool false), x3, x4, x5, x6, x7, x8, x9, x10, x11, x12, x13, x14, x15, x16, x17, x18, x19, x20, x21, x22, x23, x24, x25, x26, x27, x28, x29, x30, x31, x32, x33, x34, x5, x3, v30, x38, x39, v31, v32, x5, v33, v34, v35, v36, x47, x48, x49, x50] h36) (
  ob ((M.ofOpt (bin Try.prog .add 3 x5 (.int .i64 1))) h36) fun v37 h37 =>
  k .normal [x0, x1, x2, x3, x4, v37, x6, x7, x8, x9, x10, x11, x12, x13, x14, x15, x16, x17, x18, x19, x20, x21, x22, x23, x24, x25, x26, x27, x28, x29, x30, x31, x32, x33, x34, x5, x3, v30, x5, v37, v31, v32, x5, v33, v34, v35, v36, x47, x48, x49, x50] h37))))) (
  k (.exit 2) [x0, x1, x2, x3, x4, x5, x6, x7, x8, x9, x10, x11, x12, x13, x14, x15, x16, x17, x18, x19, x20, x21, x22, x23, x24, x25, x26, x27, x28, x29, x30, x31, x32, x33, x34, x5, x3, v30, x38, x39, x40, x41, x42, x43, x44, x45, x46, x47, x48, x49, x50] h30)
theorem f61_b1_eq (O : Oracle) (L : Loops (Value × Heap)) (k : Ex → K (Value × Heap)) (x0 x1 x2 x3 x4 x5 x6 x7 x8 x9 x10 x11 x12 x13 x14 x15 x16 x17 x18 x19 x20 x21 x22 x23 x24 x25 x26 x27 x28 x29 x30 x31 x32 x33 x34 x35 x36 x37 x38 x39 x40 x41 x42 x43 x44 x45 x46 x47 x48 x49 x50 : Value) (h : Heap) :
    runCode Try.prog O L f61_c1 k [x0, x1, x2, x3, x4, x5, x6, x7, x8, x9, x10, x11, x12, x13, x14, x15, x16, x17, x18, x19, x20, x21, x22, x23, x24, x25, x26, x27, x28, x29, x30, x31, x32, x33, x34, x35, x36, x37, x38, x39, x40, x41, x42, x43, x44, x45, x46, x47, x48, x49, x50] h = f61_b1 O L k x0 x1 x2 x3 x4 x5 x6 x7 x8 x9 x10 x11 x12 x13 x14 x15 x16 x17 x18 x19 x20 x21 x22 x23 x24 x25 x26 x27 x28 x29 x30 x31 x32 x33 x34 x35 x36 x37 x38 x39 x40 x41 x42 x43 x44 x45 x46 x47 x48 x49 x50 h := by kernel_rfl
noncomputable def f61_c0 : Code := sub [1, 0, 1, 0, 0] (fbody Try.prog 61)
noncomputable def f61_k0 (O : Oracle) (L : Loops (Value × Heap)) : Ex → K (Value × Heap) := (blockK 0 (seqK Try.prog O L (sub [1, 1] (fbody Try.prog 61)) (kRet Try.prog Try.f61)))
noncomputable def f61_e0_0 (O : Oracle) (L : Loops (Value × Heap)) (x0 x1 x2 x3 x4 x5 x6 x7 x8 x9 x10 x11 x12 x13 x14 x15 x16 x17 x18 x19 x20 x21 x22 x23 x24 x25 x26 x27 x28 x29 x30 x31 x32 x33 x34 x35 x36 x37 x38 x39 x40 x41 x42 x43 x44 x45 x46 x47 x48 x49 x50 : Value) (h : Heap) : Option (Value × Heap) :=
  ob ((M.ofOpt (fAddr 1 x1)) h) fun v26 h26 =>
  ob ((ld1 v26) h26) fun v27 h27 =>
  ob ((M.ofOpt (lenSl v27)) h27) fun v28 h28 =>
  ob ((M.ofOpt (bin Try.prog .leq 3 v28 (.int .i64 15))) h28) fun v29 h29 =>
  some (oneOf [v29], h29)
theorem f61_e0_0_eq (O : Oracle) (L : Loops (Value × Heap)) (x0 x1 x2 x3 x4 x5 x6 x7 x8 x9 x10 x11 x12 x13 x14 x15 x16 x17 x18 x19 x20 x21 x22 x23 x24 x25 x26 x27 x28 x29 x30 x31 x32 x33 x34 x35 x36 x37 x38 x39 x40 x41 x42 x43 x44 x45 x46 x47 x48 x49 x50 : Value) (h : Heap) :
    f61_k0 O L (.exit 0) [x0, x1, x2, x3, x4, x5, x6, x7, x8, x9, x10, x11, x12, x13, x14, x15, x16, x17, x18, x19, x20, x21, x22, x23, x24, x25, x26, x27, x28, x29, x30, x31, x32, x33, x34, x35, x36, x37, x38, x39, x40, x41, x42, x43, x44, x45, x46, x47, x48, x49, x50] h = f61_e0_0 O L x0 x1 x2 x3 x4 x5 x6 x7 x8 x9 x10 x11 x12 x13 x14 x15 x16 x17 x18 x19 x20 x21 x22 x23 x24 x25 x26 x27 x28 x29 x30 x31 x32 x33 x34 x35 x36 x37 x38 x39 x40 x41 x42 x43 x44 x45 x46 x47 x48 x49 x50 h := by kernel_rfl
noncomputable def f61_r0 (O : Oracle) (L : Loops (Value × Heap)) (x0 x1 x2 x3 x4 x5 x6 x7 x8 x9 x10 x11 x12 x13 x14 x15 x16 x17 x18 x19 x20 x21 x22 x23 x24 x25 x26 x27 x28 x29 x30 x31 x32 x33 x34 x35 x36 x37 x38 x39 x40 x41 x42 x43 x44 x45 x46 x47 x48 x49 x50 : Value) (h : Heap) : Option (Value × Heap) :=
  some (oneOf [x2], h)
theorem f61_r0_eq (O : Oracle) (L : Loops (Value × Heap)) (x0 x1 x2 x3 x4 x5 x6 x7 x8 x9 x10 x11 x12 x13 x14 x15 x16 x17 x18 x19 x20 x21 x22 x23 x24 x25 x26 x27 x28 x29 x30 x31 x32 x33 x34 x35 x36 x37 x38 x39 x40 x41 x42 x43 x44 x45 x46 x47 x48 x49 x50 : Value) (h : Heap) :
    f61_k0 O L .ret [x0, x1, x2, x3, x4, x5, x6, x7, x8, x9, x10, x11, x12, x13, x14, x15, x16, x17, x18, x19, x20, x21, x22, x23, x24, x25, x26, x27, x28, x29, x30, x31, x32, x33, x34, x35, x36, x37, x38, x39, x40, x41, x42, x43, x44, x45, x46, x47, x48, x49, x50] h = f61_r0 O L x0 x1 x2 x3 x4 x5 x6 x7 x8 x9 x10 x11 x12 x13 x14 x15 x16 x17 x18 x19 x20 x21 x22 x23 x24 x25 x26 x27 x28 x29 x30 x31 x32 x33 x34 x35 x36 x37 x38 x39 x40 x41 x42 x43 x44 x45 x46 x47 x48 x49 x50 h := by kernel_rfl
noncomputable def f61_b0 (O : Oracle) (L : Loops (Value × Heap)) (k : Ex → K (Value × Heap)) (x0 x1 x2 x3 x4 x5 x6 x7 x8 x9 x10 x11 x12 x13 x14 x15 x16 x17 x18 x19 x20 x21 x22 x23 x24 x25 x26 x27 x28 x29 x30 x31 x32 x33 x34 x35 x36 x37 x38 x39 x40 x41 x42 x43 x44 x45 x46 x47 x48 x49 x50 : Value) (h : Heap) : Option (Value × Heap) :=
  ob ((M.ofOpt (fAddr 1 x1)) h) fun v1 h1 =>
  ob ((ld1 v1) h1) fun v2 h2 =>
  ob ((M.ofOpt (lenSl v2)) h2) fun v3 h3 =>
  ob ((M.ofOpt (bin Try.prog .lss 3 x3 v3)) h3) fun v4 h4 =>
  iteV v4 (
  ob ((M.ofOpt (fAddr 1 x1)) h4) fun v5 h5 =>
  ob ((ld1 v5) h5) fun v6 h6 =>
  ob ((M.ofOpt (iAddr 2 v6 x3)) h6) fun v7 h7 =>
  ob ((ldN 2 v7) h7) fun v8 h8 =>
  ob ((newB 33 [(.int .i64 0), (.int .i64 0)] .fix) h8) fun v9 h9 =>
  ob ((stN 2 v9 v8) h9) fun v10 h10 =>
  ob ((M.ofOpt (fAddr 0 v9)) h10) fun v11 h11 =>
  ob ((ld1 v11) h11) fun v12 h12 =>
  ob ((M.ofOpt (bin Try.prog .lss 3 v12 (.int .i64 0))) h12) fun v13 h13 =>
  ob ((gd v13 false (M.ofOpt (fAddr 0 v9))) h13) fun v14 h14 =>
  ob ((gd v13 false (ld1 v14)) h14) fun v15 h15 =>
  ob ((gd v13 false (M.ofOpt (fAddr 1 v9))) h15) fun v16 h16 =>
  ob ((gd v13 false (ld1 v16)) h16) fun v17 h17 =>
  ob ((gd v13 false (M.ofOpt (bin Try.prog .geq 3 v15 v17))) h17) fun v18 h18 =>
  ob ((M.ofOpt (pick v13 (.bool true) v18)) h18) fun v19 h19 =>
  ob ((gd v19 false (M.ofOpt (fAddr 1 v9))) h19) fun v20 h20 =>
  ob ((gd v19 false (ld1 v20)) h20) fun v21 h21 =>
  ob ((gd v19 false (M.ofOpt (fAddr 0 x1))) h21) fun v22 h22 =>
  ob ((gd v19 false (ld1 v22)) h22) fun v23 h23 =>
  ob ((gd v19 false (M.ofOpt (bin Try.prog .geq 3 v21 v23))) h23) fun v24 h24 =>
  ob ((M.ofOpt (pick v19 (.bool true) v24)) h24) fun v25 h25 =>
  iteV v25 (
  k .ret [x0, x1, (.bool false), x3, v9, x5, x3, v1, v2, v3, v4, x11, x12, v5, v6, x3, v7, v8, v11, v12, v13, v13, v14, v15, v16, v17, v18, v19, v19, v20, v21, v22, v23, v24, v25, x35, x36, x37, x38, x39, x40, x41, x42, x43, x44, x45, x46, x47, x48, x49, x50] h25) (
  L (runCode Try.prog O L f61_c1) (f61_k1 O L k) [x0, x1, x2, x3, v9, (.int .i64 0), x3, v1, v2, v3, v4, x11, x12, v5, v6, x3, v7, v8, v11, v12, v13, v13, v14, v15, v16, v17, v18, v19, v19, v20, v21, v22, v23, v24, v25, x35, x36, x37, x38, x39, x40, x41, x42, x43, x44, x45, x46, x47, x48, x49, x50] h25)) (
  k (.exit 0) [x0, x1, x2, x3, x4, x5, x3, v1, v2, v3, v4, x11, x12, x13, x14, x15, x16, x17, x18, x19, x20, x21, x22, x23, x24, x25, x26, x27, x28, x29, x30, x31, x32, x33, x34, x35, x36, x37, x38, x39, x40, x41, x42, x43, x44, x45, x46, x47, x48, x49, x50] h4)
theorem f61_b0_eq (O : Oracle) (L : Loops (Value × Heap)) (k : Ex → K (Value × Heap)) (x0 x1 x2 x3 x4 x5 x6 x7 x8 x9 x10 x11 x12 x13 x14 x15 x16 x17 x18 x19 x20 x21 x22 x23 x24 x25 x26 x27 x28 x29 x30 x31 x32 x33 x34 x35 x36 x37 x38 x39 x40 x41 x42 x43 x44 x45 x46 x47 x48 x49 x50 : Value) (h : Heap) :
    runCode Try.prog O L f61_c0 k [x0, x1, x2, x3, x4, x5, x6, x7, x8, x9, x10, x11, x12, x13, x14, x15, x16, x17, x18, x19, x20, x21, x22, x23, x24, x25, x26, x27, x28, x29, x30, x31, x32, x33, x34, x35, x36, x37, x38, x39, x40, x41, x42, x43, x44, x45, x46, x47, x48, x49, x50] h = f61_b0 O L k x0 x1 x2 x3 x4 x5 x6 x7 x8 x9 x10 x11 x12 x13 x14 x15 x16 x17 x18 x19 x20 x21 x22 x23 x24 x25 x26 x27 x28 x29 x30 x31 x32 x33 x34 x35 x36 x37 x38 x39 x40 x41 x42 x43 x44 x45 x46 x47 x48 x49 x50 h := by kernel_rfl
noncomputable def f61 (O : Oracle) (L : Loops (Value × Heap)) (a0 : Value) (h : Heap) : Option (Value × Heap) :=
  ob ((newB 27 (Value.cells a0).toList .fix) h) fun v0 h0 =>
  L (runCode Try.prog O L f61_c0) (f61_k0 O L) [a0, v0, (.bool false), (.int .i64 0), undef, undef, undef, undef, undef, undef, undef, undef, undef, undef, undef, undef, undef, undef, undef, undef, undef, undef, undef, undef, undef, undef, undef, undef, undef, undef, undef, undef, undef, undef, undef, undef, undef, undef, undef, undef, undef, undef, undef, undef, undef, undef, undef, undef, undef, undef, undef] h0
theorem f61_eq (O : Oracle) (L : Loops (Value × Heap)) (a0 : Value) (h : Heap) :
    body Try.prog O L 61 [a0] h = f61 O L a0 h := by kernel_rfl

/-! 62: shunter/shunterref11.New; slots: [(weights, 0), (weights, 1), (i, 3), (w, 4)] -/
noncomputable def f62_c0 : Code := sub [1, 0, 1, 0, 0] (fbody Try.prog 62)
noncomputable def f62_k0 (O : Oracle) (L : Loops (Value × Heap)) : Ex → K (Value × Heap) := (blockK 0 (seqK Try.prog O L (sub [1, 1] (fbody Try.prog 62)) (kRet Try.prog Try.f62)))
noncomputable def f62_e0_0 (O : Oracle) (L : Loops (Value × Heap)) (x0 x1 x2 x3 x4 x5 x6 x7 x8 x9 x10 x11 x12 x13 x14 x15 x16 x17 x18 x19 x20 x21 x22 x23 x24 x25 x26 x27 x28 x29 x30 x31 x32 x33 x34 x35 x36 x37 x38 x39 x40 x41 x42 x43 x44 x45 x46 x47 x48 x49 x50 x51 : Value) (h : Heap) : Option (Value × Heap) :=
  ob ((M.ofOpt (lenSl x0)) h) fun v12 h12 =>
  ob ((M.ofOpt (bin Try.prog .lss 3 v12 (.int .i64 1))) h12) fun v13 h13 =>
  ob ((gd v13 false (M.ret x0)) h13) fun v14 h14 =>
  ob ((gd v13 false (M.ofOpt (lenSl v14))) h14) fun v15 h15 =>
  ob ((gd v13 false (M.ofOpt (bin Try.prog .gtr 3 v15 (.int .i64 3)))) h15) fun v16 h16 =>
  ob ((M.ofOpt (pick v13 (.bool true) v16)) h16) fun v17 h17 =>
  iteV v17 (
  some (oneOf [(.pointer none)], h17)) (
  ob ((M.ofOpt (bld Try.prog 93 [])) h17) fun v18 h18 =>
  ob ((newB 93 (Value.cells v18).toList .fix) h18) fun v19 h19 =>
  ob ((M.ofOpt (nilChk v19)) h19) fun v20 h20 =>
  ob ((M.ofOpt (fAddr 0 v20)) h20) fun v21 h21 =>
  ob ((ld1 v21) h21) fun v22 h22 =>
  ob ((app 3 1 8 v22 x0) h22) fun v23 h23 =>
  ob ((M.ofOpt (nilChk v19)) h23) fun v24 h24 =>
  ob ((M.ofOpt (fAddr 0 v24)) h24) fun v25 h25 =>
  ob ((stN 1 v25 v23) h25) fun v26 h26 =>
  ob ((M.ofOpt (nilChk v19)) h26) fun v27 h27 =>
  ob ((M.ofOpt (fAddr 1 v27)) h27) fun v28 h28 =>
  ob ((ld1 v28) h28) fun v29 h29 =>
  ob ((app 3 1 8 v29 x0) h29) fun v30 h30 =>
  ob ((M.ofOpt (nilChk v19)) h30) fun v31 h31 =>
  ob ((M.ofOpt (fAddr 1 v31)) h31) fun v32 h32 =>
  ob ((stN 1 v32 v30) h32) fun v33 h33 =>
  some (oneOf [v19], h33))
theorem f62_e0_0_eq (O : Oracle) (L : Loops (Value × Heap)) (x0 x1 x2 x3 x4 x5 x6 x7 x8 x9 x10 x11 x12 x13 x14 x15 x16 x17 x18 x19 x20 x21 x22 x23 x24 x25 x26 x27 x28 x29 x30 x31 x32 x33 x34 x35 x36 x37 x38 x39 x40 x41 x42 x43 x44 x45 x46 x47 x48 x49 x50 x51 : Value) (h : Heap) :
    f62_k0 O L (.exit 0) [x0, x1, x2, x3, x4, x5, x6, x7, x8, x9, x10, x11, x12, x13, x14, x15, x16, x17, x18, x19, x20, x21, x22, x23, x24, x25, x26, x27, x28, x29, x30, x31, x32, x33, x34, x35, x36, x37, x38, x39, x40, x41, x42, x43, x44, x45, x46, x47, x48, x49, x50, x51] h = f62_e0_0 O L x0 x1 x2 x3 x4 x5 x6 x7 x8 x9 x10 x11 x12 x13 x14 x15 x16 x17 x18 x19 x20 x21 x22 x23 x24 x25 x26 x27 x28 x29 x30 x31 x32 x33 x34 x35 x36 x37 x38 x39 x40 x41 x42 x43 x44 x45 x46 x47 x48 x49 x50 x51 h := by kernel_rfl
noncomputable def f62_r0 (O : Oracle) (L : Loops (Value × Heap)) (x0 x1 x2 x3 x4 x5 x6 x7 x8 x9 x10 x11 x12 x13 x14 x15 x16 x17 x18 x19 x20 x21 x22 x23 x24 x25 x26 x27 x28 x29 x30 x31 x32 x33 x34 x35 x36 x37 x38 x39 x40 x41 x42 x43 x44 x45 x46 x47 x48 x49 x50 x51 : Value) (h : Heap) : Option (Value × Heap) :=
  some (oneOf [x2], h)
theorem f62_r0_eq (O : Oracle) (L : Loops (Value × Heap)) (x0 x1 x2 x3 x4 x5 x6 x7 x8 x9 x10 x11 x12 x13 x14 x15 x16 x17 x18 x19 x20 x21 x22 x23 x24 x25 x26 x27 x28 x29 x30 x31 x32 x33 x34 x35 x36 x37 x38 x39 x40 x41 x42 x43 x44 x45 x46 x47 x48 x49 x50 x51 : Value) (h : Heap) :
    f62_k0 O L .ret [x0, x1, x2, x3, x4, x5, x6, x7, x8, x9, x10, x11, x12, x13, x14, x15, x16, x17, x18, x19, x20, x21, x22, x23, x24, x25, x26, x27, x28, x29, x30, x31, x32, x33, x34, x35, x36, x37, x38, x39, x40, x41, x42, x43, x44, x45, x46, x47, x48, x49, x50, x51] h = f62_r0 O L x0 x1 x2 x3 x4 x5 x6 x7 x8 x9 x10 x11 x12 x13 x14 x15 x16 x17 x18 x19 x20 x21 x22 x23 x24 x25 x26 x27 x28 x29 x30 x31 x32 x33 x34 x35 x36 x37 x38 x39 x40 x41 x42 x43 x44 x45 x46 x47 x48 x49 x50 x51 h := by kernel_rfl
noncomputable def f62_b0 (O : Oracle) (L : Loops (Value × Heap)) (k : Ex → K (Value × Heap)) (x0 x1 x2 x3 x4 x5 x6 x7 x8 x9 x10 x11 x12 x13 x14 x15 x16 x17 x18 x19 x20 x21 x22 x23 x24 x25 x26 x27 x28 x29 x30 x31 x32 x33 x34 x35 x36 x37 x38 x39 x40 x41 x42 x43 x44 x45 x46 x47 x48 x49 x50 x51 : Value) (h : Heap) : Option (Value × Heap) :=
  ob ((M.ofOpt (lenSl x0)) h) fun v0 h0 =>
  ob ((M.ofOpt (bin Try.prog .lss 3 x3 v0)) h0) fun v1 h1 =>
  iteV v1 (
  ob ((M.ofOpt (iAddr 1 x0 x3)) h1) fun v2 h2 =>
  ob ((ld1 v2) h2) fun v3 h3 =>
  ob ((M.ofOpt (bin Try.prog .lss 3 v3 (.int .i64 1))) h3) fun v4 h4 =>
  ob ((gd v4 false (M.ret x0)) h4) fun v5 h5 =>
  ob ((gd v4 false (M.ret x3)) h5) fun v6 h6 =>
  ob ((gd v4 false (M.ofOpt (iAddr 1 v5 v6))) h6) fun v7 h7 =>
  ob ((gd v4 false (ld1 v7)) h7) fun v8 h8 =>
  ob ((gd v4 false (M.ofOpt (bin Try.prog .gtr 3 v8 (.int .i64 5)))) h8) fun v9 h9 =>
  ob ((M.ofOpt (pick v4 (.bool true) v9)) h9) fun v10 h10 =>
  iteV v10 (
  k .ret [x0, x1, (.pointer none), x3, x4, x3, x0, v0, v1, x9, x10, x0, x3, v2, v3, v4, v4, v5, v6, v7, v8, v9, v10, x23, x24, x25, x26, x27, x28, x29, x30, x31, x32, x33, x34, x35, x36, x37, x38, x39, x40, x41, x42, x43, x44, x45, x46, x47, x48, x49, x50, x51] h10) (
  ob ((M.ofOpt (bin Try.prog .add 3 x3 (.int .i64 1))) h10) fun v11 h11 =>
  k .normal [x0, x1, x2, v11, x4, x3, x0, v0, v1, x3, v11, x0, x3, v2, v3, v4, v4, v5, v6, v7, v8, v9, v10, x23, x24, x25, x26, x27, x28, x29, x30, x31, x32, x33, x34, x35, x36, x37, x38, x39, x40, x41, x42, x43, x44, x45, x46, x47, x48, x49, x50, x51] h11)) (
  k (.exit 0) [x0, x1, x2, x3, x4, x3, x0, v0, v1, x9, x10, x11, x12, x13, x14, x15, x16, x17, x18, x19, x20, x21, x22, x23, x24, x25, x26, x27, x28, x29, x30, x31, x32, x33, x34, x35, x36, x37, x38, x39, x40, x41, x42, x43, x44, x45, x46, x47, x48, x49, x50, x51] h1)
theorem f62_b0_eq (O : Oracle) (L : Loops (Value × Heap)) (k : Ex → K (Value × Heap)) (x0 x1 x2 x3 x4 x5 x6 x7 x8 x9 x10 x11 x12 x13 x14 x15 x16 x17 x18 x19 x20 x21 x22 x23 x24 x25 x26 x27 x28 x29 x30 x31 x32 x33 x34 x35 x36 x37 x38 x39 x40 x41 x42 x43 x44 x45 x46 x47 x48 x49 x50 x51 : Value) (h : Heap) :
    runCode Try.prog O L f62_c0 k [x0, x1, x2, x3, x4, x5, x6, x7, x8, x9, x10, x11, x12, x13, x14, x15, x16, x17, x18, x19, x20, x21, x22, x23, x24, x25, x26, x27, x28, x29, x30, x31, x32, x33, x34, x35, x36, x37, x38, x39, x40, x41, x42, x43, x44, x45, x46, x47, x48, x49, x50, x51] h = f62_b0 O L k x0 x1 x2 x3 x4 x5 x6 x7 x8 x9 x10 x11 x12 x13 x14 x15 x16 x17 x18 x19 x20 x21 x22 x23 x24 x25 x26 x27 x28 x29 x30 x31 x32 x33 x34 x35 x36 x37 x38 x39 x40 x41 x42 x43 x44 x45 x46 x47 x48 x49 x50 x51 h := by kernel_rfl
noncomputable def f62 (O : Oracle) (L : Loops (Value × Heap)) (a0 : Value) (h : Heap) : Option (Value × Heap) :=
  L (runCode Try.prog O L f62_c0) (f62_k0 O L) [a0, undef, (.pointer none), (.int .i64 0), undef, undef, undef, undef, undef, undef, undef, undef, undef, undef, undef, undef, undef, undef, undef, undef, undef, undef, undef, undef, undef, undef, undef, undef, undef, undef, undef, undef, undef, undef, undef, undef, undef, undef, undef, undef, undef, undef, undef, undef, undef, undef, undef, undef, undef, undef, undef, undef] h
theorem f62_eq (O : Oracle) (L : Loops (Value × Heap)) (a0 : Value) (h : Heap) :
    body Try.prog O L 62 [a0] h = f62 O L a0 h := by kernel_rfl

/-! 63: shunter/shunterref12.lay; slots: [(l, 0), (x, 1), (l, 2), (x, 3), (out, 5), (i, 6)] -/
noncomputable def f63_c0 : Code := sub [1, 1, 1, 0, 0, 0] (fbody Try.prog 63)
noncomputable def f63_k0 (O : Oracle) (L : Loops (Value × Heap)) : Ex → K (Value × Heap) := (blockK 0 (seqK Try.prog O L (sub [1, 1, 1, 1] (fbody Try.prog 63)) (kRet Try.prog Try.f63)))
noncomputable def f63_e0_0 (O : Oracle) (L : Loops (Value × Heap)) (x0 x1 x2 x3 x4 x5 x6 x7 x8 x9 x10 x11 x12 x13 x14 x15 x16 x17 x18 x19 x20 x21 x22 x23 x24 x25 x26 x27 x28 x29 x30 x31 x32 x33 x34 x35 x36 x37 x38 x39 x40 x41 x42 x43 x44 x45 x46 x47 x48 x49 x50 x51 : Value) (h : Heap) : Option (Value × Heap) :=
  ob ((M.ofOpt (lenSl x0)) h) fun v14 h14 =>
  ob ((M.ofOpt (bin Try.prog .lss 3 x6 v14)) h14) fun v15 h15 =>
  ob ((gd v15 true (M.ret x0)) h15) fun v16 h16 =>
  ob ((gd v15 true (M.ret x6)) h16) fun v17 h17 =>
  ob ((gd v15 true (M.ofOpt (iAddr 1 v16 v17))) h17) fun v18 h18 =>
  ob ((gd v15 true (ld1 v18)) h18) fun v19 h19 =>
  ob ((gd v15 true (M.ret x1)) h19) fun v20 h20 =>
  ob ((gd v15 true (M.ofOpt (bin Try.prog .eql 3 v19 v20))) h20) fun v21 h21 =>
  ob ((M.ofOpt (pick v15 v21 (.bool false))) h21) fun v22 h22 =>
  iteV v22 (
  ob ((M.ofOpt (bin Try.prog .add 3 x6 (.int .i64 1))) h22) fun v23 h23 =>
  ob ((bldSlice 3 1 1 [(.int .i64 0)] [(0, x1)]) h23) fun v24 h24 =>
  ob ((app 3 1 8 x5 v24) h24) fun v25 h25 =>
  ob ((slc Try.prog 1 x0 (some v23) none none) h25) fun v26 h26 =>
  ob ((app 3 1 8 v25 v26) h26) fun v27 h27 =>
  some (oneOf [v27], h27)) (
  ob ((bldSlice 3 1 1 [(.int .i64 0)] [(0, x1)]) h22) fun v28 h28 =>
  ob ((app 3 1 8 x5 v28) h28) fun v29 h29 =>
  ob ((slc Try.prog 1 x0 (some x6) none none) h29) fun v30 h30 =>
  ob ((app 3 1 8 v29 v30) h30) fun v31 h31 =>
  some (oneOf [v31], h31))
theorem f63_e0_0_eq (O : Oracle) (L : Loops (Value × Heap)) (x0 x1 x2 x3 x4 x5 x6 x7 x8 x9 x10 x11 x12 x13 x14 x15 x16 x17 x18 x19 x20 x21 x22 x23 x24 x25 x26 x27 x28 x29 x30 x31 x32 x33 x34 x35 x36 x37 x38 x39 x40 x41 x42 x43 x44 x45 x46 x47 x48 x49 x50 x51 : Value) (h : Heap) :
    f63_k0 O L (.exit 0) [x0, x1, x2, x3, x4, x5, x6, x7, x8, x9, x10, x11, x12, x13, x14, x15, x16, x17, x18, x19, x20, x21, x22, x23, x24, x25, x26, x27, x28, x29, x30, x31, x32, x33, x34, x35, x36, x37, x38, x39, x40, x41, x42, x43, x44, x45, x46, x47, x48, x49, x50, x51] h = f63_e0_0 O L x0 x1 x2 x3 x4 x5 x6 x7 x8 x9 x10 x11 x12 x13 x14 x15 x16 x17 x18 x19 x20 x21 x22 x23 x24 x25 x26 x27 x28 x29 x30 x31 x32 x33 x34 x35 x36 x37 x38 x39 x40 x41 x42 x43 x44 x45 x46 x47 x48 x49 x50 x51 h := by kernel_rfl
noncomputable def f63_b0 (O : Oracle) (L : Loops (Value × Heap)) (k : Ex → K (Value × Heap)) (x0 x1 x2 x3 x4 x5 x6 x7 x8 x9 x10 x11 x12 x13 x14 x15 x16 x17 x18 x19 x20 x21 x22 x23 x24 x25 x26 x27 x28 x29 x30 x31 x32 x33 x34 x35 x36 x37 x38 x39 x40 x41 x42 x43 x44 x45 x46 x47 x48 x49 x50 x51 : Value) (h : Heap) : Option (Value × Heap) :=
  ob ((M.ofOpt (lenSl x0)) h) fun v0 h0 =>
  ob ((M.ofOpt (bin Try.prog .lss 3 x6 v0)) h0) fun v1 h1 =>
  ob ((gd v1 true (M.ret x0)) h1) fun v2 h2 =>
  ob ((gd v1 true (M.ret x6)) h2) fun v3 h3 =>
  ob ((gd v1 true (M.ofOpt (iAddr 1 v2 v3))) h3) fun v4 h4 =>
  ob ((gd v1 true (ld1 v4)) h4) fun v5 h5 =>
  ob ((gd v1 true (M.ret x1)) h5) fun v6 h6 =>
  ob ((gd v1 true (M.ofOpt (bin Try.prog .lss 3 v5 v6))) h6) fun v7 h7 =>
  ob ((M.ofOpt (pick v1 v7 (.bool false))) h7) fun v8 h8 =>
  iteV v8 (
  ob ((M.ofOpt (iAddr 1 x0 x6)) h8) fun v9 h9 =>
  ob ((ld1 v9) h9) fun v10 h10 =>
  ob ((bldSlice 3 1 1 [(.int .i64 0)] [(0, v10)]) h10) fun v11 h11 =>
  ob ((app 3 1 8 x5 v11) h11) fun v12 h12 =>
  ob ((M.ofOpt (bin Try.prog .add 3 x6 (.int .i64 1))) h12) fun v13 h13 =>
  k .normal [x0, x1, x2, x3, x4, v12, v13, x6, x0, v0, v1, v1, v2, v3, v4, v5, v6, v7, v8, x5, x0, x6, v9, v10, v11, v12, x6, v13, x28, x29, x30, x31, x32, x33, x34, x35, x36, x37, x38, x39, x40, x41, x42, x43, x44, x45, x46, x47, x48, x49, x50, x51] h13) (
  k (.exit 0) [x0, x1, x2, x3, x4, x5, x6, x6, x0, v0, v1, v1, v2, v3, v4, v5, v6, v7, v8, x19, x20, x21, x22, x23, x24, x25, x26, x27, x28, x29, x30, x31, x32, x33, x34, x35, x36, x37, x38, x39, x40, x41, x42, x43, x44, x45, x46, x47, x48, x49, x50, x51] h8)
theorem f63_b0_eq (O : Oracle) (L : Loops (Value × Heap)) (k : Ex → K (Value × Heap)) (x0 x1 x2 x3 x4 x5 x6 x7 x8 x9 x10 x11 x12 x13 x14 x15 x16 x17 x18 x19 x20 x21 x22 x23 x24 x25 x26 x27 x28 x29 x30 x31 x32 x33 x34 x35 x36 x37 x38 x39 x40 x41 x42 x43 x44 x45 x46 x47 x48 x49 x50 x51 : Value) (h : Heap) :
    runCode Try.prog O L f63_c0 k [x0, x1, x2, x3, x4, x5, x6, x7, x8, x9, x10, x11, x12, x13, x14, x15, x16, x17, x18, x19, x20, x21, x22, x23, x24, x25, x26, x27, x28, x29, x30, x31, x32, x33, x34, x35, x36, x37, x38, x39, x40, x41, x42, x43, x44, x45, x46, x47, x48, x49, x50, x51] h = f63_b0 O L k x0 x1 x2 x3 x4 x5 x6 x7 x8 x9 x10 x11 x12 x13 x14 x15 x16 x17 x18 x19 x20 x21 x22 x23 x24 x25 x26 x27 x28 x29 x30 x31 x32 x33 x34 x35 x36 x37 x38 x39 x40 x41 x42 x43 x44 x45 x46 x47 x48 x49 x50 x51 h := by kernel_rfl
noncomputable def f63 (O : Oracle) (L : Loops (Value × Heap)) (a0 a1 : Value) (h : Heap) : Option (Value × Heap) :=
  L (runCode Try.prog O L f63_c0) (f63_k0 O L) [a0, a1, undef, undef, (.slice none 0 0), (.slice none 0 0), (.int .i64 0), undef, undef, undef, undef, undef, undef, undef, undef, undef, undef, undef, undef, undef, undef, undef, undef, undef, undef, undef, undef, undef, undef, undef, undef, undef, undef, undef, undef, undef, undef, undef, undef, undef, undef, undef, undef, undef, undef, undef, undef, undef, undef, undef, undef, undef] h
theorem f63_eq (O : Oracle) (L : Loops (Value × Heap)) (a0 a1 : Value) (h : Heap) :
    body Try.prog O L 63 [a0, a1] h = f63 O L a0 a1 h := by kernel_rfl

/-! 70: slices.Index[[]shunter/api.Edge,shunter/api.Edge]; slots: [(s, 0), (v, 1), (s, 2), (v, 3), (i, 5)] -/
noncomputable def f70_c0 : Code := sub [1, 0, 1, 0, 0] (fbody Try.prog 70)
noncomputable def f70_k0 (O : Oracle) (L : Loops (Value × Heap)) : Ex → K (Value × Heap) := (blockK 0 (seqK Try.prog O L (sub [1, 1] (fbody Try.prog 70)) (kRet Try.prog Try.f70)))
noncomputable def f70_e0_0 (O : Oracle) (L : Loops (Value × Heap)) (x0 x1 x2 x3 x4 x5 x6 x7 x8 x9 x10 x11 x12 x13 x14 x15 x16 x17 x18 : Value) (h : Heap) : Option (Value × Heap) :=
  some (oneOf [(.int .i64 (-1))], h)
theorem f70_e0_0_eq (O : Oracle) (L : Loops (Value × Heap)) (x0 x1 x2 x3 x4 x5 x6 x7 x8 x9 x10 x11 x12 x13 x14 x15 x16 x17 x18 : Value) (h : Heap) :
    f70_k0 O L (.exit 0) [x0, x1, x2, x3, x4, x5, x6, x7, x8, x9, x10, x11, x12, x13, x14, x15, x16, x17, x18] h = f70_e0_0 O L x0 x1 x2 x3 x4 x5 x6 x7 x8 x9 x10 x11 x12 x13 x14 x15 x16 x17 x18 h := by kernel_rfl
noncomputable def f70_r0 (O : Oracle) (L : Loops (Value × Heap)) (x0 x1 x2 x3 x4 x5 x6 x7 x8 x9 x10 x11 x12 x13 x14 x15 x16 x17 x18 : Value) (h : Heap) : Option (Value × Heap) :=
  some (oneOf [x4], h)
theorem f70_r0_eq (O : Oracle) (L : Loops (Value × Heap)) (x0 x1 x2 x3 x4 x5 x6 x7 x8 x9 x10 x11 x12 x13 x14 x15 x16 x17 x18 : Value) (h : Heap) :
    f70_k0 O L .ret [x0, x1, x2, x3, x4, x5, x6, x7, x8, x9, x10, x11, x12, x13, x14, x15, x16, x17, x18] h = f70_r0 O L x0 x1 x2 x3 x4 x5 x6 x7 x8 x9 x10 x11 x12 x13 x14 x15 x16 x17 x18 h := by kernel_rfl
noncomputable def f70_b0 (O : Oracle) (L : Loops (Value × Heap)) (k : Ex → K (Value × Heap)) (x0 x1 x2 x3 x4 x5 x6 x7 x8 x9 x10 x11 x12 x13 x14 x15 x16 x17 x18 : Value) (h : Heap) : Option (Value × Heap) :=
  ob ((M.ofOpt (bin Try.prog .lss 3 x8 x7)) h) fun v2 h2 =>
  iteV v2 (
  ob ((ldN 2 x3) h2) fun v3 h3 =>
  ifB (true) (
  ob ((M.ofOpt (iAddr 2 x0 x8)) h3) fun v4 h4 =>
  ob ((ldN 2 v4) h4) fun v5 h5 =>
  ifB (true) (
  ob ((M.ofOpt (bin Try.prog .eql 33 v3 v5)) h5) fun v6 h6 =>
  iteV v6 (
  k .ret [x0, x1, x2, x3, x8, x8, x6, x7, x8, v2, x8, v3, x0, x8, v4, v5, v6, x8, x18] h6) (
  ob ((M.ofOpt (bin Try.prog .add 3 x8 (.int .i64 1))) h6) fun v7 h7 =>
  k .normal [x0, x1, x2, x3, x4, x8, x6, x7, v7, v2, x8, v3, x0, x8, v4, v5, v6, x17, v7] h7)))) (
  k (.exit 0) [x0, x1, x2, x3, x4, x5, x6, x7, x8, v2, x10, x11, x12, x13, x14, x15, x16, x17, x18] h2)
theorem f70_b0_eq (O : Oracle) (L : Loops (Value × Heap)) (k : Ex → K (Value × Heap)) (x0 x1 x2 x3 x4 x5 x6 x7 x8 x9 x10 x11 x12 x13 x14 x15 x16 x17 x18 : Value) (h : Heap) :
    runCode Try.prog O L f70_c0 k [x0, x1, x2, x3, x4, x5, x6, x7, x8, x9, x10, x11, x12, x13, x14, x15, x16, x17, x18] h = f70_b0 O L k x0 x1 x2 x3 x4 x5 x6 x7 x8 x9 x10 x11 x12 x13 x14 x15 x16 x17 x18 h := by kernel_rfl
noncomputable def f70 (O : Oracle) (L : Loops (Value × Heap)) (a0 a1 : Value) (h : Heap) : Option (Value × Heap) :=
  ob ((newB 33 (Value.cells a1).toList .fix) h) fun v0 h0 =>
  ob ((M.ofOpt (lenSl a0)) h0) fun v1 h1 =>
  L (runCode Try.prog O L f70_c0) (f70_k0 O L) [a0, a1, undef, v0, (.int .i64 0), undef, a0, v1, (.int .i64 0), undef, undef, undef, undef, undef, undef, undef, undef, undef, undef] h1
theorem f70_eq (O : Oracle) (L : Loops (Value × Heap)) (a0 a1 : Value) (h : Heap) :
    body Try.prog O L 70 [a0, a1] h = f70 O L a0 a1 h := by kernel_rfl

/-! 71: slices.IndexFunc[[]int,int]; slots: [(s, 0), (f, 1), (s, 2), (f, 3), (i, 5)] -/
noncomputable def f71_c0 : Code := sub [1, 0, 1, 0, 0] (fbody Try.prog 71)
noncomputable def f71_k0 (O : Oracle) (L : Loops (Value × Heap)) : Ex → K (Value × Heap) := (blockK 0 (seqK Try.prog O L (sub [1, 1] (fbody Try.prog 71)) (kRet Try.prog Try.f71)))
noncomputable def f71_e0_0 (O : Oracle) (L : Loops (Value × Heap)) (x0 x1 x2 x3 x4 x5 x6 x7 x8 x9 x10 x11 x12 x13 x14 x15 x16 x17 x18 : Value) (h : Heap) : Option (Value × Heap) :=
  some (oneOf [(.int .i64 (-1))], h)
theorem f71_e0_0_eq (O : Oracle) (L : Loops (Value × Heap)) (x0 x1 x2 x3 x4 x5 x6 x7 x8 x9 x10 x11 x12 x13 x14 x15 x16 x17 x18 : Value) (h : Heap) :
    f71_k0 O L (.exit 0) [x0, x1, x2, x3, x4, x5, x6, x7, x8, x9, x10, x11, x12, x13, x14, x15, x16, x17, x18] h = f71_e0_0 O L x0 x1 x2 x3 x4 x5 x6 x7 x8 x9 x10 x11 x12 x13 x14 x15 x16 x17 x18 h := by kernel_rfl
noncomputable def f71_r0 (O : Oracle) (L : Loops (Value × Heap)) (x0 x1 x2 x3 x4 x5 x6 x7 x8 x9 x10 x11 x12 x13 x14 x15 x16 x17 x18 : Value) (h : Heap) : Option (Value × Heap) :=
  some (oneOf [x4], h)
theorem f71_r0_eq (O : Oracle) (L : Loops (Value × Heap)) (x0 x1 x2 x3 x4 x5 x6 x7 x8 x9 x10 x11 x12 x13 x14 x15 x16 x17 x18 : Value) (h : Heap) :
    f71_k0 O L .ret [x0, x1, x2, x3, x4, x5, x6, x7, x8, x9, x10, x11, x12, x13, x14, x15, x16, x17, x18] h = f71_r0 O L x0 x1 x2 x3 x4 x5 x6 x7 x8 x9 x10 x11 x12 x13 x14 x15 x16 x17 x18 h := by kernel_rfl
noncomputable def f71_b0 (O : Oracle) (L : Loops (Value × Heap)) (k : Ex → K (Value × Heap)) (x0 x1 x2 x3 x4 x5 x6 x7 x8 x9 x10 x11 x12 x13 x14 x15 x16 x17 x18 : Value) (h : Heap) : Option (Value × Heap) :=
  ob ((M.ofOpt (bin Try.prog .lss 3 x8 x7)) h) fun v1 h1 =>
  iteV v1 (
  ob ((M.ofOpt (iAddr 1 x0 x8)) h1) fun v2 h2 =>
  ob ((ld1 v2) h2) fun v3 h3 =>
  ob ((callV O x1 [v3]) h3) fun v4 h4 =>
  iteV v4 (
  k .ret [x0, x1, x2, x3, x8, x8, x6, x7, x8, v1, x8, x1, x0, x8, v2, v3, v4, x8, x18] h4) (
  ob ((M.ofOpt (bin Try.prog .add 3 x8 (.int .i64 1))) h4) fun v5 h5 =>
  k .normal [x0, x1, x2, x3, x4, x8, x6, x7, v5, v1, x8, x1, x0, x8, v2, v3, v4, x17, v5] h5)) (
  k (.exit 0) [x0, x1, x2, x3, x4, x5, x6, x7, x8, v1, x10, x11, x12, x13, x14, x15, x16, x17, x18] h1)
theorem f71_b0_eq (O : Oracle) (L : Loops (Value × Heap)) (k : Ex → K (Value × Heap)) (x0 x1 x2 x3 x4 x5 x6 x7 x8 x9 x10 x11 x12 x13 x14 x15 x16 x17 x18 : Value) (h : Heap) :
    runCode Try.prog O L f71_c0 k [x0, x1, x2, x3, x4, x5, x6, x7, x8, x9, x10, x11, x12, x13, x14, x15, x16, x17, x18] h = f71_b0 O L k x0 x1 x2 x3 x4 x5 x6 x7 x8 x9 x10 x11 x12 x13 x14 x15 x16 x17 x18 h := by kernel_rfl
noncomputable def f71 (O : Oracle) (L : Loops (Value × Heap)) (a0 a1 : Value) (h : Heap) : Option (Value × Heap) :=
  ob ((M.ofOpt (lenSl a0)) h) fun v0 h0 =>
  L (runCode Try.prog O L f71_c0) (f71_k0 O L) [a0, a1, undef, undef, (.int .i64 0), undef, a0, v0, (.int .i64 0), undef, undef, undef, undef, undef, undef, undef, undef, undef, undef] h0
theorem f71_eq (O : Oracle) (L : Loops (Value × Heap)) (a0 a1 : Value) (h : Heap) :
    body Try.prog O L 71 [a0, a1] h = f71 O L a0 a1 h := by kernel_rfl

/-! 3: shunter/shunterlaw12.PlanEdges; slots: [(nodes, 0), (room, 1), (more, 2), (joined, 3), (k, 4), (nodes, 5), (room, 6), (more, 7), (joined, 8), (k, 9), (p, 11), (x, 12), (i, 13), (y, 14), (bad, 15), (z, 16)] -/
noncomputable def f3_c0 : Code := sub [1, 1, 1, 1, 1, 0, 1, 0, 0] (fbody Try.prog 3)
noncomputable def f3_k0 (O : Oracle) (L : Loops (Value × Heap)) : Ex → K (Value × Heap) := (blockK 0 (seqK Try.prog O L (sub [1, 1, 1, 1, 1, 1] (fbody Try.prog 3)) (kRet Try.prog Try.f3)))
noncomputable def f3_e0_0 (O : Oracle) (L : Loops (Value × Heap)) (x0 x1 x2 x3 x4 x5 x6 x7 x8 x9 x10 x11 x12 x13 x14 x15 x16 x17 x18 x19 x20 x21 x22 x23 x24 x25 x26 x27 x28 x29 x30 x31 x32 x33 x34 x35 x36 x37 x38 x39 x40 x41 x42 x43 x44 x45 x46 x47 x48 x49 x50 x51 x52 x53 x54 x55 x56 x57 x58 x59 x60 x61 x62 x63 x64 x65 x66 x67 x68 x69 x70 x71 x72 x73 x74 x75 x76 x77 x78 x79 x80 x81 x82 x83 x84 x85 x86 x87 x88 x89 x90 x91 x92 x93 x94 x95 x96 x97 x98 x99 x100 x101 x102 x103 x104 x105 x106 x107 : Value) (h : Heap) : Option (Value × Heap) :=
  ob ((ldN 11 x11) h) fun v30 h30 =>
  ob ((newB 27 [(.int .i64 0), (.slice none 0 0), (.int .i64 0), (.int .i64 0), (.int .i64 0), (.int .i64 0), (.int .i64 0), (.int .i64 0), (.slice none 0 0), (.int .u16 0), (.slice none 0 0)] .fix) h30) fun v31 h31 =>
  ob ((stN 11 v31 v30) h31) fun v32 h32 =>
  ob ((M.ofOpt (fAddr 1 v31)) h32) fun v33 h33 =>
  ob ((stN 1 v33 (.slice none 0 0)) h33) fun v34 h34 =>
  ob ((M.ofOpt (fAddr 1 v31)) h34) fun v35 h35 =>
  ob ((ld1 v35) h35) fun v36 h36 =>
  ob ((M.ofOpt (fAddr 1 x11)) h36) fun v37 h37 =>
  ob ((ld1 v37) h37) fun v38 h38 =>
  ob ((app 33 2 16 v36 v38) h38) fun v39 h39 =>
  ob ((M.ofOpt (fAddr 1 v31)) h39) fun v40 h40 =>
  ob ((stN 1 v40 v39) h40) fun v41 h41 =>
  ob ((M.ofOpt (bld Try.prog 33 [(0, (.int .i64 1)), (1, (.int .i64 1))])) h41) fun v42 h42 =>
  ob ((M.ofOpt (bld Try.prog 33 [(0, (.int .i64 1)), (1, (.int .i64 0))])) h42) fun v43 h43 =>
  ob ((M.ofOpt (fAddr 0 x11)) h43) fun v44 h44 =>
  ob ((ld1 v44) h44) fun v45 h45 =>
  ob ((M.ofOpt (bld Try.prog 33 [(0, (.int .i64 0)), (1, v45)])) h45) fun v46 h46 =>
  ob ((M.ofOpt (bld Try.prog 33 [(0, (.int .i64 (-1))), (1, (.int .i64 0))])) h46) fun v47 h47 =>
  ob ((bldSlice 33 2 4 [(.int .i64 0), (.int .i64 0)] [(0, v42), (1, v43), (2, v46), (3, v47)]) h47) fun v48 h48 =>
  ob ((M.ofOpt (fAddr 1 v31)) h48) fun v49 h49 =>
  ob ((ld1 v49) h49) fun v50 h50 =>
  ifB (true) (
  ob ((conv Try.prog 5 3 x4) h50) fun v51 h51 =>
  ob ((M.ofOpt (bin Try.prog .rem 3 v51 (.int .i64 4))) h51) fun v52 h52 =>
  ob ((M.ofOpt (iAddr 2 v48 v52)) h52) fun v53 h53 =>
  ob ((ldN 2 v53) h53) fun v54 h54 =>
  ifB (true) (
  ob ((bldSlice 33 2 1 [(.int .i64 0), (.int .i64 0)] [(0, v54)]) h54) fun v55 h55 =>
  ob ((app 33 2 16 v50 v55) h55) fun v56 h56 =>
  ifB (true) (
  ob ((M.ofOpt (fAddr 1 v31)) h56) fun v57 h57 =>
  ob ((stN 1 v57 v56) h57) fun v58 h58 =>
  ifB (true) (
  ob ((ldN 11 x11) h58) fun v59 h59 =>
  ob ((newB 27 [(.int .i64 0), (.slice none 0 0), (.int .i64 0), (.int .i64 0), (.int .i64 0), (.int .i64 0), (.int .i64 0), (.int .i64 0), (.slice none 0 0), (.int .u16 0), (.slice none 0 0)] .fix) h59) fun v60 h60 =>
  ob ((stN 11 v60 v59) h60) fun v61 h61 =>
  ob ((M.ofOpt (fAddr 1 v60)) h61) fun v62 h62 =>
  ob ((stN 1 v62 (.slice none 0 0)) h62) fun v63 h63 =>
  ob ((M.ofOpt (fAddr 1 v60)) h63) fun v64 h64 =>
  ob ((ld1 v64) h64) fun v65 h65 =>
  ob ((M.ofOpt (fAddr 1 x11)) h65) fun v66 h66 =>
  ob ((ld1 v66) h66) fun v67 h67 =>
  ob ((app 33 2 16 v65 v67) h67) fun v68 h68 =>
  ob ((M.ofOpt (fAddr 1 v60)) h68) fun v69 h69 =>
  ob ((stN 1 v69 v68) h69) fun v70 h70 =>
  ob ((M.ofOpt (fAddr 1 v60)) h70) fun v71 h71 =>
  ob ((ld1 v71) h71) fun v72 h72 =>
  ob ((M.ofOpt (fAddr 1 x11)) h72) fun v73 h73 =>
  ob ((ld1 v73) h73) fun v74 h74 =>
  ob ((app 33 2 16 v72 v74) h74) fun v75 h75 =>
  ob ((M.ofOpt (fAddr 1 v60)) h75) fun v76 h76 =>
  ob ((stN 1 v76 v75) h76) fun v77 h77 =>
  ob ((ldN 11 x12) h77) fun v78 h78 =>
  ob ((O (.func 17) [v78]) h78) fun v79 h79 =>
  ob ((M.ofOpt (bin Try.prog .eql 30 v79 (.int .u16 0))) h79) fun v80 h80 =>
  ob ((gd v80 true (ldN 11 v31)) h80) fun v81 h81 =>
  ob ((gd v80 true (O (.func 17) [v81])) h81) fun v82 h82 =>
  ob ((gd v80 true (M.ofOpt (bin Try.prog .eql 30 v82 (.int .u16 120)))) h82) fun v83 h83 =>
  ob ((M.ofOpt (pick v80 v83 (.bool false))) h83) fun v84 h84 =>
  ob ((gd v84 true (M.ofOpt (fAddr 1 x11))) h84) fun v85 h85 =>
  ob ((gd v84 true (ld1 v85)) h85) fun v86 h86 =>
  ob ((gd v84 true (M.ofOpt (lenSl v86))) h86) fun v87 h87 =>
  ob ((gd v84 true (M.ofOpt (bin Try.prog .eql 3 v87 (.int .i64 0)))) h87) fun v88 h88 =>
  ob ((gd v84 true (M.ret v88)) h88) fun v89 h89 =>
  ob ((gd v89 false (ldN 11 v60)) h89) fun v90 h90 =>
  ob ((gd v89 false (O (.func 17) [v90])) h90) fun v91 h91 =>
  ob ((gd v89 false (M.ofOpt (bin Try.prog .eql 30 v91 (.int .u16 120)))) h91) fun v92 h92 =>
  ob ((gd v84 true (M.ofOpt (pick v89 (.bool true) v92))) h92) fun v93 h93 =>
  ob ((M.ofOpt (pick v84 v93 (.bool false))) h93) fun v94 h94 =>
  some (oneOf [v94], h94)))))
theorem f3_e0_0_eq (O : Oracle) (L : Loops (Value × Heap)) (x0 x1 x2 x3 x4 x5 x6 x7 x8 x9 x10 x11 x12 x13 x14 x15 x16 x17 x18 x19 x20 x21 x22 x23 x24 x25 x26 x27 x28 x29 x30 x31 x32 x33 x34 x35 x36 x37 x38 x39 x40 x41 x42 x43 x44 x45 x46 x47 x48 x49 x50 x51 x52 x53 x54 x55 x56 x57 x58 x59 x60 x61 x62 x63 x64 x65 x66 x67 x68 x69 x70 x71 x72 x73 x74 x75 x76 x77 x78 x79 x80 x81 x82 x83 x84 x85 x86 x87 x88 x89 x90 x91 x92 x93 x94 x95 x96 x97 x98 x99 x100 x101 x102 x103 x104 x105 x106 x107 : Value) (h : Heap) :
    f3_k0 O L (.exit 0) [x0, x1, x2, x3, x4, x5, x6, x7, x8, x9, x10, x11, x12, x13, x14, x15, x16, x17, x18, x19, x20, x21, x22, x23, x24, x25, x26, x27, x28, x29, x30, x31, x32, x33, x34, x35, x36, x37, x38, x39, x40, x41, x42, x43, x44, x45, x46, x47, x48, x49, x50, x51, x52, x53, x54, x55, x56, x57, x58, x59, x60, x61, x62, x63, x64, x65, x66, x67, x68, x69, x70, x71, x72, x73, x74, x75, x76, x77, x78, x79, x80, x81, x82, x83, x84, x85, x86, x87, x88, x89, x90, x91, x92, x93, x94, x95, x96, x97, x98, x99, x100, x101, x102, x103, x104, x105, x106, x107] h = f3_e0_0 O L x0 x1 x2 x3 x4 x5 x6 x7 x8 x9 x10 x11 x12 x13 x14 x15 x16 x17 x18 x19 x20 x21 x22 x23 x24 x25 x26 x27 x28 x29 x30 x31 x32 x33 x34 x35 x36 x37 x38 x39 x40 x41 x42 x43 x44 x45 x46 x47 x48 x49 x50 x51 x52 x53 x54 x55 x56 x57 x58 x59 x60 x61 x62 x63 x64 x65 x66 x67 x68 x69 x70 x71 x72 x73 x74 x75 x76 x77 x78 x79 x80 x81 x82 x83 x84 x85 x86 x87 x88 x89 x90 x91 x92 x93 x94 x95 x96 x97 x98 x99 x100 x101 x102 x103 x104 x105 x106 x107 h := by kernel_rfl
noncomputable def f3_b0 (O : Oracle) (L : Loops (Value × Heap)) (k : Ex → K (Value × Heap)) (x0 x1 x2 x3 x4 x5 x6 x7 x8 x9 x10 x11 x12 x13 x14 x15 x16 x17 x18 x19 x20 x21 x22 x23 x24 x25 x26 x27 x28 x29 x30 x31 x32 x33 x34 x35 x36 x37 x38 x39 x40 x41 x42 x43 x44 x45 x46 x47 x48 x49 x50 x51 x52 x53 x54 x55 x56 x57 x58 x59 x60 x61 x62 x63 x64 x65 x66 x67 x68 x69 x70 x71 x72 x73 x74 x75 x76 x77 x78 x79 x80 x81 x82 x83 x84 x85 x86 x87 x88 x89 x90 x91 x92 x93 x94 x95 x96 x97 x98 x99 x100 x101 x102 x103 x104 x105 x106 x107 : Value) (h : Heap) : Option (Value × Heap) :=
  ob ((M.ofOpt (bin Try.prog .geq 3 x13 (.int .i64 0))) h) fun v18 h18 =>
  iteV v18 (
  ob ((M.ofOpt (fAddr 1 x12)) h18) fun v19 h19 =>
  ob ((ld1 v19) h19) fun v20 h20 =>
  ifB (true) (
  ob ((M.ofOpt (fAddr 1 x11)) h20) fun v21 h21 =>
  ob ((ld1 v21) h21) fun v22 h22 =>
  ifB (true) (
  ob ((M.ofOpt (iAddr 2 v22 x13)) h22) fun v23 h23 =>
  ob ((ldN 2 v23) h23) fun v24 h24 =>
  ifB (true) (
  ob ((bldSlice 33 2 1 [(.int .i64 0), (.int .i64 0)] [(0, v24)]) h24) fun v25 h25 =>
  ob ((app 33 2 16 v20 v25) h25) fun v26 h26 =>
  ifB (true) (
  ob ((M.ofOpt (fAddr 1 x12)) h26) fun v27 h27 =>
  ob ((stN 1 v27 v26) h27) fun v28 h28 =>
  ifB (true) (
  ob ((M.ofOpt (bin Try.prog .sub 3 x13 (.int .i64 1))) h28) fun v29 h29 =>
  k .normal [x0, x1, x2, x3, x4, x5, x6, x7, x8, x9, x10, x11, x12, v29, x14, x15, x16, x17, x18, x19, x20, x21, x22, x23, x24, x25, x26, x27, x28, x29, x30, x31, x32, x33, x34, x13, v18, x13, v29, v19, v20, v21, v22, x13, v23, v24, v25, v26, v27, x49, x50, x51, x52, x53, x54, x55, x56, x57, x58, x59, x60, x61, x62, x63, x64, x65, x66, x67, x68, x69, x70, x71, x72, x73, x74, x75, x76, x77, x78, x79, x80, x81, x82, x83, x84, x85, x86, x87, x88, x89, x90, x91, x92, x93, x94, x95, x96, x97, x98, x99, x100, x101, x102, x103, x104, x105, x106, x107] h29)))))) (
  k (.exit 0) [x0, x1, x2, x3, x4, x5, x6, x7, x8, x9, x10, x11, x12, x13, x14, x15, x16, x17, x18, x19, x20, x21, x22, x23, x24, x25, x26, x27, x28, x29, x30, x31, x32, x33, x34, x13, v18, x37, x38, x39, x40, x41, x42, x43, x44, x45, x46, x47, x48, x49, x50, x51, x52, x53, x54, x55, x56, x57, x58, x59, x60, x61, x62, x63, x64, x65, x66, x67, x68, x69, x70, x71, x72, x73, x74, x75, x76, x77, x78, x79, x80, x81, x82, x83, x84, x85, x86, x87, x88, x89, x90, x91, x92, x93, x94, x95, x96, x97, x98, x99, x100, x101, x102, x103, x104, x105, x106, x107] h18)
theorem f3_b0_eq (O : Oracle) (L : Loops (Value × Heap)) (k : Ex → K (Value × Heap)) (x0 x1 x2 x3 x4 x5 x6 x7 x8 x9 x10 x11 x12 x13 x14 x15 x16 x17 x18 x19 x20 x21 x22 x23 x24 x25 x26 x27 x28 x29 x30 x31 x32 x33 x34 x35 x36 x37 x38 x39 x40 x41 x42 x43 x44 x45 x46 x47 x48 x49 x50 x51 x52 x53 x54 x55 x56 x57 x58 x59 x60 x61 x62 x63 x64 x65 x66 x67 x68 x69 x70 x71 x72 x73 x74 x75 x76 x77 x78 x79 x80 x81 x82 x83 x84 x85 x86 x87 x88 x89 x90 x91 x92 x93 x94 x95 x96 x97 x98 x99 x100 x101 x102 x103 x104 x105 x106 x107 : Value) (h : Heap) :
    runCode Try.prog O L f3_c0 k [x0, x1, x2, x3, x4, x5, x6, x7, x8, x9, x10, x11, x12, x13, x14, x15, x16, x17, x18, x19, x20, x21, x22, x23, x24, x25, x26, x27, x28, x29, x30, x31, x32, x33, x34, x35, x36, x37, x38, x39, x40, x41, x42, x43, x44, x45, x46, x47, x48, x49, x50, x51, x52, x53, x54, x55, x56, x57, x58, x59, x60, x61, x62, x63, x64, x65, x66, x67, x68, x69, x70, x71, x72, x73, x74, x75, x76, x77, x78, x79, x80, x81, x82, x83, x84, x85, x86, x87, x88, x89, x90, x91, x92, x93, x94, x95, x96, x97, x98, x99, x100, x101, x102, x103, x104, x105, x106, x107] h = f3_b0 O L k x0 x1 x2 x3 x4 x5 x6 x7 x8 x9 x10 x11 x12 x13 x14 x15 x16 x17 x18 x19 x20 x21 x22 x23 x24 x25 x26 x27 x28 x29 x30 x31 x32 x33 x34 x35 x36 x37 x38 x39 x40 x41 x42 x43 x44 x45 x46 x47 x48 x49 x50 x51 x52 x53 x54 x55 x56 x57 x58 x59 x60 x61 x62 x63 x64 x65 x66 x67 x68 x69 x70 x71 x72 x73 x74 x75 x76 x77 x78 x79 x80 x81 x82 x83 x84 x85 x86 x87 x88 x89 x90 x91 x92 x93 x94 x95 x96 x97 x98 x99 x100 x101 x102 x103 x104 x105 x106 x107 h := by kernel_rfl
noncomputable def f3 (O : Oracle) (L : Loops (Value × Heap)) (a0 a1 a2 a3 a4 : Value) (h : Heap) : Option (Value × Heap) :=
  ob ((O (.func 15) [a0, a1, a2, a3, (.slice none 0 0)]) h) fun v0 h0 =>
  ob ((newB 27 [(.int .i64 0), (.slice none 0 0), (.int .i64 0), (.int .i64 0), (.int .i64 0), (.int .i64 0), (.int .i64 0), (.int .i64 0), (.slice none 0 0), (.int .u16 0), (.slice none 0 0)] .fix) h0) fun v1 h1 =>
  ob ((stN 11 v1 v0) h1) fun v2 h2 =>
  ob ((O (.func 16) []) h2) fun v3 h3 =>
  ob ((M.ofOpt (un Try.prog .not v3)) h3) fun v4 h4 =>
  ob ((gd v4 false (ldN 11 v1)) h4) fun v5 h5 =>
  ob ((gd v4 false (O (.func 17) [v5])) h5) fun v6 h6 =>
  ob ((gd v4 false (M.ofOpt (bin Try.prog .neq 30 v6 (.int .u16 0)))) h6) fun v7 h7 =>
  ob ((M.ofOpt (pick v4 (.bool true) v7)) h7) fun v8 h8 =>
  iteV v8 (
  some (oneOf [(.bool false)], h8)) (
  ob ((ldN 11 v1) h8) fun v9 h9 =>
  ob ((newB 27 [(.int .i64 0), (.slice none 0 0), (.int .i64 0), (.int .i64 0), (.int .i64 0), (.int .i64 0), (.int .i64 0), (.int .i64 0), (.slice none 0 0), (.int .u16 0), (.slice none 0 0)] .fix) h9) fun v10 h10 =>
  ob ((stN 11 v10 v9) h10) fun v11 h11 =>
  ob ((M.ofOpt (fAddr 1 v10)) h11) fun v12 h12 =>
  ob ((stN 1 v12 (.slice none 0 0)) h12) fun v13 h13 =>
  ob ((M.ofOpt (fAddr 1 v1)) h13) fun v14 h14 =>
  ob ((ld1 v14) h14) fun v15 h15 =>
  ob ((M.ofOpt (lenSl v15)) h15) fun v16 h16 =>
  ob ((M.ofOpt (bin Try.prog .sub 3 v16 (.int .i64 1))) h16) fun v17 h17 =>
  L (runCode Try.prog O L f3_c0) (f3_k0 O L) [a0, a1, a2, a3, a4, undef, undef, undef, undef, undef, (.bool false), v1, v10, v17, undef, undef, undef, a0, a1, a2, a3, v0, v3, v4, v4, v5, v6, v7, v8, v9, v12, v14, v15, v16, v17, undef, undef, undef, undef, undef, undef, undef, undef, undef, undef, undef, undef, undef, undef, undef, undef, undef, undef, undef, undef, undef, undef, undef, undef, undef, undef, undef, undef, undef, undef, undef, undef, undef, undef, undef, undef, undef, undef, undef, undef, undef, undef, undef, undef, undef, undef, undef, undef, undef, undef, undef, undef, undef, undef, undef, undef, undef, undef, undef, undef, undef, undef, undef, undef, undef, undef, undef, undef, undef, undef, undef, undef, undef] h17)
theorem f3_eq (O : Oracle) (L : Loops (Value × Heap)) (a0 a1 a2 a3 a4 : Value) (h : Heap) :
    body Try.prog O L 3 [a0, a1, a2, a3, a4] h = f3 O L a0 a1 a2 a3 a4 h := by kernel_rfl

/-! 4: shunter/shunterlaw12.PlanHops; slots: [(nodes, 0), (joined, 1), (nodes, 2), (joined, 3), (p, 5), (h, 6), (i, 7), (back, 8), (k, 9)] -/
noncomputable def f4_c1 : Code := sub [1, 1, 1, 0, 1, 0, 0, 1, 0, 0, 1, 1, 0, 1, 0, 0] (fbody Try.prog 4)
noncomputable def f4_k1 (O : Oracle) (L : Loops (Value × Heap)) (k : Ex → K (Value × Heap)) : Ex → K (Value × Heap) := (blockK 2 (seqK Try.prog O L (sub [1, 1, 1, 0, 1, 0, 0, 1, 0, 0, 1, 1, 1] (fbody Try.prog 4)) (blockK 1 (seqK Try.prog O L (sub [1, 1, 1, 0, 1, 0, 0, 1, 1] (fbody Try.prog 4)) k))))
noncomputable def f4_e1_2 (O : Oracle) (L : Loops (Value × Heap)) (k : Ex → K (Value × Heap)) (x0 x1 x2 x3 x4 x5 x6 x7 x8 x9 x10 x11 x12 x13 x14 x15 x16 x17 x18 x19 x20 x21 x22 x23 x24 x25 x26 x27 x28 x29 x30 x31 x32 x33 x34 x35 x36 x37 x38 x39 x40 x41 x42 x43 x44 x45 x46 x47 x48 x49 x50 x51 x52 x53 x54 x55 x56 x57 x58 x59 x60 x61 x62 x63 x64 x65 x66 x67 x68 x69 x70 x71 x72 x73 x74 x75 x76 x77 x78 x79 x80 x81 x82 x83 x84 x85 x86 x87 x88 x89 x90 x91 x92 x93 x94 x95 x96 x97 x98 x99 x100 x101 x102 x103 x104 x105 x106 x107 x108 x109 x110 x111 x112 x113 x114 x115 x116 x117 x118 x119 x120 x121 x122 x123 x124 : Value) (h : Heap) : Option (Value × Heap) :=
  ob ((M.ofOpt (un Try.prog .not x8)) h) fun v86 h86 =>
  ob ((gd v86 false (ldN 11 x5)) h86) fun v87 h87 =>
  ifB (true) (
  ob ((gd v86 false (M.ret x6)) h87) fun v88 h88 =>
  ob ((gd v86 false (M.ret x7)) h88) fun v89 h89 =>
  ob ((gd v86 false (M.ofOpt (iAddr 2 v88 v89))) h89) fun v90 h90 =>
  ob ((gd v86 false (M.ofOpt (fAddr 0 v90))) h90) fun v91 h91 =>
  ob ((gd v86 false (ld1 v91)) h91) fun v92 h92 =>
  ifB (true) (
  ob ((gd v86 false (M.ret x6)) h92) fun v93 h93 =>
  ob ((gd v86 false (M.ret x7)) h93) fun v94 h94 =>
  ob ((gd v86 false (M.ofOpt (iAddr 2 v93 v94))) h94) fun v95 h95 =>
  ob ((gd v86 false (M.ofOpt (fAddr 1 v95))) h95) fun v96 h96 =>
  ob ((gd v86 false (ld1 v96)) h96) fun v97 h97 =>
  ifB (true) (
  ob ((gd v86 false (O (.func 19) [v87, v92, v97])) h97) fun v98 h98 =>
  ifB (true) (
  ob ((gd v86 false (M.ofOpt (bin Try.prog .lss 3 v98 (.int .i64 1)))) h98) fun v99 h99 =>
  ob ((M.ofOpt (pick v86 (.bool true) v99)) h99) fun v100 h100 =>
  iteV v100 (
  k .ret [x0, x1, x2, x3, (.bool false), x5, x6, x7, x8, x9, x10, x11, x12, x13, x14, x15, x16, x17, x18, x19, x20, x21, x22, x23, x24, x25, x26, x27, x28, x29, x30, x31, x32, x33, x34, x35, x36, x37, x38, x39, x40, x41, x42, x43, x44, x45, x46, x47, x48, x49, x50, x51, x52, x53, x54, x55, x56, x57, x58, x59, x60, x61, x62, x63, x64, x65, x66, x67, x68, x69, x70, x71, x72, x73, x74, x75, x76, x77, x78, x79, x80, x81, x82, x83, x84, x85, x86, x87, x88, x89, x90, x91, x92, x93, x94, x95, x96, x97, x8, v86, v86, v87, v88, v89, v90, v91, v92, v93, v94, v95, v96, v97, v98, v99, v100, x115, x116, x117, x118, x119, x120, x121, x122, x123, x124] h100) (
  ob ((M.ofOpt (bin Try.prog .add 3 x7 (.int .i64 1))) h100) fun v101 h101 =>
  k .normal [x0, x1, x2, x3, x4, x5, x6, v101, x8, x9, x10, x11, x12, x13, x14, x15, x16, x17, x18, x7, v101, x21, x22, x23, x24, x25, x26, x27, x28, x29, x30, x31, x32, x33, x34, x35, x36, x37, x38, x39, x40, x41, x42, x43, x44, x45, x46, x47, x48, x49, x50, x51, x52, x53, x54, x55, x56, x57, x58, x59, x60, x61, x62, x63, x64, x65, x66, x67, x68, x69, x70, x71, x72, x73, x74, x75, x76, x77, x78, x79, x80, x81, x82, x83, x84, x85, x86, x87, x88, x89, x90, x91, x92, x93, x94, x95, x96, x97, x8, v86, v86, v87, v88, v89, v90, v91, v92, v93, v94, v95, v96, v97, v98, v99, v100, x115, x116, x117, x118, x119, x120, x121, x122, x123, x124] h101)))))
theorem f4_e1_2_eq (O : Oracle) (L : Loops (Value × Heap)) (k : Ex → K (Value × Heap)) (x0 x1 x2 x3 x4 x5 x6 x7 x8 x9 x10 x11 x12 x13 x14 x15 x16 x17 x18 x19 x20 x21 x22 x23 x24 x25 x26 x27 x28 x29 x30 x31 x32 x33 x34 x35 x36 x37 x38 x39 x40 x41 x42 x43 x44 x45 x46 x47 x48 x49 x50 x51 x52 x53 x54 x55 x56 x57 x58 x59 x60 x61 x62 x63 x64 x65 x66 x67 x68 x69 x70 x71 x72 x73 x74 x75 x76 x77 x78 x79 x80 x81 x82 x83 x84 x85 x86 x87 x88 x89 x90 x91 x92 x93 x94 x95 x96 x97 x98 x99 x100 x101 x102 x103 x104 x105 x106 x107 x108 x109 x110 x111 x112 x113 x114 x115 x116 x117 x118 x119 x120 x121 x122 x123 x124 : Value) (h : Heap) :
    f4_k1 O L k (.exit 2) [x0, x1, x2, x3, x4, x5, x6, x7, x8, x9, x10, x11, x12, x13, x14, x15, x16, x17, x18, x19, x20, x21, x22, x23, x24, x25, x26, x27, x28, x29, x30, x31, x32, x33, x34, x35, x36, x37, x38, x39, x40, x41, x42, x43, x44, x45, x46, x47, x48, x49, x50, x51, x52, x53, x54, x55, x56, x57, x58, x59, x60, x61, x62, x63, x64, x65, x66, x67, x68, x69, x70, x71, x72, x73, x74, x75, x76, x77, x78, x79, x80, x81, x82, x83, x84, x85, x86, x87, x88, x89, x90, x91, x92, x93, x94, x95, x96, x97, x98, x99, x100, x101, x102, x103, x104, x105, x106, x107, x108, x109, x110, x111, x112, x113, x114, x115, x116, x117, x118, x119, x120, x121, x122, x123, x124] h = f4_e1_2 O L k x0 x1 x2 x3 x4 x5 x6 x7 x8 x9 x10 x11 x12 x13 x14 x15 x16 x17 x18 x19 x20 x21 x22 x23 x24 x25 x26 x27 x28 x29 x30 x31 x32 x33 x34 x35 x36 x37 x38 x39 x40 x41 x42 x43 x44 x45 x46 x47 x48 x49 x50 x51 x52 x53 x54 x55 x56 x57 x58 x59 x60 x61 x62 x63 x64 x65 x66 x67 x68 x69 x70 x71 x72 x73 x74 x75 x76 x77 x78 x79 x80 x81 x82 x83 x84 x85 x86 x87 x88 x89 x90 x91 x92 x93 x94 x95 x96 x97 x98 x99 x100 x101 x102 x103 x104 x105 x106 x107 x108 x109 x110 x111 x112 x113 x114 x115 x116 x117 x118 x119 x120 x121 x122 x123 x124 h := by kernel_rfl
noncomputable def f4_b1 (O : Oracle) (L : Loops (Value × Heap)) (k : Ex → K (Value × Heap)) (x0 x1 x2 x3 x4 x5 x6 x7 x8 x9 x10 x11 x12 x13 x14 x15 x16 x17 x18 x19 x20 x21 x22 x23 x24 x25 x26 x27 x28 x29 x30 x31 x32 x33 x34 x35 x36 x37 x38 x39 x40 x41 x42 x43 x44 x45 x46 x47 x48 x49 x50 x51 x52 x53 x54 x55 x56 x57 x58 x59 x60 x61 x62 x63 x64 x65 x66 x67 x68 x69 x70 x71 x72 x73 x74 x75 x76 x77 x78 x79 x80 x81 x82 x83 x84 x85 x86 x87 x88 x89 x90 x91 x92 x93 x94 x95 x96 x97 x98 x99 x100 x101 x102 x103 x104 x105 x106 x107 x108 x109 x110 x111 x112 x113 x114 x115 x116 x117 x118 x119 x120 x121 x122 x123 x124 : Value) (h : Heap) : Option (Value × Heap) :=
  ob ((M.ofOpt (lenSl x6)) h) fun v58 h58 =>
  ob ((M.ofOpt (bin Try.prog .lss 3 x9 v58)) h58) fun v59 h59 =>
  iteV v59 (
  ob ((gd x8 false (M.ret x6)) h59) fun v60 h60 =>
  ob ((gd x8 false (M.ret x9)) h60) fun v61 h61 =>
  ob ((gd x8 false (M.ofOpt (iAddr 2 v60 v61))) h61) fun v62 h62 =>
  ob ((gd x8 false (M.ofOpt (fAddr 0 v62))) h62) fun v63 h63 =>
  ob ((gd x8 false (ld1 v63)) h63) fun v64 h64 =>
  ifB (true) (
  ob ((gd x8 false (M.ret x6)) h64) fun v65 h65 =>
  ob ((gd x8 false (M.ret x7)) h65) fun v66 h66 =>
  ob ((gd x8 false (M.ofOpt (iAddr 2 v65 v66))) h66) fun v67 h67 =>
  ob ((gd x8 false (M.ofOpt (fAddr 1 v67))) h67) fun v68 h68 =>
  ob ((gd x8 false (ld1 v68)) h68) fun v69 h69 =>
  ifB (true) (
  ob ((gd x8 false (M.ofOpt (bin Try.prog .eql 3 v64 v69))) h69) fun v70 h70 =>
  ob ((gd x8 false (M.ret v70)) h70) fun v71 h71 =>
  ob ((gd v71 true (M.ret x6)) h71) fun v72 h72 =>
  ob ((gd v71 true (M.ret x9)) h72) fun v73 h73 =>
  ob ((gd v71 true (M.ofOpt (iAddr 2 v72 v73))) h73) fun v74 h74 =>
  ob ((gd v71 true (M.ofOpt (fAddr 1 v74))) h74) fun v75 h75 =>
  ob ((gd v71 true (ld1 v75)) h75) fun v76 h76 =>
  ifB (true) (
  ob ((gd v71 true (M.ret x6)) h76) fun v77 h77 =>
  ob ((gd v71 true (M.ret x7)) h77) fun v78 h78 =>
  ob ((gd v71 true (M.ofOpt (iAddr 2 v77 v78))) h78) fun v79 h79 =>
  ob ((gd v71 true (M.ofOpt (fAddr 0 v79))) h79) fun v80 h80 =>
  ob ((gd v71 true (ld1 v80)) h80) fun v81 h81 =>
  ifB (true) (
  ob ((gd v71 true (M.ofOpt (bin Try.prog .eql 3 v76 v81))) h81) fun v82 h82 =>
  ob ((gd x8 false (M.ofOpt (pick v71 v82 (.bool false)))) h82) fun v83 h83 =>
  ob ((M.ofOpt (pick x8 (.bool true) v83)) h83) fun v84 h84 =>
  ob ((M.ofOpt (bin Try.prog .add 3 x9 (.int .i64 1))) h84) fun v85 h85 =>
  k .normal [x0, x1, x2, x3, x4, x5, x6, x7, v84, v85, x10, x11, x12, x13, x14, x15, x16, x17, x18, x19, x20, x21, x22, x23, x24, x25, x26, x27, x28, x29, x30, x31, x32, x33, x34, x35, x36, x37, x38, x39, x40, x41, x42, x43, x44, x45, x46, x47, x48, x49, x50, x51, x52, x53, x54, x55, x56, x57, x58, x59, x60, x61, x62, x63, x64, x9, x6, v58, v59, x9, v85, x8, x8, v60, v61, v62, v63, v64, v65, v66, v67, v68, v69, v70, v71, v72, v73, v74, v75, v76, v77, v78, v79, v80, v81, v82, v83, v84, x98, x99, x100, x101, x102, x103, x104, x105, x106, x107, x108, x109, x110, x111, x112, x113, x114, x115, x116, x117, x118, x119, x120, x121, x122, x123, x124] h85))))) (
  k (.exit 2) [x0, x1, x2, x3, x4, x5, x6, x7, x8, x9, x10, x11, x12, x13, x14, x15, x16, x17, x18, x19, x20, x21, x22, x23, x24, x25, x26, x27, x28, x29, x30, x31, x32, x33, x34, x35, x36, x37, x38, x39, x40, x41, x42, x43, x44, x45, x46, x47, x48, x49, x50, x51, x52, x53, x54, x55, x56, x57, x58, x59, x60, x61, x62, x63, x64, x9, x6, v58, v59, x69, x70, x71, x72, x73, x74, x75, x76, x77, x78, x79, x80, x81, x82, x83, x84, x85, x86, x87, x88, x89, x90, x91, x92, x93, x94, x95, x96, x97, x98, x99, x100, x101, x102, x103, x104, x105, x106, x107, x108, x109, x110, x111, x112, x113, x114, x115, x116, x117, x118, x119, x120, x121, x122, x123, x124] h59)
theorem f4_b1_eq (O : Oracle) (L : Loops (Value × Heap)) (k : Ex → K (Value × Heap)) (x0 x1 x2 x3 x4 x5 x6 x7 x8 x9 x10 x11 x12 x13 x14 x15 x16 x17 x18 x19 x20 x21 x22 x23 x24 x25 x26 x27 x28 x29 x30 x31 x32 x33 x34 x35 x36 x37 x38 x39 x40 x41 x42 x43 x44 x45 x46 x47 x48 x49 x50 x51 x52 x53 x54 x55 x56 x57 x58 x59 x60 x61 x62 x63 x64 x65 x66 x67 x68 x69 x70 x71 x72 x73 x74 x75 x76 x77 x78 x79 x80 x81 x82 x83 x84 x85 x86 x87 x88 x89 x90 x91 x92 x93 x94 x95 x96 x97 x98 x99 x100 x101 x102 x103 x104 x105 x106 x107 x108 x109 x110 x111 x112 x113 x114 x115 x116 x117 x118 x119 x120 x121 x122 x123 x124 : Value) (h : Heap) :
    runCode Try.prog O L f4_c1 k [x0, x1, x2, x3, x4, x5, x6, x7, x8, x9, x10, x11, x12, x13, x14, x15, x16, x17, x18, x19, x20, x21, x22, x23, x24, x25, x26, x27, x28, x29, x30, x31, x32, x33, x34, x35, x36, x37, x38, x39, x40, x41, x42, x43, x44, x45, x46, x47, x48, x49, x50, x51, x52, x53, x54, x55, x56, x57, x58, x59, x60, x61, x62, x63, x64, x65, x66, x67, x68, x69, x70, x71, x72, x73, x74, x75, x76, x77, x78, x79, x80, x81, x82, x83, x84, x85, x86, x87, x88, x89, x90, x91, x92, x93, x94, x95, x96, x97, x98, x99, x100, x101, x102, x103, x104, x105, x106, x107, x108, x109, x110, x111, x112, x113, x114, x115, x116, x117, x118, x119, x120, x121, x122, x123, x124] h = f4_b1 O L k x0 x1 x2 x3 x4 x5 x6 x7 x8 x9 x10 x11 x12 x13 x14 x15 x16 x17 x18 x19 x20 x21 x22 x23 x24 x25 x26 x27 x28 x29 x30 x31 x32 x33 x34 x35 x36 x37 x38 x39 x40 x41 x42 x43 x44 x45 x46 x47 x48 x49 x50 x51 x52 x53 x54 x55 x56 x57 x58 x59 x60 x61 x62 x63 x64 x65 x66 x67 x68 x69 x70 x71 x72 x73 x74 x75 x76 x77 x78 x79 x80 x81 x82 x83 x84 x85 x86 x87 x88 x89 x90 x91 x92 x93 x94 x95 x96 x97 x98 x99 x100 x101 x102 x103 x104 x105 x106 x107 x108 x109 x110 x111 x112 x113 x114 x115 x116 x117 x118 x119 x120 x121 x122 x123 x124 h := by kernel_rfl
noncomputable def f4_c0 : Code := sub [1, 1, 1, 0, 1, 0, 0] (fbody Try.prog 4)
noncomputable def f4_k0 (O : Oracle) (L : Loops (Value × Heap)) : Ex → K (Value × Heap) := (blockK 0 (seqK Try.prog O L (sub [1, 1, 1, 1] (fbody Try.prog 4)) (kRet Try.prog Try.f4)))
noncomputable def f4_e0_0 (O : Oracle) (L : Loops (Value × Heap)) (x0 x1 x2 x3 x4 x5 x6 x7 x8 x9 x10 x11 x12 x13 x14 x15 x16 x17 x18 x19 x20 x21 x22 x23 x24 x25 x26 x27 x28 x29 x30 x31 x32 x33 x34 x35 x36 x37 x38 x39 x40 x41 x42 x43 x44 x45 x46 x47 x48 x49 x50 x51 x52 x53 x54 x55 x56 x57 x58 x59 x60 x61 x62 x63 x64 x65 x66 x67 x68 x69 x70 x71 x72 x73 x74 x75 x76 x77 x78 x79 x80 x81 x82 x83 x84 x85 x86 x87 x88 x89 x90 x91 x92 x93 x94 x95 x96 x97 x98 x99 x100 x101 x102 x103 x104 x105 x106 x107 x108 x109 x110 x111 x112 x113 x114 x115 x116 x117 x118 x119 x120 x121 x122 x123 x124 : Value) (h : Heap) : Option (Value × Heap) :=
  ob ((O (.func 16) []) h) fun v49 h49 =>
  ob ((gd v49 true (M.ret x6)) h49) fun v50 h50 =>
  ob ((gd v49 true (M.ofOpt (lenSl v50))) h50) fun v51 h51 =>
  ob ((gd v49 true (M.ofOpt (fAddr 1 x5))) h51) fun v52 h52 =>
  ob ((gd v49 true (ld1 v52)) h52) fun v53 h53 =>
  ob ((gd v49 true (M.ofOpt (lenSl v53))) h53) fun v54 h54 =>
  ob ((gd v49 true (M.ofOpt (bin Try.prog .mul 3 (.int .i64 2) v54))) h54) fun v55 h55 =>
  ob ((gd v49 true (M.ofOpt (bin Try.prog .eql 3 v51 v55))) h55) fun v56 h56 =>
  ob ((M.ofOpt (pick v49 v56 (.bool false))) h56) fun v57 h57 =>
  some (oneOf [v57], h57)
theorem f4_e0_0_eq (O : Oracle) (L : Loops (Value × Heap)) (x0 x1 x2 x3 x4 x5 x6 x7 x8 x9 x10 x11 x12 x13 x14 x15 x16 x17 x18 x19 x20 x21 x22 x23 x24 x25 x26 x27 x28 x29 x30 x31 x32 x33 x34 x35 x36 x37 x38 x39 x40 x41 x42 x43 x44 x45 x46 x47 x48 x49 x50 x51 x52 x53 x54 x55 x56 x57 x58 x59 x60 x61 x62 x63 x64 x65 x66 x67 x68 x69 x70 x71 x72 x73 x74 x75 x76 x77 x78 x79 x80 x81 x82 x83 x84 x85 x86 x87 x88 x89 x90 x91 x92 x93 x94 x95 x96 x97 x98 x99 x100 x101 x102 x103 x104 x105 x106 x107 x108 x109 x110 x111 x112 x113 x114 x115 x116 x117 x118 x119 x120 x121 x122 x123 x124 : Value) (h : Heap) :
    f4_k0 O L (.exit 0) [x0, x1, x2, x3, x4, x5, x6, x7, x8, x9, x10, x11, x12, x13, x14, x15, x16, x17, x18, x19, x20, x21, x22, x23, x24, x25, x26, x27, x28, x29, x30, x31, x32, x33, x34, x35, x36, x37, x38, x39, x40, x41, x42, x43, x44, x45, x46, x47, x48, x49, x50, x51, x52, x53, x54, x55, x56, x57, x58, x59, x60, x61, x62, x63, x64, x65, x66, x67, x68, x69, x70, x71, x72, x73, x74, x75, x76, x77, x78, x79, x80, x81, x82, x83, x84, x85, x86, x87, x88, x89, x90, x91, x92, x93, x94, x95, x96, x97, x98, x99, x100, x101, x102, x103, x104, x105, x106, x107, x108, x109, x110, x111, x112, x113, x114, x115, x116, x117, x118, x119, x120, x121, x122, x123, x124] h = f4_e0_0 O L x0 x1 x2 x3 x4 x5 x6 x7 x8 x9 x10 x11 x12 x13 x14 x15 x16 x17 x18 x19 x20 x21 x22 x23 x24 x25 x26 x27 x28 x29 x30 x31 x32 x33 x34 x35 x36 x37 x38 x39 x40 x41 x42 x43 x44 x45 x46 x47 x48 x49 x50 x51 x52 x53 x54 x55 x56 x57 x58 x59 x60 x61 x62 x63 x64 x65 x66 x67 x68 x69 x70 x71 x72 x73 x74 x75 x76 x77 x78 x79 x80 x81 x82 x83 x84 x85 x86 x87 x88 x89 x90 x91 x92 x93 x94 x95 x96 x97 x98 x99 x100 x101 x102 x103 x104 x105 x106 x107 x108 x109 x110 x111 x112 x113 x114 x115 x116 x117 x118 x119 x120 x121 x122 x123 x124 h := by kernel_rfl
noncomputable def f4_r0 (O : Oracle) (L : Loops (Value × Heap)) (x0 x1 x2 x3 x4 x5 x6 x7 x8 x9 x10 x11 x12 x13 x14 x15 x16 x17 x18 x19 x20 x21 x22 x23 x24 x25 x26 x27 x28 x29 x30 x31 x32 x33 x34 x35 x36 x37 x38 x39 x40 x41 x42 x43 x44 x45 x46 x47 x48 x49 x50 x51 x52 x53 x54 x55 x56 x57 x58 x59 x60 x61 x62 x63 x64 x65 x66 x67 x68 x69 x70 x71 x72 x73 x74 x75 x76 x77 x78 x79 x80 x81 x82 x83 x84 x85 x86 x87 x88 x89 x90 x91 x92 x93 x94 x95 x96 x97 x98 x99 x100 x101 x102 x103 x104 x105 x106 x107 x108 x109 x110 x111 x112 x113 x114 x115 x116 x117 x118 x119 x120 x121 x122 x123 x124 : Value) (h : Heap) : Option (Value × Heap) :=
  some (oneOf [x4], h)
theorem f4_r0_eq (O : Oracle) (L : Loops (Value × Heap)) (x0 x1 x2 x3 x4 x5 x6 x7 x8 x9 x10 x11 x12 x13 x14 x15 x16 x17 x18 x19 x20 x21 x22 x23 x24 x25 x26 x27 x28 x29 x30 x31 x32 x33 x34 x35 x36 x37 x38 x39 x40 x41 x42 x43 x44 x45 x46 x47 x48 x49 x50 x51 x52 x53 x54 x55 x56 x57 x58 x59 x60 x61 x62 x63 x64 x65 x66 x67 x68 x69 x70 x71 x72 x73 x74 x75 x76 x77 x78 x79 x80 x81 x82 x83 x84 x85 x86 x87 x88 x89 x90 x91 x92 x93 x94 x95 x96 x97 x98 x99 x100 x101 x102 x103 x104 x105 x106 x107 x108 x109 x110 x111 x112 x113 x114 x115 x116 x117 x118 x119 x120 x121 x122 x123 x124 : Value) (h : Heap) :
    f4_k0 O L .ret [x0, x1, x2, x3, x4, x5, x6, x7, x8, x9, x10, x11, x12, x13, x14, x15, x16, x17, x18, x19, x20, x21, x22, x23, x24, x25, x26, x27, x28, x29, x30, x31, x32, x33, x34, x35, x36, x37, x38, x39, x40, x41, x42, x43, x44, x45, x46, x47, x48, x49, x50, x51, x52, x53, x54, x55, x56, x57, x58, x59, x60, x61, x62, x63, x64, x65, x66, x67, x68, x69, x70, x71, x72, x73, x74, x75, x76, x77, x78, x79, x80, x81, x82, x83, x84, x85, x86, x87, x88, x89, x90, x91, x92, x93, x94, x95, x96, x97, x98, x99, x100, x101, x102, x103, x104, x105, x106, x107, x108, x109, x110, x111, x112, x113, x114, x115, x116, x117, x118, x119, x120, x121, x122, x123, x124] h = f4_r0 O L x0 x1 x2 x3 x4 x5 x6 x7 x8 x9 x10 x11 x12 x13 x14 x15 x16 x17 x18 x19 x20 x21 x22 x23 x24 x25 x26 x27 x28 x29 x30 x31 x32 x33 x34 x35 x36 x37 x38 x39 x40 x41 x42 x43 x44 x45 x46 x47 x48 x49 x50 x51 x52 x53 x54 x55 x56 x57 x58 x59 x60 x61 x62 x63 x64 x65 x66 x67 x68 x69 x70 x71 x72 x73 x74 x75 x76 x77 x78 x79 x80 x81 x82 x83 x84 x85 x86 x87 x88 x89 x90 x91 x92 x93 x94 x95 x96 x97 x98 x99 x100 x101 x102 x103 x104 x105 x106 x107 x108 x109 x110 x111 x112 x113 x114 x115 x116 x117 x118 x119 x120 x121 x122 x123 x124 h := by kernel_rfl
noncomputable def f4_b0 (O : Oracle) (L : Loops (Value × Heap)) (k : Ex → K (Value × Heap)) (x0 x1 x2 x3 x4 x5 x6 x7 x8 x9 x10 x11 x12 x13 x14 x15 x16 x17 x18 x19 x20 x21 x22 x23 x24 x25 x26 x27 x28 x29 x30 x31 x32 x33 x34 x35 x36 x37 x38 x39 x40 x41 x42 x43 x44 x45 x46 x47 x48 x49 x50 x51 x52 x53 x54 x55 x56 x57 x58 x59 x60 x61 x62 x63 x64 x65 x66 x67 x68 x69 x70 x71 x72 x73 x74 x75 x76 x77 x78 x79 x80 x81 x82 x83 x84 x85 x86 x87 x88 x89 x90 x91 x92 x93 x94 x95 x96 x97 x98 x99 x100 x101 x102 x103 x104 x105 x106 x107 x108 x109 x110 x111 x112 x113 x114 x115 x116 x117 x118 x119 x120 x121 x122 x123 x124 : Value) (h : Heap) : Option (Value × Heap) :=
  ob ((M.ofOpt (lenSl x6)) h) fun v5 h5 =>
  ob ((M.ofOpt (bin Try.prog .lss 3 x7 v5)) h5) fun v6 h6 =>
  iteV v6 (
  ob ((M.ofOpt (bin Try.prog .gtr 3 x7 (.int .i64 0))) h6) fun v7 h7 =>
  ob ((gd v7 true (M.ret x6)) h7) fun v8 h8 =>
  ob ((gd v7 true (M.ret x7)) h8) fun v9 h9 =>
  ob ((gd v7 true (M.ofOpt (iAddr 2 v8 v9))) h9) fun v10 h10 =>
  ob ((gd v7 true (M.ofOpt (fAddr 0 v10))) h10) fun v11 h11 =>
  ob ((gd v7 true (ld1 v11)) h11) fun v12 h12 =>
  ifB (true) (
  ob ((gd v7 true (M.ret x6)) h12) fun v13 h13 =>
  ob ((gd v7 true (M.ret x7)) h13) fun v14 h14 =>
  ob ((gd v7 true (M.ofOpt (bin Try.prog .sub 3 v14 (.int .i64 1)))) h14) fun v15 h15 =>
  ob ((gd v7 true (M.ofOpt (iAddr 2 v13 v15))) h15) fun v16 h16 =>
  ob ((gd v7 true (M.ofOpt (fAddr 0 v16))) h16) fun v17 h17 =>
  ob ((gd v7 true (ld1 v17)) h17) fun v18 h18 =>
  ifB (true) (
  ob ((gd v7 true (M.ofOpt (bin Try.prog .lss 3 v12 v18))) h18) fun v19 h19 =>
  ob ((gd v7 true (M.ret v19)) h19) fun v20 h20 =>
  ob ((gd v20 false (M.ret x6)) h20) fun v21 h21 =>
  ob ((gd v20 false (M.ret x7)) h21) fun v22 h22 =>
  ob ((gd v20 false (M.ofOpt (iAddr 2 v21 v22))) h22) fun v23 h23 =>
  ob ((gd v20 false (M.ofOpt (fAddr 0 v23))) h23) fun v24 h24 =>
  ob ((gd v20 false (ld1 v24)) h24) fun v25 h25 =>
  ifB (true) (
  ob ((gd v20 false (M.ret x6)) h25) fun v26 h26 =>
  ob ((gd v20 false (M.ret x7)) h26) fun v27 h27 =>
  ob ((gd v20 false (M.ofOpt (bin Try.prog .sub 3 v27 (.int .i64 1)))) h27) fun v28 h28 =>
  ob ((gd v20 false (M.ofOpt (iAddr 2 v26 v28))) h28) fun v29 h29 =>
  ob ((gd v20 false (M.ofOpt (fAddr 0 v29))) h29) fun v30 h30 =>
  ob ((gd v20 false (ld1 v30)) h30) fun v31 h31 =>
  ifB (true) (
  ob ((gd v20 false (M.ofOpt (bin Try.prog .eql 3 v25 v31))) h31) fun v32 h32 =>
  ob ((gd v20 false (M.ret v32)) h32) fun v33 h33 =>
  ob ((gd v33 true (M.ret x6)) h33) fun v34 h34 =>
  ob ((gd v33 true (M.ret x7)) h34) fun v35 h35 =>
  ob ((gd v33 true (M.ofOpt (iAddr 2 v34 v35))) h35) fun v36 h36 =>
  ob ((gd v33 true (M.ofOpt (fAddr 1 v36))) h36) fun v37 h37 =>
  ob ((gd v33 true (ld1 v37)) h37) fun v38 h38 =>
  ifB (true) (
  ob ((gd v33 true (M.ret x6)) h38) fun v39 h39 =>
  ob ((gd v33 true (M.ret x7)) h39) fun v40 h40 =>
  ob ((gd v33 true (M.ofOpt (bin Try.prog .sub 3 v40 (.int .i64 1)))) h40) fun v41 h41 =>
  ob ((gd v33 true (M.ofOpt (iAddr 2 v39 v41))) h41) fun v42 h42 =>
  ob ((gd v33 true (M.ofOpt (fAddr 1 v42))) h42) fun v43 h43 =>
  ob ((gd v33 true (ld1 v43)) h43) fun v44 h44 =>
  ifB (true) (
  ob ((gd v33 true (M.ofOpt (bin Try.prog .leq 3 v38 v44))) h44) fun v45 h45 =>
  ob ((gd v20 false (M.ofOpt (pick v33 v45 (.bool false)))) h45) fun v46 h46 =>
  ob ((gd v7 true (M.ofOpt (pick v20 (.bool true) v46))) h46) fun v47 h47 =>
  ob ((M.ofOpt (pick v7 v47 (.bool false))) h47) fun v48 h48 =>
  iteV v48 (
  k .ret [x0, x1, x2, x3, (.bool false), x5, x6, x7, x8, x9, x10, x11, x12, x13, x14, x7, x6, v5, v6, x19, x20, x7, v7, v7, v8, v9, v10, v11, v12, v13, v14, v15, v16, v17, v18, v19, v20, v21, v22, v23, v24, v25, v26, v27, v28, v29, v30, v31, v32, v33, v34, v35, v36, v37, v38, v39, v40, v41, v42, v43, v44, v45, v46, v47, v48, x65, x66, x67, x68, x69, x70, x71, x72, x73, x74, x75, x76, x77, x78, x79, x80, x81, x82, x83, x84, x85, x86, x87, x88, x89, x90, x91, x92, x93, x94, x95, x96, x97, x98, x99, x100, x101, x102, x103, x104, x105, x106, x107, x108, x109, x110, x111, x112, x113, x114, x115, x116, x117, x118, x119, x120, x121, x122, x123, x124] h48) (
  L (runCode Try.prog O L f4_c1) (f4_k1 O L k) [x0, x1, x2, x3, x4, x5, x6, x7, (.bool false), (.int .i64 0), x10, x11, x12, x13, x14, x7, x6, v5, v6, x19, x20, x7, v7, v7, v8, v9, v10, v11, v12, v13, v14, v15, v16, v17, v18, v19, v20, v21, v22, v23, v24, v25, v26, v27, v28, v29, v30, v31, v32, v33, v34, v35, v36, v37, v38, v39, v40, v41, v42, v43, v44, v45, v46, v47, v48, x65, x66, x67, x68, x69, x70, x71, x72, x73, x74, x75, x76, x77, x78, x79, x80, x81, x82, x83, x84, x85, x86, x87, x88, x89, x90, x91, x92, x93, x94, x95, x96, x97, x98, x99, x100, x101, x102, x103, x104, x105, x106, x107, x108, x109, x110, x111, x112, x113, x114, x115, x116, x117, x118, x119, x120, x121, x122, x123, x124] h48)))))))) (
  k (.exit 0) [x0, x1, x2, x3, x4, x5, x6, x7, x8, x9, x10, x11, x12, x13, x14, x7, x6, v5, v6, x19, x20, x21, x22, x23, x24, x25, x26, x27, x28, x29, x30, x31, x32, x33, x34, x35, x36, x37, x38, x39, x40, x41, x42, x43, x44, x45, x46, x47, x48, x49, x50, x51, x52, x53, x54, x55, x56, x57, x58, x59, x60, x61, x62, x63, x64, x65, x66, x67, x68, x69, x70, x71, x72, x73, x74, x75, x76, x77, x78, x79, x80, x81, x82, x83, x84, x85, x86, x87, x88, x89, x90, x91, x92, x93, x94, x95, x96, x97, x98, x99, x100, x101, x102, x103, x104, x105, x106, x107, x108, x109, x110, x111, x112, x113, x114, x115, x116, x117, x118, x119, x120, x121, x122, x123, x124] h6)
theorem f4_b0_eq (O : Oracle) (L : Loops (Value × Heap)) (k : Ex → K (Value × Heap)) (x0 x1 x2 x3 x4 x5 x6 x7 x8 x9 x10 x11 x12 x13 x14 x15 x16 x17 x18 x19 x20 x21 x22 x23 x24 x25 x26 x27 x28 x29 x30 x31 x32 x33 x34 x35 x36 x37 x38 x39 x40 x41 x42 x43 x44 x45 x46 x47 x48 x49 x50 x51 x52 x53 x54 x55 x56 x57 x58 x59 x60 x61 x62 x63 x64 x65 x66 x67 x68 x69 x70 x71 x72 x73 x74 x75 x76 x77 x78 x79 x80 x81 x82 x83 x84 x85 x86 x87 x88 x89 x90 x91 x92 x93 x94 x95 x96 x97 x98 x99 x100 x101 x102 x103 x104 x105 x106 x107 x108 x109 x110 x111 x112 x113 x114 x115 x116 x117 x118 x119 x120 x121 x122 x123 x124 : Value) (h : Heap) :
    runCode Try.prog O L f4_c0 k [x0, x1, x2, x3, x4, x5, x6, x7, x8, x9, x10, x11, x12, x13, x14, x15, x16, x17, x18, x19, x20, x21, x22, x23, x24, x25, x26, x27, x28, x29, x30, x31, x32, x33, x34, x35, x36, x37, x38, x39, x40, x41, x42, x43, x44, x45, x46, x47, x48, x49, x50, x51, x52, x53, x54, x55, x56, x57, x58, x59, x60, x61, x62, x63, x64, x65, x66, x67, x68, x69, x70, x71, x72, x73, x74, x75, x76, x77, x78, x79, x80, x81, x82, x83, x84, x85, x86, x87, x88, x89, x90, x91, x92, x93, x94, x95, x96, x97, x98, x99, x100, x101, x102, x103, x104, x105, x106, x107, x108, x109, x110, x111, x112, x113, x114, x115, x116, x117, x118, x119, x120, x121, x122, x123, x124] h = f4_b0 O L k x0 x1 x2 x3 x4 x5 x6 x7 x8 x9 x10 x11 x12 x13 x14 x15 x16 x17 x18 x19 x20 x21 x22 x23 x24 x25 x26 x27 x28 x29 x30 x31 x32 x33 x34 x35 x36 x37 x38 x39 x40 x41 x42 x43 x44 x45 x46 x47 x48 x49 x50 x51 x52 x53 x54 x55 x56 x57 x58 x59 x60 x61 x62 x63 x64 x65 x66 x67 x68 x69 x70 x71 x72 x73 x74 x75 x76 x77 x78 x79 x80 x81 x82 x83 x84 x85 x86 x87 x88 x89 x90 x91 x92 x93 x94 x95 x96 x97 x98 x99 x100 x101 x102 x103 x104 x105 x106 x107 x108 x109 x110 x111 x112 x113 x114 x115 x116 x117 x118 x119 x120 x121 x122 x123 x124 h := by kernel_rfl
noncomputable def f4 (O : Oracle) (L : Loops (Value × Heap)) (a0 a1 : Value) (h : Heap) : Option (Value × Heap) :=
  ob ((O (.func 15) [a0, (.int .u8 0), (.int .u8 0), a1, (.slice none 0 0)]) h) fun v0 h0 =>
  ob ((newB 27 [(.int .i64 0), (.slice none 0 0), (.int .i64 0), (.int .i64 0), (.int .i64 0), (.int .i64 0), (.int .i64 0), (.int .i64 0), (.slice none 0 0), (.int .u16 0), (.slice none 0 0)] .fix) h0) fun v1 h1 =>
  ob ((stN 11 v1 v0) h1) fun v2 h2 =>
  ob ((ldN 11 v1) h2) fun v3 h3 =>
  ob ((O (.func 18) [v3]) h3) fun v4 h4 =>
  L (runCode Try.prog O L f4_c0) (f4_k0 O L) [a0, a1, undef, undef, (.bool false), v1, v4, (.int .i64 0), undef, undef, a0, a1, v0, v3, v4, undef, undef, undef, undef, undef, undef, undef, undef, undef, undef, undef, undef, undef, undef, undef, undef, undef, undef, undef, undef, undef, undef, undef, undef, undef, undef, undef, undef, undef, undef, undef, undef, undef, undef, undef, undef, undef, undef, undef, undef, undef, undef, undef, undef, undef, undef, undef, undef, undef, undef, undef, undef, undef, undef, undef, undef, undef, undef, undef, undef, undef, undef, undef, undef, undef, undef, undef, undef, undef, undef, undef, undef, undef, undef, undef, undef, undef, undef, undef, undef, undef, undef, undef, undef, undef, undef, undef, undef, undef, undef, undef, undef, undef, undef, undef, undef, undef, undef, undef, undef, undef, undef, undef, undef, undef, undef, undef, undef, undef, undef] h4
theorem f4_eq (O : Oracle) (L : Loops (Value × Heap)) (a0 a1 : Value) (h : Heap) :
    body Try.prog O L 4 [a0, a1] h = f4 O L a0 a1 h := by kernel_rfl

/-! 5: shunter/shunterlaw12.PlanRows; slots: [(nodes, 0), (room, 1), (more, 2), (joined, 3), (v, 4), (nodes, 5), (room, 6), (more, 7), (joined, 8), (v, 9), (p, 11), (x, 12), (y, 13), (i, 14), (row, 15)] -/
noncomputable def f5_c0 : Code := sub [1, 1, 1, 1, 1, 1, 0, 1, 0, 0] (fbody Try.prog 5)
noncomputable def f5_k0 (O : Oracle) (L : Loops (Value × Heap)) : Ex → K (Value × Heap) := (blockK 0 (seqK Try.prog O L (sub [1, 1, 1, 1, 1, 1, 1] (fbody Try.prog 5)) (kRet Try.prog Try.f5)))
noncomputable def f5_e0_0 (O : Oracle) (L : Loops (Value × Heap)) (x0 x1 x2 x3 x4 x5 x6 x7 x8 x9 x10 x11 x12 x13 x14 x15 x16 x17 x18 x19 x20 x21 x22 x23 x24 x25 x26 x27 x28 x29 x30 x31 x32 x33 x34 x35 x36 x37 x38 x39 x40 x41 x42 x43 x44 x45 x46 x47 x48 x49 x50 x51 x52 x53 x54 x55 x56 x57 x58 x59 x60 x61 x62 x63 x64 x65 x66 x67 x68 x69 x70 x71 x72 x73 x74 x75 x76 x77 x78 : Value) (h : Heap) : Option (Value × Heap) :=
  ob ((O (.func 16) []) h) fun v51 h51 =>
  ob ((gd v51 true (ldN 11 x11)) h51) fun v52 h52 =>
  ob ((gd v51 true (O (.func 17) [v52])) h52) fun v53 h53 =>
  ob ((gd v51 true (M.ofOpt (bin Try.prog .eql 30 v53 (.int .u16 0)))) h53) fun v54 h54 =>
  ob ((M.ofOpt (pick v51 v54 (.bool false))) h54) fun v55 h55 =>
  ob ((gd v55 true (ldN 11 x12)) h55) fun v56 h56 =>
  ob ((gd v55 true (O (.func 17) [v56])) h56) fun v57 h57 =>
  ob ((gd v55 true (M.ofOpt (bin Try.prog .eql 30 v57 (.int .u16 120)))) h57) fun v58 h58 =>
  ob ((M.ofOpt (pick v55 v58 (.bool false))) h58) fun v59 h59 =>
  ob ((gd v59 true (ldN 11 x13)) h59) fun v60 h60 =>
  ob ((gd v59 true (O (.func 17) [v60])) h60) fun v61 h61 =>
  ob ((gd v59 true (M.ofOpt (bin Try.prog .eql 30 v61 (.int .u16 120)))) h61) fun v62 h62 =>
  ob ((M.ofOpt (pick v59 v62 (.bool false))) h62) fun v63 h63 =>
  some (oneOf [v63], h63)
theorem f5_e0_0_eq (O : Oracle) (L : Loops (Value × Heap)) (x0 x1 x2 x3 x4 x5 x6 x7 x8 x9 x10 x11 x12 x13 x14 x15 x16 x17 x18 x19 x20 x21 x22 x23 x24 x25 x26 x27 x28 x29 x30 x31 x32 x33 x34 x35 x36 x37 x38 x39 x40 x41 x42 x43 x44 x45 x46 x47 x48 x49 x50 x51 x52 x53 x54 x55 x56 x57 x58 x59 x60 x61 x62 x63 x64 x65 x66 x67 x68 x69 x70 x71 x72 x73 x74 x75 x76 x77 x78 : Value) (h : Heap) :
    f5_k0 O L (.exit 0) [x0, x1, x2, x3, x4, x5, x6, x7, x8, x9, x10, x11, x12, x13, x14, x15, x16, x17, x18, x19, x20, x21, x22, x23, x24, x25, x26, x27, x28, x29, x30, x31, x32, x33, x34, x35, x36, x37, x38, x39, x40, x41, x42, x43, x44, x45, x46, x47, x48, x49, x50, x51, x52, x53, x54, x55, x56, x57, x58, x59, x60, x61, x62, x63, x64, x65, x66, x67, x68, x69, x70, x71, x72, x73, x74, x75, x76, x77, x78] h = f5_e0_0 O L x0 x1 x2 x3 x4 x5 x6 x7 x8 x9 x10 x11 x12 x13 x14 x15 x16 x17 x18 x19 x20 x21 x22 x23 x24 x25 x26 x27 x28 x29 x30 x31 x32 x33 x34 x35 x36 x37 x38 x39 x40 x41 x42 x43 x44 x45 x46 x47 x48 x49 x50 x51 x52 x53 x54 x55 x56 x57 x58 x59 x60 x61 x62 x63 x64 x65 x66 x67 x68 x69 x70 x71 x72 x73 x74 x75 x76 x77 x78 h := by kernel_rfl
noncomputable def f5_b0 (O : Oracle) (L : Loops (Value × Heap)) (k : Ex → K (Value × Heap)) (x0 x1 x2 x3 x4 x5 x6 x7 x8 x9 x10 x11 x12 x13 x14 x15 x16 x17 x18 x19 x20 x21 x22 x23 x24 x25 x26 x27 x28 x29 x30 x31 x32 x33 x34 x35 x36 x37 x38 x39 x40 x41 x42 x43 x44 x45 x46 x47 x48 x49 x50 x51 x52 x53 x54 x55 x56 x57 x58 x59 x60 x61 x62 x63 x64 x65 x66 x67 x68 x69 x70 x71 x72 x73 x74 x75 x76 x77 x78 : Value) (h : Heap) : Option (Value × Heap) :=
  ob ((M.ofOpt (fAddr 10 x11)) h) fun v20 h20 =>
  ob ((ld1 v20) h20) fun v21 h21 =>
  ob ((M.ofOpt (lenSl v21)) h21) fun v22 h22 =>
  ob ((M.ofOpt (bin Try.prog .lss 3 x14 v22)) h22) fun v23 h23 =>
  iteV v23 (
  ob ((M.ofOpt (fAddr 10 x11)) h23) fun v24 h24 =>
  ob ((ld1 v24) h24) fun v25 h25 =>
  ob ((M.ofOpt (iAddr 1 v25 x14)) h25) fun v26 h26 =>
  ob ((ld1 v26) h26) fun v27 h27 =>
  ob ((conv Try.prog 5 3 x4) h27) fun v28 h28 =>
  ob ((M.ofOpt (fAddr 10 x11)) h28) fun v29 h29 =>
  ob ((ld1 v29) h29) fun v30 h30 =>
  ob ((M.ofOpt (lenSl v30)) h30) fun v31 h31 =>
  ob ((M.ofOpt (bin Try.prog .rem 3 v28 v31)) h31) fun v32 h32 =>
  ob ((M.ofOpt (bin Try.prog .eql 3 x14 v32)) h32) fun v33 h33 =>
  iteV v33 (
  ob ((M.ofOpt (lenSl v27)) h33) fun v34 h34 =>
  ob ((M.ofOpt (bin Try.prog .sub 3 v34 (.int .i64 1))) h34) fun v35 h35 =>
  ob ((slc Try.prog 1 v27 none (some v35) none) h35) fun v36 h36 =>
  ob ((M.ofOpt (fAddr 10 x13)) h36) fun v37 h37 =>
  ob ((ld1 v37) h37) fun v38 h38 =>
  ob ((bldSlice 24 1 1 [(.slice none 0 0)] [(0, v36)]) h38) fun v39 h39 =>
  ob ((app 24 1 24 v38 v39) h39) fun v40 h40 =>
  ob ((M.ofOpt (fAddr 10 x13)) h40) fun v41 h41 =>
  ob ((stN 1 v41 v40) h41) fun v42 h42 =>
  ob ((M.ofOpt (bin Try.prog .add 3 x14 (.int .i64 1))) h42) fun v43 h43 =>
  k .normal [x0, x1, x2, x3, x4, x5, x6, x7, x8, x9, x10, x11, x12, x13, v43, v36, x16, x17, x18, x19, x20, x21, x22, x23, x24, x25, x26, x27, x28, x29, x30, x31, x14, v20, v21, v22, v23, x14, v43, v24, v25, x14, v26, v27, x14, x4, v28, v29, v30, v31, v32, v33, v27, v27, v34, v35, v36, v37, v38, v36, v39, v40, v41, x63, x64, x65, x66, x67, x68, x69, x70, x71, x72, x73, x74, x75, x76, x77, x78] h43) (
  ob ((M.ofOpt (fAddr 10 x13)) h33) fun v44 h44 =>
  ob ((ld1 v44) h44) fun v45 h45 =>
  ob ((bldSlice 24 1 1 [(.slice none 0 0)] [(0, v27)]) h45) fun v46 h46 =>
  ob ((app 24 1 24 v45 v46) h46) fun v47 h47 =>
  ob ((M.ofOpt (fAddr 10 x13)) h47) fun v48 h48 =>
  ob ((stN 1 v48 v47) h48) fun v49 h49 =>
  ob ((M.ofOpt (bin Try.prog .add 3 x14 (.int .i64 1))) h49) fun v50 h50 =>
  k .normal [x0, x1, x2, x3, x4, x5, x6, x7, x8, x9, x10, x11, x12, x13, v50, v27, x16, x17, x18, x19, x20, x21, x22, x23, x24, x25, x26, x27, x28, x29, x30, x31, x14, v20, v21, v22, v23, x14, v50, v24, v25, x14, v26, v27, x14, x4, v28, v29, v30, v31, v32, v33, x52, x53, x54, x55, x56, v44, v45, v27, v46, v47, v48, x63, x64, x65, x66, x67, x68, x69, x70, x71, x72, x73, x74, x75, x76, x77, x78] h50)) (
  k (.exit 0) [x0, x1, x2, x3, x4, x5, x6, x7, x8, x9, x10, x11, x12, x13, x14, x15, x16, x17, x18, x19, x20, x21, x22, x23, x24, x25, x26, x27, x28, x29, x30, x31, x14, v20, v21, v22, v23, x37, x38, x39, x40, x41, x42, x43, x44, x45, x46, x47, x48, x49, x50, x51, x52, x53, x54, x55, x56, x57, x58, x59, x60, x61, x62, x63, x64, x65, x66, x67, x68, x69, x70, x71, x72, x73, x74, x75, x76, x77, x78] h23)
theorem f5_b0_eq (O : Oracle) (L : Loops (Value × Heap)) (k : Ex → K (Value × Heap)) (x0 x1 x2 x3 x4 x5 x6 x7 x8 x9 x10 x11 x12 x13 x14 x15 x16 x17 x18 x19 x20 x21 x22 x23 x24 x25 x26 x27 x28 x29 x30 x31 x32 x33 x34 x35 x36 x37 x38 x39 x40 x41 x42 x43 x44 x45 x46 x47 x48 x49 x50 x51 x52 x53 x54 x55 x56 x57 x58 x59 x60 x61 x62 x63 x64 x65 x66 x67 x68 x69 x70 x71 x72 x73 x74 x75 x76 x77 x78 : Value) (h : Heap) :
    runCode Try.prog O L f5_c0 k [x0, x1, x2, x3, x4, x5, x6, x7, x8, x9, x10, x11, x12, x13, x14, x15, x16, x17, x18, x19, x20, x21, x22, x23, x24, x25, x26, x27, x28, x29, x30, x31, x32, x33, x34, x35, x36, x37, x38, x39, x40, x41, x42, x43, x44, x45, x46, x47, x48, x49, x50, x51, x52, x53, x54, x55, x56, x57, x58, x59, x60, x61, x62, x63, x64, x65, x66, x67, x68, x69, x70, x71, x72, x73, x74, x75, x76, x77, x78] h = f5_b0 O L k x0 x1 x2 x3 x4 x5 x6 x7 x8 x9 x10 x11 x12 x13 x14 x15 x16 x17 x18 x19 x20 x21 x22 x23 x24 x25 x26 x27 x28 x29 x30 x31 x32 x33 x34 x35 x36 x37 x38 x39 x40 x41 x42 x43 x44 x45 x46 x47 x48 x49 x50 x51 x52 x53 x54 x55 x56 x57 x58 x59 x60 x61 x62 x63 x64 x65 x66 x67 x68 x69 x70 x71 x72 x73 x74 x75 x76 x77 x78 h := by kernel_rfl
noncomputable def f5 (O : Oracle) (L : Loops (Value × Heap)) (a0 a1 a2 a3 a4 : Value) (h : Heap) : Option (Value × Heap) :=
  ob ((O (.func 15) [a0, a1, a2, a3, (.slice none 0 0)]) h) fun v0 h0 =>
  ob ((newB 27 [(.int .i64 0), (.slice none 0 0), (.int .i64 0), (.int .i64 0), (.int .i64 0), (.int .i64 0), (.int .i64 0), (.int .i64 0), (.slice none 0 0), (.int .u16 0), (.slice none 0 0)] .fix) h0) fun v1 h1 =>
  ob ((stN 11 v1 v0) h1) fun v2 h2 =>
  ob ((ldN 11 v1) h2) fun v3 h3 =>
  ob ((newB 27 [(.int .i64 0), (.slice none 0 0), (.int .i64 0), (.int .i64 0), (.int .i64 0), (.int .i64 0), (.int .i64 0), (.int .i64 0), (.slice none 0 0), (.int .u16 0), (.slice none 0 0)] .fix) h3) fun v4 h4 =>
  ob ((stN 11 v4 v3) h4) fun v5 h5 =>
  ob ((M.ofOpt (fAddr 10 v1)) h5) fun v6 h6 =>
  ob ((ld1 v6) h6) fun v7 h7 =>
  ob ((M.ofOpt (fAddr 10 v1)) h7) fun v8 h8 =>
  ob ((ld1 v8) h8) fun v9 h9 =>
  ob ((M.ofOpt (lenSl v9)) h9) fun v10 h10 =>
  ob ((M.ofOpt (bin Try.prog .sub 3 v10 (.int .i64 1))) h10) fun v11 h11 =>
  ob ((slc Try.prog 1 v7 none (some v11) none) h11) fun v12 h12 =>
  ob ((M.ofOpt (fAddr 10 v4)) h12) fun v13 h13 =>
  ob ((stN 1 v13 v12) h13) fun v14 h14 =>
  ob ((ldN 11 v1) h14) fun v15 h15 =>
  ob ((newB 27 [(.int .i64 0), (.slice none 0 0), (.int .i64 0), (.int .i64 0), (.int .i64 0), (.int .i64 0), (.int .i64 0), (.int .i64 0), (.slice none 0 0), (.int .u16 0), (.slice none 0 0)] .fix) h15) fun v16 h16 =>
  ob ((stN 11 v16 v15) h16) fun v17 h17 =>
  ob ((M.ofOpt (fAddr 10 v16)) h17) fun v18 h18 =>
  ob ((stN 1 v18 (.slice none 0 0)) h18) fun v19 h19 =>
  L (runCode Try.prog O L f5_c0) (f5_k0 O L) [a0, a1, a2, a3, a4, undef, undef, undef, undef, undef, (.bool false), v1, v4, v16, (.int .i64 0), undef, a0, a1, a2, a3, v0, v3, v6, v7, v8, v9, v10, v11, v12, v13, v15, v18, undef, undef, undef, undef, undef, undef, undef, undef, undef, undef, undef, undef, undef, undef, undef, undef, undef, undef, undef, undef, undef, undef, undef, undef, undef, undef, undef, undef, undef, undef, undef, undef, undef, undef, undef, undef, undef, undef, undef, undef, undef, undef, undef, undef, undef, undef, undef] h19
theorem f5_eq (O : Oracle) (L : Loops (Value × Heap)) (a0 a1 a2 a3 a4 : Value) (h : Heap) :
    body Try.prog O L 5 [a0, a1, a2, a3, a4] h = f5 O L a0 a1 a2 a3 a4 h := by kernel_rfl

/-! 6: shunter/shunterlaw12.PlanTells; slots: [(p, 0), (v, 1), (w, 2), (p, 3), (v, 4), (w, 5)] -/
noncomputable def f6 (O : Oracle) (L : Loops (Value × Heap)) (a0 a1 a2 : Value) (h : Heap) : Option (Value × Heap) :=
  ob ((newB 27 (Value.cells a0).toList .fix) h) fun v0 h0 =>
  ob ((ldN 11 v0) h0) fun v1 h1 =>
  ob ((O (.func 20) [v1]) h1) fun v2 h2 =>
  ob ((M.ofOpt (bin Try.prog .gtr 3 v2 (.int .i64 500))) h2) fun v3 h3 =>
  ob ((gd v3 false (O (.func 16) [])) h3) fun v4 h4 =>
  ob ((gd v3 false (M.ofOpt (un Try.prog .not v4))) h4) fun v5 h5 =>
  ob ((M.ofOpt (pick v3 (.bool true) v5)) h5) fun v6 h6 =>
  iteV v6 (
  ob ((O (.func 16) []) h6) fun v7 h7 =>
  some (oneOf [v7], h7)) (
  ob ((ldN 11 v0) h6) fun v8 h8 =>
  ob ((O (.func 21) [v8, a1, a2]) h8) fun v9 h9 =>
  some (oneOf [v9], h9))
theorem f6_eq (O : Oracle) (L : Loops (Value × Heap)) (a0 a1 a2 : Value) (h : Heap) :
    body Try.prog O L 6 [a0, a1, a2] h = f6 O L a0 a1 a2 h := by kernel_rfl

/-! 7: shunter/shunterlaw12.PlanMakes; slots: [(nodes, 0), (room, 1), (more, 2), (joined, 3), (next, 4), (v, 5), (w, 6), (k, 7), (nodes, 8), (room, 9), (more, 10), (joined, 11), (next, 12), (v, 13), (w, 14), (k, 15), (p, 17), (ok, 18)] -/
noncomputable def f7 (O : Oracle) (L : Loops (Value × Heap)) (a0 a1 a2 a3 a4 a5 a6 a7 : Value) (h : Heap) : Option (Value × Heap) :=
  ob ((O (.func 15) [a0, a1, a2, a3, a4]) h) fun v0 h0 =>
  ob ((newB 27 [(.int .i64 0), (.slice none 0 0), (.int .i64 0), (.int .i64 0), (.int .i64 0), (.int .i64 0), (.int .i64 0), (.int .i64 0), (.slice none 0 0), (.int .u16 0), (.slice none 0 0)] .fix) h0) fun v1 h1 =>
  ob ((stN 11 v1 v0) h1) fun v2 h2 =>
  ob ((O (.func 16) []) h2) fun v3 h3 =>
  ob ((M.ofOpt (un Try.prog .not v3)) h3) fun v4 h4 =>
  ob ((gd v4 false (ldN 11 v1)) h4) fun v5 h5 =>
  ob ((gd v4 false (O (.func 17) [v5])) h5) fun v6 h6 =>
  ob ((gd v4 false (M.ofOpt (bin Try.prog .neq 30 v6 (.int .u16 0)))) h6) fun v7 h7 =>
  ob ((M.ofOpt (pick v4 (.bool true) v7)) h7) fun v8 h8 =>
  iteV v8 (
  some (oneOf [(.bool false)], h8)) (
  ob ((ldN 11 v1) h8) fun v9 h9 =>
  ob ((M.ofOpt (bin Try.prog .rem 5 a5 (.int .u8 8))) h9) fun v10 h10 =>
  ob ((conv Try.prog 5 3 v10) h10) fun v11 h11 =>
  ob ((M.ofOpt (bin Try.prog .rem 5 a6 (.int .u8 8))) h11) fun v12 h12 =>
  ob ((conv Try.prog 5 3 v12) h12) fun v13 h13 =>
  ob ((O (.func 21) [v9, v11, v13]) h13) fun v14 h14 =>
  ob ((M.ofOpt (bin Try.prog .rem 5 a7 (.int .u8 8))) h14) fun v15 h15 =>
  ob ((M.ofOpt (bin Try.prog .eql 5 v15 (.int .u8 0))) h15) fun v16 h16 =>
  iteV v16 (
  ob ((M.ofOpt (fAddr 0 v1)) h16) fun v17 h17 =>
  ob ((stN 1 v17 (.int .i64 7)) h17) fun v18 h18 =>
  ob ((gd v14 true (ldN 11 v1)) h18) fun v19 h19 =>
  ob ((gd v14 true (O (.func 17) [v19])) h19) fun v20 h20 =>
  ob ((gd v14 true (M.ofOpt (bin Try.prog .eql 30 v20 (.int .u16 120)))) h20) fun v21 h21 =>
  ob ((M.ofOpt (pick v14 v21 (.bool false))) h21) fun v22 h22 =>
  some (oneOf [v22], h22)) (
  ob ((M.ofOpt (bin Try.prog .eql 5 v15 (.int .u8 1))) h16) fun v23 h23 =>
  iteV v23 (
  ob ((M.ofOpt (fAddr 2 v1)) h23) fun v24 h24 =>
  ob ((stN 1 v24 (.int .i64 0)) h24) fun v25 h25 =>
  ob ((gd v14 true (ldN 11 v1)) h25) fun v26 h26 =>
  ob ((gd v14 true (O (.func 17) [v26])) h26) fun v27 h27 =>
  ob ((gd v14 true (M.ofOpt (bin Try.prog .eql 30 v27 (.int .u16 120)))) h27) fun v28 h28 =>
  ob ((M.ofOpt (pick v14 v28 (.bool false))) h28) fun v29 h29 =>
  some (oneOf [v29], h29)) (
  ob ((M.ofOpt (bin Try.prog .eql 5 v15 (.int .u8 2))) h23) fun v30 h30 =>
  iteV v30 (
  ob ((M.ofOpt (fAddr 3 v1)) h30) fun v31 h31 =>
  ob ((stN 1 v31 (.int .i64 9)) h31) fun v32 h32 =>
  ob ((gd v14 true (ldN 11 v1)) h32) fun v33 h33 =>
  ob ((gd v14 true (O (.func 17) [v33])) h33) fun v34 h34 =>
  ob ((gd v14 true (M.ofOpt (bin Try.prog .eql 30 v34 (.int .u16 120)))) h34) fun v35 h35 =>
  ob ((M.ofOpt (pick v14 v35 (.bool false))) h35) fun v36 h36 =>
  some (oneOf [v36], h36)) (
  ob ((M.ofOpt (bin Try.prog .eql 5 v15 (.int .u8 3))) h30) fun v37 h37 =>
  iteV v37 (
  ob ((M.ofOpt (fAddr 4 v1)) h37) fun v38 h38 =>
  ob ((stN 1 v38 (.int .i64 0)) h38) fun v39 h39 =>
  ob ((gd v14 true (ldN 11 v1)) h39) fun v40 h40 =>
  ob ((gd v14 true (O (.func 17) [v40])) h40) fun v41 h41 =>
  ob ((gd v14 true (M.ofOpt (bin Try.prog .eql 30 v41 (.int .u16 120)))) h41) fun v42 h42 =>
  ob ((M.ofOpt (pick v14 v42 (.bool false))) h42) fun v43 h43 =>
  some (oneOf [v43], h43)) (
  ob ((M.ofOpt (bin Try.prog .eql 5 v15 (.int .u8 4))) h37) fun v44 h44 =>
  iteV v44 (
  ob ((M.ofOpt (fAddr 5 v1)) h44) fun v45 h45 =>
  ob ((stN 1 v45 (.int .i64 5)) h45) fun v46 h46 =>
  ob ((gd v14 true (ldN 11 v1)) h46) fun v47 h47 =>
  ob ((gd v14 true (O (.func 17) [v47])) h47) fun v48 h48 =>
  ob ((gd v14 true (M.ofOpt (bin Try.prog .eql 30 v48 (.int .u16 120)))) h48) fun v49 h49 =>
  ob ((M.ofOpt (pick v14 v49 (.bool false))) h49) fun v50 h50 =>
  some (oneOf [v50], h50)) (
  ob ((M.ofOpt (bin Try.prog .eql 5 v15 (.int .u8 5))) h44) fun v51 h51 =>
  iteV v51 (
  ob ((M.ofOpt (fAddr 6 v1)) h51) fun v52 h52 =>
  ob ((stN 1 v52 (.int .i64 9)) h52) fun v53 h53 =>
  ob ((gd v14 true (ldN 11 v1)) h53) fun v54 h54 =>
  ob ((gd v14 true (O (.func 17) [v54])) h54) fun v55 h55 =>
  ob ((gd v14 true (M.ofOpt (bin Try.prog .eql 30 v55 (.int .u16 120)))) h55) fun v56 h56 =>
  ob ((M.ofOpt (pick v14 v56 (.bool false))) h56) fun v57 h57 =>
  some (oneOf [v57], h57)) (
  ob ((M.ofOpt (bin Try.prog .eql 5 v15 (.int .u8 6))) h51) fun v58 h58 =>
  iteV v58 (
  ob ((M.ofOpt (fAddr 7 v1)) h58) fun v59 h59 =>
  ob ((stN 1 v59 (.int .i64 65)) h59) fun v60 h60 =>
  ob ((gd v14 true (ldN 11 v1)) h60) fun v61 h61 =>
  ob ((gd v14 true (O (.func 17) [v61])) h61) fun v62 h62 =>
  ob ((gd v14 true (M.ofOpt (bin Try.prog .eql 30 v62 (.int .u16 120)))) h62) fun v63 h63 =>
  ob ((M.ofOpt (pick v14 v63 (.bool false))) h63) fun v64 h64 =>
  some (oneOf [v64], h64)) (
  ob ((M.ofOpt (fAddr 8 v1)) h58) fun v65 h65 =>
  ob ((ld1 v65) h65) fun v66 h66 =>
  ob ((M.ofOpt (fAddr 8 v1)) h66) fun v67 h67 =>
  ob ((ld1 v67) h67) fun v68 h68 =>
  ob ((M.ofOpt (lenSl v68)) h68) fun v69 h69 =>
  ob ((M.ofOpt (bin Try.prog .sub 3 v69 (.int .i64 1))) h69) fun v70 h70 =>
  ob ((slc Try.prog 1 v66 none (some v70) none) h70) fun v71 h71 =>
  ob ((M.ofOpt (fAddr 8 v1)) h71) fun v72 h72 =>
  ob ((stN 1 v72 v71) h72) fun v73 h73 =>
  ob ((gd v14 true (ldN 11 v1)) h73) fun v74 h74 =>
  ob ((gd v14 true (O (.func 17) [v74])) h74) fun v75 h75 =>
  ob ((gd v14 true (M.ofOpt (bin Try.prog .eql 30 v75 (.int .u16 120)))) h75) fun v76 h76 =>
  ob ((M.ofOpt (pick v14 v76 (.bool false))) h76) fun v77 h77 =>
  some (oneOf [v77], h77)))))))))
theorem f7_eq (O : Oracle) (L : Loops (Value × Heap)) (a0 a1 a2 a3 a4 a5 a6 a7 : Value) (h : Heap) :
    body Try.prog O L 7 [a0, a1, a2, a3, a4, a5, a6, a7] h = f7 O L a0 a1 a2 a3 a4 a5 a6 a7 h := by kernel_rfl

/-! 8: shunter/shunterlaw12.PlanBeside; slots: [(nodes, 0), (joined, 1), (nodes, 2), (joined, 3), (p, 5), (many, 6), (v, 7), (l, 8), (i, 9)] -/
noncomputable def f8_c1 : Code := sub [1, 1, 1, 0, 1, 0, 0, 1, 0, 0, 1, 1, 1, 0, 0] (fbody Try.prog 8)
noncomputable def f8_k1 (O : Oracle) (L : Loops (Value × Heap)) (k : Ex → K (Value × Heap)) : Ex → K (Value × Heap) := (blockK 2 (blockK 1 (seqK Try.prog O L (sub [1, 1, 1, 0, 1, 0, 0, 1, 1] (fbody Try.prog 8)) k)))
noncomputable def f8_e1_2 (O : Oracle) (L : Loops (Value × Heap)) (k : Ex → K (Value × Heap)) (x0 x1 x2 x3 x4 x5 x6 x7 x8 x9 x10 x11 x12 x13 x14 x15 x16 x17 x18 x19 x20 x21 x22 x23 x24 x25 x26 x27 x28 x29 x30 x31 x32 x33 x34 x35 x36 x37 x38 x39 x40 x41 x42 x43 x44 x45 x46 x47 x48 x49 x50 x51 x52 x53 x54 x55 x56 x57 x58 x59 x60 x61 x62 x63 x64 x65 x66 x67 x68 x69 x70 x71 x72 x73 x74 x75 x76 x77 x78 x79 x80 x81 x82 x83 x84 x85 x86 x87 x88 x89 x90 x91 : Value) (h : Heap) : Option (Value × Heap) :=
  ob ((M.ofOpt (bin Try.prog .add 3 x7 (.int .i64 1))) h) fun v64 h64 =>
  k .normal [x0, x1, x2, x3, x4, x5, x6, v64, x8, x9, x10, x11, x12, x13, x14, x15, x16, x7, v64, x19, x20, x21, x22, x23, x24, x25, x26, x27, x28, x29, x30, x31, x32, x33, x34, x35, x36, x37, x38, x39, x40, x41, x42, x43, x44, x45, x46, x47, x48, x49, x50, x51, x52, x53, x54, x55, x56, x57, x58, x59, x60, x61, x62, x63, x64, x65, x66, x67, x68, x69, x70, x71, x72, x73, x74, x75, x76, x77, x78, x79, x80, x81, x82, x83, x84, x85, x86, x87, x88, x89, x90, x91] h64
theorem f8_e1_2_eq (O : Oracle) (L : Loops (Value × Heap)) (k : Ex → K (Value × Heap)) (x0 x1 x2 x3 x4 x5 x6 x7 x8 x9 x10 x11 x12 x13 x14 x15 x16 x17 x18 x19 x20 x21 x22 x23 x24 x25 x26 x27 x28 x29 x30 x31 x32 x33 x34 x35 x36 x37 x38 x39 x40 x41 x42 x43 x44 x45 x46 x47 x48 x49 x50 x51 x52 x53 x54 x55 x56 x57 x58 x59 x60 x61 x62 x63 x64 x65 x66 x67 x68 x69 x70 x71 x72 x73 x74 x75 x76 x77 x78 x79 x80 x81 x82 x83 x84 x85 x86 x87 x88 x89 x90 x91 : Value) (h : Heap) :
    f8_k1 O L k (.exit 2) [x0, x1, x2, x3, x4, x5, x6, x7, x8, x9, x10, x11, x12, x13, x14, x15, x16, x17, x18, x19, x20, x21, x22, x23, x24, x25, x26, x27, x28, x29, x30, x31, x32, x33, x34, x35, x36, x37, x38, x39, x40, x41, x42, x43, x44, x45, x46, x47, x48, x49, x50, x51, x52, x53, x54, x55, x56, x57, x58, x59, x60, x61, x62, x63, x64, x65, x66, x67, x68, x69, x70, x71, x72, x73, x74, x75, x76, x77, x78, x79, x80, x81, x82, x83, x84, x85, x86, x87, x88, x89, x90, x91] h = f8_e1_2 O L k x0 x1 x2 x3 x4 x5 x6 x7 x8 x9 x10 x11 x12 x13 x14 x15 x16 x17 x18 x19 x20 x21 x22 x23 x24 x25 x26 x27 x28 x29 x30 x31 x32 x33 x34 x35 x36 x37 x38 x39 x40 x41 x42 x43 x44 x45 x46 x47 x48 x49 x50 x51 x52 x53 x54 x55 x56 x57 x58 x59 x60 x61 x62 x63 x64 x65 x66 x67 x68 x69 x70 x71 x72 x73 x74 x75 x76 x77 x78 x79 x80 x81 x82 x83 x84 x85 x86 x87 x88 x89 x90 x91 h := by kernel_rfl
noncomputable def f8_r1 (O : Oracle) (L : Loops (Value × Heap)) (k : Ex → K (Value × Heap)) (x0 x1 x2 x3 x4 x5 x6 x7 x8 x9 x10 x11 x12 x13 x14 x15 x16 x17 x18 x19 x20 x21 x22 x23 x24 x25 x26 x27 x28 x29 x30 x31 x32 x33 x34 x35 x36 x37 x38 x39 x40 x41 x42 x43 x44 x45 x46 x47 x48 x49 x50 x51 x52 x53 x54 x55 x56 x57 x58 x59 x60 x61 x62 x63 x64 x65 x66 x67 x68 x69 x70 x71 x72 x73 x74 x75 x76 x77 x78 x79 x80 x81 x82 x83 x84 x85 x86 x87 x88 x89 x90 x91 : Value) (h : Heap) : Option (Value × Heap) :=
  k .ret [x0, x1, x2, x3, x4, x5, x6, x7, x8, x9, x10, x11, x12, x13, x14, x15, x16, x17, x18, x19, x20, x21, x22, x23, x24, x25, x26, x27, x28, x29, x30, x31, x32, x33, x34, x35, x36, x37, x38, x39, x40, x41, x42, x43, x44, x45, x46, x47, x48, x49, x50, x51, x52, x53, x54, x55, x56, x57, x58, x59, x60, x61, x62, x63, x64, x65, x66, x67, x68, x69, x70, x71, x72, x73, x74, x75, x76, x77, x78, x79, x80, x81, x82, x83, x84, x85, x86, x87, x88, x89, x90, x91] h
theorem f8_r1_eq (O : Oracle) (L : Loops (Value × Heap)) (k : Ex → K (Value × Heap)) (x0 x1 x2 x3 x4 x5 x6 x7 x8 x9 x10 x11 x12 x13 x14 x15 x16 x17 x18 x19 x20 x21 x22 x23 x24 x25 x26 x27 x28 x29 x30 x31 x32 x33 x34 x35 x36 x37 x38 x39 x40 x41 x42 x43 x44 x45 x46 x47 x48 x49 x50 x51 x52 x53 x54 x55 x56 x57 x58 x59 x60 x61 x62 x63 x64 x65 x66 x67 x68 x69 x70 x71 x72 x73 x74 x75 x76 x77 x78 x79 x80 x81 x82 x83 x84 x85 x86 x87 x88 x89 x90 x91 : Value) (h : Heap) :
    f8_k1 O L k .ret [x0, x1, x2, x3, x4, x5, x6, x7, x8, x9, x10, x11, x12, x13, x14, x15, x16, x17, x18, x19, x20, x21, x22, x23, x24, x25, x26, x27, x28, x29, x30, x31, x32, x33, x34, x35, x36, x37, x38, x39, x40, x41, x42, x43, x44, x45, x46, x47, x48, x49, x50, x51, x52, x53, x54, x55, x56, x57, x58, x59, x60, x61, x62, x63, x64, x65, x66, x67, x68, x69, x70, x71, x72, x73, x74, x75, x76, x77, x78, x79, x80, x81, x82, x83, x84, x85, x86, x87, x88, x89, x90, x91] h = f8_r1 O L k x0 x1 x2 x3 x4 x5 x6 x7 x8 x9 x10 x11 x12 x13 x14 x15 x16 x17 x18 x19 x20 x21 x22 x23 x24 x25 x26 x27 x28 x29 x30 x31 x32 x33 x34 x35 x36 x37 x38 x39 x40 x41 x42 x43 x44 x45 x46 x47 x48 x49 x50 x51 x52 x53 x54 x55 x56 x57 x58 x59 x60 x61 x62 x63 x64 x65 x66 x67 x68 x69 x70 x71 x72 x73 x74 x75 x76 x77 x78 x79 x80 x81 x82 x83 x84 x85 x86 x87 x88 x89 x90 x91 h := by kernel_rfl
noncomputable def f8_b1 (O : Oracle) (L : Loops (Value × Heap)) (k : Ex → K (Value × Heap)) (x0 x1 x2 x3 x4 x5 x6 x7 x8 x9 x10 x11 x12 x13 x14 x15 x16 x17 x18 x19 x20 x21 x22 x23 x24 x25 x26 x27 x28 x29 x30 x31 x32 x33 x34 x35 x36 x37 x38 x39 x40 x41 x42 x43 x44 x45 x46 x47 x48 x49 x50 x51 x52 x53 x54 x55 x56 x57 x58 x59 x60 x61 x62 x63 x64 x65 x66 x67 x68 x69 x70 x71 x72 x73 x74 x75 x76 x77 x78 x79 x80 x81 x82 x83 x84 x85 x86 x87 x88 x89 x90 x91 : Value) (h : Heap) : Option (Value × Heap) :=
  ob ((M.ofOpt (lenSl x8)) h) fun v24 h24 =>
  ob ((M.ofOpt (bin Try.prog .lss 3 x9 v24)) h24) fun v25 h25 =>
  iteV v25 (
  ob ((ldN 11 x5) h25) fun v26 h26 =>
  ifB (true) (
  ob ((M.ofOpt (iAddr 1 x8 x9)) h26) fun v27 h27 =>
  ob ((ld1 v27) h27) fun v28 h28 =>
  ifB (true) (
  ob ((O (.func 19) [v26, x7, v28]) h28) fun v29 h29 =>
  ifB (true) (
  ob ((M.ofOpt (bin Try.prog .add 3 x9 (.int .i64 1))) h29) fun v30 h30 =>
  ob ((M.ofOpt (bin Try.prog .neq 3 v29 v30)) h30) fun v31 h31 =>
  ob ((gd v31 false (ldN 11 x5)) h31) fun v32 h32 =>
  ifB (true) (
  ob ((gd v31 false (M.ret x8)) h32) fun v33 h33 =>
  ob ((gd v31 false (M.ret x9)) h33) fun v34 h34 =>
  ob ((gd v31 false (M.ofOpt (iAddr 1 v33 v34))) h34) fun v35 h35 =>
  ob ((gd v31 false (ld1 v35)) h35) fun v36 h36 =>
  ifB (true) (
  ob ((gd v31 false (M.ret x7)) h36) fun v37 h37 =>
  ob ((gd v31 false (O (.func 19) [v32, v36, v37])) h37) fun v38 h38 =>
  ifB (true) (
  ob ((gd v31 false (M.ofOpt (bin Try.prog .lss 3 v38 (.int .i64 1)))) h38) fun v39 h39 =>
  ob ((M.ofOpt (pick v31 (.bool true) v39)) h39) fun v40 h40 =>
  ob ((gd v40 false (M.ret x8)) h40) fun v41 h41 =>
  ob ((gd v40 false (M.ret x9)) h41) fun v42 h42 =>
  ob ((gd v40 false (M.ofOpt (iAddr 1 v41 v42))) h42) fun v43 h43 =>
  ob ((gd v40 false (ld1 v43)) h43) fun v44 h44 =>
  ifB (true) (
  ob ((gd v40 false (M.ret x7)) h44) fun v45 h45 =>
  ob ((gd v40 false (M.ofOpt (bin Try.prog .eql 3 v44 v45))) h45) fun v46 h46 =>
  ob ((M.ofOpt (pick v40 (.bool true) v46)) h46) fun v47 h47 =>
  ob ((gd v47 false (M.ret x9)) h47) fun v48 h48 =>
  ob ((gd v47 false (M.ofOpt (bin Try.prog .gtr 3 v48 (.int .i64 0)))) h48) fun v49 h49 =>
  ob ((gd v47 false (M.ret v49)) h49) fun v50 h50 =>
  ob ((gd v50 true (M.ret x8)) h50) fun v51 h51 =>
  ob ((gd v50 true (M.ret x9)) h51) fun v52 h52 =>
  ob ((gd v50 true (M.ofOpt (iAddr 1 v51 v52))) h52) fun v53 h53 =>
  ob ((gd v50 true (ld1 v53)) h53) fun v54 h54 =>
  ifB (true) (
  ob ((gd v50 true (M.ret x8)) h54) fun v55 h55 =>
  ob ((gd v50 true (M.ret x9)) h55) fun v56 h56 =>
  ob ((gd v50 true (M.ofOpt (bin Try.prog .sub 3 v56 (.int .i64 1)))) h56) fun v57 h57 =>
  ob ((gd v50 true (M.ofOpt (iAddr 1 v55 v57))) h57) fun v58 h58 =>
  ob ((gd v50 true (ld1 v58)) h58) fun v59 h59 =>
  ifB (true) (
  ob ((gd v50 true (M.ofOpt (bin Try.prog .leq 3 v54 v59))) h59) fun v60 h60 =>
  ob ((gd v47 false (M.ofOpt (pick v50 v60 (.bool false)))) h60) fun v61 h61 =>
  ob ((M.ofOpt (pick v47 (.bool true) v61)) h61) fun v62 h62 =>
  iteV v62 (
  k .ret [x0, x1, x2, x3, (.bool false), x5, x6, x7, x8, x9, x10, x11, x12, x13, x14, x15, x16, x17, x18, x19, x20, x21, x22, x23, x24, x25, x9, x8, v24, v25, x30, x31, v26, x7, x8, x9, v27, v28, v29, x9, v30, v31, v31, v32, v33, v34, v35, v36, v37, v38, v39, v40, v40, v41, v42, v43, v44, v45, v46, v47, v47, v48, v49, v50, v51, v52, v53, v54, v55, v56, v57, v58, v59, v60, v61, v62, x76, x77, x78, x79, x80, x81, x82, x83, x84, x85, x86, x87, x88, x89, x90, x91] h62) (
  ob ((M.ofOpt (bin Try.prog .add 3 x9 (.int .i64 1))) h62) fun v63 h63 =>
  k .normal [x0, x1, x2, x3, x4, x5, x6, x7, x8, v63, x10, x11, x12, x13, x14, x15, x16, x17, x18, x19, x20, x21, x22, x23, x24, x25, x9, x8, v24, v25, x9, v63, v26, x7, x8, x9, v27, v28, v29, x9, v30, v31, v31, v32, v33, v34, v35, v36, v37, v38, v39, v40, v40, v41, v42, v43, v44, v45, v46, v47, v47, v48, v49, v50, v51, v52, v53, v54, v55, v56, v57, v58, v59, v60, v61, v62, x76, x77, x78, x79, x80, x81, x82, x83, x84, x85, x86, x87, x88, x89, x90, x91] h63))))))))))) (
  k (.exit 2) [x0, x1, x2, x3, x4, x5, x6, x7, x8, x9, x10, x11, x12, x13, x14, x15, x16, x17, x18, x19, x20, x21, x22, x23, x24, x25, x9, x8, v24, v25, x30, x31, x32, x33, x34, x35, x36, x37, x38, x39, x40, x41, x42, x43, x44, x45, x46, x47, x48, x49, x50, x51, x52, x53, x54, x55, x56, x57, x58, x59, x60, x61, x62, x63, x64, x65, x66, x67, x68, x69, x70, x71, x72, x73, x74, x75, x76, x77, x78, x79, x80, x81, x82, x83, x84, x85, x86, x87, x88, x89, x90, x91] h25)
theorem f8_b1_eq (O : Oracle) (L : Loops (Value × Heap)) (k : Ex → K (Value × Heap)) (x0 x1 x2 x3 x4 x5 x6 x7 x8 x9 x10 x11 x12 x13 x14 x15 x16 x17 x18 x19 x20 x21 x22 x23 x24 x25 x26 x27 x28 x29 x30 x31 x32 x33 x34 x35 x36 x37 x38 x39 x40 x41 x42 x43 x44 x45 x46 x47 x48 x49 x50 x51 x52 x53 x54 x55 x56 x57 x58 x59 x60 x61 x62 x63 x64 x65 x66 x67 x68 x69 x70 x71 x72 x73 x74 x75 x76 x77 x78 x79 x80 x81 x82 x83 x84 x85 x86 x87 x88 x89 x90 x91 : Value) (h : Heap) :
    runCode Try.prog O L f8_c1 k [x0, x1, x2, x3, x4, x5, x6, x7, x8, x9, x10, x11, x12, x13, x14, x15, x16, x17, x18, x19, x20, x21, x22, x23, x24, x25, x26, x27, x28, x29, x30, x31, x32, x33, x34, x35, x36, x37, x38, x39, x40, x41, x42, x43, x44, x45, x46, x47, x48, x49, x50, x51, x52, x53, x54, x55, x56, x57, x58, x59, x60, x61, x62, x63, x64, x65, x66, x67, x68, x69, x70, x71, x72, x73, x74, x75, x76, x77, x78, x79, x80, x81, x82, x83, x84, x85, x86, x87, x88, x89, x90, x91] h = f8_b1 O L k x0 x1 x2 x3 x4 x5 x6 x7 x8 x9 x10 x11 x12 x13 x14 x15 x16 x17 x18 x19 x20 x21 x22 x23 x24 x25 x26 x27 x28 x29 x30 x31 x32 x33 x34 x35 x36 x37 x38 x39 x40 x41 x42 x43 x44 x45 x46 x47 x48 x49 x50 x51 x52 x53 x54 x55 x56 x57 x58 x59 x60 x61 x62 x63 x64 x65 x66 x67 x68 x69 x70 x71 x72 x73 x74 x75 x76 x77 x78 x79 x80 x81 x82 x83 x84 x85 x86 x87 x88 x89 x90 x91 h := by kernel_rfl
noncomputable def f8_c0 : Code := sub [1, 1, 1, 0, 1, 0, 0] (fbody Try.prog 8)
noncomputable def f8_k0 (O : Oracle) (L : Loops (Value × Heap)) : Ex → K (Value × Heap) := (blockK 0 (seqK Try.prog O L (sub [1, 1, 1, 1] (fbody Try.prog 8)) (kRet Try.prog Try.f8)))
noncomputable def f8_e0_0 (O : Oracle) (L : Loops (Value × Heap)) (x0 x1 x2 x3 x4 x5 x6 x7 x8 x9 x10 x11 x12 x13 x14 x15 x16 x17 x18 x19 x20 x21 x22 x23 x24 x25 x26 x27 x28 x29 x30 x31 x32 x33 x34 x35 x36 x37 x38 x39 x40 x41 x42 x43 x44 x45 x46 x47 x48 x49 x50 x51 x52 x53 x54 x55 x56 x57 x58 x59 x60 x61 x62 x63 x64 x65 x66 x67 x68 x69 x70 x71 x72 x73 x74 x75 x76 x77 x78 x79 x80 x81 x82 x83 x84 x85 x86 x87 x88 x89 x90 x91 : Value) (h : Heap) : Option (Value × Heap) :=
  ob ((O (.func 16) []) h) fun v10 h10 =>
  ob ((gd v10 true (M.ret x6)) h10) fun v11 h11 =>
  ob ((gd v10 true (M.ofOpt (fAddr 1 x5))) h11) fun v12 h12 =>
  ob ((gd v10 true (ld1 v12)) h12) fun v13 h13 =>
  ob ((gd v10 true (M.ofOpt (lenSl v13))) h13) fun v14 h14 =>
  ob ((gd v10 true (M.ofOpt (bin Try.prog .mul 3 (.int .i64 2) v14))) h14) fun v15 h15 =>
  ob ((gd v10 true (M.ofOpt (bin Try.prog .eql 3 v11 v15))) h15) fun v16 h16 =>
  ob ((M.ofOpt (pick v10 v16 (.bool false))) h16) fun v17 h17 =>
  ob ((gd v17 true (ldN 11 x5)) h17) fun v18 h18 =>
  ob ((gd v17 true (O (.func 18) [v18])) h18) fun v19 h19 =>
  ob ((gd v17 true (M.ofOpt (lenSl v19))) h19) fun v20 h20 =>
  ob ((gd v17 true (M.ret x6)) h20) fun v21 h21 =>
  ob ((gd v17 true (M.ofOpt (bin Try.prog .eql 3 v20 v21))) h21) fun v22 h22 =>
  ob ((M.ofOpt (pick v17 v22 (.bool false))) h22) fun v23 h23 =>
  some (oneOf [v23], h23)
theorem f8_e0_0_eq (O : Oracle) (L : Loops (Value × Heap)) (x0 x1 x2 x3 x4 x5 x6 x7 x8 x9 x10 x11 x12 x13 x14 x15 x16 x17 x18 x19 x20 x21 x22 x23 x24 x25 x26 x27 x28 x29 x30 x31 x32 x33 x34 x35 x36 x37 x38 x39 x40 x41 x42 x43 x44 x45 x46 x47 x48 x49 x50 x51 x52 x53 x54 x55 x56 x57 x58 x59 x60 x61 x62 x63 x64 x65 x66 x67 x68 x69 x70 x71 x72 x73 x74 x75 x76 x77 x78 x79 x80 x81 x82 x83 x84 x85 x86 x87 x88 x89 x90 x91 : Value) (h : Heap) :
    f8_k0 O L (.exit 0) [x0, x1, x2, x3, x4, x5, x6, x7, x8, x9, x10, x11, x12, x13, x14, x15, x16, x17, x18, x19, x20, x21, x22, x23, x24, x25, x26, x27, x28, x29, x30, x31, x32, x33, x34, x35, x36, x37, x38, x39, x40, x41, x42, x43, x44, x45, x46, x47, x48, x49, x50, x51, x52, x53, x54, x55, x56, x57, x58, x59, x60, x61, x62, x63, x64, x65, x66, x67, x68, x69, x70, x71, x72, x73, x74, x75, x76, x77, x78, x79, x80, x81, x82, x83, x84, x85, x86, x87, x88, x89, x90, x91] h = f8_e0_0 O L x0 x1 x2 x3 x4 x5 x6 x7 x8 x9 x10 x11 x12 x13 x14 x15 x16 x17 x18 x19 x20 x21 x22 x23 x24 x25 x26 x27 x28 x29 x30 x31 x32 x33 x34 x35 x36 x37 x38 x39 x40 x41 x42 x43 x44 x45 x46 x47 x48 x49 x50 x51 x52 x53 x54 x55 x56 x57 x58 x59 x60 x61 x62 x63 x64 x65 x66 x67 x68 x69 x70 x71 x72 x73 x74 x75 x76 x77 x78 x79 x80 x81 x82 x83 x84 x85 x86 x87 x88 x89 x90 x91 h := by kernel_rfl
noncomputable def f8_r0 (O : Oracle) (L : Loops (Value × Heap)) (x0 x1 x2 x3 x4 x5 x6 x7 x8 x9 x10 x11 x12 x13 x14 x15 x16 x17 x18 x19 x20 x21 x22 x23 x24 x25 x26 x27 x28 x29 x30 x31 x32 x33 x34 x35 x36 x37 x38 x39 x40 x41 x42 x43 x44 x45 x46 x47 x48 x49 x50 x51 x52 x53 x54 x55 x56 x57 x58 x59 x60 x61 x62 x63 x64 x65 x66 x67 x68 x69 x70 x71 x72 x73 x74 x75 x76 x77 x78 x79 x80 x81 x82 x83 x84 x85 x86 x87 x88 x89 x90 x91 : Value) (h : Heap) : Option (Value × Heap) :=
  some (oneOf [x4], h)
theorem f8_r0_eq (O : Oracle) (L : Loops (Value × Heap)) (x0 x1 x2 x3 x4 x5 x6 x7 x8 x9 x10 x11 x12 x13 x14 x15 x16 x17 x18 x19 x20 x21 x22 x23 x24 x25 x26 x27 x28 x29 x30 x31 x32 x33 x34 x35 x36 x37 x38 x39 x40 x41 x42 x43 x44 x45 x46 x47 x48 x49 x50 x51 x52 x53 x54 x55 x56 x57 x58 x59 x60 x61 x62 x63 x64 x65 x66 x67 x68 x69 x70 x71 x72 x73 x74 x75 x76 x77 x78 x79 x80 x81 x82 x83 x84 x85 x86 x87 x88 x89 x90 x91 : Value) (h : Heap) :
    f8_k0 O L .ret [x0, x1, x2, x3, x4, x5, x6, x7, x8, x9, x10, x11, x12, x13, x14, x15, x16, x17, x18, x19, x20, x21, x22, x23, x24, x25, x26, x27, x28, x29, x30, x31, x32, x33, x34, x35, x36, x37, x38, x39, x40, x41, x42, x43, x44, x45, x46, x47, x48, x49, x50, x51, x52, x53, x54, x55, x56, x57, x58, x59, x60, x61, x62, x63, x64, x65, x66, x67, x68, x69, x70, x71, x72, x73, x74, x75, x76, x77, x78, x79, x80, x81, x82, x83, x84, x85, x86, x87, x88, x89, x90, x91] h = f8_r0 O L x0 x1 x2 x3 x4 x5 x6 x7 x8 x9 x10 x11 x12 x13 x14 x15 x16 x17 x18 x19 x20 x21 x22 x23 x24 x25 x26 x27 x28 x29 x30 x31 x32 x33 x34 x35 x36 x37 x38 x39 x40 x41 x42 x43 x44 x45 x46 x47 x48 x49 x50 x51 x52 x53 x54 x55 x56 x57 x58 x59 x60 x61 x62 x63 x64 x65 x66 x67 x68 x69 x70 x71 x72 x73 x74 x75 x76 x77 x78 x79 x80 x81 x82 x83 x84 x85 x86 x87 x88 x89 x90 x91 h := by kernel_rfl
noncomputable def f8_b0 (O : Oracle) (L : Loops (Value × Heap)) (k : Ex → K (Value × Heap)) (x0 x1 x2 x3 x4 x5 x6 x7 x8 x9 x10 x11 x12 x13 x14 x15 x16 x17 x18 x19 x20 x21 x22 x23 x24 x25 x26 x27 x28 x29 x30 x31 x32 x33 x34 x35 x36 x37 x38 x39 x40 x41 x42 x43 x44 x45 x46 x47 x48 x49 x50 x51 x52 x53 x54 x55 x56 x57 x58 x59 x60 x61 x62 x63 x64 x65 x66 x67 x68 x69 x70 x71 x72 x73 x74 x75 x76 x77 x78 x79 x80 x81 x82 x83 x84 x85 x86 x87 x88 x89 x90 x91 : Value) (h : Heap) : Option (Value × Heap) :=
  ob ((M.ofOpt (fAddr 0 x5)) h) fun v3 h3 =>
  ob ((ld1 v3) h3) fun v4 h4 =>
  ob ((M.ofOpt (bin Try.prog .lss 3 x7 v4)) h4) fun v5 h5 =>
  iteV v5 (
  ob ((ldN 11 x5) h5) fun v6 h6 =>
  ob ((O (.func 22) [v6, x7]) h6) fun v7 h7 =>
  ob ((M.ofOpt (lenSl v7)) h7) fun v8 h8 =>
  ob ((M.ofOpt (bin Try.prog .add 3 x6 v8)) h8) fun v9 h9 =>
  L (runCode Try.prog O L f8_c1) (f8_k1 O L k) [x0, x1, x2, x3, x4, x5, v9, x7, v7, (.int .i64 0), x10, x11, x12, x7, v3, v4, v5, x17, x18, v6, x7, v7, x6, v7, v8, v9, x26, x27, x28, x29, x30, x31, x32, x33, x34, x35, x36, x37, x38, x39, x40, x41, x42, x43, x44, x45, x46, x47, x48, x49, x50, x51, x52, x53, x54, x55, x56, x57, x58, x59, x60, x61, x62, x63, x64, x65, x66, x67, x68, x69, x70, x71, x72, x73, x74, x75, x76, x77, x78, x79, x80, x81, x82, x83, x84, x85, x86, x87, x88, x89, x90, x91] h9) (
  k (.exit 0) [x0, x1, x2, x3, x4, x5, x6, x7, x8, x9, x10, x11, x12, x7, v3, v4, v5, x17, x18, x19, x20, x21, x22, x23, x24, x25, x26, x27, x28, x29, x30, x31, x32, x33, x34, x35, x36, x37, x38, x39, x40, x41, x42, x43, x44, x45, x46, x47, x48, x49, x50, x51, x52, x53, x54, x55, x56, x57, x58, x59, x60, x61, x62, x63, x64, x65, x66, x67, x68, x69, x70, x71, x72, x73, x74, x75, x76, x77, x78, x79, x80, x81, x82, x83, x84, x85, x86, x87, x88, x89, x90, x91] h5)
theorem f8_b0_eq (O : Oracle) (L : Loops (Value × Heap)) (k : Ex → K (Value × Heap)) (x0 x1 x2 x3 x4 x5 x6 x7 x8 x9 x10 x11 x12 x13 x14 x15 x16 x17 x18 x19 x20 x21 x22 x23 x24 x25 x26 x27 x28 x29 x30 x31 x32 x33 x34 x35 x36 x37 x38 x39 x40 x41 x42 x43 x44 x45 x46 x47 x48 x49 x50 x51 x52 x53 x54 x55 x56 x57 x58 x59 x60 x61 x62 x63 x64 x65 x66 x67 x68 x69 x70 x71 x72 x73 x74 x75 x76 x77 x78 x79 x80 x81 x82 x83 x84 x85 x86 x87 x88 x89 x90 x91 : Value) (h : Heap) :
    runCode Try.prog O L f8_c0 k [x0, x1, x2, x3, x4, x5, x6, x7, x8, x9, x10, x11, x12, x13, x14, x15, x16, x17, x18, x19, x20, x21, x22, x23, x24, x25, x26, x27, x28, x29, x30, x31, x32, x33, x34, x35, x36, x37, x38, x39, x40, x41, x42, x43, x44, x45, x46, x47, x48, x49, x50, x51, x52, x53, x54, x55, x56, x57, x58, x59, x60, x61, x62, x63, x64, x65, x66, x67, x68, x69, x70, x71, x72, x73, x74, x75, x76, x77, x78, x79, x80, x81, x82, x83, x84, x85, x86, x87, x88, x89, x90, x91] h = f8_b0 O L k x0 x1 x2 x3 x4 x5 x6 x7 x8 x9 x10 x11 x12 x13 x14 x15 x16 x17 x18 x19 x20 x21 x22 x23 x24 x25 x26 x27 x28 x29 x30 x31 x32 x33 x34 x35 x36 x37 x38 x39 x40 x41 x42 x43 x44 x45 x46 x47 x48 x49 x50 x51 x52 x53 x54 x55 x56 x57 x58 x59 x60 x61 x62 x63 x64 x65 x66 x67 x68 x69 x70 x71 x72 x73 x74 x75 x76 x77 x78 x79 x80 x81 x82 x83 x84 x85 x86 x87 x88 x89 x90 x91 h := by kernel_rfl
noncomputable def f8 (O : Oracle) (L : Loops (Value × Heap)) (a0 a1 : Value) (h : Heap) : Option (Value × Heap) :=
  ob ((O (.func 15) [a0, (.int .u8 0), (.int .u8 0), a1, (.slice none 0 0)]) h) fun v0 h0 =>
  ob ((newB 27 [(.int .i64 0), (.slice none 0 0), (.int .i64 0), (.int .i64 0), (.int .i64 0), (.int .i64 0), (.int .i64 0), (.int .i64 0), (.slice none 0 0), (.int .u16 0), (.slice none 0 0)] .fix) h0) fun v1 h1 =>
  ob ((stN 11 v1 v0) h1) fun v2 h2 =>
  L (runCode Try.prog O L f8_c0) (f8_k0 O L) [a0, a1, undef, undef, (.bool false), v1, (.int .i64 0), (.int .i64 0), undef, undef, a0, a1, v0, undef, undef, undef, undef, undef, undef, undef, undef, undef, undef, undef, undef, undef, undef, undef, undef, undef, undef, undef, undef, undef, undef, undef, undef, undef, undef, undef, undef, undef, undef, undef, undef, undef, undef, undef, undef, undef, undef, undef, undef, undef, undef, undef, undef, undef, undef, undef, undef, undef, undef, undef, undef, undef, undef, undef, undef, undef, undef, undef, undef, undef, undef, undef, undef, undef, undef, undef, undef, undef, undef, undef, undef, undef, undef, undef, undef, undef, undef, undef] h2
theorem f8_eq (O : Oracle) (L : Loops (Value × Heap)) (a0 a1 : Value) (h : Heap) :
    body Try.prog O L 8 [a0, a1] h = f8 O L a0 a1 h := by kernel_rfl

end Go.Proofs.Ytdobnaldfmpimaa
