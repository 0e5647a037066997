/-
  PARTS OF THIS CLAIM'S PROOF, laid together by a program of mine out of texts written from templates.
-/
import Derived.Test.YtdobnaldfmpimaaAbsSim
import Derived.Test.YtdobnaldfmpimaaProg
import Derived.KernelRfl
import Derived.Test.YtdobnaldfmpimaaAbsSort
import Derived.Test.YtdobnaldfmpimaaAbsSortLay
import Derived.Test.YtdobnaldfmpimaaAbsRs
set_option linter.unusedVariables false
set_option maxRecDepth 100000
namespace Go.Proofs.Ytdobnaldfmpimaa
open Go.Abs
noncomputable def f15_c4 : Code := sub [1, 1, 1, 1, 1, 1, 0, 1, 0, 0, 1, 0, 0, 1, 0, 1, 0, 0] (fbody Try.prog 15)
noncomputable def f15_k4 (O : Oracle) (L : Loops (Value × Heap)) (k : Ex → K (Value × Heap)) : Ex → K (Value × Heap) := (blockK 8 (seqK Try.prog O L (sub [1, 1, 1, 1, 1, 1, 0, 1, 0, 0, 1, 0, 0, 1, 1] (fbody Try.prog 15)) (blockK 7 (seqK Try.prog O L (sub [1, 1, 1, 1, 1, 1, 0, 1, 0, 0, 1, 1] (fbody Try.prog 15)) k))))
noncomputable def f15_e4_8 (O : Oracle) (L : Loops (Value × Heap)) (k : Ex → K (Value × Heap)) (x0 x1 x2 x3 x4 x5 x6 x7 x8 x9 x10 x11 x12 x13 x14 x15 x16 x17 x18 x19 x20 x21 x22 x23 x24 x25 x26 x27 x28 x29 x30 x31 x32 x33 x34 x35 x36 x37 x38 x39 x40 x41 x42 x43 x44 x45 x46 x47 x48 x49 x50 x51 x52 x53 x54 x55 x56 x57 x58 x59 x60 x61 x62 x63 x64 x65 x66 x67 x68 x69 x70 x71 x72 x73 x74 x75 x76 x77 x78 x79 x80 x81 x82 x83 x84 x85 x86 x87 x88 x89 x90 x91 x92 x93 x94 x95 x96 x97 x98 x99 x100 x101 x102 x103 x104 x105 x106 x107 x108 x109 x110 x111 x112 x113 x114 x115 x116 x117 x118 x119 x120 x121 x122 x123 x124 x125 x126 x127 x128 x129 x130 x131 x132 x133 x134 x135 x136 x137 x138 : Value) (h : Heap) : Option (Value × Heap) :=
  ob ((M.ofOpt (fAddr 10 x11)) h) fun v90 h90 =>
  ob ((ld1 v90) h90) fun v91 h91 =>
  ob ((bldSlice 24 1 1 [(.slice none 0 0)] [(0, x18)]) h91) fun v92 h92 =>
  ob ((app 24 1 24 v91 v92) h92) fun v93 h93 =>
  ob ((M.ofOpt (fAddr 10 x11)) h93) fun v94 h94 =>
  ob ((stN 1 v94 v93) h94) fun v95 h95 =>
  ob ((M.ofOpt (bin Try.prog .add 3 x17 (.int .i64 1))) h95) fun v96 h96 =>
  k .normal [x0, x1, x2, x3, x4, x5, x6, x7, x8, x9, x10, x11, x12, x13, x14, x15, x16, v96, x18, x19, x20, x21, x22, x23, x24, x25, x26, x27, x28, x29, x30, x31, x32, x33, x34, x35, x36, x37, x38, x39, x40, x41, x42, x43, x44, x45, x46, x47, x48, x49, x50, x51, x52, x53, x54, x55, x56, x57, x58, x59, x60, x61, x62, x63, x64, x65, x66, x67, x68, x69, x70, x71, x72, x73, x74, x75, x76, x77, x78, x79, x80, x81, x82, x83, x84, x85, x86, x87, x88, x89, x90, x91, x92, x93, x94, x95, x17, v96, x98, x99, x100, x101, x102, x103, x104, x105, x106, x107, x108, x109, x110, x111, x112, x113, x114, x115, x116, x117, x118, x119, x120, x121, x122, x123, x124, x125, x126, x127, x128, x129, x130, x131, v90, v91, x18, v92, v93, v94, x138] h96
theorem f15_e4_8_eq (O : Oracle) (L : Loops (Value × Heap)) (k : Ex → K (Value × Heap)) (x0 x1 x2 x3 x4 x5 x6 x7 x8 x9 x10 x11 x12 x13 x14 x15 x16 x17 x18 x19 x20 x21 x22 x23 x24 x25 x26 x27 x28 x29 x30 x31 x32 x33 x34 x35 x36 x37 x38 x39 x40 x41 x42 x43 x44 x45 x46 x47 x48 x49 x50 x51 x52 x53 x54 x55 x56 x57 x58 x59 x60 x61 x62 x63 x64 x65 x66 x67 x68 x69 x70 x71 x72 x73 x74 x75 x76 x77 x78 x79 x80 x81 x82 x83 x84 x85 x86 x87 x88 x89 x90 x91 x92 x93 x94 x95 x96 x97 x98 x99 x100 x101 x102 x103 x104 x105 x106 x107 x108 x109 x110 x111 x112 x113 x114 x115 x116 x117 x118 x119 x120 x121 x122 x123 x124 x125 x126 x127 x128 x129 x130 x131 x132 x133 x134 x135 x136 x137 x138 : Value) (h : Heap) :
    f15_k4 O L k (.exit 8) [x0, x1, x2, x3, x4, x5, x6, x7, x8, x9, x10, x11, x12, x13, x14, x15, x16, x17, x18, x19, x20, x21, x22, x23, x24, x25, x26, x27, x28, x29, x30, x31, x32, x33, x34, x35, x36, x37, x38, x39, x40, x41, x42, x43, x44, x45, x46, x47, x48, x49, x50, x51, x52, x53, x54, x55, x56, x57, x58, x59, x60, x61, x62, x63, x64, x65, x66, x67, x68, x69, x70, x71, x72, x73, x74, x75, x76, x77, x78, x79, x80, x81, x82, x83, x84, x85, x86, x87, x88, x89, x90, x91, x92, x93, x94, x95, x96, x97, x98, x99, x100, x101, x102, x103, x104, x105, x106, x107, x108, x109, x110, x111, x112, x113, x114, x115, x116, x117, x118, x119, x120, x121, x122, x123, x124, x125, x126, x127, x128, x129, x130, x131, x132, x133, x134, x135, x136, x137, x138] h = f15_e4_8 O L k x0 x1 x2 x3 x4 x5 x6 x7 x8 x9 x10 x11 x12 x13 x14 x15 x16 x17 x18 x19 x20 x21 x22 x23 x24 x25 x26 x27 x28 x29 x30 x31 x32 x33 x34 x35 x36 x37 x38 x39 x40 x41 x42 x43 x44 x45 x46 x47 x48 x49 x50 x51 x52 x53 x54 x55 x56 x57 x58 x59 x60 x61 x62 x63 x64 x65 x66 x67 x68 x69 x70 x71 x72 x73 x74 x75 x76 x77 x78 x79 x80 x81 x82 x83 x84 x85 x86 x87 x88 x89 x90 x91 x92 x93 x94 x95 x96 x97 x98 x99 x100 x101 x102 x103 x104 x105 x106 x107 x108 x109 x110 x111 x112 x113 x114 x115 x116 x117 x118 x119 x120 x121 x122 x123 x124 x125 x126 x127 x128 x129 x130 x131 x132 x133 x134 x135 x136 x137 x138 h := by kernel_rfl
noncomputable def f15_b4 (O : Oracle) (L : Loops (Value × Heap)) (k : Ex → K (Value × Heap)) (x0 x1 x2 x3 x4 x5 x6 x7 x8 x9 x10 x11 x12 x13 x14 x15 x16 x17 x18 x19 x20 x21 x22 x23 x24 x25 x26 x27 x28 x29 x30 x31 x32 x33 x34 x35 x36 x37 x38 x39 x40 x41 x42 x43 x44 x45 x46 x47 x48 x49 x50 x51 x52 x53 x54 x55 x56 x57 x58 x59 x60 x61 x62 x63 x64 x65 x66 x67 x68 x69 x70 x71 x72 x73 x74 x75 x76 x77 x78 x79 x80 x81 x82 x83 x84 x85 x86 x87 x88 x89 x90 x91 x92 x93 x94 x95 x96 x97 x98 x99 x100 x101 x102 x103 x104 x105 x106 x107 x108 x109 x110 x111 x112 x113 x114 x115 x116 x117 x118 x119 x120 x121 x122 x123 x124 x125 x126 x127 x128 x129 x130 x131 x132 x133 x134 x135 x136 x137 x138 : Value) (h : Heap) : Option (Value × Heap) :=
  ob ((M.ofOpt (fAddr 0 x11)) h) fun v63 h63 =>
  ob ((ld1 v63) h63) fun v64 h64 =>
  ob ((M.ofOpt (bin Try.prog .lss 3 x19 v64)) h64) fun v65 h65 =>
  iteV v65 (
  ob ((M.ofOpt (lenSl x4)) h65) fun v66 h66 =>
  ob ((M.ofOpt (bin Try.prog .lss 3 x16 v66)) h66) fun v67 h67 =>
  ob ((gd v67 true (M.ret x4)) h67) fun v68 h68 =>
  ob ((gd v67 true (M.ret x16)) h68) fun v69 h69 =>
  ob ((gd v67 true (M.ofOpt (iAddr 1 v68 v69))) h69) fun v70 h70 =>
  ob ((gd v67 true (ld1 v70)) h70) fun v71 h71 =>
  ob ((gd v67 true (M.ofOpt (bin Try.prog .rem 5 v71 (.int .u8 4)))) h71) fun v72 h72 =>
  ob ((gd v67 true (M.ofOpt (bin Try.prog .eql 5 v72 (.int .u8 0)))) h72) fun v73 h73 =>
  ob ((M.ofOpt (pick v67 v73 (.bool false))) h73) fun v74 h74 =>
  iteV v74 (
  ob ((M.ofOpt (iAddr 1 x4 x16)) h74) fun v75 h75 =>
  ob ((ld1 v75) h75) fun v76 h76 =>
  ifB (true) (
  ob ((M.ofOpt (bin Try.prog .quo 5 v76 (.int .u8 4))) h76) fun v77 h77 =>
  ob ((conv Try.prog 5 3 v77) h77) fun v78 h78 =>
  ob ((M.ofOpt (fAddr 0 x11)) h78) fun v79 h79 =>
  ob ((ld1 v79) h79) fun v80 h80 =>
  ifB (true) (
  ob ((M.ofOpt (bin Try.prog .rem 3 v78 v80)) h80) fun v81 h81 =>
  ob ((bldSlice 3 1 1 [(.int .i64 0)] [(0, v81)]) h81) fun v82 h82 =>
  ob ((app 3 1 8 x18 v82) h82) fun v83 h83 =>
  ob ((M.ofOpt (bin Try.prog .add 3 x16 (.int .i64 1))) h83) fun v84 h84 =>
  ob ((M.ofOpt (bin Try.prog .add 3 x19 (.int .i64 1))) h84) fun v85 h85 =>
  k .normal [x0, x1, x2, x3, x4, x5, x6, x7, x8, x9, x10, x11, x12, x13, x14, x15, v84, x17, v83, v85, v81, x21, x22, x23, x24, x25, x26, x27, x28, x29, x30, x31, x32, x33, x34, x35, x36, x37, x38, x39, x40, x41, x42, x43, x44, x45, x46, x47, x48, x49, x50, x51, x52, x53, x54, x55, x56, x57, x58, x59, x60, x61, x62, x63, x64, x65, x66, x67, x68, x69, x70, x71, x72, x73, x74, x75, x76, x77, x78, x79, x80, x81, x82, x83, x84, x85, x86, x87, x88, x89, x90, x91, x92, x93, x94, x95, x96, x97, x19, v63, v64, v65, x19, v85, x19, x16, x4, v66, v67, v67, v68, v69, v70, v71, v72, v73, v74, x4, x16, v75, v76, v77, v78, v79, v80, v81, x18, v81, v82, v83, x16, v84, x132, x133, x134, x135, x136, x137, x138] h85))) (
  ob ((bldSlice 3 1 1 [(.int .i64 0)] [(0, x19)]) h74) fun v86 h86 =>
  ob ((app 3 1 8 x18 v86) h86) fun v87 h87 =>
  ob ((M.ofOpt (bin Try.prog .add 3 x16 (.int .i64 1))) h87) fun v88 h88 =>
  ob ((M.ofOpt (bin Try.prog .add 3 x19 (.int .i64 1))) h88) fun v89 h89 =>
  k .normal [x0, x1, x2, x3, x4, x5, x6, x7, x8, x9, x10, x11, x12, x13, x14, x15, v88, x17, v87, v89, x19, x21, x22, x23, x24, x25, x26, x27, x28, x29, x30, x31, x32, x33, x34, x35, x36, x37, x38, x39, x40, x41, x42, x43, x44, x45, x46, x47, x48, x49, x50, x51, x52, x53, x54, x55, x56, x57, x58, x59, x60, x61, x62, x63, x64, x65, x66, x67, x68, x69, x70, x71, x72, x73, x74, x75, x76, x77, x78, x79, x80, x81, x82, x83, x84, x85, x86, x87, x88, x89, x90, x91, x92, x93, x94, x95, x96, x97, x19, v63, v64, v65, x19, v89, x19, x16, x4, v66, v67, v67, v68, v69, v70, v71, v72, v73, v74, x117, x118, x119, x120, x121, x122, x123, x124, x125, x18, x19, v86, v87, x16, v88, x132, x133, x134, x135, x136, x137, x138] h89)) (
  k (.exit 8) [x0, x1, x2, x3, x4, x5, x6, x7, x8, x9, x10, x11, x12, x13, x14, x15, x16, x17, x18, x19, x20, x21, x22, x23, x24, x25, x26, x27, x28, x29, x30, x31, x32, x33, x34, x35, x36, x37, x38, x39, x40, x41, x42, x43, x44, x45, x46, x47, x48, x49, x50, x51, x52, x53, x54, x55, x56, x57, x58, x59, x60, x61, x62, x63, x64, x65, x66, x67, x68, x69, x70, x71, x72, x73, x74, x75, x76, x77, x78, x79, x80, x81, x82, x83, x84, x85, x86, x87, x88, x89, x90, x91, x92, x93, x94, x95, x96, x97, x19, v63, v64, v65, x102, x103, x104, x105, x106, x107, x108, x109, x110, x111, x112, x113, x114, x115, x116, x117, x118, x119, x120, x121, x122, x123, x124, x125, x126, x127, x128, x129, x130, x131, x132, x133, x134, x135, x136, x137, x138] h65)
theorem f15_b4_eq (O : Oracle) (L : Loops (Value × Heap)) (k : Ex → K (Value × Heap)) (x0 x1 x2 x3 x4 x5 x6 x7 x8 x9 x10 x11 x12 x13 x14 x15 x16 x17 x18 x19 x20 x21 x22 x23 x24 x25 x26 x27 x28 x29 x30 x31 x32 x33 x34 x35 x36 x37 x38 x39 x40 x41 x42 x43 x44 x45 x46 x47 x48 x49 x50 x51 x52 x53 x54 x55 x56 x57 x58 x59 x60 x61 x62 x63 x64 x65 x66 x67 x68 x69 x70 x71 x72 x73 x74 x75 x76 x77 x78 x79 x80 x81 x82 x83 x84 x85 x86 x87 x88 x89 x90 x91 x92 x93 x94 x95 x96 x97 x98 x99 x100 x101 x102 x103 x104 x105 x106 x107 x108 x109 x110 x111 x112 x113 x114 x115 x116 x117 x118 x119 x120 x121 x122 x123 x124 x125 x126 x127 x128 x129 x130 x131 x132 x133 x134 x135 x136 x137 x138 : Value) (h : Heap) :
    runCode Try.prog O L f15_c4 k [x0, x1, x2, x3, x4, x5, x6, x7, x8, x9, x10, x11, x12, x13, x14, x15, x16, x17, x18, x19, x20, x21, x22, x23, x24, x25, x26, x27, x28, x29, x30, x31, x32, x33, x34, x35, x36, x37, x38, x39, x40, x41, x42, x43, x44, x45, x46, x47, x48, x49, x50, x51, x52, x53, x54, x55, x56, x57, x58, x59, x60, x61, x62, x63, x64, x65, x66, x67, x68, x69, x70, x71, x72, x73, x74, x75, x76, x77, x78, x79, x80, x81, x82, x83, x84, x85, x86, x87, x88, x89, x90, x91, x92, x93, x94, x95, x96, x97, x98, x99, x100, x101, x102, x103, x104, x105, x106, x107, x108, x109, x110, x111, x112, x113, x114, x115, x116, x117, x118, x119, x120, x121, x122, x123, x124, x125, x126, x127, x128, x129, x130, x131, x132, x133, x134, x135, x136, x137, x138] h = f15_b4 O L k x0 x1 x2 x3 x4 x5 x6 x7 x8 x9 x10 x11 x12 x13 x14 x15 x16 x17 x18 x19 x20 x21 x22 x23 x24 x25 x26 x27 x28 x29 x30 x31 x32 x33 x34 x35 x36 x37 x38 x39 x40 x41 x42 x43 x44 x45 x46 x47 x48 x49 x50 x51 x52 x53 x54 x55 x56 x57 x58 x59 x60 x61 x62 x63 x64 x65 x66 x67 x68 x69 x70 x71 x72 x73 x74 x75 x76 x77 x78 x79 x80 x81 x82 x83 x84 x85 x86 x87 x88 x89 x90 x91 x92 x93 x94 x95 x96 x97 x98 x99 x100 x101 x102 x103 x104 x105 x106 x107 x108 x109 x110 x111 x112 x113 x114 x115 x116 x117 x118 x119 x120 x121 x122 x123 x124 x125 x126 x127 x128 x129 x130 x131 x132 x133 x134 x135 x136 x137 x138 h := by kernel_rfl
noncomputable def f15_c3 : Code := sub [1, 1, 1, 1, 1, 1, 0, 1, 0, 0] (fbody Try.prog 15)
noncomputable def f15_k3 (O : Oracle) (L : Loops (Value × Heap)) : Ex → K (Value × Heap) := (blockK 6 (seqK Try.prog O L (sub [1, 1, 1, 1, 1, 1, 1] (fbody Try.prog 15)) (kRet Try.prog Try.f15)))
noncomputable def f15_e3_6 (O : Oracle) (L : Loops (Value × Heap)) (x0 x1 x2 x3 x4 x5 x6 x7 x8 x9 x10 x11 x12 x13 x14 x15 x16 x17 x18 x19 x20 x21 x22 x23 x24 x25 x26 x27 x28 x29 x30 x31 x32 x33 x34 x35 x36 x37 x38 x39 x40 x41 x42 x43 x44 x45 x46 x47 x48 x49 x50 x51 x52 x53 x54 x55 x56 x57 x58 x59 x60 x61 x62 x63 x64 x65 x66 x67 x68 x69 x70 x71 x72 x73 x74 x75 x76 x77 x78 x79 x80 x81 x82 x83 x84 x85 x86 x87 x88 x89 x90 x91 x92 x93 x94 x95 x96 x97 x98 x99 x100 x101 x102 x103 x104 x105 x106 x107 x108 x109 x110 x111 x112 x113 x114 x115 x116 x117 x118 x119 x120 x121 x122 x123 x124 x125 x126 x127 x128 x129 x130 x131 x132 x133 x134 x135 x136 x137 x138 : Value) (h : Heap) : Option (Value × Heap) :=
  ob ((ldN 11 x11) h) fun v60 h60 =>
  ob ((stN 11 x10 v60) h60) fun v61 h61 =>
  ob ((ldN 11 x10) h61) fun w62 _ => some (oneOf [w62], h61)
theorem f15_e3_6_eq (O : Oracle) (L : Loops (Value × Heap)) (x0 x1 x2 x3 x4 x5 x6 x7 x8 x9 x10 x11 x12 x13 x14 x15 x16 x17 x18 x19 x20 x21 x22 x23 x24 x25 x26 x27 x28 x29 x30 x31 x32 x33 x34 x35 x36 x37 x38 x39 x40 x41 x42 x43 x44 x45 x46 x47 x48 x49 x50 x51 x52 x53 x54 x55 x56 x57 x58 x59 x60 x61 x62 x63 x64 x65 x66 x67 x68 x69 x70 x71 x72 x73 x74 x75 x76 x77 x78 x79 x80 x81 x82 x83 x84 x85 x86 x87 x88 x89 x90 x91 x92 x93 x94 x95 x96 x97 x98 x99 x100 x101 x102 x103 x104 x105 x106 x107 x108 x109 x110 x111 x112 x113 x114 x115 x116 x117 x118 x119 x120 x121 x122 x123 x124 x125 x126 x127 x128 x129 x130 x131 x132 x133 x134 x135 x136 x137 x138 : Value) (h : Heap) :
    f15_k3 O L (.exit 6) [x0, x1, x2, x3, x4, x5, x6, x7, x8, x9, x10, x11, x12, x13, x14, x15, x16, x17, x18, x19, x20, x21, x22, x23, x24, x25, x26, x27, x28, x29, x30, x31, x32, x33, x34, x35, x36, x37, x38, x39, x40, x41, x42, x43, x44, x45, x46, x47, x48, x49, x50, x51, x52, x53, x54, x55, x56, x57, x58, x59, x60, x61, x62, x63, x64, x65, x66, x67, x68, x69, x70, x71, x72, x73, x74, x75, x76, x77, x78, x79, x80, x81, x82, x83, x84, x85, x86, x87, x88, x89, x90, x91, x92, x93, x94, x95, x96, x97, x98, x99, x100, x101, x102, x103, x104, x105, x106, x107, x108, x109, x110, x111, x112, x113, x114, x115, x116, x117, x118, x119, x120, x121, x122, x123, x124, x125, x126, x127, x128, x129, x130, x131, x132, x133, x134, x135, x136, x137, x138] h = f15_e3_6 O L x0 x1 x2 x3 x4 x5 x6 x7 x8 x9 x10 x11 x12 x13 x14 x15 x16 x17 x18 x19 x20 x21 x22 x23 x24 x25 x26 x27 x28 x29 x30 x31 x32 x33 x34 x35 x36 x37 x38 x39 x40 x41 x42 x43 x44 x45 x46 x47 x48 x49 x50 x51 x52 x53 x54 x55 x56 x57 x58 x59 x60 x61 x62 x63 x64 x65 x66 x67 x68 x69 x70 x71 x72 x73 x74 x75 x76 x77 x78 x79 x80 x81 x82 x83 x84 x85 x86 x87 x88 x89 x90 x91 x92 x93 x94 x95 x96 x97 x98 x99 x100 x101 x102 x103 x104 x105 x106 x107 x108 x109 x110 x111 x112 x113 x114 x115 x116 x117 x118 x119 x120 x121 x122 x123 x124 x125 x126 x127 x128 x129 x130 x131 x132 x133 x134 x135 x136 x137 x138 h := by kernel_rfl
noncomputable def f15_b3 (O : Oracle) (L : Loops (Value × Heap)) (k : Ex → K (Value × Heap)) (x0 x1 x2 x3 x4 x5 x6 x7 x8 x9 x10 x11 x12 x13 x14 x15 x16 x17 x18 x19 x20 x21 x22 x23 x24 x25 x26 x27 x28 x29 x30 x31 x32 x33 x34 x35 x36 x37 x38 x39 x40 x41 x42 x43 x44 x45 x46 x47 x48 x49 x50 x51 x52 x53 x54 x55 x56 x57 x58 x59 x60 x61 x62 x63 x64 x65 x66 x67 x68 x69 x70 x71 x72 x73 x74 x75 x76 x77 x78 x79 x80 x81 x82 x83 x84 x85 x86 x87 x88 x89 x90 x91 x92 x93 x94 x95 x96 x97 x98 x99 x100 x101 x102 x103 x104 x105 x106 x107 x108 x109 x110 x111 x112 x113 x114 x115 x116 x117 x118 x119 x120 x121 x122 x123 x124 x125 x126 x127 x128 x129 x130 x131 x132 x133 x134 x135 x136 x137 x138 : Value) (h : Heap) : Option (Value × Heap) :=
  ob ((M.ofOpt (fAddr 0 x11)) h) fun v57 h57 =>
  ob ((ld1 v57) h57) fun v58 h58 =>
  ob ((M.ofOpt (bin Try.prog .lss 3 x17 v58)) h58) fun v59 h59 =>
  iteV v59 (
  L (runCode Try.prog O L f15_c4) (f15_k4 O L k) [x0, x1, x2, x3, x4, x5, x6, x7, x8, x9, x10, x11, x12, x13, x14, x15, x16, x17, (.slice none 0 0), (.int .i64 0), x20, x21, x22, x23, x24, x25, x26, x27, x28, x29, x30, x31, x32, x33, x34, x35, x36, x37, x38, x39, x40, x41, x42, x43, x44, x45, x46, x47, x48, x49, x50, x51, x52, x53, x54, x55, x56, x57, x58, x59, x60, x61, x62, x63, x64, x65, x66, x67, x68, x69, x70, x71, x72, x73, x74, x75, x76, x77, x78, x79, x80, x81, x82, x83, x84, x85, x86, x87, x88, x89, x90, x91, x17, v57, v58, v59, x96, x97, x98, x99, x100, x101, x102, x103, x104, x105, x106, x107, x108, x109, x110, x111, x112, x113, x114, x115, x116, x117, x118, x119, x120, x121, x122, x123, x124, x125, x126, x127, x128, x129, x130, x131, x132, x133, x134, x135, x136, x137, x138] h59) (
  k (.exit 6) [x0, x1, x2, x3, x4, x5, x6, x7, x8, x9, x10, x11, x12, x13, x14, x15, x16, x17, x18, x19, x20, x21, x22, x23, x24, x25, x26, x27, x28, x29, x30, x31, x32, x33, x34, x35, x36, x37, x38, x39, x40, x41, x42, x43, x44, x45, x46, x47, x48, x49, x50, x51, x52, x53, x54, x55, x56, x57, x58, x59, x60, x61, x62, x63, x64, x65, x66, x67, x68, x69, x70, x71, x72, x73, x74, x75, x76, x77, x78, x79, x80, x81, x82, x83, x84, x85, x86, x87, x88, x89, x90, x91, x17, v57, v58, v59, x96, x97, x98, x99, x100, x101, x102, x103, x104, x105, x106, x107, x108, x109, x110, x111, x112, x113, x114, x115, x116, x117, x118, x119, x120, x121, x122, x123, x124, x125, x126, x127, x128, x129, x130, x131, x132, x133, x134, x135, x136, x137, x138] h59)
theorem f15_b3_eq (O : Oracle) (L : Loops (Value × Heap)) (k : Ex → K (Value × Heap)) (x0 x1 x2 x3 x4 x5 x6 x7 x8 x9 x10 x11 x12 x13 x14 x15 x16 x17 x18 x19 x20 x21 x22 x23 x24 x25 x26 x27 x28 x29 x30 x31 x32 x33 x34 x35 x36 x37 x38 x39 x40 x41 x42 x43 x44 x45 x46 x47 x48 x49 x50 x51 x52 x53 x54 x55 x56 x57 x58 x59 x60 x61 x62 x63 x64 x65 x66 x67 x68 x69 x70 x71 x72 x73 x74 x75 x76 x77 x78 x79 x80 x81 x82 x83 x84 x85 x86 x87 x88 x89 x90 x91 x92 x93 x94 x95 x96 x97 x98 x99 x100 x101 x102 x103 x104 x105 x106 x107 x108 x109 x110 x111 x112 x113 x114 x115 x116 x117 x118 x119 x120 x121 x122 x123 x124 x125 x126 x127 x128 x129 x130 x131 x132 x133 x134 x135 x136 x137 x138 : Value) (h : Heap) :
    runCode Try.prog O L f15_c3 k [x0, x1, x2, x3, x4, x5, x6, x7, x8, x9, x10, x11, x12, x13, x14, x15, x16, x17, x18, x19, x20, x21, x22, x23, x24, x25, x26, x27, x28, x29, x30, x31, x32, x33, x34, x35, x36, x37, x38, x39, x40, x41, x42, x43, x44, x45, x46, x47, x48, x49, x50, x51, x52, x53, x54, x55, x56, x57, x58, x59, x60, x61, x62, x63, x64, x65, x66, x67, x68, x69, x70, x71, x72, x73, x74, x75, x76, x77, x78, x79, x80, x81, x82, x83, x84, x85, x86, x87, x88, x89, x90, x91, x92, x93, x94, x95, x96, x97, x98, x99, x100, x101, x102, x103, x104, x105, x106, x107, x108, x109, x110, x111, x112, x113, x114, x115, x116, x117, x118, x119, x120, x121, x122, x123, x124, x125, x126, x127, x128, x129, x130, x131, x132, x133, x134, x135, x136, x137, x138] h = f15_b3 O L k x0 x1 x2 x3 x4 x5 x6 x7 x8 x9 x10 x11 x12 x13 x14 x15 x16 x17 x18 x19 x20 x21 x22 x23 x24 x25 x26 x27 x28 x29 x30 x31 x32 x33 x34 x35 x36 x37 x38 x39 x40 x41 x42 x43 x44 x45 x46 x47 x48 x49 x50 x51 x52 x53 x54 x55 x56 x57 x58 x59 x60 x61 x62 x63 x64 x65 x66 x67 x68 x69 x70 x71 x72 x73 x74 x75 x76 x77 x78 x79 x80 x81 x82 x83 x84 x85 x86 x87 x88 x89 x90 x91 x92 x93 x94 x95 x96 x97 x98 x99 x100 x101 x102 x103 x104 x105 x106 x107 x108 x109 x110 x111 x112 x113 x114 x115 x116 x117 x118 x119 x120 x121 x122 x123 x124 x125 x126 x127 x128 x129 x130 x131 x132 x133 x134 x135 x136 x137 x138 h := by kernel_rfl
noncomputable def f15_c2 : Code := sub [1, 1, 1, 1, 0, 1, 0, 0, 1, 0, 0, 1, 0, 0] (fbody Try.prog 15)
noncomputable def f15_k2 (O : Oracle) (L : Loops (Value × Heap)) (k : Ex → K (Value × Heap)) : Ex → K (Value × Heap) := (blockK 4 (blockK 3 (seqK Try.prog O L (sub [1, 1, 1, 1, 0, 1, 0, 0, 1, 1] (fbody Try.prog 15)) k)))
noncomputable def f15_e2_4 (O : Oracle) (L : Loops (Value × Heap)) (k : Ex → K (Value × Heap)) (x0 x1 x2 x3 x4 x5 x6 x7 x8 x9 x10 x11 x12 x13 x14 x15 x16 x17 x18 x19 x20 x21 x22 x23 x24 x25 x26 x27 x28 x29 x30 x31 x32 x33 x34 x35 x36 x37 x38 x39 x40 x41 x42 x43 x44 x45 x46 x47 x48 x49 x50 x51 x52 x53 x54 x55 x56 x57 x58 x59 x60 x61 x62 x63 x64 x65 x66 x67 x68 x69 x70 x71 x72 x73 x74 x75 x76 x77 x78 x79 x80 x81 x82 x83 x84 x85 x86 x87 x88 x89 x90 x91 x92 x93 x94 x95 x96 x97 x98 x99 x100 x101 x102 x103 x104 x105 x106 x107 x108 x109 x110 x111 x112 x113 x114 x115 x116 x117 x118 x119 x120 x121 x122 x123 x124 x125 x126 x127 x128 x129 x130 x131 x132 x133 x134 x135 x136 x137 x138 : Value) (h : Heap) : Option (Value × Heap) :=
  ob ((M.ofOpt (bin Try.prog .add 3 x14 (.int .i64 1))) h) fun v56 h56 =>
  k .normal [x0, x1, x2, x3, x4, x5, x6, x7, x8, x9, x10, x11, x12, x13, v56, x15, x16, x17, x18, x19, x20, x21, x22, x23, x24, x25, x26, x27, x28, x29, x30, x31, x32, x33, x34, x35, x36, x37, x38, x39, x40, x41, x42, x43, x44, x45, x46, x47, x48, x49, x50, x51, x52, x53, x54, x55, x56, x57, x58, x59, x60, x61, x62, x63, x64, x65, x66, x67, x68, x69, x70, x71, x14, v56, x74, x75, x76, x77, x78, x79, x80, x81, x82, x83, x84, x85, x86, x87, x88, x89, x90, x91, x92, x93, x94, x95, x96, x97, x98, x99, x100, x101, x102, x103, x104, x105, x106, x107, x108, x109, x110, x111, x112, x113, x114, x115, x116, x117, x118, x119, x120, x121, x122, x123, x124, x125, x126, x127, x128, x129, x130, x131, x132, x133, x134, x135, x136, x137, x138] h56
theorem f15_e2_4_eq (O : Oracle) (L : Loops (Value × Heap)) (k : Ex → K (Value × Heap)) (x0 x1 x2 x3 x4 x5 x6 x7 x8 x9 x10 x11 x12 x13 x14 x15 x16 x17 x18 x19 x20 x21 x22 x23 x24 x25 x26 x27 x28 x29 x30 x31 x32 x33 x34 x35 x36 x37 x38 x39 x40 x41 x42 x43 x44 x45 x46 x47 x48 x49 x50 x51 x52 x53 x54 x55 x56 x57 x58 x59 x60 x61 x62 x63 x64 x65 x66 x67 x68 x69 x70 x71 x72 x73 x74 x75 x76 x77 x78 x79 x80 x81 x82 x83 x84 x85 x86 x87 x88 x89 x90 x91 x92 x93 x94 x95 x96 x97 x98 x99 x100 x101 x102 x103 x104 x105 x106 x107 x108 x109 x110 x111 x112 x113 x114 x115 x116 x117 x118 x119 x120 x121 x122 x123 x124 x125 x126 x127 x128 x129 x130 x131 x132 x133 x134 x135 x136 x137 x138 : Value) (h : Heap) :
    f15_k2 O L k (.exit 4) [x0, x1, x2, x3, x4, x5, x6, x7, x8, x9, x10, x11, x12, x13, x14, x15, x16, x17, x18, x19, x20, x21, x22, x23, x24, x25, x26, x27, x28, x29, x30, x31, x32, x33, x34, x35, x36, x37, x38, x39, x40, x41, x42, x43, x44, x45, x46, x47, x48, x49, x50, x51, x52, x53, x54, x55, x56, x57, x58, x59, x60, x61, x62, x63, x64, x65, x66, x67, x68, x69, x70, x71, x72, x73, x74, x75, x76, x77, x78, x79, x80, x81, x82, x83, x84, x85, x86, x87, x88, x89, x90, x91, x92, x93, x94, x95, x96, x97, x98, x99, x100, x101, x102, x103, x104, x105, x106, x107, x108, x109, x110, x111, x112, x113, x114, x115, x116, x117, x118, x119, x120, x121, x122, x123, x124, x125, x126, x127, x128, x129, x130, x131, x132, x133, x134, x135, x136, x137, x138] h = f15_e2_4 O L k x0 x1 x2 x3 x4 x5 x6 x7 x8 x9 x10 x11 x12 x13 x14 x15 x16 x17 x18 x19 x20 x21 x22 x23 x24 x25 x26 x27 x28 x29 x30 x31 x32 x33 x34 x35 x36 x37 x38 x39 x40 x41 x42 x43 x44 x45 x46 x47 x48 x49 x50 x51 x52 x53 x54 x55 x56 x57 x58 x59 x60 x61 x62 x63 x64 x65 x66 x67 x68 x69 x70 x71 x72 x73 x74 x75 x76 x77 x78 x79 x80 x81 x82 x83 x84 x85 x86 x87 x88 x89 x90 x91 x92 x93 x94 x95 x96 x97 x98 x99 x100 x101 x102 x103 x104 x105 x106 x107 x108 x109 x110 x111 x112 x113 x114 x115 x116 x117 x118 x119 x120 x121 x122 x123 x124 x125 x126 x127 x128 x129 x130 x131 x132 x133 x134 x135 x136 x137 x138 h := by kernel_rfl
noncomputable def f15_b2 (O : Oracle) (L : Loops (Value × Heap)) (k : Ex → K (Value × Heap)) (x0 x1 x2 x3 x4 x5 x6 x7 x8 x9 x10 x11 x12 x13 x14 x15 x16 x17 x18 x19 x20 x21 x22 x23 x24 x25 x26 x27 x28 x29 x30 x31 x32 x33 x34 x35 x36 x37 x38 x39 x40 x41 x42 x43 x44 x45 x46 x47 x48 x49 x50 x51 x52 x53 x54 x55 x56 x57 x58 x59 x60 x61 x62 x63 x64 x65 x66 x67 x68 x69 x70 x71 x72 x73 x74 x75 x76 x77 x78 x79 x80 x81 x82 x83 x84 x85 x86 x87 x88 x89 x90 x91 x92 x93 x94 x95 x96 x97 x98 x99 x100 x101 x102 x103 x104 x105 x106 x107 x108 x109 x110 x111 x112 x113 x114 x115 x116 x117 x118 x119 x120 x121 x122 x123 x124 x125 x126 x127 x128 x129 x130 x131 x132 x133 x134 x135 x136 x137 x138 : Value) (h : Heap) : Option (Value × Heap) :=
  ob ((M.ofOpt (bin Try.prog .lss 3 x15 x14)) h) fun v42 h42 =>
  iteV v42 (
  ob ((M.ofOpt (bin Try.prog .rem 22 x13 (.int .u16 2))) h42) fun v43 h43 =>
  ob ((M.ofOpt (bin Try.prog .eql 22 v43 (.int .u16 1))) h43) fun v44 h44 =>
  iteV v44 (
  ob ((M.ofOpt (fAddr 1 x11)) h44) fun v45 h45 =>
  ob ((ld1 v45) h45) fun v46 h46 =>
  ob ((M.ofOpt (bld Try.prog 33 [(0, x15), (1, x14)])) h46) fun v47 h47 =>
  ob ((bldSlice 33 2 1 [(.int .i64 0), (.int .i64 0)] [(0, v47)]) h47) fun v48 h48 =>
  ob ((app 33 2 16 v46 v48) h48) fun v49 h49 =>
  ob ((M.ofOpt (fAddr 1 x11)) h49) fun v50 h50 =>
  ob ((stN 1 v50 v49) h50) fun v51 h51 =>
  ob ((M.ofOpt (bin Try.prog .quo 22 x13 (.int .u16 2))) h51) fun v52 h52 =>
  ob ((M.ofOpt (bin Try.prog .add 3 x15 (.int .i64 1))) h52) fun v53 h53 =>
  k .normal [x0, x1, x2, x3, x4, x5, x6, x7, x8, x9, x10, x11, x12, v52, x14, v53, x16, x17, x18, x19, x20, x21, x22, x23, x24, x25, x26, x27, x28, x29, x30, x31, x32, x33, x34, x35, x36, x37, x38, x39, x40, x41, x42, x43, x44, x45, x46, x47, x48, x49, x50, x51, x52, x53, x54, x55, x56, x57, x58, x59, x60, x61, x62, x63, x64, x65, x66, x67, x68, x69, x70, x71, x72, x73, x15, x14, v42, x15, v53, x13, v43, v44, v45, v46, x15, x14, v47, v48, v49, v50, x13, v52, x92, x93, x94, x95, x96, x97, x98, x99, x100, x101, x102, x103, x104, x105, x106, x107, x108, x109, x110, x111, x112, x113, x114, x115, x116, x117, x118, x119, x120, x121, x122, x123, x124, x125, x126, x127, x128, x129, x130, x131, x132, x133, x134, x135, x136, x137, x138] h53) (
  ob ((M.ofOpt (bin Try.prog .quo 22 x13 (.int .u16 2))) h44) fun v54 h54 =>
  ob ((M.ofOpt (bin Try.prog .add 3 x15 (.int .i64 1))) h54) fun v55 h55 =>
  k .normal [x0, x1, x2, x3, x4, x5, x6, x7, x8, x9, x10, x11, x12, v54, x14, v55, x16, x17, x18, x19, x20, x21, x22, x23, x24, x25, x26, x27, x28, x29, x30, x31, x32, x33, x34, x35, x36, x37, x38, x39, x40, x41, x42, x43, x44, x45, x46, x47, x48, x49, x50, x51, x52, x53, x54, x55, x56, x57, x58, x59, x60, x61, x62, x63, x64, x65, x66, x67, x68, x69, x70, x71, x72, x73, x15, x14, v42, x15, v55, x13, v43, v44, x82, x83, x84, x85, x86, x87, x88, x89, x13, v54, x92, x93, x94, x95, x96, x97, x98, x99, x100, x101, x102, x103, x104, x105, x106, x107, x108, x109, x110, x111, x112, x113, x114, x115, x116, x117, x118, x119, x120, x121, x122, x123, x124, x125, x126, x127, x128, x129, x130, x131, x132, x133, x134, x135, x136, x137, x138] h55)) (
  k (.exit 4) [x0, x1, x2, x3, x4, x5, x6, x7, x8, x9, x10, x11, x12, x13, x14, x15, x16, x17, x18, x19, x20, x21, x22, x23, x24, x25, x26, x27, x28, x29, x30, x31, x32, x33, x34, x35, x36, x37, x38, x39, x40, x41, x42, x43, x44, x45, x46, x47, x48, x49, x50, x51, x52, x53, x54, x55, x56, x57, x58, x59, x60, x61, x62, x63, x64, x65, x66, x67, x68, x69, x70, x71, x72, x73, x15, x14, v42, x77, x78, x79, x80, x81, x82, x83, x84, x85, x86, x87, x88, x89, x90, x91, x92, x93, x94, x95, x96, x97, x98, x99, x100, x101, x102, x103, x104, x105, x106, x107, x108, x109, x110, x111, x112, x113, x114, x115, x116, x117, x118, x119, x120, x121, x122, x123, x124, x125, x126, x127, x128, x129, x130, x131, x132, x133, x134, x135, x136, x137, x138] h42)
theorem f15_b2_eq (O : Oracle) (L : Loops (Value × Heap)) (k : Ex → K (Value × Heap)) (x0 x1 x2 x3 x4 x5 x6 x7 x8 x9 x10 x11 x12 x13 x14 x15 x16 x17 x18 x19 x20 x21 x22 x23 x24 x25 x26 x27 x28 x29 x30 x31 x32 x33 x34 x35 x36 x37 x38 x39 x40 x41 x42 x43 x44 x45 x46 x47 x48 x49 x50 x51 x52 x53 x54 x55 x56 x57 x58 x59 x60 x61 x62 x63 x64 x65 x66 x67 x68 x69 x70 x71 x72 x73 x74 x75 x76 x77 x78 x79 x80 x81 x82 x83 x84 x85 x86 x87 x88 x89 x90 x91 x92 x93 x94 x95 x96 x97 x98 x99 x100 x101 x102 x103 x104 x105 x106 x107 x108 x109 x110 x111 x112 x113 x114 x115 x116 x117 x118 x119 x120 x121 x122 x123 x124 x125 x126 x127 x128 x129 x130 x131 x132 x133 x134 x135 x136 x137 x138 : Value) (h : Heap) :
    runCode Try.prog O L f15_c2 k [x0, x1, x2, x3, x4, x5, x6, x7, x8, x9, x10, x11, x12, x13, x14, x15, x16, x17, x18, x19, x20, x21, x22, x23, x24, x25, x26, x27, x28, x29, x30, x31, x32, x33, x34, x35, x36, x37, x38, x39, x40, x41, x42, x43, x44, x45, x46, x47, x48, x49, x50, x51, x52, x53, x54, x55, x56, x57, x58, x59, x60, x61, x62, x63, x64, x65, x66, x67, x68, x69, x70, x71, x72, x73, x74, x75, x76, x77, x78, x79, x80, x81, x82, x83, x84, x85, x86, x87, x88, x89, x90, x91, x92, x93, x94, x95, x96, x97, x98, x99, x100, x101, x102, x103, x104, x105, x106, x107, x108, x109, x110, x111, x112, x113, x114, x115, x116, x117, x118, x119, x120, x121, x122, x123, x124, x125, x126, x127, x128, x129, x130, x131, x132, x133, x134, x135, x136, x137, x138] h = f15_b2 O L k x0 x1 x2 x3 x4 x5 x6 x7 x8 x9 x10 x11 x12 x13 x14 x15 x16 x17 x18 x19 x20 x21 x22 x23 x24 x25 x26 x27 x28 x29 x30 x31 x32 x33 x34 x35 x36 x37 x38 x39 x40 x41 x42 x43 x44 x45 x46 x47 x48 x49 x50 x51 x52 x53 x54 x55 x56 x57 x58 x59 x60 x61 x62 x63 x64 x65 x66 x67 x68 x69 x70 x71 x72 x73 x74 x75 x76 x77 x78 x79 x80 x81 x82 x83 x84 x85 x86 x87 x88 x89 x90 x91 x92 x93 x94 x95 x96 x97 x98 x99 x100 x101 x102 x103 x104 x105 x106 x107 x108 x109 x110 x111 x112 x113 x114 x115 x116 x117 x118 x119 x120 x121 x122 x123 x124 x125 x126 x127 x128 x129 x130 x131 x132 x133 x134 x135 x136 x137 x138 h := by kernel_rfl
noncomputable def f15_c1 : Code := sub [1, 1, 1, 1, 0, 1, 0, 0] (fbody Try.prog 15)
noncomputable def f15_k1 (O : Oracle) (L : Loops (Value × Heap)) : Ex → K (Value × Heap) := (blockK 2 (seqK Try.prog O L (sub [1, 1, 1, 1, 1] (fbody Try.prog 15)) (kRet Try.prog Try.f15)))
noncomputable def f15_e1_2 (O : Oracle) (L : Loops (Value × Heap)) (x0 x1 x2 x3 x4 x5 x6 x7 x8 x9 x10 x11 x12 x13 x14 x15 x16 x17 x18 x19 x20 x21 x22 x23 x24 x25 x26 x27 x28 x29 x30 x31 x32 x33 x34 x35 x36 x37 x38 x39 x40 x41 x42 x43 x44 x45 x46 x47 x48 x49 x50 x51 x52 x53 x54 x55 x56 x57 x58 x59 x60 x61 x62 x63 x64 x65 x66 x67 x68 x69 x70 x71 x72 x73 x74 x75 x76 x77 x78 x79 x80 x81 x82 x83 x84 x85 x86 x87 x88 x89 x90 x91 x92 x93 x94 x95 x96 x97 x98 x99 x100 x101 x102 x103 x104 x105 x106 x107 x108 x109 x110 x111 x112 x113 x114 x115 x116 x117 x118 x119 x120 x121 x122 x123 x124 x125 x126 x127 x128 x129 x130 x131 x132 x133 x134 x135 x136 x137 x138 : Value) (h : Heap) : Option (Value × Heap) :=
  L (runCode Try.prog O L f15_c3) (f15_k3 O L) [x0, x1, x2, x3, x4, x5, x6, x7, x8, x9, x10, x11, x12, x13, x14, x15, (.int .i64 0), (.int .i64 0), x18, x19, x20, x21, x22, x23, x24, x25, x26, x27, x28, x29, x30, x31, x32, x33, x34, x35, x36, x37, x38, x39, x40, x41, x42, x43, x44, x45, x46, x47, x48, x49, x50, x51, x52, x53, x54, x55, x56, x57, x58, x59, x60, x61, x62, x63, x64, x65, x66, x67, x68, x69, x70, x71, x72, x73, x74, x75, x76, x77, x78, x79, x80, x81, x82, x83, x84, x85, x86, x87, x88, x89, x90, x91, x92, x93, x94, x95, x96, x97, x98, x99, x100, x101, x102, x103, x104, x105, x106, x107, x108, x109, x110, x111, x112, x113, x114, x115, x116, x117, x118, x119, x120, x121, x122, x123, x124, x125, x126, x127, x128, x129, x130, x131, x132, x133, x134, x135, x136, x137, x138] h
theorem f15_e1_2_eq (O : Oracle) (L : Loops (Value × Heap)) (x0 x1 x2 x3 x4 x5 x6 x7 x8 x9 x10 x11 x12 x13 x14 x15 x16 x17 x18 x19 x20 x21 x22 x23 x24 x25 x26 x27 x28 x29 x30 x31 x32 x33 x34 x35 x36 x37 x38 x39 x40 x41 x42 x43 x44 x45 x46 x47 x48 x49 x50 x51 x52 x53 x54 x55 x56 x57 x58 x59 x60 x61 x62 x63 x64 x65 x66 x67 x68 x69 x70 x71 x72 x73 x74 x75 x76 x77 x78 x79 x80 x81 x82 x83 x84 x85 x86 x87 x88 x89 x90 x91 x92 x93 x94 x95 x96 x97 x98 x99 x100 x101 x102 x103 x104 x105 x106 x107 x108 x109 x110 x111 x112 x113 x114 x115 x116 x117 x118 x119 x120 x121 x122 x123 x124 x125 x126 x127 x128 x129 x130 x131 x132 x133 x134 x135 x136 x137 x138 : Value) (h : Heap) :
    f15_k1 O L (.exit 2) [x0, x1, x2, x3, x4, x5, x6, x7, x8, x9, x10, x11, x12, x13, x14, x15, x16, x17, x18, x19, x20, x21, x22, x23, x24, x25, x26, x27, x28, x29, x30, x31, x32, x33, x34, x35, x36, x37, x38, x39, x40, x41, x42, x43, x44, x45, x46, x47, x48, x49, x50, x51, x52, x53, x54, x55, x56, x57, x58, x59, x60, x61, x62, x63, x64, x65, x66, x67, x68, x69, x70, x71, x72, x73, x74, x75, x76, x77, x78, x79, x80, x81, x82, x83, x84, x85, x86, x87, x88, x89, x90, x91, x92, x93, x94, x95, x96, x97, x98, x99, x100, x101, x102, x103, x104, x105, x106, x107, x108, x109, x110, x111, x112, x113, x114, x115, x116, x117, x118, x119, x120, x121, x122, x123, x124, x125, x126, x127, x128, x129, x130, x131, x132, x133, x134, x135, x136, x137, x138] h = f15_e1_2 O L x0 x1 x2 x3 x4 x5 x6 x7 x8 x9 x10 x11 x12 x13 x14 x15 x16 x17 x18 x19 x20 x21 x22 x23 x24 x25 x26 x27 x28 x29 x30 x31 x32 x33 x34 x35 x36 x37 x38 x39 x40 x41 x42 x43 x44 x45 x46 x47 x48 x49 x50 x51 x52 x53 x54 x55 x56 x57 x58 x59 x60 x61 x62 x63 x64 x65 x66 x67 x68 x69 x70 x71 x72 x73 x74 x75 x76 x77 x78 x79 x80 x81 x82 x83 x84 x85 x86 x87 x88 x89 x90 x91 x92 x93 x94 x95 x96 x97 x98 x99 x100 x101 x102 x103 x104 x105 x106 x107 x108 x109 x110 x111 x112 x113 x114 x115 x116 x117 x118 x119 x120 x121 x122 x123 x124 x125 x126 x127 x128 x129 x130 x131 x132 x133 x134 x135 x136 x137 x138 h := by kernel_rfl
noncomputable def f15_b1 (O : Oracle) (L : Loops (Value × Heap)) (k : Ex → K (Value × Heap)) (x0 x1 x2 x3 x4 x5 x6 x7 x8 x9 x10 x11 x12 x13 x14 x15 x16 x17 x18 x19 x20 x21 x22 x23 x24 x25 x26 x27 x28 x29 x30 x31 x32 x33 x34 x35 x36 x37 x38 x39 x40 x41 x42 x43 x44 x45 x46 x47 x48 x49 x50 x51 x52 x53 x54 x55 x56 x57 x58 x59 x60 x61 x62 x63 x64 x65 x66 x67 x68 x69 x70 x71 x72 x73 x74 x75 x76 x77 x78 x79 x80 x81 x82 x83 x84 x85 x86 x87 x88 x89 x90 x91 x92 x93 x94 x95 x96 x97 x98 x99 x100 x101 x102 x103 x104 x105 x106 x107 x108 x109 x110 x111 x112 x113 x114 x115 x116 x117 x118 x119 x120 x121 x122 x123 x124 x125 x126 x127 x128 x129 x130 x131 x132 x133 x134 x135 x136 x137 x138 : Value) (h : Heap) : Option (Value × Heap) :=
  ob ((M.ofOpt (fAddr 0 x11)) h) fun v39 h39 =>
  ob ((ld1 v39) h39) fun v40 h40 =>
  ob ((M.ofOpt (bin Try.prog .lss 3 x14 v40)) h40) fun v41 h41 =>
  iteV v41 (
  L (runCode Try.prog O L f15_c2) (f15_k2 O L k) [x0, x1, x2, x3, x4, x5, x6, x7, x8, x9, x10, x11, x12, x13, x14, (.int .i64 0), x16, x17, x18, x19, x20, x21, x22, x23, x24, x25, x26, x27, x28, x29, x30, x31, x32, x33, x34, x35, x36, x37, x38, x39, x40, x41, x42, x43, x44, x45, x46, x47, x48, x49, x50, x51, x52, x53, x54, x55, x56, x57, x58, x59, x60, x61, x62, x63, x64, x65, x66, x67, x14, v39, v40, v41, x72, x73, x74, x75, x76, x77, x78, x79, x80, x81, x82, x83, x84, x85, x86, x87, x88, x89, x90, x91, x92, x93, x94, x95, x96, x97, x98, x99, x100, x101, x102, x103, x104, x105, x106, x107, x108, x109, x110, x111, x112, x113, x114, x115, x116, x117, x118, x119, x120, x121, x122, x123, x124, x125, x126, x127, x128, x129, x130, x131, x132, x133, x134, x135, x136, x137, x138] h41) (
  k (.exit 2) [x0, x1, x2, x3, x4, x5, x6, x7, x8, x9, x10, x11, x12, x13, x14, x15, x16, x17, x18, x19, x20, x21, x22, x23, x24, x25, x26, x27, x28, x29, x30, x31, x32, x33, x34, x35, x36, x37, x38, x39, x40, x41, x42, x43, x44, x45, x46, x47, x48, x49, x50, x51, x52, x53, x54, x55, x56, x57, x58, x59, x60, x61, x62, x63, x64, x65, x66, x67, x14, v39, v40, v41, x72, x73, x74, x75, x76, x77, x78, x79, x80, x81, x82, x83, x84, x85, x86, x87, x88, x89, x90, x91, x92, x93, x94, x95, x96, x97, x98, x99, x100, x101, x102, x103, x104, x105, x106, x107, x108, x109, x110, x111, x112, x113, x114, x115, x116, x117, x118, x119, x120, x121, x122, x123, x124, x125, x126, x127, x128, x129, x130, x131, x132, x133, x134, x135, x136, x137, x138] h41)
theorem f15_b1_eq (O : Oracle) (L : Loops (Value × Heap)) (k : Ex → K (Value × Heap)) (x0 x1 x2 x3 x4 x5 x6 x7 x8 x9 x10 x11 x12 x13 x14 x15 x16 x17 x18 x19 x20 x21 x22 x23 x24 x25 x26 x27 x28 x29 x30 x31 x32 x33 x34 x35 x36 x37 x38 x39 x40 x41 x42 x43 x44 x45 x46 x47 x48 x49 x50 x51 x52 x53 x54 x55 x56 x57 x58 x59 x60 x61 x62 x63 x64 x65 x66 x67 x68 x69 x70 x71 x72 x73 x74 x75 x76 x77 x78 x79 x80 x81 x82 x83 x84 x85 x86 x87 x88 x89 x90 x91 x92 x93 x94 x95 x96 x97 x98 x99 x100 x101 x102 x103 x104 x105 x106 x107 x108 x109 x110 x111 x112 x113 x114 x115 x116 x117 x118 x119 x120 x121 x122 x123 x124 x125 x126 x127 x128 x129 x130 x131 x132 x133 x134 x135 x136 x137 x138 : Value) (h : Heap) :
    runCode Try.prog O L f15_c1 k [x0, x1, x2, x3, x4, x5, x6, x7, x8, x9, x10, x11, x12, x13, x14, x15, x16, x17, x18, x19, x20, x21, x22, x23, x24, x25, x26, x27, x28, x29, x30, x31, x32, x33, x34, x35, x36, x37, x38, x39, x40, x41, x42, x43, x44, x45, x46, x47, x48, x49, x50, x51, x52, x53, x54, x55, x56, x57, x58, x59, x60, x61, x62, x63, x64, x65, x66, x67, x68, x69, x70, x71, x72, x73, x74, x75, x76, x77, x78, x79, x80, x81, x82, x83, x84, x85, x86, x87, x88, x89, x90, x91, x92, x93, x94, x95, x96, x97, x98, x99, x100, x101, x102, x103, x104, x105, x106, x107, x108, x109, x110, x111, x112, x113, x114, x115, x116, x117, x118, x119, x120, x121, x122, x123, x124, x125, x126, x127, x128, x129, x130, x131, x132, x133, x134, x135, x136, x137, x138] h = f15_b1 O L k x0 x1 x2 x3 x4 x5 x6 x7 x8 x9 x10 x11 x12 x13 x14 x15 x16 x17 x18 x19 x20 x21 x22 x23 x24 x25 x26 x27 x28 x29 x30 x31 x32 x33 x34 x35 x36 x37 x38 x39 x40 x41 x42 x43 x44 x45 x46 x47 x48 x49 x50 x51 x52 x53 x54 x55 x56 x57 x58 x59 x60 x61 x62 x63 x64 x65 x66 x67 x68 x69 x70 x71 x72 x73 x74 x75 x76 x77 x78 x79 x80 x81 x82 x83 x84 x85 x86 x87 x88 x89 x90 x91 x92 x93 x94 x95 x96 x97 x98 x99 x100 x101 x102 x103 x104 x105 x106 x107 x108 x109 x110 x111 x112 x113 x114 x115 x116 x117 x118 x119 x120 x121 x122 x123 x124 x125 x126 x127 x128 x129 x130 x131 x132 x133 x134 x135 x136 x137 x138 h := by kernel_rfl
noncomputable def f15_c0 : Code := sub [1, 1, 0, 1, 0, 0] (fbody Try.prog 15)
noncomputable def f15_k0 (O : Oracle) (L : Loops (Value × Heap)) : Ex → K (Value × Heap) := (blockK 0 (seqK Try.prog O L (sub [1, 1, 1] (fbody Try.prog 15)) (kRet Try.prog Try.f15)))
noncomputable def f15_e0_0 (O : Oracle) (L : Loops (Value × Heap)) (x0 x1 x2 x3 x4 x5 x6 x7 x8 x9 x10 x11 x12 x13 x14 x15 x16 x17 x18 x19 x20 x21 x22 x23 x24 x25 x26 x27 x28 x29 x30 x31 x32 x33 x34 x35 x36 x37 x38 x39 x40 x41 x42 x43 x44 x45 x46 x47 x48 x49 x50 x51 x52 x53 x54 x55 x56 x57 x58 x59 x60 x61 x62 x63 x64 x65 x66 x67 x68 x69 x70 x71 x72 x73 x74 x75 x76 x77 x78 x79 x80 x81 x82 x83 x84 x85 x86 x87 x88 x89 x90 x91 x92 x93 x94 x95 x96 x97 x98 x99 x100 x101 x102 x103 x104 x105 x106 x107 x108 x109 x110 x111 x112 x113 x114 x115 x116 x117 x118 x119 x120 x121 x122 x123 x124 x125 x126 x127 x128 x129 x130 x131 x132 x133 x134 x135 x136 x137 x138 : Value) (h : Heap) : Option (Value × Heap) :=
  L (runCode Try.prog O L f15_c1) (f15_k1 O L) [x0, x1, x2, x3, x4, x5, x6, x7, x8, x9, x10, x11, x12, x3, (.int .i64 1), x15, x16, x17, x18, x19, x20, x21, x22, x23, x24, x25, x26, x27, x28, x29, x30, x31, x32, x33, x34, x35, x36, x37, x38, x39, x40, x41, x42, x43, x44, x45, x46, x47, x48, x49, x50, x51, x52, x53, x54, x55, x56, x57, x58, x59, x60, x61, x62, x63, x64, x65, x66, x3, x68, x69, x70, x71, x72, x73, x74, x75, x76, x77, x78, x79, x80, x81, x82, x83, x84, x85, x86, x87, x88, x89, x90, x91, x92, x93, x94, x95, x96, x97, x98, x99, x100, x101, x102, x103, x104, x105, x106, x107, x108, x109, x110, x111, x112, x113, x114, x115, x116, x117, x118, x119, x120, x121, x122, x123, x124, x125, x126, x127, x128, x129, x130, x131, x132, x133, x134, x135, x136, x137, x138] h
theorem f15_e0_0_eq (O : Oracle) (L : Loops (Value × Heap)) (x0 x1 x2 x3 x4 x5 x6 x7 x8 x9 x10 x11 x12 x13 x14 x15 x16 x17 x18 x19 x20 x21 x22 x23 x24 x25 x26 x27 x28 x29 x30 x31 x32 x33 x34 x35 x36 x37 x38 x39 x40 x41 x42 x43 x44 x45 x46 x47 x48 x49 x50 x51 x52 x53 x54 x55 x56 x57 x58 x59 x60 x61 x62 x63 x64 x65 x66 x67 x68 x69 x70 x71 x72 x73 x74 x75 x76 x77 x78 x79 x80 x81 x82 x83 x84 x85 x86 x87 x88 x89 x90 x91 x92 x93 x94 x95 x96 x97 x98 x99 x100 x101 x102 x103 x104 x105 x106 x107 x108 x109 x110 x111 x112 x113 x114 x115 x116 x117 x118 x119 x120 x121 x122 x123 x124 x125 x126 x127 x128 x129 x130 x131 x132 x133 x134 x135 x136 x137 x138 : Value) (h : Heap) :
    f15_k0 O L (.exit 0) [x0, x1, x2, x3, x4, x5, x6, x7, x8, x9, x10, x11, x12, x13, x14, x15, x16, x17, x18, x19, x20, x21, x22, x23, x24, x25, x26, x27, x28, x29, x30, x31, x32, x33, x34, x35, x36, x37, x38, x39, x40, x41, x42, x43, x44, x45, x46, x47, x48, x49, x50, x51, x52, x53, x54, x55, x56, x57, x58, x59, x60, x61, x62, x63, x64, x65, x66, x67, x68, x69, x70, x71, x72, x73, x74, x75, x76, x77, x78, x79, x80, x81, x82, x83, x84, x85, x86, x87, x88, x89, x90, x91, x92, x93, x94, x95, x96, x97, x98, x99, x100, x101, x102, x103, x104, x105, x106, x107, x108, x109, x110, x111, x112, x113, x114, x115, x116, x117, x118, x119, x120, x121, x122, x123, x124, x125, x126, x127, x128, x129, x130, x131, x132, x133, x134, x135, x136, x137, x138] h = f15_e0_0 O L x0 x1 x2 x3 x4 x5 x6 x7 x8 x9 x10 x11 x12 x13 x14 x15 x16 x17 x18 x19 x20 x21 x22 x23 x24 x25 x26 x27 x28 x29 x30 x31 x32 x33 x34 x35 x36 x37 x38 x39 x40 x41 x42 x43 x44 x45 x46 x47 x48 x49 x50 x51 x52 x53 x54 x55 x56 x57 x58 x59 x60 x61 x62 x63 x64 x65 x66 x67 x68 x69 x70 x71 x72 x73 x74 x75 x76 x77 x78 x79 x80 x81 x82 x83 x84 x85 x86 x87 x88 x89 x90 x91 x92 x93 x94 x95 x96 x97 x98 x99 x100 x101 x102 x103 x104 x105 x106 x107 x108 x109 x110 x111 x112 x113 x114 x115 x116 x117 x118 x119 x120 x121 x122 x123 x124 x125 x126 x127 x128 x129 x130 x131 x132 x133 x134 x135 x136 x137 x138 h := by kernel_rfl
noncomputable def f15_b0 (O : Oracle) (L : Loops (Value × Heap)) (k : Ex → K (Value × Heap)) (x0 x1 x2 x3 x4 x5 x6 x7 x8 x9 x10 x11 x12 x13 x14 x15 x16 x17 x18 x19 x20 x21 x22 x23 x24 x25 x26 x27 x28 x29 x30 x31 x32 x33 x34 x35 x36 x37 x38 x39 x40 x41 x42 x43 x44 x45 x46 x47 x48 x49 x50 x51 x52 x53 x54 x55 x56 x57 x58 x59 x60 x61 x62 x63 x64 x65 x66 x67 x68 x69 x70 x71 x72 x73 x74 x75 x76 x77 x78 x79 x80 x81 x82 x83 x84 x85 x86 x87 x88 x89 x90 x91 x92 x93 x94 x95 x96 x97 x98 x99 x100 x101 x102 x103 x104 x105 x106 x107 x108 x109 x110 x111 x112 x113 x114 x115 x116 x117 x118 x119 x120 x121 x122 x123 x124 x125 x126 x127 x128 x129 x130 x131 x132 x133 x134 x135 x136 x137 x138 : Value) (h : Heap) : Option (Value × Heap) :=
  ob ((M.ofOpt (fAddr 2 x11)) h) fun v25 h25 =>
  ob ((ld1 v25) h25) fun v26 h26 =>
  ob ((M.ofOpt (bin Try.prog .lss 3 x12 v26)) h26) fun v27 h27 =>
  iteV v27 (
  ob ((M.ofOpt (fAddr 8 x11)) h27) fun v28 h28 =>
  ob ((ld1 v28) h28) fun v29 h29 =>
  ob ((conv Try.prog 5 3 x2) h29) fun v30 h30 =>
  ob ((M.ofOpt (bin Try.prog .add 3 x12 v30)) h30) fun v31 h31 =>
  ob ((M.ofOpt (bin Try.prog .rem 3 v31 (.int .i64 5))) h31) fun v32 h32 =>
  ob ((M.ofOpt (bin Try.prog .add 3 (.int .i64 1) v32)) h32) fun v33 h33 =>
  ob ((bldSlice 3 1 1 [(.int .i64 0)] [(0, v33)]) h33) fun v34 h34 =>
  ob ((app 3 1 8 v29 v34) h34) fun v35 h35 =>
  ob ((M.ofOpt (fAddr 8 x11)) h35) fun v36 h36 =>
  ob ((stN 1 v36 v35) h36) fun v37 h37 =>
  ob ((M.ofOpt (bin Try.prog .add 3 x12 (.int .i64 1))) h37) fun v38 h38 =>
  k .normal [x0, x1, x2, x3, x4, x5, x6, x7, x8, x9, x10, x11, v38, x13, x14, x15, x16, x17, x18, x19, x20, x21, x22, x23, x24, x25, x26, x27, x28, x29, x30, x31, x32, x33, x34, x35, x36, x37, x38, x39, x40, x41, x42, x43, x44, x45, x46, x47, x48, x49, x12, v25, v26, v27, x12, v38, v28, v29, x12, x2, v30, v31, v32, v33, v34, v35, v36, x67, x68, x69, x70, x71, x72, x73, x74, x75, x76, x77, x78, x79, x80, x81, x82, x83, x84, x85, x86, x87, x88, x89, x90, x91, x92, x93, x94, x95, x96, x97, x98, x99, x100, x101, x102, x103, x104, x105, x106, x107, x108, x109, x110, x111, x112, x113, x114, x115, x116, x117, x118, x119, x120, x121, x122, x123, x124, x125, x126, x127, x128, x129, x130, x131, x132, x133, x134, x135, x136, x137, x138] h38) (
  k (.exit 0) [x0, x1, x2, x3, x4, x5, x6, x7, x8, x9, x10, x11, x12, x13, x14, x15, x16, x17, x18, x19, x20, x21, x22, x23, x24, x25, x26, x27, x28, x29, x30, x31, x32, x33, x34, x35, x36, x37, x38, x39, x40, x41, x42, x43, x44, x45, x46, x47, x48, x49, x12, v25, v26, v27, x54, x55, x56, x57, x58, x59, x60, x61, x62, x63, x64, x65, x66, x67, x68, x69, x70, x71, x72, x73, x74, x75, x76, x77, x78, x79, x80, x81, x82, x83, x84, x85, x86, x87, x88, x89, x90, x91, x92, x93, x94, x95, x96, x97, x98, x99, x100, x101, x102, x103, x104, x105, x106, x107, x108, x109, x110, x111, x112, x113, x114, x115, x116, x117, x118, x119, x120, x121, x122, x123, x124, x125, x126, x127, x128, x129, x130, x131, x132, x133, x134, x135, x136, x137, x138] h27)
theorem f15_b0_eq (O : Oracle) (L : Loops (Value × Heap)) (k : Ex → K (Value × Heap)) (x0 x1 x2 x3 x4 x5 x6 x7 x8 x9 x10 x11 x12 x13 x14 x15 x16 x17 x18 x19 x20 x21 x22 x23 x24 x25 x26 x27 x28 x29 x30 x31 x32 x33 x34 x35 x36 x37 x38 x39 x40 x41 x42 x43 x44 x45 x46 x47 x48 x49 x50 x51 x52 x53 x54 x55 x56 x57 x58 x59 x60 x61 x62 x63 x64 x65 x66 x67 x68 x69 x70 x71 x72 x73 x74 x75 x76 x77 x78 x79 x80 x81 x82 x83 x84 x85 x86 x87 x88 x89 x90 x91 x92 x93 x94 x95 x96 x97 x98 x99 x100 x101 x102 x103 x104 x105 x106 x107 x108 x109 x110 x111 x112 x113 x114 x115 x116 x117 x118 x119 x120 x121 x122 x123 x124 x125 x126 x127 x128 x129 x130 x131 x132 x133 x134 x135 x136 x137 x138 : Value) (h : Heap) :
    runCode Try.prog O L f15_c0 k [x0, x1, x2, x3, x4, x5, x6, x7, x8, x9, x10, x11, x12, x13, x14, x15, x16, x17, x18, x19, x20, x21, x22, x23, x24, x25, x26, x27, x28, x29, x30, x31, x32, x33, x34, x35, x36, x37, x38, x39, x40, x41, x42, x43, x44, x45, x46, x47, x48, x49, x50, x51, x52, x53, x54, x55, x56, x57, x58, x59, x60, x61, x62, x63, x64, x65, x66, x67, x68, x69, x70, x71, x72, x73, x74, x75, x76, x77, x78, x79, x80, x81, x82, x83, x84, x85, x86, x87, x88, x89, x90, x91, x92, x93, x94, x95, x96, x97, x98, x99, x100, x101, x102, x103, x104, x105, x106, x107, x108, x109, x110, x111, x112, x113, x114, x115, x116, x117, x118, x119, x120, x121, x122, x123, x124, x125, x126, x127, x128, x129, x130, x131, x132, x133, x134, x135, x136, x137, x138] h = f15_b0 O L k x0 x1 x2 x3 x4 x5 x6 x7 x8 x9 x10 x11 x12 x13 x14 x15 x16 x17 x18 x19 x20 x21 x22 x23 x24 x25 x26 x27 x28 x29 x30 x31 x32 x33 x34 x35 x36 x37 x38 x39 x40 x41 x42 x43 x44 x45 x46 x47 x48 x49 x50 x51 x52 x53 x54 x55 x56 x57 x58 x59 x60 x61 x62 x63 x64 x65 x66 x67 x68 x69 x70 x71 x72 x73 x74 x75 x76 x77 x78 x79 x80 x81 x82 x83 x84 x85 x86 x87 x88 x89 x90 x91 x92 x93 x94 x95 x96 x97 x98 x99 x100 x101 x102 x103 x104 x105 x106 x107 x108 x109 x110 x111 x112 x113 x114 x115 x116 x117 x118 x119 x120 x121 x122 x123 x124 x125 x126 x127 x128 x129 x130 x131 x132 x133 x134 x135 x136 x137 x138 h := by kernel_rfl
noncomputable def f15 (O : Oracle) (L : Loops (Value × Heap)) (a0 a1 a2 a3 a4 : Value) (h : Heap) : Option (Value × Heap) :=
  ob ((newB 27 [(.int .i64 0), (.slice none 0 0), (.int .i64 0), (.int .i64 0), (.int .i64 0), (.int .i64 0), (.int .i64 0), (.int .i64 0), (.slice none 0 0), (.int .u16 0), (.slice none 0 0)] .fix) h) fun v0 h0 =>
  ob ((M.ofOpt (bin Try.prog .rem 5 a0 (.int .u8 5))) h0) fun v1 h1 =>
  ob ((conv Try.prog 5 3 v1) h1) fun v2 h2 =>
  ob ((M.ofOpt (bin Try.prog .add 3 (.int .i64 2) v2)) h2) fun v3 h3 =>
  ob ((M.ofOpt (bin Try.prog .rem 5 a2 (.int .u8 3))) h3) fun v4 h4 =>
  ob ((conv Try.prog 5 3 v4) h4) fun v5 h5 =>
  ob ((M.ofOpt (bin Try.prog .add 3 (.int .i64 1) v5)) h5) fun v6 h6 =>
  ob ((M.ofOpt (bin Try.prog .rem 5 a1 (.int .u8 8))) h6) fun v7 h7 =>
  ob ((conv Try.prog 5 3 v7) h7) fun v8 h8 =>
  ob ((M.ofOpt (bin Try.prog .add 3 (.int .i64 1) v8)) h8) fun v9 h9 =>
  ob ((M.ofOpt (bin Try.prog .quo 5 a1 (.int .u8 8))) h9) fun v10 h10 =>
  ob ((M.ofOpt (bin Try.prog .rem 5 v10 (.int .u8 8))) h10) fun v11 h11 =>
  ob ((conv Try.prog 5 3 v11) h11) fun v12 h12 =>
  ob ((M.ofOpt (bin Try.prog .add 3 (.int .i64 1) v12)) h12) fun v13 h13 =>
  ob ((M.ofOpt (bin Try.prog .quo 5 a2 (.int .u8 3))) h13) fun v14 h14 =>
  ob ((M.ofOpt (bin Try.prog .rem 5 v14 (.int .u8 4))) h14) fun v15 h15 =>
  ob ((conv Try.prog 5 3 v15) h15) fun v16 h16 =>
  ob ((M.ofOpt (bin Try.prog .add 3 (.int .i64 1) v16)) h16) fun v17 h17 =>
  ob ((M.ofOpt (bin Try.prog .quo 5 a2 (.int .u8 12))) h17) fun v18 h18 =>
  ob ((M.ofOpt (bin Try.prog .rem 5 v18 (.int .u8 8))) h18) fun v19 h19 =>
  ob ((conv Try.prog 5 3 v19) h19) fun v20 h20 =>
  ob ((M.ofOpt (bin Try.prog .add 3 (.int .i64 1) v20)) h20) fun v21 h21 =>
  ob ((M.ofOpt (bld Try.prog 27 [(0, v3), (2, v6), (3, v9), (4, v13), (5, v17), (6, v21), (7, (.int .i64 64)), (9, a3)])) h21) fun v22 h22 =>
  ob ((newB 27 [(.int .i64 0), (.slice none 0 0), (.int .i64 0), (.int .i64 0), (.int .i64 0), (.int .i64 0), (.int .i64 0), (.int .i64 0), (.slice none 0 0), (.int .u16 0), (.slice none 0 0)] .fix) h22) fun v23 h23 =>
  ob ((stN 11 v23 v22) h23) fun v24 h24 =>
  L (runCode Try.prog O L f15_c0) (f15_k0 O L) [a0, a1, a2, a3, a4, undef, undef, undef, undef, undef, v0, v23, (.int .i64 0), undef, undef, undef, undef, undef, undef, undef, undef, a0, v1, v2, v3, a2, v4, v5, v6, a1, v7, v8, v9, a1, v10, v11, v12, v13, a2, v14, v15, v16, v17, a2, v18, v19, v20, v21, a3, v22, undef, undef, undef, undef, undef, undef, undef, undef, undef, undef, undef, undef, undef, undef, undef, undef, undef, undef, undef, undef, undef, undef, undef, undef, undef, undef, undef, undef, undef, undef, undef, undef, undef, undef, undef, undef, undef, undef, undef, undef, undef, undef, undef, undef, undef, undef, undef, undef, undef, undef, undef, undef, undef, undef, undef, undef, undef, undef, undef, undef, undef, undef, undef, undef, undef, undef, undef, undef, undef, undef, undef, undef, undef, undef, undef, undef, undef, undef, undef, undef, undef, undef, undef, undef, undef, undef, undef, undef, undef] h24
theorem f15_eq (O : Oracle) (L : Loops (Value × Heap)) (a0 a1 a2 a3 a4 : Value) (h : Heap) :
    body Try.prog O L 15 [a0, a1, a2, a3, a4] h = f15 O L a0 a1 a2 a3 a4 h := by kernel_rfl
noncomputable def f17 (O : Oracle) (L : Loops (Value × Heap)) (a0 : Value) (h : Heap) : Option (Value × Heap) :=
  ob ((newB 27 (Value.cells a0).toList .fix) h) fun v0 h0 =>
  ob ((ldN 11 v0) h0) fun v1 h1 =>
  ob ((O (.func 33) [v1]) h1) fun v2 h2 =>
  ob ((M.ofOpt (un Try.prog .not v2)) h2) fun v3 h3 =>
  iteV v3 (
  iteV v3 (
  some (oneOf [(.int .u16 120)], h3)) (
  ob ((M.ofOpt (fAddr 8 v0)) h3) fun v4 h4 =>
  ob ((ld1 v4) h4) fun v5 h5 =>
  ob ((M.ofOpt (lenSl v5)) h5) fun v6 h6 =>
  ob ((M.ofOpt (fAddr 2 v0)) h6) fun v7 h7 =>
  ob ((ld1 v7) h7) fun v8 h8 =>
  ob ((M.ofOpt (bin Try.prog .neq 3 v6 v8)) h8) fun v9 h9 =>
  iteV v9 (
  iteV v9 (
  some (oneOf [(.int .u16 120)], h9)) (
  ob ((M.ofOpt (fAddr 10 v0)) h9) fun v10 h10 =>
  ob ((ld1 v10) h10) fun v11 h11 =>
  ob ((M.ofOpt (lenSl v11)) h11) fun v12 h12 =>
  ob ((M.ofOpt (fAddr 0 v0)) h12) fun v13 h13 =>
  ob ((ld1 v13) h13) fun v14 h14 =>
  ob ((M.ofOpt (bin Try.prog .neq 3 v12 v14)) h14) fun v15 h15 =>
  iteV v15 (
  iteV v15 (
  some (oneOf [(.int .u16 120)], h15)) (
  some (oneOf [(.int .u16 0)], h15))) (
  ob ((M.ofOpt (fAddr 10 v0)) h15) fun v16 h16 =>
  ob ((ld1 v16) h16) fun v17 h17 =>
  ob ((O (.func 36) [v17, (.func (.func 32) #[] #[v0])]) h17) fun v18 h18 =>
  iteV v18 (
  some (oneOf [(.int .u16 120)], h18)) (
  some (oneOf [(.int .u16 0)], h18))))) (
  ob ((M.ofOpt (fAddr 8 v0)) h9) fun v19 h19 =>
  ob ((ld1 v19) h19) fun v20 h20 =>
  ob ((O (.func 35) [v20]) h20) fun v21 h21 =>
  ob ((M.ofOpt (bin Try.prog .eql 60 v21 (.pointer none))) h21) fun v22 h22 =>
  iteV v22 (
  some (oneOf [(.int .u16 120)], h22)) (
  ob ((M.ofOpt (fAddr 10 v0)) h22) fun v23 h23 =>
  ob ((ld1 v23) h23) fun v24 h24 =>
  ob ((M.ofOpt (lenSl v24)) h24) fun v25 h25 =>
  ob ((M.ofOpt (fAddr 0 v0)) h25) fun v26 h26 =>
  ob ((ld1 v26) h26) fun v27 h27 =>
  ob ((M.ofOpt (bin Try.prog .neq 3 v25 v27)) h27) fun v28 h28 =>
  iteV v28 (
  iteV v28 (
  some (oneOf [(.int .u16 120)], h28)) (
  some (oneOf [(.int .u16 0)], h28))) (
  ob ((M.ofOpt (fAddr 10 v0)) h28) fun v29 h29 =>
  ob ((ld1 v29) h29) fun v30 h30 =>
  ob ((O (.func 36) [v30, (.func (.func 32) #[] #[v0])]) h30) fun v31 h31 =>
  iteV v31 (
  some (oneOf [(.int .u16 120)], h31)) (
  some (oneOf [(.int .u16 0)], h31))))))) (
  ob ((ldN 11 v0) h3) fun v32 h32 =>
  ob ((O (.func 34) [v32]) h32) fun v33 h33 =>
  ob ((M.ofOpt (un Try.prog .not v33)) h33) fun v34 h34 =>
  iteV v34 (
  some (oneOf [(.int .u16 120)], h34)) (
  ob ((M.ofOpt (fAddr 8 v0)) h34) fun v35 h35 =>
  ob ((ld1 v35) h35) fun v36 h36 =>
  ob ((M.ofOpt (lenSl v36)) h36) fun v37 h37 =>
  ob ((M.ofOpt (fAddr 2 v0)) h37) fun v38 h38 =>
  ob ((ld1 v38) h38) fun v39 h39 =>
  ob ((M.ofOpt (bin Try.prog .neq 3 v37 v39)) h39) fun v40 h40 =>
  iteV v40 (
  iteV v40 (
  some (oneOf [(.int .u16 120)], h40)) (
  ob ((M.ofOpt (fAddr 10 v0)) h40) fun v41 h41 =>
  ob ((ld1 v41) h41) fun v42 h42 =>
  ob ((M.ofOpt (lenSl v42)) h42) fun v43 h43 =>
  ob ((M.ofOpt (fAddr 0 v0)) h43) fun v44 h44 =>
  ob ((ld1 v44) h44) fun v45 h45 =>
  ob ((M.ofOpt (bin Try.prog .neq 3 v43 v45)) h45) fun v46 h46 =>
  iteV v46 (
  iteV v46 (
  some (oneOf [(.int .u16 120)], h46)) (
  some (oneOf [(.int .u16 0)], h46))) (
  ob ((M.ofOpt (fAddr 10 v0)) h46) fun v47 h47 =>
  ob ((ld1 v47) h47) fun v48 h48 =>
  ob ((O (.func 36) [v48, (.func (.func 32) #[] #[v0])]) h48) fun v49 h49 =>
  iteV v49 (
  some (oneOf [(.int .u16 120)], h49)) (
  some (oneOf [(.int .u16 0)], h49))))) (
  ob ((M.ofOpt (fAddr 8 v0)) h40) fun v50 h50 =>
  ob ((ld1 v50) h50) fun v51 h51 =>
  ob ((O (.func 35) [v51]) h51) fun v52 h52 =>
  ob ((M.ofOpt (bin Try.prog .eql 60 v52 (.pointer none))) h52) fun v53 h53 =>
  iteV v53 (
  some (oneOf [(.int .u16 120)], h53)) (
  ob ((M.ofOpt (fAddr 10 v0)) h53) fun v54 h54 =>
  ob ((ld1 v54) h54) fun v55 h55 =>
  ob ((M.ofOpt (lenSl v55)) h55) fun v56 h56 =>
  ob ((M.ofOpt (fAddr 0 v0)) h56) fun v57 h57 =>
  ob ((ld1 v57) h57) fun v58 h58 =>
  ob ((M.ofOpt (bin Try.prog .neq 3 v56 v58)) h58) fun v59 h59 =>
  iteV v59 (
  iteV v59 (
  some (oneOf [(.int .u16 120)], h59)) (
  some (oneOf [(.int .u16 0)], h59))) (
  ob ((M.ofOpt (fAddr 10 v0)) h59) fun v60 h60 =>
  ob ((ld1 v60) h60) fun v61 h61 =>
  ob ((O (.func 36) [v61, (.func (.func 32) #[] #[v0])]) h61) fun v62 h62 =>
  iteV v62 (
  some (oneOf [(.int .u16 120)], h62)) (
  some (oneOf [(.int .u16 0)], h62)))))))
theorem f17_eq (O : Oracle) (L : Loops (Value × Heap)) (a0 : Value) (h : Heap) :
    body Try.prog O L 17 [a0] h = f17 O L a0 h := by kernel_rfl
noncomputable def f18_c1 : Code := sub [1, 1, 0, 1, 0, 0, 1, 1, 0, 0, 1, 1, 0, 0] (fbody Try.prog 18)
noncomputable def f18_k1 (O : Oracle) (L : Loops (Value × Heap)) (k : Ex → K (Value × Heap)) : Ex → K (Value × Heap) := (blockK 2 (blockK 1 (seqK Try.prog O L (sub [1, 1, 0, 1, 0, 0, 1, 1, 1] (fbody Try.prog 18)) k)))
noncomputable def f18_e1_2 (O : Oracle) (L : Loops (Value × Heap)) (k : Ex → K (Value × Heap)) (x0 x1 x2 x3 x4 x5 x6 x7 x8 x9 x10 x11 x12 x13 x14 x15 x16 x17 x18 x19 x20 x21 x22 x23 x24 x25 x26 x27 x28 x29 x30 x31 x32 : Value) (h : Heap) : Option (Value × Heap) :=
  ob ((M.ofOpt (bin Try.prog .add 3 x11 (.int .i64 1))) h) fun v18 h18 =>
  k .normal [x0, x1, x2, x3, x4, x5, x6, x7, x8, x9, x10, v18, x12, x13, x14, x15, x16, x17, x18, x19, x20, x21, x22, x23, x24, x25, x26, x27, x28, x29, x30, v18, x32] h18
theorem f18_e1_2_eq (O : Oracle) (L : Loops (Value × Heap)) (k : Ex → K (Value × Heap)) (x0 x1 x2 x3 x4 x5 x6 x7 x8 x9 x10 x11 x12 x13 x14 x15 x16 x17 x18 x19 x20 x21 x22 x23 x24 x25 x26 x27 x28 x29 x30 x31 x32 : Value) (h : Heap) :
    f18_k1 O L k (.exit 2) [x0, x1, x2, x3, x4, x5, x6, x7, x8, x9, x10, x11, x12, x13, x14, x15, x16, x17, x18, x19, x20, x21, x22, x23, x24, x25, x26, x27, x28, x29, x30, x31, x32] h = f18_e1_2 O L k x0 x1 x2 x3 x4 x5 x6 x7 x8 x9 x10 x11 x12 x13 x14 x15 x16 x17 x18 x19 x20 x21 x22 x23 x24 x25 x26 x27 x28 x29 x30 x31 x32 h := by kernel_rfl
noncomputable def f18_b1 (O : Oracle) (L : Loops (Value × Heap)) (k : Ex → K (Value × Heap)) (x0 x1 x2 x3 x4 x5 x6 x7 x8 x9 x10 x11 x12 x13 x14 x15 x16 x17 x18 x19 x20 x21 x22 x23 x24 x25 x26 x27 x28 x29 x30 x31 x32 : Value) (h : Heap) : Option (Value × Heap) :=
  ob ((M.ofOpt (bin Try.prog .lss 3 x18 x17)) h) fun v9 h9 =>
  iteV v9 (
  ob ((M.ofOpt (iAddr 1 x16 x18)) h9) fun v10 h10 =>
  ob ((ld1 v10) h10) fun v11 h11 =>
  ob ((O (.func 37) [v11, (.int .i64 0), (.int .i64 5)]) h11) fun v12 h12 =>
  iteV v12 (
  ob ((M.ofOpt (bld Try.prog 38 [(0, x4), (1, v11)])) h12) fun v13 h13 =>
  ob ((bldSlice 38 2 1 [(.int .i64 0), (.int .i64 0)] [(0, v13)]) h13) fun v14 h14 =>
  ob ((app 38 2 16 x3 v14) h14) fun v15 h15 =>
  ob ((M.ofOpt (bin Try.prog .add 3 x18 (.int .i64 1))) h15) fun v16 h16 =>
  k .normal [x0, x1, x2, v15, x4, x5, v11, x7, x8, x9, x10, x11, x12, x13, x14, x15, x16, x17, v16, v9, v10, v11, v11, v12, x3, x4, v11, v13, v14, v15, v16, x31, x32] h16) (
  ob ((M.ofOpt (bin Try.prog .add 3 x18 (.int .i64 1))) h12) fun v17 h17 =>
  k .normal [x0, x1, x2, x3, x4, x5, v11, x7, x8, x9, x10, x11, x12, x13, x14, x15, x16, x17, v17, v9, v10, v11, v11, v12, x24, x25, x26, x27, x28, x29, v17, x31, x32] h17)) (
  k (.exit 2) [x0, x1, x2, x3, x4, x5, x6, x7, x8, x9, x10, x11, x12, x13, x14, x15, x16, x17, x18, v9, x20, x21, x22, x23, x24, x25, x26, x27, x28, x29, x30, x31, x32] h9)
theorem f18_b1_eq (O : Oracle) (L : Loops (Value × Heap)) (k : Ex → K (Value × Heap)) (x0 x1 x2 x3 x4 x5 x6 x7 x8 x9 x10 x11 x12 x13 x14 x15 x16 x17 x18 x19 x20 x21 x22 x23 x24 x25 x26 x27 x28 x29 x30 x31 x32 : Value) (h : Heap) :
    runCode Try.prog O L f18_c1 k [x0, x1, x2, x3, x4, x5, x6, x7, x8, x9, x10, x11, x12, x13, x14, x15, x16, x17, x18, x19, x20, x21, x22, x23, x24, x25, x26, x27, x28, x29, x30, x31, x32] h = f18_b1 O L k x0 x1 x2 x3 x4 x5 x6 x7 x8 x9 x10 x11 x12 x13 x14 x15 x16 x17 x18 x19 x20 x21 x22 x23 x24 x25 x26 x27 x28 x29 x30 x31 x32 h := by kernel_rfl
noncomputable def f18_c0 : Code := sub [1, 1, 0, 1, 0, 0] (fbody Try.prog 18)
noncomputable def f18_k0 (O : Oracle) (L : Loops (Value × Heap)) : Ex → K (Value × Heap) := (blockK 0 (seqK Try.prog O L (sub [1, 1, 1] (fbody Try.prog 18)) (kRet Try.prog Try.f18)))
noncomputable def f18_e0_0 (O : Oracle) (L : Loops (Value × Heap)) (x0 x1 x2 x3 x4 x5 x6 x7 x8 x9 x10 x11 x12 x13 x14 x15 x16 x17 x18 x19 x20 x21 x22 x23 x24 x25 x26 x27 x28 x29 x30 x31 x32 : Value) (h : Heap) : Option (Value × Heap) :=
  some (oneOf [x3], h)
theorem f18_e0_0_eq (O : Oracle) (L : Loops (Value × Heap)) (x0 x1 x2 x3 x4 x5 x6 x7 x8 x9 x10 x11 x12 x13 x14 x15 x16 x17 x18 x19 x20 x21 x22 x23 x24 x25 x26 x27 x28 x29 x30 x31 x32 : Value) (h : Heap) :
    f18_k0 O L (.exit 0) [x0, x1, x2, x3, x4, x5, x6, x7, x8, x9, x10, x11, x12, x13, x14, x15, x16, x17, x18, x19, x20, x21, x22, x23, x24, x25, x26, x27, x28, x29, x30, x31, x32] h = f18_e0_0 O L x0 x1 x2 x3 x4 x5 x6 x7 x8 x9 x10 x11 x12 x13 x14 x15 x16 x17 x18 x19 x20 x21 x22 x23 x24 x25 x26 x27 x28 x29 x30 x31 x32 h := by kernel_rfl
noncomputable def f18_b0 (O : Oracle) (L : Loops (Value × Heap)) (k : Ex → K (Value × Heap)) (x0 x1 x2 x3 x4 x5 x6 x7 x8 x9 x10 x11 x12 x13 x14 x15 x16 x17 x18 x19 x20 x21 x22 x23 x24 x25 x26 x27 x28 x29 x30 x31 x32 : Value) (h : Heap) : Option (Value × Heap) :=
  ob ((M.ofOpt (bin Try.prog .lss 3 x11 x10)) h) fun v5 h5 =>
  iteV v5 (
  ob ((ldN 11 x1) h5) fun v6 h6 =>
  ob ((O (.func 22) [v6, x11]) h6) fun v7 h7 =>
  ob ((M.ofOpt (lenSl v7)) h7) fun v8 h8 =>
  L (runCode Try.prog O L f18_c1) (f18_k1 O L k) [x0, x1, x2, x3, x11, x5, x6, x7, x8, x9, x10, x11, v5, x11, v6, x11, v7, v8, (.int .i64 0), x19, x20, x21, x22, x23, x24, x25, x26, x27, x28, x29, x30, x31, x32] h8) (
  k (.exit 0) [x0, x1, x2, x3, x4, x5, x6, x7, x8, x9, x10, x11, v5, x13, x14, x15, x16, x17, x18, x19, x20, x21, x22, x23, x24, x25, x26, x27, x28, x29, x30, x31, x32] h5)
theorem f18_b0_eq (O : Oracle) (L : Loops (Value × Heap)) (k : Ex → K (Value × Heap)) (x0 x1 x2 x3 x4 x5 x6 x7 x8 x9 x10 x11 x12 x13 x14 x15 x16 x17 x18 x19 x20 x21 x22 x23 x24 x25 x26 x27 x28 x29 x30 x31 x32 : Value) (h : Heap) :
    runCode Try.prog O L f18_c0 k [x0, x1, x2, x3, x4, x5, x6, x7, x8, x9, x10, x11, x12, x13, x14, x15, x16, x17, x18, x19, x20, x21, x22, x23, x24, x25, x26, x27, x28, x29, x30, x31, x32] h = f18_b0 O L k x0 x1 x2 x3 x4 x5 x6 x7 x8 x9 x10 x11 x12 x13 x14 x15 x16 x17 x18 x19 x20 x21 x22 x23 x24 x25 x26 x27 x28 x29 x30 x31 x32 h := by kernel_rfl
noncomputable def f18 (O : Oracle) (L : Loops (Value × Heap)) (a0 : Value) (h : Heap) : Option (Value × Heap) :=
  ob ((newB 27 (Value.cells a0).toList .fix) h) fun v0 h0 =>
  ob ((M.ofOpt (fAddr 0 v0)) h0) fun v1 h1 =>
  ob ((ld1 v1) h1) fun v2 h2 =>
  ob ((M.ofOpt (minmax Try.prog true [v2, (.int .i64 0)])) h2) fun v3 h3 =>
  ob ((M.ofOpt (minmax Try.prog false [v3, (.int .i64 6)])) h3) fun v4 h4 =>
  L (runCode Try.prog O L f18_c0) (f18_k0 O L) [a0, v0, (.slice none 0 0), (.slice none 0 0), undef, undef, undef, v1, v2, v3, v4, (.int .i64 0), undef, undef, undef, undef, undef, undef, undef, undef, undef, undef, undef, undef, undef, undef, undef, undef, undef, undef, undef, undef, undef] h4
theorem f18_eq (O : Oracle) (L : Loops (Value × Heap)) (a0 : Value) (h : Heap) :
    body Try.prog O L 18 [a0] h = f18 O L a0 h := by kernel_rfl
noncomputable def f22_c0 : Code := sub [1, 1, 0, 1, 0, 0] (fbody Try.prog 22)
noncomputable def f22_k0 (O : Oracle) (L : Loops (Value × Heap)) : Ex → K (Value × Heap) := (blockK 0 (seqK Try.prog O L (sub [1, 1, 1] (fbody Try.prog 22)) (kRet Try.prog Try.f22)))
noncomputable def f22_e0_0 (O : Oracle) (L : Loops (Value × Heap)) (x0 x1 x2 x3 x4 x5 x6 x7 x8 x9 x10 x11 x12 x13 x14 x15 x16 x17 x18 x19 x20 x21 x22 x23 x24 x25 x26 x27 x28 x29 x30 x31 x32 x33 x34 x35 x36 x37 x38 x39 x40 x41 x42 x43 x44 x45 : Value) (h : Heap) : Option (Value × Heap) :=
  ob ((O (.func 44) [x5]) h) fun v32 h32 =>
  ob ((O (.func 45) [x5]) h32) fun v33 h33 =>
  some (oneOf [v33], h33)
theorem f22_e0_0_eq (O : Oracle) (L : Loops (Value × Heap)) (x0 x1 x2 x3 x4 x5 x6 x7 x8 x9 x10 x11 x12 x13 x14 x15 x16 x17 x18 x19 x20 x21 x22 x23 x24 x25 x26 x27 x28 x29 x30 x31 x32 x33 x34 x35 x36 x37 x38 x39 x40 x41 x42 x43 x44 x45 : Value) (h : Heap) :
    f22_k0 O L (.exit 0) [x0, x1, x2, x3, x4, x5, x6, x7, x8, x9, x10, x11, x12, x13, x14, x15, x16, x17, x18, x19, x20, x21, x22, x23, x24, x25, x26, x27, x28, x29, x30, x31, x32, x33, x34, x35, x36, x37, x38, x39, x40, x41, x42, x43, x44, x45] h = f22_e0_0 O L x0 x1 x2 x3 x4 x5 x6 x7 x8 x9 x10 x11 x12 x13 x14 x15 x16 x17 x18 x19 x20 x21 x22 x23 x24 x25 x26 x27 x28 x29 x30 x31 x32 x33 x34 x35 x36 x37 x38 x39 x40 x41 x42 x43 x44 x45 h := by kernel_rfl
noncomputable def f22_b0 (O : Oracle) (L : Loops (Value × Heap)) (k : Ex → K (Value × Heap)) (x0 x1 x2 x3 x4 x5 x6 x7 x8 x9 x10 x11 x12 x13 x14 x15 x16 x17 x18 x19 x20 x21 x22 x23 x24 x25 x26 x27 x28 x29 x30 x31 x32 x33 x34 x35 x36 x37 x38 x39 x40 x41 x42 x43 x44 x45 : Value) (h : Heap) : Option (Value × Heap) :=
  ob ((M.ofOpt (bin Try.prog .lss 3 x11 x10)) h) fun v4 h4 =>
  iteV v4 (
  ob ((M.ofOpt (iAddr 2 x9 x11)) h4) fun v5 h5 =>
  ob ((ldN 2 v5) h5) fun v6 h6 =>
  ob ((newB 33 [(.int .i64 0), (.int .i64 0)] .fix) h6) fun v7 h7 =>
  ob ((stN 2 v7 v6) h7) fun v8 h8 =>
  ob ((M.ofOpt (fAddr 0 v7)) h8) fun v9 h9 =>
  ob ((ld1 v9) h9) fun v10 h10 =>
  ob ((M.ofOpt (fAddr 1 v7)) h10) fun v11 h11 =>
  ob ((ld1 v11) h11) fun v12 h12 =>
  ob ((M.ofOpt (bin Try.prog .eql 3 v10 v12)) h12) fun v13 h13 =>
  iteV v13 (
  ob ((M.ofOpt (bin Try.prog .add 3 x11 (.int .i64 1))) h13) fun v14 h14 =>
  k .normal [x0, x1, x2, x3, x4, x5, x6, v7, x8, x9, x10, v14, v4, v5, v6, v13, v9, v10, v11, v12, v13, x21, x22, x23, x24, x25, x26, x27, x28, x29, x30, x31, x32, x33, x34, x35, x36, x37, x38, x39, x40, v14, x42, x43, x44, x45] h14) (
  ob ((M.ofOpt (fAddr 0 v7)) h13) fun v15 h15 =>
  ob ((ld1 v15) h15) fun v16 h16 =>
  ob ((M.ofOpt (bin Try.prog .eql 3 v16 x1)) h16) fun v17 h17 =>
  iteV v17 (
  ob ((M.ofOpt (fAddr 1 v7)) h17) fun v18 h18 =>
  ob ((ld1 v18) h18) fun v19 h19 =>
  ob ((bldSlice 3 1 1 [(.int .i64 0)] [(0, v19)]) h19) fun v20 h20 =>
  ob ((app 3 1 8 x5 v20) h20) fun v21 h21 =>
  ob ((M.ofOpt (bin Try.prog .add 3 x11 (.int .i64 1))) h21) fun v22 h22 =>
  k .normal [x0, x1, x2, x3, x4, v21, x6, v7, x8, x9, x10, v22, v4, v5, v6, v13, v9, v10, v11, v12, v13, v17, v15, v16, x1, v17, x5, v18, v19, v20, v21, x31, x32, x33, x34, x35, x36, x37, x38, x39, x40, v22, x42, x43, x44, x45] h22) (
  ob ((M.ofOpt (fAddr 1 v7)) h17) fun v23 h23 =>
  ob ((ld1 v23) h23) fun v24 h24 =>
  ob ((M.ofOpt (bin Try.prog .eql 3 v24 x1)) h24) fun v25 h25 =>
  iteV v25 (
  ob ((M.ofOpt (fAddr 0 v7)) h25) fun v26 h26 =>
  ob ((ld1 v26) h26) fun v27 h27 =>
  ob ((bldSlice 3 1 1 [(.int .i64 0)] [(0, v27)]) h27) fun v28 h28 =>
  ob ((app 3 1 8 x5 v28) h28) fun v29 h29 =>
  ob ((M.ofOpt (bin Try.prog .add 3 x11 (.int .i64 1))) h29) fun v30 h30 =>
  k .normal [x0, x1, x2, x3, x4, v29, x6, v7, x8, x9, x10, v30, v4, v5, v6, v13, v9, v10, v11, v12, v13, v17, v15, v16, x1, v17, x26, x27, x28, x29, x30, v25, v23, v24, x1, v25, x5, v26, v27, v28, v29, v30, x42, x43, x44, x45] h30) (
  ob ((M.ofOpt (bin Try.prog .add 3 x11 (.int .i64 1))) h25) fun v31 h31 =>
  k .normal [x0, x1, x2, x3, x4, x5, x6, v7, x8, x9, x10, v31, v4, v5, v6, v13, v9, v10, v11, v12, v13, v17, v15, v16, x1, v17, x26, x27, x28, x29, x30, v25, v23, v24, x1, v25, x36, x37, x38, x39, x40, v31, x42, x43, x44, x45] h31)))) (
  k (.exit 0) [x0, x1, x2, x3, x4, x5, x6, x7, x8, x9, x10, x11, v4, x13, x14, x15, x16, x17, x18, x19, x20, x21, x22, x23, x24, x25, x26, x27, x28, x29, x30, x31, x32, x33, x34, x35, x36, x37, x38, x39, x40, x41, x42, x43, x44, x45] h4)
theorem f22_b0_eq (O : Oracle) (L : Loops (Value × Heap)) (k : Ex → K (Value × Heap)) (x0 x1 x2 x3 x4 x5 x6 x7 x8 x9 x10 x11 x12 x13 x14 x15 x16 x17 x18 x19 x20 x21 x22 x23 x24 x25 x26 x27 x28 x29 x30 x31 x32 x33 x34 x35 x36 x37 x38 x39 x40 x41 x42 x43 x44 x45 : Value) (h : Heap) :
    runCode Try.prog O L f22_c0 k [x0, x1, x2, x3, x4, x5, x6, x7, x8, x9, x10, x11, x12, x13, x14, x15, x16, x17, x18, x19, x20, x21, x22, x23, x24, x25, x26, x27, x28, x29, x30, x31, x32, x33, x34, x35, x36, x37, x38, x39, x40, x41, x42, x43, x44, x45] h = f22_b0 O L k x0 x1 x2 x3 x4 x5 x6 x7 x8 x9 x10 x11 x12 x13 x14 x15 x16 x17 x18 x19 x20 x21 x22 x23 x24 x25 x26 x27 x28 x29 x30 x31 x32 x33 x34 x35 x36 x37 x38 x39 x40 x41 x42 x43 x44 x45 h := by kernel_rfl
noncomputable def f22 (O : Oracle) (L : Loops (Value × Heap)) (a0 a1 : Value) (h : Heap) : Option (Value × Heap) :=
  ob ((newB 27 (Value.cells a0).toList .fix) h) fun v0 h0 =>
  ob ((M.ofOpt (fAddr 1 v0)) h0) fun v1 h1 =>
  ob ((ld1 v1) h1) fun v2 h2 =>
  ob ((M.ofOpt (lenSl v2)) h2) fun v3 h3 =>
  L (runCode Try.prog O L f22_c0) (f22_k0 O L) [a0, a1, v0, undef, (.slice none 0 0), (.slice none 0 0), undef, undef, v1, v2, v3, (.int .i64 0), undef, undef, undef, undef, undef, undef, undef, undef, undef, undef, undef, undef, undef, undef, undef, undef, undef, undef, undef, undef, undef, undef, undef, undef, undef, undef, undef, undef, undef, undef, undef, undef, undef, undef] h3
theorem f22_eq (O : Oracle) (L : Loops (Value × Heap)) (a0 a1 : Value) (h : Heap) :
    body Try.prog O L 22 [a0, a1] h = f22 O L a0 a1 h := by kernel_rfl
noncomputable def f32 (O : Oracle) (L : Loops (Value × Heap)) (a0 a1 : Value) (h : Heap) : Option (Value × Heap) :=
  ob ((M.ofOpt (lenSl a0)) h) fun v0 h0 =>
  ob ((M.ofOpt (fAddr 0 a1)) h0) fun v1 h1 =>
  ob ((ld1 v1) h1) fun v2 h2 =>
  ob ((M.ofOpt (bin Try.prog .neq 3 v0 v2)) h2) fun v3 h3 =>
  some (oneOf [v3], h3)
theorem f32_eq (O : Oracle) (L : Loops (Value × Heap)) (a0 a1 : Value) (h : Heap) :
    body Try.prog O L 32 [a0, a1] h = f32 O L a0 a1 h := by kernel_rfl
noncomputable def f33 (O : Oracle) (L : Loops (Value × Heap)) (a0 : Value) (h : Heap) : Option (Value × Heap) :=
  ob ((newB 27 (Value.cells a0).toList .fix) h) fun v0 h0 =>
  ob ((M.ofOpt (fAddr 0 v0)) h0) fun v1 h1 =>
  ob ((ld1 v1) h1) fun v2 h2 =>
  ob ((O (.func 37) [v2, (.int .i64 2), (.int .i64 6)]) h2) fun v3 h3 =>
  ob ((gd v3 true (M.ofOpt (fAddr 2 v0))) h3) fun v4 h4 =>
  ob ((gd v3 true (ld1 v4)) h4) fun v5 h5 =>
  ob ((gd v3 true (O (.func 37) [v5, (.int .i64 1), (.int .i64 3)])) h5) fun v6 h6 =>
  ob ((M.ofOpt (pick v3 v6 (.bool false))) h6) fun v7 h7 =>
  ob ((gd v7 true (M.ofOpt (fAddr 3 v0))) h7) fun v8 h8 =>
  ob ((gd v7 true (ld1 v8)) h8) fun v9 h9 =>
  ob ((gd v7 true (O (.func 37) [v9, (.int .i64 1), (.int .i64 8)])) h9) fun v10 h10 =>
  ob ((M.ofOpt (pick v7 v10 (.bool false))) h10) fun v11 h11 =>
  ob ((gd v11 true (M.ofOpt (fAddr 4 v0))) h11) fun v12 h12 =>
  ob ((gd v11 true (ld1 v12)) h12) fun v13 h13 =>
  ob ((gd v11 true (O (.func 37) [v13, (.int .i64 1), (.int .i64 8)])) h13) fun v14 h14 =>
  ob ((M.ofOpt (pick v11 v14 (.bool false))) h14) fun v15 h15 =>
  ob ((gd v15 true (M.ofOpt (fAddr 5 v0))) h15) fun v16 h16 =>
  ob ((gd v15 true (ld1 v16)) h16) fun v17 h17 =>
  ob ((gd v15 true (O (.func 37) [v17, (.int .i64 1), (.int .i64 4)])) h17) fun v18 h18 =>
  ob ((M.ofOpt (pick v15 v18 (.bool false))) h18) fun v19 h19 =>
  ob ((gd v19 true (M.ofOpt (fAddr 6 v0))) h19) fun v20 h20 =>
  ob ((gd v19 true (ld1 v20)) h20) fun v21 h21 =>
  ob ((gd v19 true (O (.func 37) [v21, (.int .i64 1), (.int .i64 8)])) h21) fun v22 h22 =>
  ob ((M.ofOpt (pick v19 v22 (.bool false))) h22) fun v23 h23 =>
  ob ((gd v23 true (M.ofOpt (fAddr 7 v0))) h23) fun v24 h24 =>
  ob ((gd v23 true (ld1 v24)) h24) fun v25 h25 =>
  ob ((gd v23 true (O (.func 37) [v25, (.int .i64 1), (.int .i64 64)])) h25) fun v26 h26 =>
  ob ((M.ofOpt (pick v23 v26 (.bool false))) h26) fun v27 h27 =>
  some (oneOf [v27], h27)
theorem f33_eq (O : Oracle) (L : Loops (Value × Heap)) (a0 : Value) (h : Heap) :
    body Try.prog O L 33 [a0] h = f33 O L a0 h := by kernel_rfl
noncomputable def f34_c0 : Code := sub [1, 0, 1, 0, 0] (fbody Try.prog 34)
noncomputable def f34_k0 (O : Oracle) (L : Loops (Value × Heap)) : Ex → K (Value × Heap) := (blockK 0 (seqK Try.prog O L (sub [1, 1] (fbody Try.prog 34)) (kRet Try.prog Try.f34)))
noncomputable def f34_e0_0 (O : Oracle) (L : Loops (Value × Heap)) (x0 x1 x2 x3 x4 x5 x6 x7 x8 x9 x10 x11 x12 x13 x14 x15 x16 x17 x18 x19 x20 x21 x22 x23 x24 x25 x26 x27 x28 x29 x30 x31 x32 x33 x34 x35 x36 x37 x38 x39 x40 x41 x42 : Value) (h : Heap) : Option (Value × Heap) :=
  ob ((M.ofOpt (fAddr 1 x1)) h) fun v32 h32 =>
  ob ((ld1 v32) h32) fun v33 h33 =>
  ob ((M.ofOpt (lenSl v33)) h33) fun v34 h34 =>
  ob ((M.ofOpt (bin Try.prog .leq 3 v34 (.int .i64 15))) h34) fun v35 h35 =>
  some (oneOf [v35], h35)
theorem f34_e0_0_eq (O : Oracle) (L : Loops (Value × Heap)) (x0 x1 x2 x3 x4 x5 x6 x7 x8 x9 x10 x11 x12 x13 x14 x15 x16 x17 x18 x19 x20 x21 x22 x23 x24 x25 x26 x27 x28 x29 x30 x31 x32 x33 x34 x35 x36 x37 x38 x39 x40 x41 x42 : Value) (h : Heap) :
    f34_k0 O L (.exit 0) [x0, x1, x2, x3, x4, x5, x6, x7, x8, x9, x10, x11, x12, x13, x14, x15, x16, x17, x18, x19, x20, x21, x22, x23, x24, x25, x26, x27, x28, x29, x30, x31, x32, x33, x34, x35, x36, x37, x38, x39, x40, x41, x42] h = f34_e0_0 O L x0 x1 x2 x3 x4 x5 x6 x7 x8 x9 x10 x11 x12 x13 x14 x15 x16 x17 x18 x19 x20 x21 x22 x23 x24 x25 x26 x27 x28 x29 x30 x31 x32 x33 x34 x35 x36 x37 x38 x39 x40 x41 x42 h := by kernel_rfl
noncomputable def f34_r0 (O : Oracle) (L : Loops (Value × Heap)) (x0 x1 x2 x3 x4 x5 x6 x7 x8 x9 x10 x11 x12 x13 x14 x15 x16 x17 x18 x19 x20 x21 x22 x23 x24 x25 x26 x27 x28 x29 x30 x31 x32 x33 x34 x35 x36 x37 x38 x39 x40 x41 x42 : Value) (h : Heap) : Option (Value × Heap) :=
  some (oneOf [x2], h)
theorem f34_r0_eq (O : Oracle) (L : Loops (Value × Heap)) (x0 x1 x2 x3 x4 x5 x6 x7 x8 x9 x10 x11 x12 x13 x14 x15 x16 x17 x18 x19 x20 x21 x22 x23 x24 x25 x26 x27 x28 x29 x30 x31 x32 x33 x34 x35 x36 x37 x38 x39 x40 x41 x42 : Value) (h : Heap) :
    f34_k0 O L .ret [x0, x1, x2, x3, x4, x5, x6, x7, x8, x9, x10, x11, x12, x13, x14, x15, x16, x17, x18, x19, x20, x21, x22, x23, x24, x25, x26, x27, x28, x29, x30, x31, x32, x33, x34, x35, x36, x37, x38, x39, x40, x41, x42] h = f34_r0 O L x0 x1 x2 x3 x4 x5 x6 x7 x8 x9 x10 x11 x12 x13 x14 x15 x16 x17 x18 x19 x20 x21 x22 x23 x24 x25 x26 x27 x28 x29 x30 x31 x32 x33 x34 x35 x36 x37 x38 x39 x40 x41 x42 h := by kernel_rfl
noncomputable def f34_b0 (O : Oracle) (L : Loops (Value × Heap)) (k : Ex → K (Value × Heap)) (x0 x1 x2 x3 x4 x5 x6 x7 x8 x9 x10 x11 x12 x13 x14 x15 x16 x17 x18 x19 x20 x21 x22 x23 x24 x25 x26 x27 x28 x29 x30 x31 x32 x33 x34 x35 x36 x37 x38 x39 x40 x41 x42 : Value) (h : Heap) : Option (Value × Heap) :=
  ob ((M.ofOpt (bin Try.prog .lss 3 x8 x7)) h) fun v4 h4 =>
  iteV v4 (
  ob ((M.ofOpt (iAddr 2 x6 x8)) h4) fun v5 h5 =>
  ob ((ldN 2 v5) h5) fun v6 h6 =>
  ob ((newB 33 [(.int .i64 0), (.int .i64 0)] .fix) h6) fun v7 h7 =>
  ob ((stN 2 v7 v6) h7) fun v8 h8 =>
  ob ((M.ofOpt (fAddr 0 v7)) h8) fun v9 h9 =>
  ob ((ld1 v9) h9) fun v10 h10 =>
  ifB (true) (
  ob ((M.ofOpt (bin Try.prog .lss 3 v10 (.int .i64 0))) h10) fun v11 h11 =>
  ob ((gd v11 false (M.ofOpt (fAddr 0 v7))) h11) fun v12 h12 =>
  ob ((gd v11 false (ld1 v12)) h12) fun v13 h13 =>
  ifB (true) (
  ob ((gd v11 false (M.ofOpt (fAddr 1 v7))) h13) fun v14 h14 =>
  ob ((gd v11 false (ld1 v14)) h14) fun v15 h15 =>
  ifB (true) (
  ob ((gd v11 false (M.ofOpt (bin Try.prog .geq 3 v13 v15))) h15) fun v16 h16 =>
  ob ((M.ofOpt (pick v11 (.bool true) v16)) h16) fun v17 h17 =>
  ob ((gd v17 false (M.ofOpt (fAddr 1 v7))) h17) fun v18 h18 =>
  ob ((gd v17 false (ld1 v18)) h18) fun v19 h19 =>
  ifB (true) (
  ob ((gd v17 false (M.ofOpt (fAddr 0 x1))) h19) fun v20 h20 =>
  ob ((gd v17 false (ld1 v20)) h20) fun v21 h21 =>
  ifB (true) (
  ob ((gd v17 false (M.ofOpt (bin Try.prog .geq 3 v19 v21))) h21) fun v22 h22 =>
  ob ((M.ofOpt (pick v17 (.bool true) v22)) h22) fun v23 h23 =>
  ob ((gd v23 false (M.ofOpt (fAddr 1 x1))) h23) fun v24 h24 =>
  ob ((gd v23 false (ld1 v24)) h24) fun v25 h25 =>
  ifB (true) (
  ob ((gd v23 false (M.ret x8)) h25) fun v26 h26 =>
  ob ((gd v23 false (slc Try.prog 2 v25 none (some v26) none)) h26) fun v27 h27 =>
  ifB (true) (
  ob ((gd v23 false (ldN 2 v7)) h27) fun v28 h28 =>
  ifB (true) (
  ob ((gd v23 false (O (.func 55) [v27, v28])) h28) fun v29 h29 =>
  ifB (true) (
  ob ((M.ofOpt (pick v23 (.bool true) v29)) h29) fun v30 h30 =>
  iteV v30 (
  k .ret [x0, x1, (.bool false), x8, v7, x5, x6, x7, x8, v4, x8, v5, v6, v9, v10, v11, v11, v12, v13, v14, v15, v16, v17, v17, v18, v19, v20, v21, v22, v23, v23, v24, v25, v26, v27, v28, v29, v30, x38, x39, x40, x41, x42] h30) (
  ob ((M.ofOpt (bin Try.prog .add 3 x8 (.int .i64 1))) h30) fun v31 h31 =>
  k .normal [x0, x1, x2, x8, v7, x5, x6, x7, v31, v4, x8, v5, v6, v9, v10, v11, v11, v12, v13, v14, v15, v16, v17, v17, v18, v19, v20, v21, v22, v23, v23, v24, v25, v26, v27, v28, v29, v30, v31, x39, x40, x41, x42] h31))))))))))) (
  k (.exit 0) [x0, x1, x2, x3, x4, x5, x6, x7, x8, v4, x10, x11, x12, x13, x14, x15, x16, x17, x18, x19, x20, x21, x22, x23, x24, x25, x26, x27, x28, x29, x30, x31, x32, x33, x34, x35, x36, x37, x38, x39, x40, x41, x42] h4)
theorem f34_b0_eq (O : Oracle) (L : Loops (Value × Heap)) (k : Ex → K (Value × Heap)) (x0 x1 x2 x3 x4 x5 x6 x7 x8 x9 x10 x11 x12 x13 x14 x15 x16 x17 x18 x19 x20 x21 x22 x23 x24 x25 x26 x27 x28 x29 x30 x31 x32 x33 x34 x35 x36 x37 x38 x39 x40 x41 x42 : Value) (h : Heap) :
    runCode Try.prog O L f34_c0 k [x0, x1, x2, x3, x4, x5, x6, x7, x8, x9, x10, x11, x12, x13, x14, x15, x16, x17, x18, x19, x20, x21, x22, x23, x24, x25, x26, x27, x28, x29, x30, x31, x32, x33, x34, x35, x36, x37, x38, x39, x40, x41, x42] h = f34_b0 O L k x0 x1 x2 x3 x4 x5 x6 x7 x8 x9 x10 x11 x12 x13 x14 x15 x16 x17 x18 x19 x20 x21 x22 x23 x24 x25 x26 x27 x28 x29 x30 x31 x32 x33 x34 x35 x36 x37 x38 x39 x40 x41 x42 h := by kernel_rfl
noncomputable def f34 (O : Oracle) (L : Loops (Value × Heap)) (a0 : Value) (h : Heap) : Option (Value × Heap) :=
  ob ((newB 27 (Value.cells a0).toList .fix) h) fun v0 h0 =>
  ob ((M.ofOpt (fAddr 1 v0)) h0) fun v1 h1 =>
  ob ((ld1 v1) h1) fun v2 h2 =>
  ob ((M.ofOpt (lenSl v2)) h2) fun v3 h3 =>
  L (runCode Try.prog O L f34_c0) (f34_k0 O L) [a0, v0, (.bool false), undef, undef, v1, v2, v3, (.int .i64 0), undef, undef, undef, undef, undef, undef, undef, undef, undef, undef, undef, undef, undef, undef, undef, undef, undef, undef, undef, undef, undef, undef, undef, undef, undef, undef, undef, undef, undef, undef, undef, undef, undef, undef] h3
theorem f34_eq (O : Oracle) (L : Loops (Value × Heap)) (a0 : Value) (h : Heap) :
    body Try.prog O L 34 [a0] h = f34 O L a0 h := by kernel_rfl
noncomputable def f35 (O : Oracle) (L : Loops (Value × Heap)) (a0 : Value) (h : Heap) : Option (Value × Heap) :=
  ob ((M.ofOpt (lenSl a0)) h) fun v0 h0 =>
  ob ((M.ofOpt (bin Try.prog .eql 3 v0 (.int .i64 0))) h0) fun v1 h1 =>
  ob ((gd v1 false (M.ret a0)) h1) fun v2 h2 =>
  ob ((gd v1 false (M.ofOpt (lenSl v2))) h2) fun v3 h3 =>
  ob ((gd v1 false (M.ofOpt (bin Try.prog .gtr 3 v3 (.int .i64 3)))) h3) fun v4 h4 =>
  ob ((M.ofOpt (pick v1 (.bool true) v4)) h4) fun v5 h5 =>
  ob ((gd v5 false (M.ret a0)) h5) fun v6 h6 =>
  ob ((gd v5 false (M.ret (.func (.func 56) #[] #[]))) h6) fun v7 h7 =>
  ob ((gd v5 false (O (.func 57) [v6, v7])) h7) fun v8 h8 =>
  ob ((M.ofOpt (pick v5 (.bool true) v8)) h8) fun v9 h9 =>
  iteV v9 (
  some (oneOf [(.pointer none)], h9)) (
  ob ((O (.func 58) [a0]) h9) fun v10 h10 =>
  ob ((O (.func 58) [a0]) h10) fun v11 h11 =>
  ob ((M.ofOpt (bld Try.prog 79 [(0, v10), (1, v11)])) h11) fun v12 h12 =>
  ob ((newB 79 (Value.cells v12).toList .fix) h12) fun v13 h13 =>
  some (oneOf [v13], h13))
theorem f35_eq (O : Oracle) (L : Loops (Value × Heap)) (a0 : Value) (h : Heap) :
    body Try.prog O L 35 [a0] h = f35 O L a0 h := by kernel_rfl
noncomputable def f36 (O : Oracle) (L : Loops (Value × Heap)) (a0 a1 : Value) (h : Heap) : Option (Value × Heap) :=
  ob ((O (.func 59) [a0, a1]) h) fun v0 h0 =>
  ob ((M.ofOpt (bin Try.prog .geq 3 v0 (.int .i64 0))) h0) fun v1 h1 =>
  some (oneOf [v1], h1)
theorem f36_eq (O : Oracle) (L : Loops (Value × Heap)) (a0 a1 : Value) (h : Heap) :
    body Try.prog O L 36 [a0, a1] h = f36 O L a0 a1 h := by kernel_rfl
noncomputable def f37 (O : Oracle) (L : Loops (Value × Heap)) (a0 a1 a2 : Value) (h : Heap) : Option (Value × Heap) :=
  ob ((M.ofOpt (bin Try.prog .geq 3 a0 a1)) h) fun v0 h0 =>
  ob ((gd v0 true (M.ret a0)) h0) fun v1 h1 =>
  ob ((gd v0 true (M.ret a2)) h1) fun v2 h2 =>
  ob ((gd v0 true (M.ofOpt (bin Try.prog .leq 3 v1 v2))) h2) fun v3 h3 =>
  ob ((M.ofOpt (pick v0 v3 (.bool false))) h3) fun v4 h4 =>
  some (oneOf [v4], h4)
theorem f37_eq (O : Oracle) (L : Loops (Value × Heap)) (a0 a1 a2 : Value) (h : Heap) :
    body Try.prog O L 37 [a0, a1, a2] h = f37 O L a0 a1 a2 h := by kernel_rfl
noncomputable def f38_c0 : Code := sub [1, 0, 1, 0, 0] (fbody Try.prog 38)
noncomputable def f38_k0 (O : Oracle) (L : Loops (Value × Heap)) : Ex → K (Value × Heap) := (blockK 0 (seqK Try.prog O L (sub [1, 1] (fbody Try.prog 38)) (kRet Try.prog Try.f38)))
noncomputable def f38_e0_0 (O : Oracle) (L : Loops (Value × Heap)) (x0 x1 x2 x3 x4 x5 x6 x7 x8 x9 x10 x11 x12 x13 x14 x15 x16 x17 x18 : Value) (h : Heap) : Option (Value × Heap) :=
  some (oneOf [(.int .i64 (-1))], h)
theorem f38_e0_0_eq (O : Oracle) (L : Loops (Value × Heap)) (x0 x1 x2 x3 x4 x5 x6 x7 x8 x9 x10 x11 x12 x13 x14 x15 x16 x17 x18 : Value) (h : Heap) :
    f38_k0 O L (.exit 0) [x0, x1, x2, x3, x4, x5, x6, x7, x8, x9, x10, x11, x12, x13, x14, x15, x16, x17, x18] h = f38_e0_0 O L x0 x1 x2 x3 x4 x5 x6 x7 x8 x9 x10 x11 x12 x13 x14 x15 x16 x17 x18 h := by kernel_rfl
noncomputable def f38_r0 (O : Oracle) (L : Loops (Value × Heap)) (x0 x1 x2 x3 x4 x5 x6 x7 x8 x9 x10 x11 x12 x13 x14 x15 x16 x17 x18 : Value) (h : Heap) : Option (Value × Heap) :=
  some (oneOf [x4], h)
theorem f38_r0_eq (O : Oracle) (L : Loops (Value × Heap)) (x0 x1 x2 x3 x4 x5 x6 x7 x8 x9 x10 x11 x12 x13 x14 x15 x16 x17 x18 : Value) (h : Heap) :
    f38_k0 O L .ret [x0, x1, x2, x3, x4, x5, x6, x7, x8, x9, x10, x11, x12, x13, x14, x15, x16, x17, x18] h = f38_r0 O L x0 x1 x2 x3 x4 x5 x6 x7 x8 x9 x10 x11 x12 x13 x14 x15 x16 x17 x18 h := by kernel_rfl
noncomputable def f38_b0 (O : Oracle) (L : Loops (Value × Heap)) (k : Ex → K (Value × Heap)) (x0 x1 x2 x3 x4 x5 x6 x7 x8 x9 x10 x11 x12 x13 x14 x15 x16 x17 x18 : Value) (h : Heap) : Option (Value × Heap) :=
  ob ((M.ofOpt (bin Try.prog .lss 3 x8 x7)) h) fun v1 h1 =>
  iteV v1 (
  ob ((M.ofOpt (iAddr 1 x0 x8)) h1) fun v2 h2 =>
  ob ((ld1 v2) h2) fun v3 h3 =>
  ob ((M.ofOpt (bin Try.prog .eql 3 x1 v3)) h3) fun v4 h4 =>
  iteV v4 (
  k .ret [x0, x1, x2, x3, x8, x8, x6, x7, x8, v1, x8, x1, x0, x8, v2, v3, v4, x8, x18] h4) (
  ob ((M.ofOpt (bin Try.prog .add 3 x8 (.int .i64 1))) h4) fun v5 h5 =>
  k .normal [x0, x1, x2, x3, x4, x8, x6, x7, v5, v1, x8, x1, x0, x8, v2, v3, v4, x17, v5] h5)) (
  k (.exit 0) [x0, x1, x2, x3, x4, x5, x6, x7, x8, v1, x10, x11, x12, x13, x14, x15, x16, x17, x18] h1)
theorem f38_b0_eq (O : Oracle) (L : Loops (Value × Heap)) (k : Ex → K (Value × Heap)) (x0 x1 x2 x3 x4 x5 x6 x7 x8 x9 x10 x11 x12 x13 x14 x15 x16 x17 x18 : Value) (h : Heap) :
    runCode Try.prog O L f38_c0 k [x0, x1, x2, x3, x4, x5, x6, x7, x8, x9, x10, x11, x12, x13, x14, x15, x16, x17, x18] h = f38_b0 O L k x0 x1 x2 x3 x4 x5 x6 x7 x8 x9 x10 x11 x12 x13 x14 x15 x16 x17 x18 h := by kernel_rfl
noncomputable def f38 (O : Oracle) (L : Loops (Value × Heap)) (a0 a1 : Value) (h : Heap) : Option (Value × Heap) :=
  ob ((M.ofOpt (lenSl a0)) h) fun v0 h0 =>
  L (runCode Try.prog O L f38_c0) (f38_k0 O L) [a0, a1, undef, undef, (.int .i64 0), undef, a0, v0, (.int .i64 0), undef, undef, undef, undef, undef, undef, undef, undef, undef, undef] h0
theorem f38_eq (O : Oracle) (L : Loops (Value × Heap)) (a0 a1 : Value) (h : Heap) :
    body Try.prog O L 38 [a0, a1] h = f38 O L a0 a1 h := by kernel_rfl
noncomputable def f45_c1 : Code := sub [1, 1, 0, 1, 0, 0, 1, 0, 0, 1, 0, 1, 0, 1, 0, 0] (fbody Try.prog 45)
noncomputable def f45_k1 (O : Oracle) (L : Loops (Value × Heap)) (k : Ex → K (Value × Heap)) : Ex → K (Value × Heap) := (blockK 2 (seqK Try.prog O L (sub [1, 1, 0, 1, 0, 0, 1, 0, 0, 1, 0, 1, 1] (fbody Try.prog 45)) (blockK 1 (seqK Try.prog O L (sub [1, 1, 0, 1, 0, 0, 1, 1] (fbody Try.prog 45)) k))))
noncomputable def f45_e1_2 (O : Oracle) (L : Loops (Value × Heap)) (k : Ex → K (Value × Heap)) (x0 x1 x2 x3 x4 x5 x6 x7 x8 x9 x10 x11 x12 x13 x14 x15 x16 x17 x18 x19 x20 x21 x22 x23 x24 x25 x26 x27 x28 x29 x30 x31 x32 x33 x34 x35 x36 x37 x38 x39 x40 x41 x42 x43 x44 x45 x46 x47 x48 x49 x50 x51 x52 x53 x54 x55 x56 x57 x58 x59 x60 : Value) (h : Heap) : Option (Value × Heap) :=
  ob ((slc Try.prog 1 x0 (some x3) none none) h) fun v27 h27 =>
  ob ((clr 1 [(.int .i64 0)] v27) h27) fun v28 h28 =>
  ob ((slc Try.prog 1 x0 none (some x3) none) h28) fun v29 h29 =>
  k .ret [x0, x1, v29, x3, x4, x5, x6, x7, x8, x9, x10, x11, x12, x13, x14, x15, x16, x17, x18, x19, x20, x21, x22, x23, x24, x25, x26, x27, x28, x29, x30, x31, x32, x33, x34, x35, x36, x37, x38, x39, x40, x41, x42, x43, x44, x45, x46, x47, x48, x49, x50, x51, x52, x53, x0, x3, v27, x0, x3, v29, x60] h29
theorem f45_e1_2_eq (O : Oracle) (L : Loops (Value × Heap)) (k : Ex → K (Value × Heap)) (x0 x1 x2 x3 x4 x5 x6 x7 x8 x9 x10 x11 x12 x13 x14 x15 x16 x17 x18 x19 x20 x21 x22 x23 x24 x25 x26 x27 x28 x29 x30 x31 x32 x33 x34 x35 x36 x37 x38 x39 x40 x41 x42 x43 x44 x45 x46 x47 x48 x49 x50 x51 x52 x53 x54 x55 x56 x57 x58 x59 x60 : Value) (h : Heap) :
    f45_k1 O L k (.exit 2) [x0, x1, x2, x3, x4, x5, x6, x7, x8, x9, x10, x11, x12, x13, x14, x15, x16, x17, x18, x19, x20, x21, x22, x23, x24, x25, x26, x27, x28, x29, x30, x31, x32, x33, x34, x35, x36, x37, x38, x39, x40, x41, x42, x43, x44, x45, x46, x47, x48, x49, x50, x51, x52, x53, x54, x55, x56, x57, x58, x59, x60] h = f45_e1_2 O L k x0 x1 x2 x3 x4 x5 x6 x7 x8 x9 x10 x11 x12 x13 x14 x15 x16 x17 x18 x19 x20 x21 x22 x23 x24 x25 x26 x27 x28 x29 x30 x31 x32 x33 x34 x35 x36 x37 x38 x39 x40 x41 x42 x43 x44 x45 x46 x47 x48 x49 x50 x51 x52 x53 x54 x55 x56 x57 x58 x59 x60 h := by kernel_rfl
noncomputable def f45_b1 (O : Oracle) (L : Loops (Value × Heap)) (k : Ex → K (Value × Heap)) (x0 x1 x2 x3 x4 x5 x6 x7 x8 x9 x10 x11 x12 x13 x14 x15 x16 x17 x18 x19 x20 x21 x22 x23 x24 x25 x26 x27 x28 x29 x30 x31 x32 x33 x34 x35 x36 x37 x38 x39 x40 x41 x42 x43 x44 x45 x46 x47 x48 x49 x50 x51 x52 x53 x54 x55 x56 x57 x58 x59 x60 : Value) (h : Heap) : Option (Value × Heap) :=
  ob ((M.ofOpt (lenSl x4)) h) fun v12 h12 =>
  ob ((M.ofOpt (bin Try.prog .lss 3 x5 v12)) h12) fun v13 h13 =>
  iteV v13 (
  ob ((M.ofOpt (iAddr 1 x4 x5)) h13) fun v14 h14 =>
  ob ((ld1 v14) h14) fun v15 h15 =>
  ifB (true) (
  ob ((M.ofOpt (bin Try.prog .sub 3 x5 (.int .i64 1))) h15) fun v16 h16 =>
  ob ((M.ofOpt (iAddr 1 x4 v16)) h16) fun v17 h17 =>
  ob ((ld1 v17) h17) fun v18 h18 =>
  ifB (true) (
  ob ((M.ofOpt (bin Try.prog .neq 3 v15 v18)) h18) fun v19 h19 =>
  iteV v19 (
  ob ((M.ofOpt (iAddr 1 x4 x5)) h19) fun v20 h20 =>
  ob ((ld1 v20) h20) fun v21 h21 =>
  ob ((M.ofOpt (iAddr 1 x0 x3)) h21) fun v22 h22 =>
  ob ((stN 1 v22 v21) h22) fun v23 h23 =>
  ob ((M.ofOpt (bin Try.prog .add 3 x3 (.int .i64 1))) h23) fun v24 h24 =>
  ob ((M.ofOpt (bin Try.prog .add 3 x5 (.int .i64 1))) h24) fun v25 h25 =>
  k .normal [x0, x1, x2, v24, x4, v25, x6, x7, x8, x9, x10, x11, x12, x13, x14, x15, x16, x17, x18, x19, x20, x21, x22, x23, x24, x25, x26, x27, x28, x5, x4, v12, v13, x5, v25, x4, x5, v14, v15, x4, x5, v16, v17, v18, v19, x0, x3, x4, x5, v20, v21, v22, x3, v24, x54, x55, x56, x57, x58, x59, x60] h25) (
  ob ((M.ofOpt (bin Try.prog .add 3 x5 (.int .i64 1))) h19) fun v26 h26 =>
  k .normal [x0, x1, x2, x3, x4, v26, x6, x7, x8, x9, x10, x11, x12, x13, x14, x15, x16, x17, x18, x19, x20, x21, x22, x23, x24, x25, x26, x27, x28, x5, x4, v12, v13, x5, v26, x4, x5, v14, v15, x4, x5, v16, v17, v18, v19, x45, x46, x47, x48, x49, x50, x51, x52, x53, x54, x55, x56, x57, x58, x59, x60] h26)))) (
  k (.exit 2) [x0, x1, x2, x3, x4, x5, x6, x7, x8, x9, x10, x11, x12, x13, x14, x15, x16, x17, x18, x19, x20, x21, x22, x23, x24, x25, x26, x27, x28, x5, x4, v12, v13, x33, x34, x35, x36, x37, x38, x39, x40, x41, x42, x43, x44, x45, x46, x47, x48, x49, x50, x51, x52, x53, x54, x55, x56, x57, x58, x59, x60] h13)
theorem f45_b1_eq (O : Oracle) (L : Loops (Value × Heap)) (k : Ex → K (Value × Heap)) (x0 x1 x2 x3 x4 x5 x6 x7 x8 x9 x10 x11 x12 x13 x14 x15 x16 x17 x18 x19 x20 x21 x22 x23 x24 x25 x26 x27 x28 x29 x30 x31 x32 x33 x34 x35 x36 x37 x38 x39 x40 x41 x42 x43 x44 x45 x46 x47 x48 x49 x50 x51 x52 x53 x54 x55 x56 x57 x58 x59 x60 : Value) (h : Heap) :
    runCode Try.prog O L f45_c1 k [x0, x1, x2, x3, x4, x5, x6, x7, x8, x9, x10, x11, x12, x13, x14, x15, x16, x17, x18, x19, x20, x21, x22, x23, x24, x25, x26, x27, x28, x29, x30, x31, x32, x33, x34, x35, x36, x37, x38, x39, x40, x41, x42, x43, x44, x45, x46, x47, x48, x49, x50, x51, x52, x53, x54, x55, x56, x57, x58, x59, x60] h = f45_b1 O L k x0 x1 x2 x3 x4 x5 x6 x7 x8 x9 x10 x11 x12 x13 x14 x15 x16 x17 x18 x19 x20 x21 x22 x23 x24 x25 x26 x27 x28 x29 x30 x31 x32 x33 x34 x35 x36 x37 x38 x39 x40 x41 x42 x43 x44 x45 x46 x47 x48 x49 x50 x51 x52 x53 x54 x55 x56 x57 x58 x59 x60 h := by kernel_rfl
noncomputable def f45_c0 : Code := sub [1, 1, 0, 1, 0, 0] (fbody Try.prog 45)
noncomputable def f45_k0 (O : Oracle) (L : Loops (Value × Heap)) : Ex → K (Value × Heap) := (blockK 0 (seqK Try.prog O L (sub [1, 1, 1] (fbody Try.prog 45)) (kRet Try.prog Try.f45)))
noncomputable def f45_e0_0 (O : Oracle) (L : Loops (Value × Heap)) (x0 x1 x2 x3 x4 x5 x6 x7 x8 x9 x10 x11 x12 x13 x14 x15 x16 x17 x18 x19 x20 x21 x22 x23 x24 x25 x26 x27 x28 x29 x30 x31 x32 x33 x34 x35 x36 x37 x38 x39 x40 x41 x42 x43 x44 x45 x46 x47 x48 x49 x50 x51 x52 x53 x54 x55 x56 x57 x58 x59 x60 : Value) (h : Heap) : Option (Value × Heap) :=
  some (oneOf [x0], h)
theorem f45_e0_0_eq (O : Oracle) (L : Loops (Value × Heap)) (x0 x1 x2 x3 x4 x5 x6 x7 x8 x9 x10 x11 x12 x13 x14 x15 x16 x17 x18 x19 x20 x21 x22 x23 x24 x25 x26 x27 x28 x29 x30 x31 x32 x33 x34 x35 x36 x37 x38 x39 x40 x41 x42 x43 x44 x45 x46 x47 x48 x49 x50 x51 x52 x53 x54 x55 x56 x57 x58 x59 x60 : Value) (h : Heap) :
    f45_k0 O L (.exit 0) [x0, x1, x2, x3, x4, x5, x6, x7, x8, x9, x10, x11, x12, x13, x14, x15, x16, x17, x18, x19, x20, x21, x22, x23, x24, x25, x26, x27, x28, x29, x30, x31, x32, x33, x34, x35, x36, x37, x38, x39, x40, x41, x42, x43, x44, x45, x46, x47, x48, x49, x50, x51, x52, x53, x54, x55, x56, x57, x58, x59, x60] h = f45_e0_0 O L x0 x1 x2 x3 x4 x5 x6 x7 x8 x9 x10 x11 x12 x13 x14 x15 x16 x17 x18 x19 x20 x21 x22 x23 x24 x25 x26 x27 x28 x29 x30 x31 x32 x33 x34 x35 x36 x37 x38 x39 x40 x41 x42 x43 x44 x45 x46 x47 x48 x49 x50 x51 x52 x53 x54 x55 x56 x57 x58 x59 x60 h := by kernel_rfl
noncomputable def f45_r0 (O : Oracle) (L : Loops (Value × Heap)) (x0 x1 x2 x3 x4 x5 x6 x7 x8 x9 x10 x11 x12 x13 x14 x15 x16 x17 x18 x19 x20 x21 x22 x23 x24 x25 x26 x27 x28 x29 x30 x31 x32 x33 x34 x35 x36 x37 x38 x39 x40 x41 x42 x43 x44 x45 x46 x47 x48 x49 x50 x51 x52 x53 x54 x55 x56 x57 x58 x59 x60 : Value) (h : Heap) : Option (Value × Heap) :=
  some (oneOf [x2], h)
theorem f45_r0_eq (O : Oracle) (L : Loops (Value × Heap)) (x0 x1 x2 x3 x4 x5 x6 x7 x8 x9 x10 x11 x12 x13 x14 x15 x16 x17 x18 x19 x20 x21 x22 x23 x24 x25 x26 x27 x28 x29 x30 x31 x32 x33 x34 x35 x36 x37 x38 x39 x40 x41 x42 x43 x44 x45 x46 x47 x48 x49 x50 x51 x52 x53 x54 x55 x56 x57 x58 x59 x60 : Value) (h : Heap) :
    f45_k0 O L .ret [x0, x1, x2, x3, x4, x5, x6, x7, x8, x9, x10, x11, x12, x13, x14, x15, x16, x17, x18, x19, x20, x21, x22, x23, x24, x25, x26, x27, x28, x29, x30, x31, x32, x33, x34, x35, x36, x37, x38, x39, x40, x41, x42, x43, x44, x45, x46, x47, x48, x49, x50, x51, x52, x53, x54, x55, x56, x57, x58, x59, x60] h = f45_r0 O L x0 x1 x2 x3 x4 x5 x6 x7 x8 x9 x10 x11 x12 x13 x14 x15 x16 x17 x18 x19 x20 x21 x22 x23 x24 x25 x26 x27 x28 x29 x30 x31 x32 x33 x34 x35 x36 x37 x38 x39 x40 x41 x42 x43 x44 x45 x46 x47 x48 x49 x50 x51 x52 x53 x54 x55 x56 x57 x58 x59 x60 h := by kernel_rfl
noncomputable def f45_b0 (O : Oracle) (L : Loops (Value × Heap)) (k : Ex → K (Value × Heap)) (x0 x1 x2 x3 x4 x5 x6 x7 x8 x9 x10 x11 x12 x13 x14 x15 x16 x17 x18 x19 x20 x21 x22 x23 x24 x25 x26 x27 x28 x29 x30 x31 x32 x33 x34 x35 x36 x37 x38 x39 x40 x41 x42 x43 x44 x45 x46 x47 x48 x49 x50 x51 x52 x53 x54 x55 x56 x57 x58 x59 x60 : Value) (h : Heap) : Option (Value × Heap) :=
  ob ((M.ofOpt (lenSl x0)) h) fun v2 h2 =>
  ob ((M.ofOpt (bin Try.prog .lss 3 x3 v2)) h2) fun v3 h3 =>
  iteV v3 (
  ob ((M.ofOpt (iAddr 1 x0 x3)) h3) fun v4 h4 =>
  ob ((ld1 v4) h4) fun v5 h5 =>
  ifB (true) (
  ob ((M.ofOpt (bin Try.prog .sub 3 x3 (.int .i64 1))) h5) fun v6 h6 =>
  ob ((M.ofOpt (iAddr 1 x0 v6)) h6) fun v7 h7 =>
  ob ((ld1 v7) h7) fun v8 h8 =>
  ifB (true) (
  ob ((M.ofOpt (bin Try.prog .eql 3 v5 v8)) h8) fun v9 h9 =>
  iteV v9 (
  ob ((slc Try.prog 1 x0 (some x3) none none) h9) fun v10 h10 =>
  L (runCode Try.prog O L f45_c1) (f45_k1 O L k) [x0, x1, x2, x3, v10, (.int .i64 1), x6, x7, x8, x9, x3, x0, v2, v3, x14, x15, x0, x3, v4, v5, x0, x3, v6, v7, v8, v9, x0, x3, v10, x29, x30, x31, x32, x33, x34, x35, x36, x37, x38, x39, x40, x41, x42, x43, x44, x45, x46, x47, x48, x49, x50, x51, x52, x53, x54, x55, x56, x57, x58, x59, x60] h10) (
  ob ((M.ofOpt (bin Try.prog .add 3 x3 (.int .i64 1))) h9) fun v11 h11 =>
  k .normal [x0, x1, x2, v11, x4, x5, x6, x7, x8, x9, x3, x0, v2, v3, x3, v11, x0, x3, v4, v5, x0, x3, v6, v7, v8, v9, x26, x27, x28, x29, x30, x31, x32, x33, x34, x35, x36, x37, x38, x39, x40, x41, x42, x43, x44, x45, x46, x47, x48, x49, x50, x51, x52, x53, x54, x55, x56, x57, x58, x59, x60] h11)))) (
  k (.exit 0) [x0, x1, x2, x3, x4, x5, x6, x7, x8, x9, x3, x0, v2, v3, x14, x15, x16, x17, x18, x19, x20, x21, x22, x23, x24, x25, x26, x27, x28, x29, x30, x31, x32, x33, x34, x35, x36, x37, x38, x39, x40, x41, x42, x43, x44, x45, x46, x47, x48, x49, x50, x51, x52, x53, x54, x55, x56, x57, x58, x59, x60] h3)
theorem f45_b0_eq (O : Oracle) (L : Loops (Value × Heap)) (k : Ex → K (Value × Heap)) (x0 x1 x2 x3 x4 x5 x6 x7 x8 x9 x10 x11 x12 x13 x14 x15 x16 x17 x18 x19 x20 x21 x22 x23 x24 x25 x26 x27 x28 x29 x30 x31 x32 x33 x34 x35 x36 x37 x38 x39 x40 x41 x42 x43 x44 x45 x46 x47 x48 x49 x50 x51 x52 x53 x54 x55 x56 x57 x58 x59 x60 : Value) (h : Heap) :
    runCode Try.prog O L f45_c0 k [x0, x1, x2, x3, x4, x5, x6, x7, x8, x9, x10, x11, x12, x13, x14, x15, x16, x17, x18, x19, x20, x21, x22, x23, x24, x25, x26, x27, x28, x29, x30, x31, x32, x33, x34, x35, x36, x37, x38, x39, x40, x41, x42, x43, x44, x45, x46, x47, x48, x49, x50, x51, x52, x53, x54, x55, x56, x57, x58, x59, x60] h = f45_b0 O L k x0 x1 x2 x3 x4 x5 x6 x7 x8 x9 x10 x11 x12 x13 x14 x15 x16 x17 x18 x19 x20 x21 x22 x23 x24 x25 x26 x27 x28 x29 x30 x31 x32 x33 x34 x35 x36 x37 x38 x39 x40 x41 x42 x43 x44 x45 x46 x47 x48 x49 x50 x51 x52 x53 x54 x55 x56 x57 x58 x59 x60 h := by kernel_rfl
noncomputable def f45 (O : Oracle) (L : Loops (Value × Heap)) (a0 : Value) (h : Heap) : Option (Value × Heap) :=
  ob ((M.ofOpt (lenSl a0)) h) fun v0 h0 =>
  ob ((M.ofOpt (bin Try.prog .lss 3 v0 (.int .i64 2))) h0) fun v1 h1 =>
  iteV v1 (
  some (oneOf [a0], h1)) (
  L (runCode Try.prog O L f45_c0) (f45_k0 O L) [a0, undef, (.slice none 0 0), (.int .i64 1), undef, undef, a0, v0, v1, undef, undef, undef, undef, undef, undef, undef, undef, undef, undef, undef, undef, undef, undef, undef, undef, undef, undef, undef, undef, undef, undef, undef, undef, undef, undef, undef, undef, undef, undef, undef, undef, undef, undef, undef, undef, undef, undef, undef, undef, undef, undef, undef, undef, undef, undef, undef, undef, undef, undef, undef, undef] h1)
theorem f45_eq (O : Oracle) (L : Loops (Value × Heap)) (a0 : Value) (h : Heap) :
    body Try.prog O L 45 [a0] h = f45 O L a0 h := by kernel_rfl
noncomputable def f55 (O : Oracle) (L : Loops (Value × Heap)) (a0 a1 : Value) (h : Heap) : Option (Value × Heap) :=
  ob ((newB 33 (Value.cells a1).toList .fix) h) fun v0 h0 =>
  ob ((ldN 2 v0) h0) fun v1 h1 =>
  ob ((O (.func 70) [a0, v1]) h1) fun v2 h2 =>
  ob ((M.ofOpt (bin Try.prog .geq 3 v2 (.int .i64 0))) h2) fun v3 h3 =>
  some (oneOf [v3], h3)
theorem f55_eq (O : Oracle) (L : Loops (Value × Heap)) (a0 a1 : Value) (h : Heap) :
    body Try.prog O L 55 [a0, a1] h = f55 O L a0 a1 h := by kernel_rfl
noncomputable def f56 (O : Oracle) (L : Loops (Value × Heap)) (a0 : Value) (h : Heap) : Option (Value × Heap) :=
  ob ((M.ofOpt (bin Try.prog .lss 3 a0 (.int .i64 1))) h) fun v0 h0 =>
  ob ((gd v0 false (M.ret a0)) h0) fun v1 h1 =>
  ob ((gd v0 false (M.ofOpt (bin Try.prog .gtr 3 v1 (.int .i64 5)))) h1) fun v2 h2 =>
  ob ((M.ofOpt (pick v0 (.bool true) v2)) h2) fun v3 h3 =>
  some (oneOf [v3], h3)
theorem f56_eq (O : Oracle) (L : Loops (Value × Heap)) (a0 : Value) (h : Heap) :
    body Try.prog O L 56 [a0] h = f56 O L a0 h := by kernel_rfl
noncomputable def f57 (O : Oracle) (L : Loops (Value × Heap)) (a0 a1 : Value) (h : Heap) : Option (Value × Heap) :=
  ob ((O (.func 71) [a0, a1]) h) fun v0 h0 =>
  ob ((M.ofOpt (bin Try.prog .geq 3 v0 (.int .i64 0))) h0) fun v1 h1 =>
  some (oneOf [v1], h1)
theorem f57_eq (O : Oracle) (L : Loops (Value × Heap)) (a0 a1 : Value) (h : Heap) :
    body Try.prog O L 57 [a0, a1] h = f57 O L a0 a1 h := by kernel_rfl
noncomputable def f58 (O : Oracle) (L : Loops (Value × Heap)) (a0 : Value) (h : Heap) : Option (Value × Heap) :=
  ob ((M.ofOpt (bin Try.prog .eql 24 a0 (.slice none 0 0))) h) fun v0 h0 =>
  iteV v0 (
  some (oneOf [(.slice none 0 0)], h0)) (
  ob ((bldSlice 3 1 0 [(.int .i64 0)] []) h0) fun v1 h1 =>
  ob ((app 3 1 8 v1 a0) h1) fun v2 h2 =>
  some (oneOf [v2], h2))
theorem f58_eq (O : Oracle) (L : Loops (Value × Heap)) (a0 : Value) (h : Heap) :
    body Try.prog O L 58 [a0] h = f58 O L a0 h := by kernel_rfl
noncomputable def f59_c0 : Code := sub [1, 0, 1, 0, 0] (fbody Try.prog 59)
noncomputable def f59_k0 (O : Oracle) (L : Loops (Value × Heap)) : Ex → K (Value × Heap) := (blockK 0 (seqK Try.prog O L (sub [1, 1] (fbody Try.prog 59)) (kRet Try.prog Try.f59)))
noncomputable def f59_e0_0 (O : Oracle) (L : Loops (Value × Heap)) (x0 x1 x2 x3 x4 x5 x6 x7 x8 x9 x10 x11 x12 x13 x14 x15 x16 x17 x18 : Value) (h : Heap) : Option (Value × Heap) :=
  some (oneOf [(.int .i64 (-1))], h)
theorem f59_e0_0_eq (O : Oracle) (L : Loops (Value × Heap)) (x0 x1 x2 x3 x4 x5 x6 x7 x8 x9 x10 x11 x12 x13 x14 x15 x16 x17 x18 : Value) (h : Heap) :
    f59_k0 O L (.exit 0) [x0, x1, x2, x3, x4, x5, x6, x7, x8, x9, x10, x11, x12, x13, x14, x15, x16, x17, x18] h = f59_e0_0 O L x0 x1 x2 x3 x4 x5 x6 x7 x8 x9 x10 x11 x12 x13 x14 x15 x16 x17 x18 h := by kernel_rfl
noncomputable def f59_r0 (O : Oracle) (L : Loops (Value × Heap)) (x0 x1 x2 x3 x4 x5 x6 x7 x8 x9 x10 x11 x12 x13 x14 x15 x16 x17 x18 : Value) (h : Heap) : Option (Value × Heap) :=
  some (oneOf [x4], h)
theorem f59_r0_eq (O : Oracle) (L : Loops (Value × Heap)) (x0 x1 x2 x3 x4 x5 x6 x7 x8 x9 x10 x11 x12 x13 x14 x15 x16 x17 x18 : Value) (h : Heap) :
    f59_k0 O L .ret [x0, x1, x2, x3, x4, x5, x6, x7, x8, x9, x10, x11, x12, x13, x14, x15, x16, x17, x18] h = f59_r0 O L x0 x1 x2 x3 x4 x5 x6 x7 x8 x9 x10 x11 x12 x13 x14 x15 x16 x17 x18 h := by kernel_rfl
noncomputable def f59_b0 (O : Oracle) (L : Loops (Value × Heap)) (k : Ex → K (Value × Heap)) (x0 x1 x2 x3 x4 x5 x6 x7 x8 x9 x10 x11 x12 x13 x14 x15 x16 x17 x18 : Value) (h : Heap) : Option (Value × Heap) :=
  ob ((M.ofOpt (bin Try.prog .lss 3 x8 x7)) h) fun v1 h1 =>
  iteV v1 (
  ob ((M.ofOpt (iAddr 1 x0 x8)) h1) fun v2 h2 =>
  ob ((ld1 v2) h2) fun v3 h3 =>
  ob ((callV O x1 [v3]) h3) fun v4 h4 =>
  iteV v4 (
  k .ret [x0, x1, x2, x3, x8, x8, x6, x7, x8, v1, x8, x1, x0, x8, v2, v3, v4, x8, x18] h4) (
  ob ((M.ofOpt (bin Try.prog .add 3 x8 (.int .i64 1))) h4) fun v5 h5 =>
  k .normal [x0, x1, x2, x3, x4, x8, x6, x7, v5, v1, x8, x1, x0, x8, v2, v3, v4, x17, v5] h5)) (
  k (.exit 0) [x0, x1, x2, x3, x4, x5, x6, x7, x8, v1, x10, x11, x12, x13, x14, x15, x16, x17, x18] h1)
theorem f59_b0_eq (O : Oracle) (L : Loops (Value × Heap)) (k : Ex → K (Value × Heap)) (x0 x1 x2 x3 x4 x5 x6 x7 x8 x9 x10 x11 x12 x13 x14 x15 x16 x17 x18 : Value) (h : Heap) :
    runCode Try.prog O L f59_c0 k [x0, x1, x2, x3, x4, x5, x6, x7, x8, x9, x10, x11, x12, x13, x14, x15, x16, x17, x18] h = f59_b0 O L k x0 x1 x2 x3 x4 x5 x6 x7 x8 x9 x10 x11 x12 x13 x14 x15 x16 x17 x18 h := by kernel_rfl
noncomputable def f59 (O : Oracle) (L : Loops (Value × Heap)) (a0 a1 : Value) (h : Heap) : Option (Value × Heap) :=
  ob ((M.ofOpt (lenSl a0)) h) fun v0 h0 =>
  L (runCode Try.prog O L f59_c0) (f59_k0 O L) [a0, a1, undef, undef, (.int .i64 0), undef, a0, v0, (.int .i64 0), undef, undef, undef, undef, undef, undef, undef, undef, undef, undef] h0
theorem f59_eq (O : Oracle) (L : Loops (Value × Heap)) (a0 a1 : Value) (h : Heap) :
    body Try.prog O L 59 [a0, a1] h = f59 O L a0 a1 h := by kernel_rfl
noncomputable def f70_c0 : Code := sub [1, 0, 1, 0, 0] (fbody Try.prog 70)
noncomputable def f70_k0 (O : Oracle) (L : Loops (Value × Heap)) : Ex → K (Value × Heap) := (blockK 0 (seqK Try.prog O L (sub [1, 1] (fbody Try.prog 70)) (kRet Try.prog Try.f70)))
noncomputable def f70_e0_0 (O : Oracle) (L : Loops (Value × Heap)) (x0 x1 x2 x3 x4 x5 x6 x7 x8 x9 x10 x11 x12 x13 x14 x15 x16 x17 x18 : Value) (h : Heap) : Option (Value × Heap) :=
  some (oneOf [(.int .i64 (-1))], h)
theorem f70_e0_0_eq (O : Oracle) (L : Loops (Value × Heap)) (x0 x1 x2 x3 x4 x5 x6 x7 x8 x9 x10 x11 x12 x13 x14 x15 x16 x17 x18 : Value) (h : Heap) :
    f70_k0 O L (.exit 0) [x0, x1, x2, x3, x4, x5, x6, x7, x8, x9, x10, x11, x12, x13, x14, x15, x16, x17, x18] h = f70_e0_0 O L x0 x1 x2 x3 x4 x5 x6 x7 x8 x9 x10 x11 x12 x13 x14 x15 x16 x17 x18 h := by kernel_rfl
noncomputable def f70_r0 (O : Oracle) (L : Loops (Value × Heap)) (x0 x1 x2 x3 x4 x5 x6 x7 x8 x9 x10 x11 x12 x13 x14 x15 x16 x17 x18 : Value) (h : Heap) : Option (Value × Heap) :=
  some (oneOf [x4], h)
theorem f70_r0_eq (O : Oracle) (L : Loops (Value × Heap)) (x0 x1 x2 x3 x4 x5 x6 x7 x8 x9 x10 x11 x12 x13 x14 x15 x16 x17 x18 : Value) (h : Heap) :
    f70_k0 O L .ret [x0, x1, x2, x3, x4, x5, x6, x7, x8, x9, x10, x11, x12, x13, x14, x15, x16, x17, x18] h = f70_r0 O L x0 x1 x2 x3 x4 x5 x6 x7 x8 x9 x10 x11 x12 x13 x14 x15 x16 x17 x18 h := by kernel_rfl
noncomputable def f70_b0 (O : Oracle) (L : Loops (Value × Heap)) (k : Ex → K (Value × Heap)) (x0 x1 x2 x3 x4 x5 x6 x7 x8 x9 x10 x11 x12 x13 x14 x15 x16 x17 x18 : Value) (h : Heap) : Option (Value × Heap) :=
  ob ((M.ofOpt (bin Try.prog .lss 3 x8 x7)) h) fun v2 h2 =>
  iteV v2 (
  ob ((ldN 2 x3) h2) fun v3 h3 =>
  ifB (true) (
  ob ((M.ofOpt (iAddr 2 x0 x8)) h3) fun v4 h4 =>
  ob ((ldN 2 v4) h4) fun v5 h5 =>
  ifB (true) (
  ob ((M.ofOpt (bin Try.prog .eql 33 v3 v5)) h5) fun v6 h6 =>
  iteV v6 (
  k .ret [x0, x1, x2, x3, x8, x8, x6, x7, x8, v2, x8, v3, x0, x8, v4, v5, v6, x8, x18] h6) (
  ob ((M.ofOpt (bin Try.prog .add 3 x8 (.int .i64 1))) h6) fun v7 h7 =>
  k .normal [x0, x1, x2, x3, x4, x8, x6, x7, v7, v2, x8, v3, x0, x8, v4, v5, v6, x17, v7] h7)))) (
  k (.exit 0) [x0, x1, x2, x3, x4, x5, x6, x7, x8, v2, x10, x11, x12, x13, x14, x15, x16, x17, x18] h2)
theorem f70_b0_eq (O : Oracle) (L : Loops (Value × Heap)) (k : Ex → K (Value × Heap)) (x0 x1 x2 x3 x4 x5 x6 x7 x8 x9 x10 x11 x12 x13 x14 x15 x16 x17 x18 : Value) (h : Heap) :
    runCode Try.prog O L f70_c0 k [x0, x1, x2, x3, x4, x5, x6, x7, x8, x9, x10, x11, x12, x13, x14, x15, x16, x17, x18] h = f70_b0 O L k x0 x1 x2 x3 x4 x5 x6 x7 x8 x9 x10 x11 x12 x13 x14 x15 x16 x17 x18 h := by kernel_rfl
noncomputable def f70 (O : Oracle) (L : Loops (Value × Heap)) (a0 a1 : Value) (h : Heap) : Option (Value × Heap) :=
  ob ((newB 33 (Value.cells a1).toList .fix) h) fun v0 h0 =>
  ob ((M.ofOpt (lenSl a0)) h0) fun v1 h1 =>
  L (runCode Try.prog O L f70_c0) (f70_k0 O L) [a0, a1, undef, v0, (.int .i64 0), undef, a0, v1, (.int .i64 0), undef, undef, undef, undef, undef, undef, undef, undef, undef, undef] h1
theorem f70_eq (O : Oracle) (L : Loops (Value × Heap)) (a0 a1 : Value) (h : Heap) :
    body Try.prog O L 70 [a0, a1] h = f70 O L a0 a1 h := by kernel_rfl
noncomputable def f71_c0 : Code := sub [1, 0, 1, 0, 0] (fbody Try.prog 71)
noncomputable def f71_k0 (O : Oracle) (L : Loops (Value × Heap)) : Ex → K (Value × Heap) := (blockK 0 (seqK Try.prog O L (sub [1, 1] (fbody Try.prog 71)) (kRet Try.prog Try.f71)))
noncomputable def f71_e0_0 (O : Oracle) (L : Loops (Value × Heap)) (x0 x1 x2 x3 x4 x5 x6 x7 x8 x9 x10 x11 x12 x13 x14 x15 x16 x17 x18 : Value) (h : Heap) : Option (Value × Heap) :=
  some (oneOf [(.int .i64 (-1))], h)
theorem f71_e0_0_eq (O : Oracle) (L : Loops (Value × Heap)) (x0 x1 x2 x3 x4 x5 x6 x7 x8 x9 x10 x11 x12 x13 x14 x15 x16 x17 x18 : Value) (h : Heap) :
    f71_k0 O L (.exit 0) [x0, x1, x2, x3, x4, x5, x6, x7, x8, x9, x10, x11, x12, x13, x14, x15, x16, x17, x18] h = f71_e0_0 O L x0 x1 x2 x3 x4 x5 x6 x7 x8 x9 x10 x11 x12 x13 x14 x15 x16 x17 x18 h := by kernel_rfl
noncomputable def f71_r0 (O : Oracle) (L : Loops (Value × Heap)) (x0 x1 x2 x3 x4 x5 x6 x7 x8 x9 x10 x11 x12 x13 x14 x15 x16 x17 x18 : Value) (h : Heap) : Option (Value × Heap) :=
  some (oneOf [x4], h)
theorem f71_r0_eq (O : Oracle) (L : Loops (Value × Heap)) (x0 x1 x2 x3 x4 x5 x6 x7 x8 x9 x10 x11 x12 x13 x14 x15 x16 x17 x18 : Value) (h : Heap) :
    f71_k0 O L .ret [x0, x1, x2, x3, x4, x5, x6, x7, x8, x9, x10, x11, x12, x13, x14, x15, x16, x17, x18] h = f71_r0 O L x0 x1 x2 x3 x4 x5 x6 x7 x8 x9 x10 x11 x12 x13 x14 x15 x16 x17 x18 h := by kernel_rfl
noncomputable def f71_b0 (O : Oracle) (L : Loops (Value × Heap)) (k : Ex → K (Value × Heap)) (x0 x1 x2 x3 x4 x5 x6 x7 x8 x9 x10 x11 x12 x13 x14 x15 x16 x17 x18 : Value) (h : Heap) : Option (Value × Heap) :=
  ob ((M.ofOpt (bin Try.prog .lss 3 x8 x7)) h) fun v1 h1 =>
  iteV v1 (
  ob ((M.ofOpt (iAddr 1 x0 x8)) h1) fun v2 h2 =>
  ob ((ld1 v2) h2) fun v3 h3 =>
  ob ((callV O x1 [v3]) h3) fun v4 h4 =>
  iteV v4 (
  k .ret [x0, x1, x2, x3, x8, x8, x6, x7, x8, v1, x8, x1, x0, x8, v2, v3, v4, x8, x18] h4) (
  ob ((M.ofOpt (bin Try.prog .add 3 x8 (.int .i64 1))) h4) fun v5 h5 =>
  k .normal [x0, x1, x2, x3, x4, x8, x6, x7, v5, v1, x8, x1, x0, x8, v2, v3, v4, x17, v5] h5)) (
  k (.exit 0) [x0, x1, x2, x3, x4, x5, x6, x7, x8, v1, x10, x11, x12, x13, x14, x15, x16, x17, x18] h1)
theorem f71_b0_eq (O : Oracle) (L : Loops (Value × Heap)) (k : Ex → K (Value × Heap)) (x0 x1 x2 x3 x4 x5 x6 x7 x8 x9 x10 x11 x12 x13 x14 x15 x16 x17 x18 : Value) (h : Heap) :
    runCode Try.prog O L f71_c0 k [x0, x1, x2, x3, x4, x5, x6, x7, x8, x9, x10, x11, x12, x13, x14, x15, x16, x17, x18] h = f71_b0 O L k x0 x1 x2 x3 x4 x5 x6 x7 x8 x9 x10 x11 x12 x13 x14 x15 x16 x17 x18 h := by kernel_rfl
noncomputable def f71 (O : Oracle) (L : Loops (Value × Heap)) (a0 a1 : Value) (h : Heap) : Option (Value × Heap) :=
  ob ((M.ofOpt (lenSl a0)) h) fun v0 h0 =>
  L (runCode Try.prog O L f71_c0) (f71_k0 O L) [a0, a1, undef, undef, (.int .i64 0), undef, a0, v0, (.int .i64 0), undef, undef, undef, undef, undef, undef, undef, undef, undef, undef] h0
theorem f71_eq (O : Oracle) (L : Loops (Value × Heap)) (a0 a1 : Value) (h : Heap) :
    body Try.prog O L 71 [a0, a1] h = f71 O L a0 a1 h := by kernel_rfl
end Go.Proofs.Ytdobnaldfmpimaa

set_option linter.unusedSectionVars false
set_option linter.unusedSimpArgs false
set_option linter.unusedVariables false
set_option maxRecDepth 100000
namespace Go.Proofs.Ytdobnaldfmpimaa
open Go.Abs
theorem sortOk : SortOk Try.prog 44 := ⟨enters_of Try.func44 (by kernel_rfl) rfl, Any.slices_Sort_int_none Try.laysSort, Any.slices_Sort_int Try.laysSort⟩
theorem mix12 : Try.prog.follows .mixedOrders = true := by kernel_rfl
theorem nil_ok : PrimsOk Try.prog (flatPr []) := flatPr_ok mix12 fun g hg => by simp at hg
theorem sort_ok : PrimsOk Try.prog (sortPr [] 44) := sortPr_ok nil_ok sortOk
theorem known12_true : (lvl Try.prog (sortPr [] 44) 300 (.func 16) [] []).map (·.1) = some (.bool true) := by kernel_rfl
abbrev pk12 : Prims := truePr [16] (sortPr [] 44)
theorem known12_ok : PrimsOk Try.prog pk12 := truePr_ok mix12 sort_ok fun g hg => by
  simp at hg
  subst hg
  exact ⟨300, known12_true⟩
theorem pk_no {k : FuncId} (h : (k == 16) = false) (h2 : (k == 44) = false) : pk12 (.func k) = none := truePr_no (by simpa using h) (sortPr_no h2 rfl)
theorem sort_is (n : Nat) (hn : 0 < n) (args : List Value) (H : Heap) : lvl Try.prog pk12 n (.func 44) args H = sortP args H := word_call ((truePr_old (ids := [16]) (pr := sortPr [] 44) rfl).trans sortPr_sort) hn args H
end Go.Proofs.Ytdobnaldfmpimaa

set_option linter.unusedSectionVars false
set_option linter.unusedSimpArgs false
set_option linter.unusedVariables false
set_option maxRecDepth 100000
namespace Go.Proofs.Ytdobnaldfmpimaa
open Go.Abs
theorem szI : Try.prog.cellsOf 3 = 1 := by kernel_rfl
theorem szEdge : Try.prog.cellsOf 33 = 2 := by kernel_rfl
abbrev Ed := Int × Int
def edC (e : Ed) : List Value := [.int .i64 e.1, .int .i64 e.2]
theorem edC_len (e : Ed) : (edC e).length = 2 := rfl
theorem edC_all (e : Ed) : allCells (edC e) = true := rfl
def edV (e : Ed) : Value := .agg ⟨edC e⟩
abbrev Is (H : Heap) (v : Value) (xs : List Int) := Rs inC 3 H v xs
abbrev Iw (H : Heap) (v : Value) (xs : List Int) := Rw inC 3 1 H v xs
abbrev Es (H : Heap) (v : Value) (xs : List Ed) := Rs edC 33 H v xs
abbrev Ew (H : Heap) (v : Value) (xs : List Ed) := Rw edC 33 2 H v xs
def vC (u : Value) : List Value := [u]
theorem vC_len (u : Value) : (vC u).length = 1 := rfl
def Rows (H : Heap) (v : Value) (xss : List (List Int)) : Prop := ∃ us, Rs vC 24 H v us ∧ us.length = xss.length ∧ ∀ (i : Nat) (u : Value) (xs : List Int), us[i]? = some u → xss[i]? = some xs → Is H u xs
theorem Rows.ext {H H' : Heap} {v : Value} {xss : List (List Int)} (h : Rows H v xss) (he : Ext H H') : Rows H' v xss := by
  obtain ⟨us, h1, h2, h3⟩ := h
  exact ⟨us, h1.ext he, h2, fun i u xs hu hx => (h3 i u xs hu hx).ext he⟩
theorem Rows.len {H : Heap} {v : Value} {xss : List (List Int)} (h : Rows H v xss) : lenSl v = some (.int .i64 xss.length) := by
  obtain ⟨us, h1, h2, h3⟩ := h
  rw [h1.len, h2]
theorem Rows.at_ {H : Heap} {v : Value} {xss : List (List Int)} (h : Rows H v xss) {i : Nat} {xs : List Int} (hx : xss[i]? = some xs) (k : IntKind) : ∃ p u, iAddr 1 v (.int k i) = some p ∧ ld1 p H = some (u, H) ∧ Is H u xs := by
  obtain ⟨us, h1, h2, h3⟩ := h
  have hi := (List.getElem?_eq_some_iff.mp hx).1
  have hu : us[i]? = some us[i] := List.getElem?_eq_getElem (by omega)
  obtain ⟨b, o, g1, g2, g3⟩ := h1.at_ vC_len hu k
  have := (g3 H rfl).2.1 0 us[i] rfl
  exact ⟨_, _, g1, this, h3 i _ _ hu hx⟩
structure PlanD where
  nodes : Int
  edges : List Ed
  lanes : Int
  room : Int
  queue : Int
  rounds : Int
  every : Int
  bag : Int
  weights : List Int
  start : Int
  next : List (List Int)
def plC (p : PlanD) (ev wv nv : Value) : List Value := [.int .i64 p.nodes, ev, .int .i64 p.lanes, .int .i64 p.room, .int .i64 p.queue, .int .i64 p.rounds, .int .i64 p.every, .int .i64 p.bag, wv, .int .u16 p.start, nv]
def plV (p : PlanD) (ev wv nv : Value) : Value := .agg ⟨plC p ev wv nv⟩
def plB (p : PlanD) (ev wv nv : Value) : Blk := .cells (plC p ev wv nv) 27 .fix
structure PV (H : Heap) (p : PlanD) (ev wv nv : Value) : Prop where
  e : Es H ev p.edges
  w : Is H wv p.weights
  n : Rows H nv p.next
  be : p.edges.length ≤ 17592186043000
  bw : p.weights.length ≤ 17592186044500
  bn : p.next.length ≤ 17592186043000
theorem PV.ext {H H' : Heap} {p : PlanD} {ev wv nv : Value} (h : PV H p ev wv nv) (he : Ext H H') : PV H' p ev wv nv := ⟨h.e.ext he, h.w.ext he, h.n.ext he, h.be, h.bw, h.bn⟩
theorem plV_cells (p : PlanD) (ev wv nv : Value) : Blk.cells (plV p ev wv nv).cells.toList 27 .fix = plB p ev wv nv := rfl
theorem ld_pl {H : Heap} {b : Nat} {p : PlanD} {ev wv nv : Value} (h : H[b]? = some (plB p ev wv nv)) (j : Nat) (v : Value) (hv : (plC p ev wv nv)[j]? = some v) : ld1 (.pointer (some ⟨b, j, none⟩)) H = some (v, H) := by
  rw [x_ld1, h]
  unfold plB
  rw [x_ldC, hv, x_cell]
theorem ld_pl11 {H : Heap} {b : Nat} {p : PlanD} {ev wv nv : Value} (h : H[b]? = some (plB p ev wv nv)) : ldN 11 (.pointer (some ⟨b, 0, none⟩)) H = some (plV p ev wv nv, H) := by
  rw [x_ldN, h]
  unfold plB
  rw [x_ldNC _ _ _ _ _ (by simp [plC])]
  rfl
theorem at_last (H : Heap) (x : Blk) : (H ++ [x])[H.length]? = some x := by simp
theorem ld_of {H H' : Heap} {b : Nat} {x : Blk} (h : H[b]? = some x) (he : Ext H H') : H'[b]? = some x := by
  rw [he.2 b (List.getElem?_eq_some_iff.mp h).1 id, h]
def wi (x lo hi : Int) : Bool := decide (lo ≤ x) && decide (x ≤ hi)
def numOk (p : PlanD) : Bool := wi p.nodes 2 6 && (wi p.lanes 1 3 && (wi p.room 1 8 && (wi p.queue 1 8 && (wi p.rounds 1 4 && (wi p.every 1 8 && wi p.bag 1 64)))))
section
variable {H : Heap} {m : Nat} {p : PlanD} {ev wv nv : Value}
theorem within_is (hm : 0 < m) (x lo hi : Int) (H : Heap) : lvl Try.prog pk12 m (.func 37) [.int .i64 x, .int .i64 lo, .int .i64 hi] H = some (.bool (wi x lo hi), H) := by
  refine lvl_at (pk_no rfl rfl) hm ?_
  rw [f37_eq]
  unfold f37 wi
  by_cases h : lo ≤ x
  · simp -implicitDefEqProofs only [r_opt, r_ret, ob_some, ifB_true, iteV_true, iteV_false, r_gdt, r_gdt2, r_gdtf, r_gdtf2, r_gdff, r_gdff2, r_gdft, r_gdft2, r_gdu, r_gdu2, pick_t, pick_f, ext_0, ext_1, x_newB, r_nil, r_fAddr, Nat.zero_add, b_lss, b_leq, b_gtr, b_geq, b_eql, b_neq, u_not, Bool.not_true, Bool.not_false, oneOf_one, oneOf_two, again_normal, again_exit, again_ret, Bool.and_true, h, decide_true, Bool.true_and]
  · simp -implicitDefEqProofs only [r_opt, r_ret, ob_some, ifB_true, iteV_true, iteV_false, r_gdt, r_gdt2, r_gdtf, r_gdtf2, r_gdff, r_gdff2, r_gdft, r_gdft2, r_gdu, r_gdu2, pick_t, pick_f, ext_0, ext_1, x_newB, r_nil, r_fAddr, Nat.zero_add, b_lss, b_leq, b_gtr, b_geq, b_eql, b_neq, u_not, Bool.not_true, Bool.not_false, oneOf_one, oneOf_two, again_normal, again_exit, again_ret, Bool.and_true, h, decide_false, Bool.false_and]
theorem numbers_is (hm : 1 < m) (p : PlanD) (ev wv nv : Value) : lvl Try.prog pk12 m (.func 33) [plV p ev wv nv] H = some (.bool (numOk p), H ++ [plB p ev wv nv]) := by
  refine lvl_at (pk_no rfl rfl) (by omega) ?_
  have w := fun x lo hi H => within_is (m := m - 1) (by omega) x lo hi H
  have hb := at_last H (plB p ev wv nv)
  have l0 := ld_pl hb 0 _ rfl
  have l2 := ld_pl hb 2 _ rfl
  have l3 := ld_pl hb 3 _ rfl
  have l4 := ld_pl hb 4 _ rfl
  have l5 := ld_pl hb 5 _ rfl
  have l6 := ld_pl hb 6 _ rfl
  have l7 := ld_pl hb 7 _ rfl
  rw [f33_eq]
  unfold f33 numOk
  cases c1 : wi p.nodes 2 6 with
  | false => simp -implicitDefEqProofs only [r_opt, r_ret, ob_some, ifB_true, iteV_true, iteV_false, r_gdt, r_gdt2, r_gdtf, r_gdtf2, r_gdff, r_gdff2, r_gdft, r_gdft2, r_gdu, r_gdu2, pick_t, pick_f, ext_0, ext_1, x_newB, r_nil, r_fAddr, Nat.zero_add, b_lss, b_leq, b_gtr, b_geq, b_eql, b_neq, u_not, Bool.not_true, Bool.not_false, oneOf_one, oneOf_two, again_normal, again_exit, again_ret, Bool.and_true, plV_cells, w, l0, l2, l3, l4, l5, l6, c1, Bool.false_and, Bool.true_and]
  | true =>
      cases c2 : wi p.lanes 1 3 with
      | false => simp -implicitDefEqProofs only [r_opt, r_ret, ob_some, ifB_true, iteV_true, iteV_false, r_gdt, r_gdt2, r_gdtf, r_gdtf2, r_gdff, r_gdff2, r_gdft, r_gdft2, r_gdu, r_gdu2, pick_t, pick_f, ext_0, ext_1, x_newB, r_nil, r_fAddr, Nat.zero_add, b_lss, b_leq, b_gtr, b_geq, b_eql, b_neq, u_not, Bool.not_true, Bool.not_false, oneOf_one, oneOf_two, again_normal, again_exit, again_ret, Bool.and_true, plV_cells, w, l0, l2, l3, l4, l5, l6, c1, c2, Bool.false_and, Bool.true_and]
      | true =>
          cases c3 : wi p.room 1 8 with
          | false => simp -implicitDefEqProofs only [r_opt, r_ret, ob_some, ifB_true, iteV_true, iteV_false, r_gdt, r_gdt2, r_gdtf, r_gdtf2, r_gdff, r_gdff2, r_gdft, r_gdft2, r_gdu, r_gdu2, pick_t, pick_f, ext_0, ext_1, x_newB, r_nil, r_fAddr, Nat.zero_add, b_lss, b_leq, b_gtr, b_geq, b_eql, b_neq, u_not, Bool.not_true, Bool.not_false, oneOf_one, oneOf_two, again_normal, again_exit, again_ret, Bool.and_true, plV_cells, w, l0, l2, l3, l4, l5, l6, c1, c2, c3, Bool.false_and, Bool.true_and]
          | true =>
              cases c4 : wi p.queue 1 8 with
              | false => simp -implicitDefEqProofs only [r_opt, r_ret, ob_some, ifB_true, iteV_true, iteV_false, r_gdt, r_gdt2, r_gdtf, r_gdtf2, r_gdff, r_gdff2, r_gdft, r_gdft2, r_gdu, r_gdu2, pick_t, pick_f, ext_0, ext_1, x_newB, r_nil, r_fAddr, Nat.zero_add, b_lss, b_leq, b_gtr, b_geq, b_eql, b_neq, u_not, Bool.not_true, Bool.not_false, oneOf_one, oneOf_two, again_normal, again_exit, again_ret, Bool.and_true, plV_cells, w, l0, l2, l3, l4, l5, l6, c1, c2, c3, c4, Bool.false_and, Bool.true_and]
              | true =>
                  cases c5 : wi p.rounds 1 4 with
                  | false => simp -implicitDefEqProofs only [r_opt, r_ret, ob_some, ifB_true, iteV_true, iteV_false, r_gdt, r_gdt2, r_gdtf, r_gdtf2, r_gdff, r_gdff2, r_gdft, r_gdft2, r_gdu, r_gdu2, pick_t, pick_f, ext_0, ext_1, x_newB, r_nil, r_fAddr, Nat.zero_add, b_lss, b_leq, b_gtr, b_geq, b_eql, b_neq, u_not, Bool.not_true, Bool.not_false, oneOf_one, oneOf_two, again_normal, again_exit, again_ret, Bool.and_true, plV_cells, w, l0, l2, l3, l4, l5, l6, c1, c2, c3, c4, c5, Bool.false_and, Bool.true_and]
                  | true =>
                      cases c6 : wi p.every 1 8 with
                      | false => simp -implicitDefEqProofs only [r_opt, r_ret, ob_some, ifB_true, iteV_true, iteV_false, r_gdt, r_gdt2, r_gdtf, r_gdtf2, r_gdff, r_gdff2, r_gdft, r_gdft2, r_gdu, r_gdu2, pick_t, pick_f, ext_0, ext_1, x_newB, r_nil, r_fAddr, Nat.zero_add, b_lss, b_leq, b_gtr, b_geq, b_eql, b_neq, u_not, Bool.not_true, Bool.not_false, oneOf_one, oneOf_two, again_normal, again_exit, again_ret, Bool.and_true, plV_cells, w, l0, l2, l3, l4, l5, l6, c1, c2, c3, c4, c5, c6, Bool.false_and, Bool.true_and]
                      | true =>
                          simp -implicitDefEqProofs only [r_opt, r_ret, ob_some, ifB_true, iteV_true, iteV_false, r_gdt, r_gdt2, r_gdtf, r_gdtf2, r_gdff, r_gdff2, r_gdft, r_gdft2, r_gdu, r_gdu2, pick_t, pick_f, ext_0, ext_1, x_newB, r_nil, r_fAddr, Nat.zero_add, b_lss, b_leq, b_gtr, b_geq, b_eql, b_neq, u_not, Bool.not_true, Bool.not_false, oneOf_one, oneOf_two, again_normal, again_exit, again_ret, Bool.and_true, plV_cells, w, l0, l2, l3, l4, l5, l6, l7, c1, c2, c3, c4, c5, c6, Bool.true_and]
def fst (p : Nat → Bool) : Nat → Nat → Int
  | 0, _ => -1
  | q + 1, i => if p i = true then i else fst p q (i + 1)
theorem fst_pos (p : Nat → Bool) : ∀ q i, (0 ≤ fst p q i) ↔ ∃ j, i ≤ j ∧ j < i + q ∧ p j = true
  | 0, i => by simp [fst]; omega
  | q + 1, i => by
    unfold fst
    by_cases h : p i = true
    · rw [if_pos h]
      exact ⟨fun _ => ⟨i, by omega, by omega, h⟩, fun _ => by omega⟩
    · rw [if_neg h, fst_pos p q (i + 1)]
      constructor
      · rintro ⟨j, h1, h2, h3⟩
        exact ⟨j, by omega, by omega, h3⟩
      · rintro ⟨j, h1, h2, h3⟩
        have : j ≠ i := fun hh => h (hh ▸ h3)
        exact ⟨j, by omega, by omega, h3⟩
theorem fst_any (p : Nat → Bool) (n : Nat) : decide (0 ≤ fst p n 0) = (List.range n).any p := by
  rw [Bool.eq_iff_iff, decide_eq_true_iff, fst_pos, List.any_eq_true]
  constructor
  · rintro ⟨j, h1, h2, h3⟩
    exact ⟨j, List.mem_range.mpr (by omega), h3⟩
  · rintro ⟨j, h1, h2⟩
    exact ⟨j, by omega, by have := List.mem_range.mp h1; omega, h2⟩
theorem any_range {α : Type} (xs : List α) (q : α → Bool) (p : Nat → Bool) (h : ∀ i x, xs[i]? = some x → p i = q x) : (List.range xs.length).any p = xs.any q := by
  rw [Bool.eq_iff_iff, List.any_eq_true, List.any_eq_true]
  constructor
  · rintro ⟨i, h1, h2⟩
    have hi := List.mem_range.mp h1
    have hx : xs[i]? = some xs[i] := List.getElem?_eq_getElem hi
    exact ⟨xs[i], List.getElem_mem hi, by rw [← h i _ hx]; exact h2⟩
  · rintro ⟨x, h1, h2⟩
    obtain ⟨i, hi⟩ := List.getElem?_of_mem h1
    exact ⟨i, List.mem_range.mpr (List.getElem?_eq_some_iff.mp hi).1, by rw [h i x hi]; exact h2⟩
theorem ifI_loop {v fv : Value} {n : Nat} (p : Nat → Bool) (hd : ∀ i, i < n → ∃ a u, iAddr 1 v (.int .i64 (i : Nat)) = some a ∧ ld1 a H = some (u, H) ∧ callV (lvl Try.prog pk12 m) fv [u] H = some (.bool (p i), H)) (hn : n ≤ 72057594037927936) : ∀ (q i k : Nat), n - i = q → i ≤ n → q < k → ∀ (x2 x3 x4 x5 x6 x9 x10 x11 x12 x13 x14 x15 x16 x17 x18 : Value),
    loopN k (runCode Try.prog (lvl Try.prog pk12 m) (loopN m) f71_c0) (f71_k0 (lvl Try.prog pk12 m) (loopN m)) [v, fv, x2, x3, x4, x5, x6, (.int .i64 n), (.int .i64 (i : Nat)), x9, x10, x11, x12, x13, x14, x15, x16, x17, x18] H = some (.int .i64 (fst p q i), H) := by
  intro q
  induction q with
  | zero =>
    intro i k hr hi hk
    intros
    obtain ⟨k, rfl⟩ : ∃ n, k = n + 1 := ⟨k - 1, by omega⟩
    obtain rfl : i = n := by omega
    have e : decide ((i : Int) < i) = false := by simp
    rw [loop_succ, f71_b0_eq]
    unfold f71_b0
    simp -implicitDefEqProofs only [r_opt, r_ret, ob_some, ifB_true, iteV_true, iteV_false, r_gdt, r_gdt2, r_gdtf, r_gdtf2, r_gdff, r_gdff2, r_gdft, r_gdft2, r_gdu, r_gdu2, pick_t, pick_f, ext_0, ext_1, x_newB, r_nil, r_fAddr, Nat.zero_add, b_lss, b_leq, b_gtr, b_geq, b_eql, b_neq, u_not, Bool.not_true, Bool.not_false, oneOf_one, oneOf_two, again_normal, again_exit, again_ret, Bool.and_true, e]
    rw [f71_e0_0_eq]
    rfl
  | succ q ih =>
    intro i k hr hi hk
    intros
    obtain ⟨k, rfl⟩ : ∃ n, k = n + 1 := ⟨k - 1, by omega⟩
    have e : decide ((i : Int) < n) = true := by simp; omega
    have e3 : IntKind.i64.wrap ((i : Int) + 1) = ((i + 1 : Nat) : Int) := by rw [wrap_i64 (by omega) (by omega)]; omega
    obtain ⟨a, u, g1, g2, g3⟩ := hd i (by omega)
    rw [loop_succ, f71_b0_eq]
    unfold f71_b0 fst
    cases h : p i with
    | true =>
      rw [h] at g3
      simp -implicitDefEqProofs only [r_opt, r_ret, ob_some, ifB_true, iteV_true, iteV_false, r_gdt, r_gdt2, r_gdtf, r_gdtf2, r_gdff, r_gdff2, r_gdft, r_gdft2, r_gdu, r_gdu2, pick_t, pick_f, ext_0, ext_1, x_newB, r_nil, r_fAddr, Nat.zero_add, b_lss, b_leq, b_gtr, b_geq, b_eql, b_neq, u_not, Bool.not_true, Bool.not_false, oneOf_one, oneOf_two, again_normal, again_exit, again_ret, Bool.and_true, e, g1, g2, g3, if_true]
      rw [f71_r0_eq]
      rfl
    | false =>
      rw [h] at g3
      simp -implicitDefEqProofs only [r_opt, r_ret, ob_some, ifB_true, iteV_true, iteV_false, r_gdt, r_gdt2, r_gdtf, r_gdtf2, r_gdff, r_gdff2, r_gdft, r_gdft2, r_gdu, r_gdu2, pick_t, pick_f, ext_0, ext_1, x_newB, r_nil, r_fAddr, Nat.zero_add, b_lss, b_leq, b_gtr, b_geq, b_eql, b_neq, u_not, Bool.not_true, Bool.not_false, oneOf_one, oneOf_two, again_normal, again_exit, again_ret, Bool.and_true, e, g1, g2, g3, b_add, e3, Bool.false_eq_true, if_false]
      exact ih (i + 1) k (by omega) (by omega) (by omega) ..
theorem cfI_is {v fv : Value} {n : Nat} (p : Nat → Bool) (hl : lenSl v = some (.int .i64 n)) (hn : n + 10 < m) (hm : m ≤ 72057594037927936) (hd : ∀ i, i < n → ∃ a u, iAddr 1 v (.int .i64 (i : Nat)) = some a ∧ ld1 a H = some (u, H) ∧ callV (lvl Try.prog pk12 (m - 1 - 1)) fv [u] H = some (.bool (p i), H)) :
    lvl Try.prog pk12 m (.func 57) [v, fv] H = some (.bool ((List.range n).any p), H) := by
  have g : lvl Try.prog pk12 (m - 1) (.func 71) [v, fv] H = some (.int .i64 (fst p n 0), H) := by
    refine lvl_at (pk_no rfl rfl) (by omega) ?_
    rw [f71_eq]
    unfold f71
    simp -implicitDefEqProofs only [r_opt, r_ret, ob_some, ifB_true, iteV_true, iteV_false, r_gdt, r_gdt2, r_gdtf, r_gdtf2, r_gdff, r_gdff2, r_gdft, r_gdft2, r_gdu, r_gdu2, pick_t, pick_f, ext_0, ext_1, x_newB, r_nil, r_fAddr, Nat.zero_add, b_lss, b_leq, b_gtr, b_geq, b_eql, b_neq, u_not, Bool.not_true, Bool.not_false, oneOf_one, oneOf_two, again_normal, again_exit, again_ret, Bool.and_true, hl]
    exact ifI_loop p hd (by omega) n 0 (m - 1 - 1) (by omega) (by omega) (by omega) ..
  refine lvl_at (pk_no rfl rfl) (by omega) ?_
  rw [f57_eq]
  unfold f57
  simp -implicitDefEqProofs only [r_opt, r_ret, ob_some, ifB_true, iteV_true, iteV_false, r_gdt, r_gdt2, r_gdtf, r_gdtf2, r_gdff, r_gdff2, r_gdft, r_gdft2, r_gdu, r_gdu2, pick_t, pick_f, ext_0, ext_1, x_newB, r_nil, r_fAddr, Nat.zero_add, b_lss, b_leq, b_gtr, b_geq, b_eql, b_neq, u_not, Bool.not_true, Bool.not_false, oneOf_one, oneOf_two, again_normal, again_exit, again_ret, Bool.and_true, g, fst_any]
theorem ifR_loop {v fv : Value} {n : Nat} (p : Nat → Bool) (hd : ∀ i, i < n → ∃ a u, iAddr 1 v (.int .i64 (i : Nat)) = some a ∧ ld1 a H = some (u, H) ∧ callV (lvl Try.prog pk12 m) fv [u] H = some (.bool (p i), H)) (hn : n ≤ 72057594037927936) : ∀ (q i k : Nat), n - i = q → i ≤ n → q < k → ∀ (x2 x3 x4 x5 x6 x9 x10 x11 x12 x13 x14 x15 x16 x17 x18 : Value),
    loopN k (runCode Try.prog (lvl Try.prog pk12 m) (loopN m) f59_c0) (f59_k0 (lvl Try.prog pk12 m) (loopN m)) [v, fv, x2, x3, x4, x5, x6, (.int .i64 n), (.int .i64 (i : Nat)), x9, x10, x11, x12, x13, x14, x15, x16, x17, x18] H = some (.int .i64 (fst p q i), H) := by
  intro q
  induction q with
  | zero =>
    intro i k hr hi hk
    intros
    obtain ⟨k, rfl⟩ : ∃ n, k = n + 1 := ⟨k - 1, by omega⟩
    obtain rfl : i = n := by omega
    have e : decide ((i : Int) < i) = false := by simp
    rw [loop_succ, f59_b0_eq]
    unfold f59_b0
    simp -implicitDefEqProofs only [r_opt, r_ret, ob_some, ifB_true, iteV_true, iteV_false, r_gdt, r_gdt2, r_gdtf, r_gdtf2, r_gdff, r_gdff2, r_gdft, r_gdft2, r_gdu, r_gdu2, pick_t, pick_f, ext_0, ext_1, x_newB, r_nil, r_fAddr, Nat.zero_add, b_lss, b_leq, b_gtr, b_geq, b_eql, b_neq, u_not, Bool.not_true, Bool.not_false, oneOf_one, oneOf_two, again_normal, again_exit, again_ret, Bool.and_true, e]
    rw [f59_e0_0_eq]
    rfl
  | succ q ih =>
    intro i k hr hi hk
    intros
    obtain ⟨k, rfl⟩ : ∃ n, k = n + 1 := ⟨k - 1, by omega⟩
    have e : decide ((i : Int) < n) = true := by simp; omega
    have e3 : IntKind.i64.wrap ((i : Int) + 1) = ((i + 1 : Nat) : Int) := by rw [wrap_i64 (by omega) (by omega)]; omega
    obtain ⟨a, u, g1, g2, g3⟩ := hd i (by omega)
    rw [loop_succ, f59_b0_eq]
    unfold f59_b0 fst
    cases h : p i with
    | true =>
      rw [h] at g3
      simp -implicitDefEqProofs only [r_opt, r_ret, ob_some, ifB_true, iteV_true, iteV_false, r_gdt, r_gdt2, r_gdtf, r_gdtf2, r_gdff, r_gdff2, r_gdft, r_gdft2, r_gdu, r_gdu2, pick_t, pick_f, ext_0, ext_1, x_newB, r_nil, r_fAddr, Nat.zero_add, b_lss, b_leq, b_gtr, b_geq, b_eql, b_neq, u_not, Bool.not_true, Bool.not_false, oneOf_one, oneOf_two, again_normal, again_exit, again_ret, Bool.and_true, e, g1, g2, g3, if_true]
      rw [f59_r0_eq]
      rfl
    | false =>
      rw [h] at g3
      simp -implicitDefEqProofs only [r_opt, r_ret, ob_some, ifB_true, iteV_true, iteV_false, r_gdt, r_gdt2, r_gdtf, r_gdtf2, r_gdff, r_gdff2, r_gdft, r_gdft2, r_gdu, r_gdu2, pick_t, pick_f, ext_0, ext_1, x_newB, r_nil, r_fAddr, Nat.zero_add, b_lss, b_leq, b_gtr, b_geq, b_eql, b_neq, u_not, Bool.not_true, Bool.not_false, oneOf_one, oneOf_two, again_normal, again_exit, again_ret, Bool.and_true, e, g1, g2, g3, b_add, e3, Bool.false_eq_true, if_false]
      exact ih (i + 1) k (by omega) (by omega) (by omega) ..
theorem cfR_is {v fv : Value} {n : Nat} (p : Nat → Bool) (hl : lenSl v = some (.int .i64 n)) (hn : n + 10 < m) (hm : m ≤ 72057594037927936) (hd : ∀ i, i < n → ∃ a u, iAddr 1 v (.int .i64 (i : Nat)) = some a ∧ ld1 a H = some (u, H) ∧ callV (lvl Try.prog pk12 (m - 1 - 1)) fv [u] H = some (.bool (p i), H)) :
    lvl Try.prog pk12 m (.func 36) [v, fv] H = some (.bool ((List.range n).any p), H) := by
  have g : lvl Try.prog pk12 (m - 1) (.func 59) [v, fv] H = some (.int .i64 (fst p n 0), H) := by
    refine lvl_at (pk_no rfl rfl) (by omega) ?_
    rw [f59_eq]
    unfold f59
    simp -implicitDefEqProofs only [r_opt, r_ret, ob_some, ifB_true, iteV_true, iteV_false, r_gdt, r_gdt2, r_gdtf, r_gdtf2, r_gdff, r_gdff2, r_gdft, r_gdft2, r_gdu, r_gdu2, pick_t, pick_f, ext_0, ext_1, x_newB, r_nil, r_fAddr, Nat.zero_add, b_lss, b_leq, b_gtr, b_geq, b_eql, b_neq, u_not, Bool.not_true, Bool.not_false, oneOf_one, oneOf_two, again_normal, again_exit, again_ret, Bool.and_true, hl]
    exact ifR_loop p hd (by omega) n 0 (m - 1 - 1) (by omega) (by omega) (by omega) ..
  refine lvl_at (pk_no rfl rfl) (by omega) ?_
  rw [f36_eq]
  unfold f36
  simp -implicitDefEqProofs only [r_opt, r_ret, ob_some, ifB_true, iteV_true, iteV_false, r_gdt, r_gdt2, r_gdtf, r_gdtf2, r_gdff, r_gdff2, r_gdft, r_gdft2, r_gdu, r_gdu2, pick_t, pick_f, ext_0, ext_1, x_newB, r_nil, r_fAddr, Nat.zero_add, b_lss, b_leq, b_gtr, b_geq, b_eql, b_neq, u_not, Bool.not_true, Bool.not_false, oneOf_one, oneOf_two, again_normal, again_exit, again_ret, Bool.and_true, g, fst_any]
theorem eEdge (a b : Ed) : bin Try.prog .eql 33 (edV a) (edV b) = some (.bool (a == b)) := by
  have k : kindsOf Try.prog 33 = some [true, true] := by kernel_rfl
  obtain ⟨a1, a2⟩ := a
  obtain ⟨b1, b2⟩ := b
  simp [bin, edV, flat, eqAny, k, eqT, edC]
  rfl
theorem ixE_loop {v : Value} {xs : List Ed} {a : Nat} {y : Ed} (hx : Es H v xs) (ha : H[a]? = some (.cells (edC y) 33 .fix)) (hn : xs.length ≤ 72057594037927936) : ∀ (q i k : Nat), xs.length - i = q → i ≤ xs.length → q < k → ∀ (x1 x2 x4 x5 x6 x9 x10 x11 x12 x13 x14 x15 x16 x17 x18 : Value),
    loopN k (runCode Try.prog (lvl Try.prog pk12 m) (loopN m) f70_c0) (f70_k0 (lvl Try.prog pk12 m) (loopN m)) [v, x1, x2, (.pointer (some ⟨a, 0, none⟩)), x4, x5, x6, (.int .i64 xs.length), (.int .i64 (i : Nat)), x9, x10, x11, x12, x13, x14, x15, x16, x17, x18] H = some (.int .i64 (fst (fun j => xs[j]? == some y) q i), H) := by
  intro q
  have la : ldN 2 (.pointer (some ⟨a, 0, none⟩)) H = some (edV y, H) := by
    rw [x_ldN, ha, x_ldNC _ _ _ _ _ (by simp [edC])]
    rfl
  induction q with
  | zero =>
    intro i k hr hi hk
    intros
    obtain ⟨k, rfl⟩ : ∃ n, k = n + 1 := ⟨k - 1, by omega⟩
    obtain rfl : i = xs.length := by omega
    have e : decide ((xs.length : Int) < xs.length) = false := by simp
    rw [loop_succ, f70_b0_eq]
    unfold f70_b0
    simp -implicitDefEqProofs only [r_opt, r_ret, ob_some, ifB_true, iteV_true, iteV_false, r_gdt, r_gdt2, r_gdtf, r_gdtf2, r_gdff, r_gdff2, r_gdft, r_gdft2, r_gdu, r_gdu2, pick_t, pick_f, ext_0, ext_1, x_newB, r_nil, r_fAddr, Nat.zero_add, b_lss, b_leq, b_gtr, b_geq, b_eql, b_neq, u_not, Bool.not_true, Bool.not_false, oneOf_one, oneOf_two, again_normal, again_exit, again_ret, Bool.and_true, e]
    rw [f70_e0_0_eq]
    rfl
  | succ q ih =>
    intro i k hr hi hk
    intros
    obtain ⟨k, rfl⟩ : ∃ n, k = n + 1 := ⟨k - 1, by omega⟩
    have e : decide ((i : Int) < xs.length) = true := by simp; omega
    have e3 : IntKind.i64.wrap ((i : Int) + 1) = ((i + 1 : Nat) : Int) := by rw [wrap_i64 (by omega) (by omega)]; omega
    have hxi : xs[i]? = some xs[i] := List.getElem?_eq_getElem (by omega)
    obtain ⟨b, o, g1, g2, g3⟩ := hx.at_ edC_len hxi .i64
    have l1 : ldN 2 (.pointer (some ⟨b, o, none⟩)) H = some (edV xs[i], H) := (g3 H rfl).1
    rw [loop_succ, f70_b0_eq]
    unfold f70_b0 fst
    by_cases h : y = xs[i]
    · have d : (y == xs[i]) = true := by rw [h]; simp
      have d2 : (xs[i]? == some y) = true := by rw [hxi, h]; simp
      simp -implicitDefEqProofs only [r_opt, r_ret, ob_some, ifB_true, iteV_true, iteV_false, r_gdt, r_gdt2, r_gdtf, r_gdtf2, r_gdff, r_gdff2, r_gdft, r_gdft2, r_gdu, r_gdu2, pick_t, pick_f, ext_0, ext_1, x_newB, r_nil, r_fAddr, Nat.zero_add, b_lss, b_leq, b_gtr, b_geq, b_eql, b_neq, u_not, Bool.not_true, Bool.not_false, oneOf_one, oneOf_two, again_normal, again_exit, again_ret, Bool.and_true, e, la, g1, l1, eEdge, d]
      rw [f70_r0_eq, if_pos d2]
      rfl
    · have d : (y == xs[i]) = false := by simpa using h
      have d2 : ¬ (xs[i]? == some y) = true := by rw [hxi]; simpa using fun hh => h hh.symm
      simp -implicitDefEqProofs only [r_opt, r_ret, ob_some, ifB_true, iteV_true, iteV_false, r_gdt, r_gdt2, r_gdtf, r_gdtf2, r_gdff, r_gdff2, r_gdft, r_gdft2, r_gdu, r_gdu2, pick_t, pick_f, ext_0, ext_1, x_newB, r_nil, r_fAddr, Nat.zero_add, b_lss, b_leq, b_gtr, b_geq, b_eql, b_neq, u_not, Bool.not_true, Bool.not_false, oneOf_one, oneOf_two, again_normal, again_exit, again_ret, Bool.and_true, e, la, g1, l1, eEdge, d, b_add, e3]
      rw [if_neg d2]
      exact ih (i + 1) k (by omega) (by omega) (by omega) ..
theorem hasE_is {v : Value} {xs : List Ed} (hx : Es H v xs) (y : Ed) (hn : xs.length + 10 < m) (hm : m ≤ 72057594037927936) : ∃ H', lvl Try.prog pk12 m (.func 55) [v, edV y] H = some (.bool (xs.any fun x => x == y), H') ∧ Ext H H' := by
  have c : Blk.cells (edV y).cells.toList 33 .fix = .cells (edC y) 33 .fix := rfl
  have b0 := at_last H (.cells (edC y) 33 .fix)
  have l0 : ldN 2 (.pointer (some ⟨H.length, 0, none⟩)) (H ++ [.cells (edC y) 33 .fix]) = some (edV y, H ++ [.cells (edC y) 33 .fix]) := by
    rw [x_ldN, b0, x_ldNC _ _ _ _ _ (by simp [edC])]
    rfl
  obtain ⟨H1, hH1⟩ : ∃ H1, H1 = H ++ [Blk.cells (edC y) 33 .fix] := ⟨_, rfl⟩
  have x1 : Ext H H1 := by rw [hH1]; exact Fr.app _ _ _
  have x2 : Ext H (H1 ++ [.cells (edC y) 33 .fix]) := x1.tr (Fr.app _ _ _)
  have hx2 := hx.ext x2
  have hlen := hx.len
  have g : lvl Try.prog pk12 (m - 1) (.func 70) [v, edV y] H1 = some (.int .i64 (fst (fun j => xs[j]? == some y) xs.length 0), H1 ++ [.cells (edC y) 33 .fix]) := by
    refine lvl_at (pk_no rfl rfl) (by omega) ?_
    rw [f70_eq]
    unfold f70
    simp -implicitDefEqProofs only [r_opt, r_ret, ob_some, ifB_true, iteV_true, iteV_false, r_gdt, r_gdt2, r_gdtf, r_gdtf2, r_gdff, r_gdff2, r_gdft, r_gdft2, r_gdu, r_gdu2, pick_t, pick_f, ext_0, ext_1, x_newB, r_nil, r_fAddr, Nat.zero_add, b_lss, b_leq, b_gtr, b_geq, b_eql, b_neq, u_not, Bool.not_true, Bool.not_false, oneOf_one, oneOf_two, again_normal, again_exit, again_ret, Bool.and_true, c, hlen]
    exact ixE_loop hx2 (at_last H1 _) (by omega) xs.length 0 (m - 1 - 1) (by omega) (by omega) (by omega) ..
  refine ⟨_, lvl_at (pk_no rfl rfl) (by omega) ?_, x2⟩
  rw [f55_eq]
  unfold f55
  have hb : decide (0 ≤ fst (fun j => xs[j]? == some y) xs.length 0) = xs.any fun x => x == y := by
    rw [fst_any]
    exact any_range xs _ _ fun i x h => by rw [h]; rfl
  rw [← hH1] at l0
  simp -implicitDefEqProofs only [r_opt, r_ret, ob_some, ifB_true, iteV_true, iteV_false, r_gdt, r_gdt2, r_gdtf, r_gdtf2, r_gdff, r_gdff2, r_gdft, r_gdft2, r_gdu, r_gdu2, pick_t, pick_f, ext_0, ext_1, x_newB, r_nil, r_fAddr, Nat.zero_add, b_lss, b_leq, b_gtr, b_geq, b_eql, b_neq, u_not, Bool.not_true, Bool.not_false, oneOf_one, oneOf_two, again_normal, again_exit, again_ret, Bool.and_true, c, ← hH1, l0, g, hb]
def edOk (n : Int) : List Ed → List Ed → Bool
  | _, [] => true
  | old, e :: r => (!(decide (e.1 < 0) || (decide (e.2 ≤ e.1) || (decide (n ≤ e.2) || old.any fun x => x == e)))) && edOk n (old ++ [e]) r
def edgesOk (p : PlanD) : Bool := edOk p.nodes [] p.edges && decide ((p.edges.length : Int) ≤ 15)
theorem edges_loop {a : Nat} (hx : Es H ev p.edges) (hn : p.edges.length + 20 < m) (hm : m ≤ 72057594037927936) : ∀ (q i k : Nat) (H' : Heap), p.edges.length - i = q → i ≤ p.edges.length → q < k → Ext H H' → H'[a]? = some (plB p ev wv nv) → ∀ (x0 x3 x4 x5 x9 x10 x11 x12 x13 x14 x15 x16 x17 x18 x19 x20 x21 x22 x23 x24 x25 x26 x27 x28 x29 x30 x31 x32 x33 x34 x35 x36 x37 x38 x39 x40 x41 x42 : Value),
    ∃ H2, loopN k (runCode Try.prog (lvl Try.prog pk12 m) (loopN m) f34_c0) (f34_k0 (lvl Try.prog pk12 m) (loopN m)) [x0, (.pointer (some ⟨a, 0, none⟩)), (.bool false), x3, x4, x5, ev, (.int .i64 p.edges.length), (.int .i64 (i : Nat)), x9, x10, x11, x12, x13, x14, x15, x16, x17, x18, x19, x20, x21, x22, x23, x24, x25, x26, x27, x28, x29, x30, x31, x32, x33, x34, x35, x36, x37, x38, x39, x40, x41, x42] H' = some (.bool (edOk p.nodes (p.edges.take i) (p.edges.drop i) && decide ((p.edges.length : Int) ≤ 15)), H2) ∧ Ext H H2 := by
  intro q
  induction q with
  | zero =>
    intro i k H' hr hi hk he ha
    intros
    obtain ⟨k, rfl⟩ : ∃ n, k = n + 1 := ⟨k - 1, by omega⟩
    obtain rfl : i = p.edges.length := by omega
    have e : decide ((p.edges.length : Int) < p.edges.length) = false := by simp
    have l1 := ld_pl ha 1 _ rfl
    have hlen := hx.len
    refine ⟨H', ?_, he⟩
    rw [loop_succ, f34_b0_eq]
    unfold f34_b0
    simp -implicitDefEqProofs only [r_opt, r_ret, ob_some, ifB_true, iteV_true, iteV_false, r_gdt, r_gdt2, r_gdtf, r_gdtf2, r_gdff, r_gdff2, r_gdft, r_gdft2, r_gdu, r_gdu2, pick_t, pick_f, ext_0, ext_1, x_newB, r_nil, r_fAddr, Nat.zero_add, b_lss, b_leq, b_gtr, b_geq, b_eql, b_neq, u_not, Bool.not_true, Bool.not_false, oneOf_one, oneOf_two, again_normal, again_exit, again_ret, Bool.and_true, e]
    rw [f34_e0_0_eq]
    unfold f34_e0_0
    rw [List.drop_length, edOk, Bool.true_and]
    simp -implicitDefEqProofs only [r_opt, r_ret, ob_some, ifB_true, iteV_true, iteV_false, r_gdt, r_gdt2, r_gdtf, r_gdtf2, r_gdff, r_gdff2, r_gdft, r_gdft2, r_gdu, r_gdu2, pick_t, pick_f, ext_0, ext_1, x_newB, r_nil, r_fAddr, Nat.zero_add, b_lss, b_leq, b_gtr, b_geq, b_eql, b_neq, u_not, Bool.not_true, Bool.not_false, oneOf_one, oneOf_two, again_normal, again_exit, again_ret, Bool.and_true, l1, hlen]
  | succ q ih =>
    intro i k H' hr hi hk he ha
    intros
    obtain ⟨k, rfl⟩ : ∃ n, k = n + 1 := ⟨k - 1, by omega⟩
    have e : decide ((i : Int) < p.edges.length) = true := by simp; omega
    have e3 : IntKind.i64.wrap ((i : Int) + 1) = ((i + 1 : Nat) : Int) := by rw [wrap_i64 (by omega) (by omega)]; omega
    have hxi : p.edges[i]? = some p.edges[i] := List.getElem?_eq_getElem (by omega)
    obtain ⟨b, o, g1, g2, g3⟩ := (hx.ext he).at_ edC_len hxi .i64
    obtain ⟨y, hy⟩ : ∃ y, y = p.edges[i] := ⟨_, rfl⟩
    have l1 : ldN 2 (.pointer (some ⟨b, o, none⟩)) H' = some (edV y, H') := by rw [hy]; exact (g3 H' rfl).1
    have hdrop : p.edges.drop i = y :: p.edges.drop (i + 1) := by rw [hy]; exact List.drop_eq_getElem_cons (by omega)
    have htake : p.edges.take i ++ [y] = p.edges.take (i + 1) := by rw [List.take_add_one, hxi, hy]; rfl
    have z : Blk.cells [Value.int .i64 0, .int .i64 0] 33 .fix = .cells (edC (0, 0)) 33 .fix := rfl
    have st : stN 2 (.pointer (some ⟨H'.length, 0, none⟩)) (edV y) (H' ++ [.cells (edC (0, 0)) 33 .fix]) = some (undef, H' ++ [.cells (edC y) 33 .fix]) := by
      rw [x_stN 2 _ _ _ rfl, at_last, x_stC _ _ _ _ _ _ (by decide) (by simp [edC, edV, Value.cells]) rfl]
      simp [edC, edV, Value.cells, setCells]
    obtain ⟨H1, hH1⟩ : ∃ H1, H1 = H' ++ [Blk.cells (edC y) 33 .fix] := ⟨_, rfl⟩
    rw [← hH1] at st
    have x1 : Ext H' H1 := by rw [hH1]; exact Fr.app _ _ _
    have hb1 : H1[H'.length]? = some (.cells (edC y) 33 .fix) := by rw [hH1]; exact at_last _ _
    have la : ld1 (.pointer (some ⟨H'.length, 0, none⟩)) H1 = some (.int .i64 y.1, H1) := by rw [x_ld1, hb1]; rfl
    have lb : ld1 (.pointer (some ⟨H'.length, 1, none⟩)) H1 = some (.int .i64 y.2, H1) := by rw [x_ld1, hb1]; rfl
    have lab : ldN 2 (.pointer (some ⟨H'.length, 0, none⟩)) H1 = some (edV y, H1) := by
      rw [x_ldN, hb1, x_ldNC _ _ _ _ _ (by simp [edC])]
      rfl
    have ha1 := ld_of ha x1
    have p0 := ld_pl ha1 0 _ rfl
    have p1 := ld_pl ha1 1 _ rfl
    obtain ⟨v', s1, s2, s3⟩ := ((hx.ext he).ext x1).sub (P := Try.prog) edC_len szEdge (fun h => by have := congrArg List.length h; simp only [List.length_nil] at this; omega) (lo := none) rfl (bnd_nat p.edges.length .i64 i) (Nat.zero_le _) (by omega)
    rw [List.drop_zero] at s2
    obtain ⟨H2, t1, t2⟩ := hasE_is s2 y (m := m) (by rw [List.length_take]; omega) hm
    rw [loop_succ, f34_b0_eq, hdrop, edOk, htake]
    unfold f34_b0
    by_cases c1 : y.1 < 0
    · refine ⟨H1, ?_, he.tr x1⟩
      simp -implicitDefEqProofs only [r_opt, r_ret, ob_some, ifB_true, iteV_true, iteV_false, r_gdt, r_gdt2, r_gdtf, r_gdtf2, r_gdff, r_gdff2, r_gdft, r_gdft2, r_gdu, r_gdu2, pick_t, pick_f, ext_0, ext_1, x_newB, r_nil, r_fAddr, Nat.zero_add, b_lss, b_leq, b_gtr, b_geq, b_eql, b_neq, u_not, Bool.not_true, Bool.not_false, oneOf_one, oneOf_two, again_normal, again_exit, again_ret, Bool.and_true, e, g1, l1, z, st, la, lb, c1, decide_true, Bool.true_or, Bool.false_and]
      rw [f34_r0_eq]
      rfl
    · by_cases c2 : y.2 ≤ y.1
      · refine ⟨H1, ?_, he.tr x1⟩
        simp -implicitDefEqProofs only [r_opt, r_ret, ob_some, ifB_true, iteV_true, iteV_false, r_gdt, r_gdt2, r_gdtf, r_gdtf2, r_gdff, r_gdff2, r_gdft, r_gdft2, r_gdu, r_gdu2, pick_t, pick_f, ext_0, ext_1, x_newB, r_nil, r_fAddr, Nat.zero_add, b_lss, b_leq, b_gtr, b_geq, b_eql, b_neq, u_not, Bool.not_true, Bool.not_false, oneOf_one, oneOf_two, again_normal, again_exit, again_ret, Bool.and_true, e, g1, l1, z, st, la, lb, c1, c2, decide_true, decide_false, Bool.false_or, Bool.true_or, Bool.false_and]
        rw [f34_r0_eq]
        rfl
      · by_cases c3 : p.nodes ≤ y.2
        · refine ⟨H1, ?_, he.tr x1⟩
          simp -implicitDefEqProofs only [r_opt, r_ret, ob_some, ifB_true, iteV_true, iteV_false, r_gdt, r_gdt2, r_gdtf, r_gdtf2, r_gdff, r_gdff2, r_gdft, r_gdft2, r_gdu, r_gdu2, pick_t, pick_f, ext_0, ext_1, x_newB, r_nil, r_fAddr, Nat.zero_add, b_lss, b_leq, b_gtr, b_geq, b_eql, b_neq, u_not, Bool.not_true, Bool.not_false, oneOf_one, oneOf_two, again_normal, again_exit, again_ret, Bool.and_true, e, g1, l1, z, st, la, lb, p0, c1, c2, c3, decide_true, decide_false, Bool.false_or, Bool.true_or, Bool.false_and]
          rw [f34_r0_eq]
          rfl
        · cases c4 : (p.edges.take i).any fun x => x == y with
          | true =>
            rw [c4] at t1
            refine ⟨H2, ?_, (he.tr x1).tr t2⟩
            simp -implicitDefEqProofs only [r_opt, r_ret, ob_some, ifB_true, iteV_true, iteV_false, r_gdt, r_gdt2, r_gdtf, r_gdtf2, r_gdff, r_gdff2, r_gdft, r_gdft2, r_gdu, r_gdu2, pick_t, pick_f, ext_0, ext_1, x_newB, r_nil, r_fAddr, Nat.zero_add, b_lss, b_leq, b_gtr, b_geq, b_eql, b_neq, u_not, Bool.not_true, Bool.not_false, oneOf_one, oneOf_two, again_normal, again_exit, again_ret, Bool.and_true, e, g1, l1, z, st, la, lb, lab, p0, p1, s1, t1, c1, c2, c3, decide_true, decide_false, Bool.false_or, Bool.false_and]
            rw [f34_r0_eq]
            rfl
          | false =>
            rw [c4] at t1
            simp -implicitDefEqProofs only [r_opt, r_ret, ob_some, ifB_true, iteV_true, iteV_false, r_gdt, r_gdt2, r_gdtf, r_gdtf2, r_gdff, r_gdff2, r_gdft, r_gdft2, r_gdu, r_gdu2, pick_t, pick_f, ext_0, ext_1, x_newB, r_nil, r_fAddr, Nat.zero_add, b_lss, b_leq, b_gtr, b_geq, b_eql, b_neq, u_not, Bool.not_true, Bool.not_false, oneOf_one, oneOf_two, again_normal, again_exit, again_ret, Bool.and_true, e, g1, l1, z, st, la, lb, lab, p0, p1, s1, t1, c1, c2, c3, decide_false, Bool.false_or, Bool.true_and, b_add, e3]
            exact ih (i + 1) k H2 (by omega) (by omega) (by omega) ((he.tr x1).tr t2) (ld_of ha1 t2) ..
theorem edges_is (hp : PV H p ev wv nv) (hn : p.edges.length + 20 < m - 1) (hm : m ≤ 72057594037927936) : ∃ H', lvl Try.prog pk12 m (.func 34) [plV p ev wv nv] H = some (.bool (edgesOk p), H') ∧ Ext H H' := by
  refine lvl_ex1 (pk_no rfl rfl) (by omega) ?_
  have hb := at_last H (plB p ev wv nv)
  have l1 := ld_pl hb 1 _ rfl
  have hlen := hp.e.len
  rw [f34_eq]
  unfold f34
  simp -implicitDefEqProofs only [r_opt, r_ret, ob_some, ifB_true, iteV_true, iteV_false, r_gdt, r_gdt2, r_gdtf, r_gdtf2, r_gdff, r_gdff2, r_gdft, r_gdft2, r_gdu, r_gdu2, pick_t, pick_f, ext_0, ext_1, x_newB, r_nil, r_fAddr, Nat.zero_add, b_lss, b_leq, b_gtr, b_geq, b_eql, b_neq, u_not, Bool.not_true, Bool.not_false, oneOf_one, oneOf_two, again_normal, again_exit, again_ret, Bool.and_true, plV_cells, l1, hlen]
  exact edges_loop hp.e (m := m - 1) hn (by omega) p.edges.length 0 (m - 1) _ (by omega) (by omega) (by omega) (Fr.app _ _ _) hb ..
end
end Go.Proofs.Ytdobnaldfmpimaa

set_option linter.unusedSectionVars false
set_option linter.unusedSimpArgs false
set_option linter.unusedVariables false
set_option maxRecDepth 100000
namespace Go.Proofs.Ytdobnaldfmpimaa
open Go.Abs
def wBad (n : Int) : Bool := decide (n < 1) || decide (5 < n)
def wOk (ws : List Int) : Bool := !(decide ((ws.length : Int) = 0) || (decide ((3 : Int) < ws.length) || ws.any wBad))
def rowsOk (p : PlanD) : Bool := !(p.next.any fun r => decide ((r.length : Int) ≠ p.nodes))
def checkOk (p : PlanD) : Bool := numOk p && (edgesOk p && (decide ((p.weights.length : Int) = p.lanes) && (wOk p.weights && (decide ((p.next.length : Int) = p.nodes) && rowsOk p))))
def errno (b : Bool) : Int := if b = true then 0 else 120
section
variable {H : Heap} {m : Nat} {p : PlanD} {ev wv nv : Value}
theorem wOdd_is (hm : 0 < m) (n : Int) (H : Heap) : lvl Try.prog pk12 m (.func 56) [.int .i64 n] H = some (.bool (wBad n), H) := by
  refine lvl_at (pk_no rfl rfl) hm ?_
  rw [f56_eq]
  unfold f56 wBad
  by_cases h : n < 1
  · simp -implicitDefEqProofs only [r_opt, r_ret, ob_some, ifB_true, iteV_true, iteV_false, r_gdt, r_gdt2, r_gdtf, r_gdtf2, r_gdff, r_gdff2, r_gdft, r_gdft2, r_gdu, r_gdu2, pick_t, pick_f, ext_0, ext_1, x_newB, r_nil, r_fAddr, Nat.zero_add, b_lss, b_leq, b_gtr, b_geq, b_eql, b_neq, u_not, Bool.not_true, Bool.not_false, oneOf_one, oneOf_two, again_normal, again_exit, again_ret, Bool.and_true, h, decide_true, Bool.true_or]
  · simp -implicitDefEqProofs only [r_opt, r_ret, ob_some, ifB_true, iteV_true, iteV_false, r_gdt, r_gdt2, r_gdtf, r_gdtf2, r_gdff, r_gdff2, r_gdft, r_gdft2, r_gdu, r_gdu2, pick_t, pick_f, ext_0, ext_1, x_newB, r_nil, r_fAddr, Nat.zero_add, b_lss, b_leq, b_gtr, b_geq, b_eql, b_neq, u_not, Bool.not_true, Bool.not_false, oneOf_one, oneOf_two, again_normal, again_exit, again_ret, Bool.and_true, h, decide_false, Bool.false_or]
theorem slNe (b o n c : Nat) : bin Try.prog .eql 24 (.slice (some ⟨b, o, none⟩) n c) (.slice none 0 0) = some (.bool false) := by
  have h1 : Try.prog.underlying 24 = some (.slice 3) := by kernel_rfl
  simp [bin, flat, eqAny, nilKind, eqV, h1]
theorem clone_is {v : Value} {xs : List Int} (hx : Is H v xs) (hne : xs ≠ []) (hl : xs.length ≤ 1000) (hm : 0 < m) : ∃ H' u, lvl Try.prog pk12 m (.func 58) [v] H = some (u, H') ∧ Ext H H' ∧ Iw H' u xs ∧ New H u := by
  have hv : ∃ b o c, v = .slice (some ⟨b, o, none⟩) xs.length c := by
    rcases hx with ⟨_, h⟩ | ⟨b, o, cap, h, _⟩
    · exact absurd h hne
    · exact ⟨b, o, cap, h⟩
  have b0 : bldSlice 3 1 0 [.int .i64 0] [] H = some (.slice (some ⟨H.length, 0, none⟩) 0 0, H ++ [.cells [] 3 .row]) := rfl
  have h0 : Iw (H ++ [.cells [] 3 .row]) (.slice (some ⟨H.length, 0, none⟩) 0 0) [] := ⟨rfl, .inr ⟨H.length, 0, [], rfl, Nat.le_refl _, rfl, by simp⟩⟩
  obtain ⟨u, H', g1, g2, g3, g4⟩ := h0.more inC_len inC_all (by decide) (by' := 8) (H0 := H) (hx.ext (Fr.app _ _ _)) (fun b ⟨_, _, _, h⟩ => by cases h; exact Nat.le_refl _) (Fr.app _ _ _) (roomy_mono (n := 1000) (by decide) (by simp; omega))
  refine lvl_ex (pk_no rfl rfl) (by omega) ⟨H', u, ?_, g4, g2, g3⟩
  obtain ⟨b, o, c, rfl⟩ := hv
  rw [f58_eq]
  unfold f58
  simp -implicitDefEqProofs only [r_opt, r_ret, ob_some, ifB_true, iteV_true, iteV_false, r_gdt, r_gdt2, r_gdtf, r_gdtf2, r_gdff, r_gdff2, r_gdft, r_gdft2, r_gdu, r_gdu2, pick_t, pick_f, ext_0, ext_1, x_newB, r_nil, r_fAddr, Nat.zero_add, b_lss, b_leq, b_gtr, b_geq, b_eql, b_neq, u_not, Bool.not_true, Bool.not_false, oneOf_one, oneOf_two, again_normal, again_exit, again_ret, Bool.and_true, slNe, b0, g1]
theorem ePW (a : Addr) : bin Try.prog .eql 60 (.pointer (some a)) (.pointer none) = some (.bool false) := x_eqNil 60 79 (by kernel_rfl) a
theorem ePW0 : bin Try.prog .eql 60 (.pointer none) (.pointer none) = some (.bool true) := x_eqNil0 60 79 (by kernel_rfl)
theorem wNew_is {v : Value} {ws : List Int} (hw : Is H v ws) (hl : ws.length ≤ 17592186044500) (hm : ws.length + 100 < m) (hm2 : m ≤ 72057594037927936) : ∃ H' u, lvl Try.prog pk12 m (.func 35) [v] H = some (u, H') ∧ Ext H H' ∧ bin Try.prog .eql 60 u (.pointer none) = some (.bool (!wOk ws)) := by
  have hlen := hw.len
  have hcf : lvl Try.prog pk12 (m - 1) (.func 57) [v, .func (.func 56) #[] #[]] H = some (.bool (ws.any wBad), H) := by
    have := cfI_is (H := H) (m := m - 1) (v := v) (fv := .func (.func 56) #[] #[]) (n := ws.length) (fun i => (ws[i]?.map wBad).getD false) hlen (by omega) (by omega) (fun i hi => by
      have hx : ws[i]? = some ws[i] := List.getElem?_eq_getElem hi
      obtain ⟨b, o, g1, g2, g3⟩ := hw.at_ inC_len hx .i64
      have l1 := (g3 H rfl).2.1 0 _ rfl
      refine ⟨_, _, g1, l1, ?_⟩
      have := wOdd_is (m := m - 1 - 1 - 1) (by omega) ws[i] H
      rw [hx]
      exact this)
    rw [this, any_range ws wBad _ fun i x h => by rw [h]; rfl]
  by_cases c1 : (ws.length : Int) = 0
  · have e1 : ((ws.length : Int) == 0) = true := by simpa using c1
    have hno : wOk ws = false := by unfold wOk; simp only [c1, decide_true, Bool.true_or, Bool.not_true]
    refine lvl_ex (pk_no rfl rfl) (by omega) ⟨H, .pointer none, ?_, Fr.refl _ _, by rw [hno]; exact ePW0⟩
    rw [f35_eq]
    unfold f35
    simp -implicitDefEqProofs only [r_opt, r_ret, ob_some, ifB_true, iteV_true, iteV_false, r_gdt, r_gdt2, r_gdtf, r_gdtf2, r_gdff, r_gdff2, r_gdft, r_gdft2, r_gdu, r_gdu2, pick_t, pick_f, ext_0, ext_1, x_newB, r_nil, r_fAddr, Nat.zero_add, b_lss, b_leq, b_gtr, b_geq, b_eql, b_neq, u_not, Bool.not_true, Bool.not_false, oneOf_one, oneOf_two, again_normal, again_exit, again_ret, Bool.and_true, hlen, e1]
  · have e1 : ((ws.length : Int) == 0) = false := by simpa using c1
    by_cases c2 : (3 : Int) < ws.length
    · have hno : wOk ws = false := by unfold wOk; simp only [c2, decide_true, Bool.true_or, Bool.or_true, Bool.not_true]
      refine lvl_ex (pk_no rfl rfl) (by omega) ⟨H, .pointer none, ?_, Fr.refl _ _, by rw [hno]; exact ePW0⟩
      rw [f35_eq]
      unfold f35
      simp -implicitDefEqProofs only [r_opt, r_ret, ob_some, ifB_true, iteV_true, iteV_false, r_gdt, r_gdt2, r_gdtf, r_gdtf2, r_gdff, r_gdff2, r_gdft, r_gdft2, r_gdu, r_gdu2, pick_t, pick_f, ext_0, ext_1, x_newB, r_nil, r_fAddr, Nat.zero_add, b_lss, b_leq, b_gtr, b_geq, b_eql, b_neq, u_not, Bool.not_true, Bool.not_false, oneOf_one, oneOf_two, again_normal, again_exit, again_ret, Bool.and_true, hlen, e1, c2, decide_true]
    · cases c3 : ws.any wBad with
      | true =>
        have hno : wOk ws = false := by unfold wOk; simp only [c3, Bool.or_true, Bool.not_true]
        rw [c3] at hcf
        refine lvl_ex (pk_no rfl rfl) (by omega) ⟨H, .pointer none, ?_, Fr.refl _ _, by rw [hno]; exact ePW0⟩
        rw [f35_eq]
        unfold f35
        simp -implicitDefEqProofs only [r_opt, r_ret, ob_some, ifB_true, iteV_true, iteV_false, r_gdt, r_gdt2, r_gdtf, r_gdtf2, r_gdff, r_gdff2, r_gdft, r_gdft2, r_gdu, r_gdu2, pick_t, pick_f, ext_0, ext_1, x_newB, r_nil, r_fAddr, Nat.zero_add, b_lss, b_leq, b_gtr, b_geq, b_eql, b_neq, u_not, Bool.not_true, Bool.not_false, oneOf_one, oneOf_two, again_normal, again_exit, again_ret, Bool.and_true, hlen, e1, c2, decide_false, hcf]
      | false =>
        have hyes : wOk ws = true := by unfold wOk; simp only [c1, c2, c3, decide_false, Bool.or_false, Bool.not_false]
        rw [c3] at hcf
        obtain ⟨H1, u1, g1, g2, g3, g4⟩ := clone_is (m := m - 1) hw (fun h => c1 (by rw [h]; rfl)) (by omega) (by omega)
        obtain ⟨H2, u2, q1, q2, q3, q4⟩ := clone_is (m := m - 1) (hw.ext g2) (fun h => c1 (by rw [h]; rfl)) (by omega) (by omega)
        have hb : bld Try.prog 79 [(0, u1), (1, u2)] = some (.agg #[u1, u2, .int .i64 0]) := by
          rcases g3 with ⟨_, ⟨rfl, _⟩ | ⟨_, _, _, rfl, _⟩⟩ <;> rcases q3 with ⟨_, ⟨rfl, _⟩ | ⟨_, _, _, rfl, _⟩⟩ <;> rfl
        refine lvl_ex (pk_no rfl rfl) (by omega) ⟨H2 ++ [.cells (Value.agg #[u1, u2, .int .i64 0]).cells.toList 79 .fix], .pointer (some ⟨H2.length, 0, none⟩), ?_, (g2.tr q2).tr (Fr.app _ _ _), by rw [hyes]; exact ePW _⟩
        rw [f35_eq]
        unfold f35
        simp -implicitDefEqProofs only [r_opt, r_ret, ob_some, ifB_true, iteV_true, iteV_false, r_gdt, r_gdt2, r_gdtf, r_gdtf2, r_gdff, r_gdff2, r_gdft, r_gdft2, r_gdu, r_gdu2, pick_t, pick_f, ext_0, ext_1, x_newB, r_nil, r_fAddr, Nat.zero_add, b_lss, b_leq, b_gtr, b_geq, b_eql, b_neq, u_not, Bool.not_true, Bool.not_false, oneOf_one, oneOf_two, again_normal, again_exit, again_ret, Bool.and_true, hlen, e1, c2, decide_false, hcf, g1, q1, hb]
theorem check_is (hp : PV H p ev wv nv) (hm : 17592186045000 < m) (hm2 : m ≤ 72057594037927936) : ∃ H', lvl Try.prog pk12 m (.func 17) [plV p ev wv nv] H = some (.int .u16 (errno (checkOk p)), H') ∧ Ext H H' := by
  have h1 := hp.be
  have h2 := hp.bw
  have h3 := hp.bn
  obtain ⟨H0, hH0⟩ : ∃ H0, H0 = H ++ [plB p ev wv nv] := ⟨_, rfl⟩
  have x0 : Ext H H0 := by rw [hH0]; exact Fr.app _ _ _
  have b0 : H0[H.length]? = some (plB p ev wv nv) := by rw [hH0]; exact at_last _ _
  have l11 := ld_pl11 b0
  have g1 := numbers_is (H := H0) (m := m - 1) (by omega) p ev wv nv
  obtain ⟨H1, hH1⟩ : ∃ H1, H1 = H0 ++ [plB p ev wv nv] := ⟨_, rfl⟩
  have x1 : Ext H0 H1 := by rw [hH1]; exact Fr.app _ _ _
  rw [← hH1] at g1
  have b1 := ld_of b0 x1
  have l11' := ld_pl11 b1
  obtain ⟨H2, g2, x2⟩ := edges_is (m := m - 1) (hp.ext (x0.tr x1)) (by omega) (by omega)
  have b2 := ld_of b1 x2
  have w2 := ld_pl b2 8 _ rfl
  have la2 := ld_pl b2 2 _ rfl
  have p2 := hp.ext ((x0.tr x1).tr x2)
  have wl := p2.w.len
  obtain ⟨H3, u3, g3, x3, g4⟩ := wNew_is p2.w (m := m - 1) (by omega) (by omega) (by omega)
  have b3 := ld_of b2 x3
  have n3 := ld_pl b3 10 _ rfl
  have no3 := ld_pl b3 0 _ rfl
  have p3 := p2.ext x3
  have nl := p3.n.len
  have hcf : lvl Try.prog pk12 (m - 1) (.func 36) [nv, .func (.func 32) #[] #[.pointer (some ⟨H.length, 0, none⟩)]] H3 = some (.bool (p.next.any fun r => decide ((r.length : Int) ≠ p.nodes)), H3) := by
    have := cfR_is (H := H3) (m := m - 1) (v := nv) (fv := .func (.func 32) #[] #[.pointer (some ⟨H.length, 0, none⟩)]) (n := p.next.length) (fun i => (p.next[i]?.map fun r => decide ((r.length : Int) ≠ p.nodes)).getD false) nl (by omega) (by omega) (fun i hi => by
      have hx : p.next[i]? = some p.next[i] := List.getElem?_eq_getElem hi
      obtain ⟨a, u, q1, q2, q3⟩ := p3.n.at_ hx .i64
      refine ⟨a, u, q1, q2, ?_⟩
      have hlen := q3.len
      have : lvl Try.prog pk12 (m - 1 - 1 - 1 + 0) (.func 32) [u, .pointer (some ⟨H.length, 0, none⟩)] H3 = some (.bool (decide ((p.next[i].length : Int) ≠ p.nodes)), H3) := by
        refine lvl_at (pk_no rfl rfl) (by omega) ?_
        rw [f32_eq]
        unfold f32
        have e : (((p.next[i].length : Nat) : Int) != p.nodes) = decide ((p.next[i].length : Int) ≠ p.nodes) := by
          rw [Bool.eq_iff_iff]
          simp
        simp -implicitDefEqProofs only [r_opt, r_ret, ob_some, ifB_true, iteV_true, iteV_false, r_gdt, r_gdt2, r_gdtf, r_gdtf2, r_gdff, r_gdff2, r_gdft, r_gdft2, r_gdu, r_gdu2, pick_t, pick_f, ext_0, ext_1, x_newB, r_nil, r_fAddr, Nat.zero_add, b_lss, b_leq, b_gtr, b_geq, b_eql, b_neq, u_not, Bool.not_true, Bool.not_false, oneOf_one, oneOf_two, again_normal, again_exit, again_ret, Bool.and_true, hlen, no3, e]
      rw [hx]
      exact this)
    rw [this, any_range p.next (fun r => decide ((r.length : Int) ≠ p.nodes)) _ fun i x h => by rw [h]; rfl]
  have hn1 : ((p.weights.length : Int) != p.lanes) = !decide ((p.weights.length : Int) = p.lanes) := by rw [Bool.eq_iff_iff]; simp
  have hn2 : ((p.next.length : Int) != p.nodes) = !decide ((p.next.length : Int) = p.nodes) := by rw [Bool.eq_iff_iff]; simp
  have hr : (p.next.any fun r => decide ((r.length : Int) ≠ p.nodes)) = !rowsOk p := by unfold rowsOk; rw [Bool.not_not]
  rw [hr] at hcf
  have hz : errno false = 120 := rfl
  have hz1 : errno true = 0 := rfl
  refine lvl_ex1 (pk_no rfl rfl) (by omega) ?_
  rw [f17_eq]
  unfold f17 checkOk
  cases c1 : numOk p with
  | false => exact ⟨H1, by simp -implicitDefEqProofs only [r_opt, r_ret, ob_some, ifB_true, iteV_true, iteV_false, r_gdt, r_gdt2, r_gdtf, r_gdtf2, r_gdff, r_gdff2, r_gdft, r_gdft2, r_gdu, r_gdu2, pick_t, pick_f, ext_0, ext_1, x_newB, r_nil, r_fAddr, Nat.zero_add, b_lss, b_leq, b_gtr, b_geq, b_eql, b_neq, u_not, Bool.not_true, Bool.not_false, oneOf_one, oneOf_two, again_normal, again_exit, again_ret, Bool.and_true, plV_cells, ← hH0, l11, g1, c1, hz, hz1, Bool.false_and, Bool.true_and], x0.tr x1⟩
  | true =>
      cases c2 : edgesOk p with
      | false => exact ⟨H2, by simp -implicitDefEqProofs only [r_opt, r_ret, ob_some, ifB_true, iteV_true, iteV_false, r_gdt, r_gdt2, r_gdtf, r_gdtf2, r_gdff, r_gdff2, r_gdft, r_gdft2, r_gdu, r_gdu2, pick_t, pick_f, ext_0, ext_1, x_newB, r_nil, r_fAddr, Nat.zero_add, b_lss, b_leq, b_gtr, b_geq, b_eql, b_neq, u_not, Bool.not_true, Bool.not_false, oneOf_one, oneOf_two, again_normal, again_exit, again_ret, Bool.and_true, plV_cells, ← hH0, l11, g1, l11', g2, c1, c2, hz, hz1, Bool.false_and, Bool.true_and], (x0.tr x1).tr x2⟩
      | true =>
          cases c3 : decide ((p.weights.length : Int) = p.lanes) with
          | false => exact ⟨H2, by simp -implicitDefEqProofs only [r_opt, r_ret, ob_some, ifB_true, iteV_true, iteV_false, r_gdt, r_gdt2, r_gdtf, r_gdtf2, r_gdff, r_gdff2, r_gdft, r_gdft2, r_gdu, r_gdu2, pick_t, pick_f, ext_0, ext_1, x_newB, r_nil, r_fAddr, Nat.zero_add, b_lss, b_leq, b_gtr, b_geq, b_eql, b_neq, u_not, Bool.not_true, Bool.not_false, oneOf_one, oneOf_two, again_normal, again_exit, again_ret, Bool.and_true, plV_cells, ← hH0, l11, g1, l11', g2, w2, wl, la2, hn1, c1, c2, c3, hz, hz1, Bool.false_and, Bool.true_and], (x0.tr x1).tr x2⟩
          | true =>
              cases c4 : wOk p.weights with
              | false => exact ⟨H3, by simp -implicitDefEqProofs only [r_opt, r_ret, ob_some, ifB_true, iteV_true, iteV_false, r_gdt, r_gdt2, r_gdtf, r_gdtf2, r_gdff, r_gdff2, r_gdft, r_gdft2, r_gdu, r_gdu2, pick_t, pick_f, ext_0, ext_1, x_newB, r_nil, r_fAddr, Nat.zero_add, b_lss, b_leq, b_gtr, b_geq, b_eql, b_neq, u_not, Bool.not_true, Bool.not_false, oneOf_one, oneOf_two, again_normal, again_exit, again_ret, Bool.and_true, plV_cells, ← hH0, l11, g1, l11', g2, w2, wl, la2, hn1, g3, g4, c1, c2, c3, c4, hz, hz1, Bool.false_and, Bool.true_and], ((x0.tr x1).tr x2).tr x3⟩
              | true =>
                  cases c5 : decide ((p.next.length : Int) = p.nodes) with
                  | false => exact ⟨H3, by simp -implicitDefEqProofs only [r_opt, r_ret, ob_some, ifB_true, iteV_true, iteV_false, r_gdt, r_gdt2, r_gdtf, r_gdtf2, r_gdff, r_gdff2, r_gdft, r_gdft2, r_gdu, r_gdu2, pick_t, pick_f, ext_0, ext_1, x_newB, r_nil, r_fAddr, Nat.zero_add, b_lss, b_leq, b_gtr, b_geq, b_eql, b_neq, u_not, Bool.not_true, Bool.not_false, oneOf_one, oneOf_two, again_normal, again_exit, again_ret, Bool.and_true, plV_cells, ← hH0, l11, g1, l11', g2, w2, wl, la2, hn1, g3, g4, n3, nl, no3, hn2, c1, c2, c3, c4, c5, hz, hz1, Bool.false_and, Bool.true_and], ((x0.tr x1).tr x2).tr x3⟩
                  | true =>
                      cases c6 : rowsOk p with
                      | false => exact ⟨H3, by simp -implicitDefEqProofs only [r_opt, r_ret, ob_some, ifB_true, iteV_true, iteV_false, r_gdt, r_gdt2, r_gdtf, r_gdtf2, r_gdff, r_gdff2, r_gdft, r_gdft2, r_gdu, r_gdu2, pick_t, pick_f, ext_0, ext_1, x_newB, r_nil, r_fAddr, Nat.zero_add, b_lss, b_leq, b_gtr, b_geq, b_eql, b_neq, u_not, Bool.not_true, Bool.not_false, oneOf_one, oneOf_two, again_normal, again_exit, again_ret, Bool.and_true, plV_cells, ← hH0, l11, g1, l11', g2, w2, wl, la2, hn1, g3, g4, n3, nl, no3, hn2, hcf, c1, c2, c3, c4, c5, c6, hz, hz1, Bool.false_and, Bool.true_and], ((x0.tr x1).tr x2).tr x3⟩
                      | true =>
                          exact ⟨H3, by simp -implicitDefEqProofs only [r_opt, r_ret, ob_some, ifB_true, iteV_true, iteV_false, r_gdt, r_gdt2, r_gdtf, r_gdtf2, r_gdff, r_gdff2, r_gdft, r_gdft2, r_gdu, r_gdu2, pick_t, pick_f, ext_0, ext_1, x_newB, r_nil, r_fAddr, Nat.zero_add, b_lss, b_leq, b_gtr, b_geq, b_eql, b_neq, u_not, Bool.not_true, Bool.not_false, oneOf_one, oneOf_two, again_normal, again_exit, again_ret, Bool.and_true, plV_cells, ← hH0, l11, g1, l11', g2, w2, wl, la2, hn1, g3, g4, n3, nl, no3, hn2, hcf, c1, c2, c3, c4, c5, c6, hz, hz1, Bool.false_and, Bool.true_and], ((x0.tr x1).tr x2).tr x3⟩
end
end Go.Proofs.Ytdobnaldfmpimaa

set_option linter.unusedSectionVars false
set_option linter.unusedSimpArgs false
set_option linter.unusedVariables false
set_option maxRecDepth 100000
namespace Go.Proofs.Ytdobnaldfmpimaa
open Go.Abs
def dd : List Int → List Int
  | [] => []
  | [x] => [x]
  | x :: y :: r => if x = y then dd (y :: r) else x :: dd (y :: r)
theorem dd_snoc : ∀ (l : List Int) (a b : Int), dd (l ++ [a, b]) = if a = b then dd (l ++ [a]) else dd (l ++ [a]) ++ [b]
  | [], a, b => by
    by_cases h : a = b <;> simp [dd, h]
  | [x], a, b => by
    by_cases h : a = b <;> by_cases h2 : x = a <;> simp [dd, h, h2] <;> simp_all
  | x :: y :: l, a, b => by
    have ih := dd_snoc (y :: l) a b
    simp only [List.cons_append] at ih ⊢
    simp only [dd]
    by_cases h2 : x = y
    · rw [if_pos h2, if_pos h2, ih]
    · rw [if_neg h2, if_neg h2, ih]
      by_cases h : a = b
      · rw [if_pos h, if_pos h]
      · rw [if_neg h, if_neg h]
        rfl
theorem dd_take {zs : List Int} {j : Nat} {a b : Int} (h0 : 0 < j) (ha : zs[j - 1]? = some a) (hb : zs[j]? = some b) : dd (zs.take (j + 1)) = if b = a then dd (zs.take j) else dd (zs.take j) ++ [b] := by
  have e1 : zs.take j = zs.take (j - 1) ++ [a] := by
    have := List.take_add_one (l := zs) (i := j - 1)
    rw [ha, show j - 1 + 1 = j by omega] at this
    simpa using this
  have e2 : zs.take (j + 1) = zs.take (j - 1) ++ [a, b] := by
    rw [List.take_add_one, hb, e1]
    simp
  rw [e2, dd_snoc, ← e1]
  by_cases h : a = b
  · rw [if_pos h, if_pos h.symm]
  · rw [if_neg h, if_neg (Ne.symm h)]
theorem dd_le : ∀ l : List Int, (dd l).length ≤ l.length
  | [] => Nat.le_refl _
  | [x] => Nat.le_refl _
  | x :: y :: r => by
    have := dd_le (y :: r)
    unfold dd
    split
    · simp only [List.length_cons] at *; omega
    · simp only [List.length_cons] at *; omega
section
variable {H : Heap} {m c cap : Nat} {ys rest : List Value}
theorem ia {o n i : Nat} (h : i < n) : iAddr 1 (.slice (some ⟨c, o, none⟩) n cap) (.int .i64 (i : Nat)) = some (.pointer (some ⟨c, o + i, none⟩)) := by
  rw [r_iAddr _ _ _ _ _ _ _ (by omega) (by omega)]
  simp
def rowB (ys : List Int) (rest : List Value) : Blk := .cells (ys.map (Value.int .i64) ++ rest) 3 .row
theorem rd_row {ys : List Int} {i : Nat} {y : Int} (hc : H[c]? = some (rowB ys rest)) (hi : ys[i]? = some y) : ld1 (.pointer (some ⟨c, i, none⟩)) H = some (.int .i64 y, H) := by
  have := (List.getElem?_eq_some_iff.mp hi).1
  rw [x_ld1, hc]
  unfold rowB
  rw [x_ldC, List.getElem?_append_left (by rw [List.length_map]; exact this), List.getElem?_map, hi]
  rfl
theorem st_row {ys : List Int} {i : Nat} (y : Int) (hc : H[c]? = some (rowB ys rest)) (hi : i < ys.length) : stN 1 (.pointer (some ⟨c, i, none⟩)) (.int .i64 y) H = some (undef, H.set c (rowB (ys.set i y) rest)) := by
  rw [x_stN 1 _ _ _ rfl, hc]
  unfold rowB
  have e : (Value.int .i64 y).cells.toList = [.int .i64 y] := rfl
  rw [e, x_stC _ _ _ _ _ _ (by decide) (by simp; omega) rfl]
  congr 3
  simp only [setCells]
  rw [List.set_append_left _ _ (by rw [List.length_map]; exact hi), ← List.map_set]
theorem compact_end {zs ys : List Int} {k : Nat} (hc : H[c]? = some (rowB ys rest)) (hy : ys.length = zs.length) (hk : k < zs.length) (hcap : zs.length ≤ cap) (hrest : rest.length = cap - zs.length) (hd : ys.take k = dd zs) :
    ∃ w H', slc Try.prog 1 (.slice (some ⟨c, 0, none⟩) zs.length cap) (some (.int .i64 (k : Nat))) none none H = some (w, H) ∧ clr 1 [.int .i64 0] w H = some (.tuple #[], H') ∧
      slc Try.prog 1 (.slice (some ⟨c, 0, none⟩) zs.length cap) none (some (.int .i64 (k : Nat))) none H' = some (.slice (some ⟨c, 0, none⟩) k cap, H') ∧ Iw H' (.slice (some ⟨c, 0, none⟩) k cap) (dd zs) ∧ H'.length = H.length ∧ ∀ b, b ≠ c → H'[b]? = H[b]? := by
  have hlt := (List.getElem?_eq_some_iff.mp hc).1
  have g1 := slc_is (P := Try.prog) (H := H) (o := 0) (sz := 1) (len := zs.length) (cap := cap) (lo := some (.int .i64 (k : Nat))) (hi := none) (mx := none) (h := zs.length) (m := cap) (l := k) hc (fun _ => szI) (bnd_nat 0 .i64 k) rfl rfl (by omega) (by omega) (Nat.le_refl _)
  rw [Nat.zero_add, Nat.mul_one] at g1
  obtain ⟨H', hH'⟩ : ∃ H', H' = H.set c (rowB (ys.take k) ((List.replicate (zs.length - k) [Value.int .i64 0]).flatten ++ rest)) := ⟨_, rfl⟩
  have hc' : H'[c]? = some (rowB (ys.take k) ((List.replicate (zs.length - k) [Value.int .i64 0]).flatten ++ rest)) := by rw [hH']; exact List.getElem?_set_self hlt
  have hyk : (ys.take k).length = k := by rw [List.length_take]; omega
  have g2 : clr 1 [.int .i64 0] (.slice (some ⟨c, k, none⟩) (zs.length - k) (cap - k)) H = some (.tuple #[], H') := by
    unfold clr
    simp only
    rw [if_neg (by omega), hc]
    unfold rowB
    simp only
    rw [if_pos ⟨by decide, by simp; omega, rfl, rfl⟩, hH']
    congr 3
    unfold rowB
    congr 1
    have hsplit : ys.map (Value.int .i64) = (ys.take k).map (Value.int .i64) ++ (ys.drop k).map (Value.int .i64) := by rw [← List.map_append, List.take_append_drop]
    have hl : ((List.replicate (zs.length - k) [Value.int .i64 0]).flatten).length = zs.length - k := by simp
    rw [hsplit]
    have := setCells_mid ((List.replicate (zs.length - k) [Value.int .i64 0]).flatten) ((ys.drop k).map (Value.int .i64)) ((ys.take k).map (Value.int .i64)) rest (by rw [hl, List.length_map, List.length_drop]; omega)
    rw [List.length_map, hyk] at this
    rw [this, List.append_assoc]
  have g3 := slc_is (P := Try.prog) (H := H') (o := 0) (sz := 1) (len := zs.length) (cap := cap) (lo := none) (hi := some (.int .i64 (k : Nat))) (mx := none) (h := k) (m := cap) (l := 0) hc' (fun _ => szI) rfl (bnd_nat _ .i64 k) rfl (by omega) (by omega) (Nat.le_refl _)
  rw [Nat.zero_mul, Nat.zero_add, Nat.sub_zero, Nat.sub_zero] at g3
  refine ⟨_, H', g1, g2, g3, ?_, by rw [hH']; simp, fun b hb => by rw [hH']; exact List.getElem?_set_ne (Ne.symm hb)⟩
  have hdl : (dd zs).length = k := by rw [← hd, hyk]
  refine ⟨by rw [inC_flat, List.length_map, Nat.mul_one], .inr ⟨c, cap, (List.replicate (zs.length - k) [Value.int .i64 0]).flatten ++ rest, by rw [hdl], by omega, ?_, by rw [inC_flat, hc', hd]; rfl⟩⟩
  simp [hdl]
  omega
def Comp (H0 : Heap) (c cap : Nat) (zs : List Int) (v : Value) (H' : Heap) : Prop := Iw H' v (dd zs) ∧ (∀ b, home v b → b = c) ∧ H'.length = H0.length ∧ ∀ b, b ≠ c → H'[b]? = H0[b]?
theorem compact_loop1 {zs : List Int} {rest : List Value} {k0 kk : Nat} {H0 : Heap} {Q : Heap → Value → Prop} (hQ : ∀ H' v, Comp H0 c cap zs v H' → Q H' v) (hcap : zs.length ≤ cap) (hrest : rest.length = cap - zs.length) (hn : zs.length ≤ 72057594037927936) (h1 : 1 ≤ k0) :
    ∀ (q j t k : Nat) (H : Heap) (ys : List Int), zs.length - j = q → j ≤ zs.length → q < k → k0 < j → t < j → H[c]? = some (rowB ys rest) → ys.length = zs.length → ys.take t = dd (zs.take j) → ys.drop t = zs.drop t → H.length = H0.length → (∀ b, b ≠ c → H[b]? = H0[b]?) → ∀ (x1 x2 x6 x7 x8 x9 x10 x11 x12 x13 x14 x15 x16 x17 x18 x19 x20 x21 x22 x23 x24 x25 x26 x27 x28 x29 x30 x31 x32 x33 x34 x35 x36 x37 x38 x39 x40 x41 x42 x43 x44 x45 x46 x47 x48 x49 x50 x51 x52 x53 x54 x55 x56 x57 x58 x59 x60 : Value),
    ∃ H' v, loopN k (runCode Try.prog (lvl Try.prog pk12 m) (loopN m) f45_c1) (f45_k1 (lvl Try.prog pk12 m) (loopN m) (again kk (runCode Try.prog (lvl Try.prog pk12 m) (loopN m) f45_c0) (f45_k0 (lvl Try.prog pk12 m) (loopN m)))) [(.slice (some ⟨c, 0, none⟩) zs.length cap), x1, x2, (.int .i64 (t : Nat)), (.slice (some ⟨c, k0, none⟩) (zs.length - k0) (cap - k0)), (.int .i64 (j - k0 : Nat)), x6, x7, x8, x9, x10, x11, x12, x13, x14, x15, x16, x17, x18, x19, x20, x21, x22, x23, x24, x25, x26, x27, x28, x29, x30, x31, x32, x33, x34, x35, x36, x37, x38, x39, x40, x41, x42, x43, x44, x45, x46, x47, x48, x49, x50, x51, x52, x53, x54, x55, x56, x57, x58, x59, x60] H = some (v, H') ∧ Q H' v := by
  intro q
  induction q with
  | zero =>
    intro j t k H ys hr hj hk hkj htj hc hy hd hdr hl hf
    intros
    obtain ⟨k, rfl⟩ : ∃ n, k = n + 1 := ⟨k - 1, by omega⟩
    obtain rfl : j = zs.length := by omega
    rw [List.take_of_length_le (Nat.le_refl _)] at hd
    obtain ⟨w, H', g1, g2, g3, g4, g5, g6⟩ := compact_end hc hy htj hcap hrest hd
    have e : decide (((zs.length - k0 : Nat) : Int) < (zs.length - k0 : Nat)) = false := by simp
    refine ⟨H', .slice (some ⟨c, 0, none⟩) t cap, ?_, hQ _ _ ⟨g4, fun b ⟨_, _, _, h⟩ => by cases h; rfl, by omega, fun b hb => by rw [g6 b hb, hf b hb]⟩⟩
    rw [loop_succ, f45_b1_eq]
    unfold f45_b1
    simp -implicitDefEqProofs only [r_opt, r_ret, ob_some, ifB_true, iteV_true, iteV_false, r_gdt, r_gdt2, r_gdtf, r_gdtf2, r_gdff, r_gdff2, r_gdft, r_gdft2, r_gdu, r_gdu2, pick_t, pick_f, ext_0, ext_1, x_newB, r_nil, r_fAddr, Nat.zero_add, b_lss, b_leq, b_gtr, b_geq, b_eql, b_neq, u_not, Bool.not_true, Bool.not_false, oneOf_one, oneOf_two, again_normal, again_exit, again_ret, Bool.and_true, r_lenSl, e]
    rw [f45_e1_2_eq]
    unfold f45_e1_2
    simp -implicitDefEqProofs only [r_opt, r_ret, ob_some, ifB_true, iteV_true, iteV_false, r_gdt, r_gdt2, r_gdtf, r_gdtf2, r_gdff, r_gdff2, r_gdft, r_gdft2, r_gdu, r_gdu2, pick_t, pick_f, ext_0, ext_1, x_newB, r_nil, r_fAddr, Nat.zero_add, b_lss, b_leq, b_gtr, b_geq, b_eql, b_neq, u_not, Bool.not_true, Bool.not_false, oneOf_one, oneOf_two, again_normal, again_exit, again_ret, Bool.and_true, g1, g2, g3]
    rw [f45_r0_eq]
    rfl
  | succ q ih =>
    intro j t k H ys hr hj hk hkj htj hc hy hd hdr hl hf
    intros
    obtain ⟨k, rfl⟩ : ∃ n, k = n + 1 := ⟨k - 1, by omega⟩
    have e : decide (((j - k0 : Nat) : Int) < (zs.length - k0 : Nat)) = true := by simp; omega
    have e3 : IntKind.i64.wrap (((j - k0 : Nat) : Int) + 1) = ((j + 1 - k0 : Nat) : Int) := by rw [wrap_i64 (by omega) (by omega)]; omega
    have e4 : IntKind.i64.wrap (((j - k0 : Nat) : Int) - 1) = ((j - 1 - k0 : Nat) : Int) := by rw [wrap_i64 (by omega) (by omega)]; omega
    have e5 : IntKind.i64.wrap ((t : Int) + 1) = ((t + 1 : Nat) : Int) := by rw [wrap_i64 (by omega) (by omega)]; omega
    have get : ∀ i, t ≤ i → ys[i]? = zs[i]? := fun i hi => by
      have := congrArg (·[i - t]?) hdr
      simp only [List.getElem?_drop] at this
      rwa [show t + (i - t) = i by omega] at this
    have ga : ys[j - 1]? = some (zs[j - 1]'(by omega)) := by rw [get _ (by omega)]; exact List.getElem?_eq_getElem (by omega)
    have gb : ys[j]? = some (zs[j]'(by omega)) := by rw [get _ (by omega)]; exact List.getElem?_eq_getElem (by omega)
    have i1 : iAddr 1 (.slice (some ⟨c, k0, none⟩) (zs.length - k0) (cap - k0)) (.int .i64 (j - k0 : Nat)) = some (.pointer (some ⟨c, j, none⟩)) := by rw [ia (by omega), show k0 + (j - k0) = j by omega]
    have i2 : iAddr 1 (.slice (some ⟨c, k0, none⟩) (zs.length - k0) (cap - k0)) (.int .i64 (j - 1 - k0 : Nat)) = some (.pointer (some ⟨c, j - 1, none⟩)) := by rw [ia (by omega), show k0 + (j - 1 - k0) = j - 1 by omega]
    have i3 : iAddr 1 (.slice (some ⟨c, 0, none⟩) zs.length cap) (.int .i64 (t : Nat)) = some (.pointer (some ⟨c, t, none⟩)) := by rw [ia (by omega), Nat.zero_add]
    have l1 := rd_row hc gb
    have l2 := rd_row hc ga
    have s1 := st_row (i := t) (zs[j]'(by omega)) hc (by omega)
    have hdt := dd_take (zs := zs) (j := j) (by omega) (List.getElem?_eq_getElem (show j - 1 < zs.length by omega)) (List.getElem?_eq_getElem (show j < zs.length by omega))
    rw [loop_succ, f45_b1_eq]
    unfold f45_b1
    by_cases hx : zs[j]'(by omega) = zs[j - 1]'(by omega)
    · have d : ((zs[j]'(by omega)) != (zs[j - 1]'(by omega))) = false := by simp [hx]
      rw [if_pos hx] at hdt
      simp -implicitDefEqProofs only [r_opt, r_ret, ob_some, ifB_true, iteV_true, iteV_false, r_gdt, r_gdt2, r_gdtf, r_gdtf2, r_gdff, r_gdff2, r_gdft, r_gdft2, r_gdu, r_gdu2, pick_t, pick_f, ext_0, ext_1, x_newB, r_nil, r_fAddr, Nat.zero_add, b_lss, b_leq, b_gtr, b_geq, b_eql, b_neq, u_not, Bool.not_true, Bool.not_false, oneOf_one, oneOf_two, again_normal, again_exit, again_ret, Bool.and_true, r_lenSl, e, i1, l1, b_sub, e4, i2, l2, d, b_add, e3]
      exact ih (j + 1) t k H ys (by omega) (by omega) (by omega) (by omega) (by omega) hc hy (by rw [hdt]; exact hd) hdr hl hf ..
    · have d : ((zs[j]'(by omega)) != (zs[j - 1]'(by omega))) = true := by simp [hx]
      rw [if_neg hx] at hdt
      simp -implicitDefEqProofs only [r_opt, r_ret, ob_some, ifB_true, iteV_true, iteV_false, r_gdt, r_gdt2, r_gdtf, r_gdtf2, r_gdff, r_gdff2, r_gdft, r_gdft2, r_gdu, r_gdu2, pick_t, pick_f, ext_0, ext_1, x_newB, r_nil, r_fAddr, Nat.zero_add, b_lss, b_leq, b_gtr, b_geq, b_eql, b_neq, u_not, Bool.not_true, Bool.not_false, oneOf_one, oneOf_two, again_normal, again_exit, again_ret, Bool.and_true, r_lenSl, e, i1, l1, b_sub, e4, i2, l2, d, i3, s1, b_add, e3, e5]
      refine ih (j + 1) (t + 1) k _ (ys.set t (zs[j]'(by omega))) (by omega) (by omega) (by omega) (by omega) (by omega) (List.getElem?_set_self (List.getElem?_eq_some_iff.mp hc).1) (by rw [List.length_set]; exact hy) ?_ ?_ (by rw [List.length_set]; exact hl) (fun b hb => by rw [List.getElem?_set_ne (Ne.symm hb)]; exact hf b hb) ..
      · rw [hdt, ← hd, List.take_add_one, List.getElem?_set_self (by omega), List.take_set_of_le (Nat.le_refl _)]
        rfl
      · rw [List.drop_set_of_lt (by omega), ← List.drop_drop (i := 1), hdr, List.drop_drop]
theorem compact_loop0 {zs : List Int} {rest : List Value} {Q : Heap → Value → Prop} (hQ : ∀ H' v, Comp H c cap zs v H' → Q H' v) (hcap : zs.length ≤ cap) (hrest : rest.length = cap - zs.length) (hn : zs.length + 10 < m) (hm : m ≤ 72057594037927936) (hc : H[c]? = some (rowB zs rest)) :
    ∀ (q j k : Nat), zs.length - j = q → 1 ≤ j → j ≤ zs.length → q < k → dd (zs.take j) = zs.take j → ∀ (x1 x2 x4 x5 x6 x7 x8 x9 x10 x11 x12 x13 x14 x15 x16 x17 x18 x19 x20 x21 x22 x23 x24 x25 x26 x27 x28 x29 x30 x31 x32 x33 x34 x35 x36 x37 x38 x39 x40 x41 x42 x43 x44 x45 x46 x47 x48 x49 x50 x51 x52 x53 x54 x55 x56 x57 x58 x59 x60 : Value),
    ∃ H' v, loopN k (runCode Try.prog (lvl Try.prog pk12 m) (loopN m) f45_c0) (f45_k0 (lvl Try.prog pk12 m) (loopN m)) [(.slice (some ⟨c, 0, none⟩) zs.length cap), x1, x2, (.int .i64 (j : Nat)), x4, x5, x6, x7, x8, x9, x10, x11, x12, x13, x14, x15, x16, x17, x18, x19, x20, x21, x22, x23, x24, x25, x26, x27, x28, x29, x30, x31, x32, x33, x34, x35, x36, x37, x38, x39, x40, x41, x42, x43, x44, x45, x46, x47, x48, x49, x50, x51, x52, x53, x54, x55, x56, x57, x58, x59, x60] H = some (v, H') ∧ Q H' v := by
  intro q
  induction q with
  | zero =>
    intro j k hr h1 hj hk hd
    intros
    obtain ⟨k, rfl⟩ : ∃ n, k = n + 1 := ⟨k - 1, by omega⟩
    obtain rfl : j = zs.length := by omega
    rw [List.take_of_length_le (Nat.le_refl _)] at hd
    have e : decide ((zs.length : Int) < zs.length) = false := by simp
    refine ⟨H, .slice (some ⟨c, 0, none⟩) zs.length cap, ?_, hQ _ _ ⟨?_, fun b ⟨_, _, _, h⟩ => by cases h; rfl, rfl, fun b hb => rfl⟩⟩
    · rw [loop_succ, f45_b0_eq]
      unfold f45_b0
      simp -implicitDefEqProofs only [r_opt, r_ret, ob_some, ifB_true, iteV_true, iteV_false, r_gdt, r_gdt2, r_gdtf, r_gdtf2, r_gdff, r_gdff2, r_gdft, r_gdft2, r_gdu, r_gdu2, pick_t, pick_f, ext_0, ext_1, x_newB, r_nil, r_fAddr, Nat.zero_add, b_lss, b_leq, b_gtr, b_geq, b_eql, b_neq, u_not, Bool.not_true, Bool.not_false, oneOf_one, oneOf_two, again_normal, again_exit, again_ret, Bool.and_true, r_lenSl, e]
      rw [f45_e0_0_eq]
      rfl
    · rw [hd]
      exact ⟨by rw [inC_flat, List.length_map, Nat.mul_one], .inr ⟨c, cap, rest, rfl, hcap, by rw [hrest, Nat.mul_one], by rw [inC_flat, hc]; rfl⟩⟩
  | succ q ih =>
    intro j k hr h1 hj hk hd
    intros
    obtain ⟨k, rfl⟩ : ∃ n, k = n + 1 := ⟨k - 1, by omega⟩
    have e : decide ((j : Int) < zs.length) = true := by simp; omega
    have e3 : IntKind.i64.wrap ((j : Int) + 1) = ((j + 1 : Nat) : Int) := by rw [wrap_i64 (by omega) (by omega)]; omega
    have e4 : IntKind.i64.wrap ((j : Int) - 1) = ((j - 1 : Nat) : Int) := by rw [wrap_i64 (by omega) (by omega)]; omega
    have i1 : iAddr 1 (.slice (some ⟨c, 0, none⟩) zs.length cap) (.int .i64 (j : Nat)) = some (.pointer (some ⟨c, j, none⟩)) := by rw [ia (by omega), Nat.zero_add]
    have i2 : iAddr 1 (.slice (some ⟨c, 0, none⟩) zs.length cap) (.int .i64 (j - 1 : Nat)) = some (.pointer (some ⟨c, j - 1, none⟩)) := by rw [ia (by omega), Nat.zero_add]
    have ga : zs[j - 1]? = some (zs[j - 1]'(by omega)) := List.getElem?_eq_getElem (by omega)
    have gb : zs[j]? = some (zs[j]'(by omega)) := List.getElem?_eq_getElem (by omega)
    have l1 := rd_row hc gb
    have l2 := rd_row hc ga
    have hdt := dd_take (zs := zs) (j := j) (by omega) ga gb
    rw [loop_succ, f45_b0_eq]
    unfold f45_b0
    by_cases hx : zs[j]'(by omega) = zs[j - 1]'(by omega)
    · have d : ((zs[j]'(by omega)) == (zs[j - 1]'(by omega))) = true := by simp [hx]
      have g1 := slc_is (P := Try.prog) (H := H) (o := 0) (sz := 1) (len := zs.length) (cap := cap) (lo := some (.int .i64 (j : Nat))) (hi := none) (mx := none) (h := zs.length) (m := cap) (l := j) hc (fun _ => szI) (bnd_nat 0 .i64 j) rfl rfl (by omega) (by omega) (Nat.le_refl _)
      rw [Nat.zero_add, Nat.mul_one] at g1
      rw [if_pos hx] at hdt
      have e1 : (1 : Int) = ((j + 1 - j : Nat) : Int) := by omega
      simp -implicitDefEqProofs only [r_opt, r_ret, ob_some, ifB_true, iteV_true, iteV_false, r_gdt, r_gdt2, r_gdtf, r_gdtf2, r_gdff, r_gdff2, r_gdft, r_gdft2, r_gdu, r_gdu2, pick_t, pick_f, ext_0, ext_1, x_newB, r_nil, r_fAddr, Nat.zero_add, b_lss, b_leq, b_gtr, b_geq, b_eql, b_neq, u_not, Bool.not_true, Bool.not_false, oneOf_one, oneOf_two, again_normal, again_exit, again_ret, Bool.and_true, r_lenSl, e, i1, l1, b_sub, e4, i2, l2, d, g1]
      have := compact_loop1 (m := m) (kk := k) (H0 := H) (cap := cap) (c := c) (k0 := j) hQ hcap hrest (by omega) h1 (zs.length - (j + 1)) (j + 1) j m H zs rfl (by omega) (by omega) (by omega) (by omega) hc rfl (by rw [hdt, hd]) rfl rfl (fun _ _ => rfl)
      rw [← e1] at this
      exact this ..
    · have d : ((zs[j]'(by omega)) == (zs[j - 1]'(by omega))) = false := by simp [hx]
      rw [if_neg hx] at hdt
      simp -implicitDefEqProofs only [r_opt, r_ret, ob_some, ifB_true, iteV_true, iteV_false, r_gdt, r_gdt2, r_gdtf, r_gdtf2, r_gdff, r_gdff2, r_gdft, r_gdft2, r_gdu, r_gdu2, pick_t, pick_f, ext_0, ext_1, x_newB, r_nil, r_fAddr, Nat.zero_add, b_lss, b_leq, b_gtr, b_geq, b_eql, b_neq, u_not, Bool.not_true, Bool.not_false, oneOf_one, oneOf_two, again_normal, again_exit, again_ret, Bool.and_true, r_lenSl, e, i1, l1, b_sub, e4, i2, l2, d, b_add, e3]
      exact ih (j + 1) k (by omega) (by omega) (by omega) (by omega) (by rw [hdt, hd, List.take_add_one, gb]; rfl) ..
theorem compact_is {v : Value} {zs : List Int} {H0 : Heap} (hv : Iw H v zs) (hnew : New H0 v) (he : Ext H0 H) (hn : zs.length + 20 < m) (hm : m ≤ 72057594037927936) : ∃ H' u, lvl Try.prog pk12 m (.func 45) [v] H = some (u, H') ∧ Ext H0 H' ∧ Iw H' u (dd zs) ∧ New H0 u := by
  have hlen := hv.len
  refine lvl_ex (pk_no rfl rfl) (by omega) ?_
  rw [f45_eq]
  unfold f45
  by_cases h2 : zs.length < 2
  · have e : decide ((zs.length : Int) < 2) = true := by simp; omega
    have hd : dd zs = zs := by
      match zs, h2 with
      | [], _ => rfl
      | [x], _ => rfl
      | x :: y :: r, h => exact absurd h (by simp only [List.length_cons]; omega)
    refine ⟨H, v, ?_, he, by rw [hd]; exact hv, hnew⟩
    simp -implicitDefEqProofs only [r_opt, r_ret, ob_some, ifB_true, iteV_true, iteV_false, r_gdt, r_gdt2, r_gdtf, r_gdtf2, r_gdff, r_gdff2, r_gdft, r_gdft2, r_gdu, r_gdu2, pick_t, pick_f, ext_0, ext_1, x_newB, r_nil, r_fAddr, Nat.zero_add, b_lss, b_leq, b_gtr, b_geq, b_eql, b_neq, u_not, Bool.not_true, Bool.not_false, oneOf_one, oneOf_two, again_normal, again_exit, again_ret, Bool.and_true, hlen, e]
  · have e : decide ((zs.length : Int) < 2) = false := by simp; omega
    obtain ⟨hcs, ⟨rfl, h0⟩ | ⟨c, cap, rest, rfl, h1, h2', h3⟩⟩ := hv
    · omega
    · rw [inC_flat] at h3
      rw [Nat.mul_one] at h2'
      have hcl := hnew c ⟨_, _, _, rfl⟩
      simp -implicitDefEqProofs only [r_opt, r_ret, ob_some, ifB_true, iteV_true, iteV_false, r_gdt, r_gdt2, r_gdtf, r_gdtf2, r_gdff, r_gdff2, r_gdft, r_gdft2, r_gdu, r_gdu2, pick_t, pick_f, ext_0, ext_1, x_newB, r_nil, r_fAddr, Nat.zero_add, b_lss, b_leq, b_gtr, b_geq, b_eql, b_neq, u_not, Bool.not_true, Bool.not_false, oneOf_one, oneOf_two, again_normal, again_exit, again_ret, Bool.and_true, hlen, e]
      have hd1 : dd (zs.take 1) = zs.take 1 := by
        match zs with
        | [] => rfl
        | x :: r => rfl
      refine compact_loop0 (fun H' u hC => ?_) h1 h2' (by omega) (by omega) h3 (zs.length - 1) 1 (m - 1) rfl (Nat.le_refl _) (by omega) (by omega) hd1 ..
      obtain ⟨g2, g3, g4, g5⟩ := hC
      refine ⟨⟨by rw [g4]; exact he.1, fun b hb _ => ?_⟩, g2, fun b hb => by rw [g3 b hb]; exact hcl⟩
      rw [g5 b (by omega), he.2 b hb id]
end
def candE (v : Int) (e : Ed) : List Int := if e.1 = e.2 then [] else if e.1 = v then [e.2] else if e.2 = v then [e.1] else []
def cand (es : List Ed) (v : Int) : List Int := es.flatMap (candE v)
def bes (es : List Ed) (v : Int) : List Int := dd (srt (cand es v))
theorem cand_le (v : Int) : ∀ es : List Ed, (cand es v).length ≤ es.length
  | [] => Nat.le_refl _
  | e :: es => by
    have := cand_le v es
    unfold cand at *
    rw [List.flatMap_cons, List.length_append]
    have h1 : (candE v e).length ≤ 1 := by
      unfold candE
      split
      · simp
      · split
        · simp
        · split <;> simp
    simp only [List.length_cons]
    omega
theorem cand_take {es : List Ed} {i : Nat} {e : Ed} (v : Int) (h : es[i]? = some e) : cand (es.take (i + 1)) v = cand (es.take i) v ++ candE v e := by
  unfold cand
  rw [List.take_add_one, h]
  simp
theorem bldI (H : Heap) (k : Int) : bldSlice 3 1 1 [.int .i64 0] [(0, .int .i64 k)] H = some (.slice (some ⟨H.length, 0, none⟩) 1 1, H ++ [.cells (inC k) 3 .row]) := rfl
theorem zEd : Blk.cells [Value.int .i64 0, .int .i64 0] 33 .fix = .cells (edC (0, 0)) 33 .fix := rfl
def edB (y : Ed) : Blk := .cells (edC y) 33 .fix
theorem st_ed (y : Ed) (H : Heap) : stN 2 (.pointer (some ⟨H.length, 0, none⟩)) (edV y) (H ++ [.cells (edC (0, 0)) 33 .fix]) = some (undef, H ++ [edB y]) := by
  rw [x_stN 2 _ _ _ rfl, at_last, x_stC _ _ _ _ _ _ (by decide) (by simp [edC, edV, Value.cells]) rfl]
  simp [edC, edV, Value.cells, setCells, edB]
theorem ld_ed0 {H : Heap} {b : Nat} {y : Ed} (h : H[b]? = some (edB y)) : ld1 (.pointer (some ⟨b, 0, none⟩)) H = some (.int .i64 y.1, H) := by rw [x_ld1, h]; rfl
theorem ld_ed1 {H : Heap} {b : Nat} {y : Ed} (h : H[b]? = some (edB y)) : ld1 (.pointer (some ⟨b, 1, none⟩)) H = some (.int .i64 y.2, H) := by rw [x_ld1, h]; rfl
section
variable {H : Heap} {m : Nat} {p : PlanD} {ev wv nv : Value}
theorem beside_loop {v : Int} {Q : Heap → Value → Prop} (hQ : ∀ H' u, Ext H H' → Iw H' u (bes p.edges v) → New H u → Q H' u) (hx : Es H ev p.edges) (hL : p.edges.length ≤ 17592186043000) (hn : p.edges.length + 30 < m) (hm : m ≤ 72057594037927936) : ∀ (q i k : Nat) (H1 : Heap) (acc : Value), p.edges.length - i = q → i ≤ p.edges.length → q < k → Ext H H1 → Iw H1 acc (cand (p.edges.take i) v) → New H acc → ∀ (x0 x2 x3 x4 x6 x7 x8 x12 x13 x14 x15 x16 x17 x18 x19 x20 x21 x22 x23 x24 x25 x26 x27 x28 x29 x30 x31 x32 x33 x34 x35 x36 x37 x38 x39 x40 x41 x42 x43 x44 x45 : Value),
    ∃ H' u, loopN k (runCode Try.prog (lvl Try.prog pk12 m) (loopN m) f22_c0) (f22_k0 (lvl Try.prog pk12 m) (loopN m)) [x0, (.int .i64 v), x2, x3, x4, acc, x6, x7, x8, ev, (.int .i64 p.edges.length), (.int .i64 (i : Nat)), x12, x13, x14, x15, x16, x17, x18, x19, x20, x21, x22, x23, x24, x25, x26, x27, x28, x29, x30, x31, x32, x33, x34, x35, x36, x37, x38, x39, x40, x41, x42, x43, x44, x45] H1 = some (u, H') ∧ Q H' u := by
  intro q
  induction q with
  | zero =>
    intro i k H1 acc hr hi hk he ha hnew
    intros
    obtain ⟨k, rfl⟩ : ∃ n, k = n + 1 := ⟨k - 1, by omega⟩
    obtain rfl : i = p.edges.length := by omega
    have e : decide ((p.edges.length : Int) < p.edges.length) = false := by simp
    rw [List.take_of_length_le (Nat.le_refl _)] at ha
    have hcl := cand_le v p.edges
    obtain ⟨H2, g1, g2, g3⟩ := sort_rw ha (by omega) hnew he
    have g1' := sort_is m (by omega) [acc] H1
    rw [g1] at g1'
    have hsl := srt_len (cand p.edges v)
    obtain ⟨H3, u, q1, q2, q3, q4⟩ := compact_is (m := m) g2 hnew g3 (by omega) (by omega)
    refine ⟨H3, u, ?_, hQ _ _ q2 q3 q4⟩
    rw [loop_succ, f22_b0_eq]
    unfold f22_b0
    simp -implicitDefEqProofs only [r_opt, r_ret, ob_some, ifB_true, iteV_true, iteV_false, r_gdt, r_gdt2, r_gdtf, r_gdtf2, r_gdff, r_gdff2, r_gdft, r_gdft2, r_gdu, r_gdu2, pick_t, pick_f, ext_0, ext_1, x_newB, r_nil, r_fAddr, Nat.zero_add, b_lss, b_leq, b_gtr, b_geq, b_eql, b_neq, u_not, Bool.not_true, Bool.not_false, oneOf_one, oneOf_two, again_normal, again_exit, again_ret, Bool.and_true, e]
    rw [f22_e0_0_eq]
    unfold f22_e0_0
    simp -implicitDefEqProofs only [r_opt, r_ret, ob_some, ifB_true, iteV_true, iteV_false, r_gdt, r_gdt2, r_gdtf, r_gdtf2, r_gdff, r_gdff2, r_gdft, r_gdft2, r_gdu, r_gdu2, pick_t, pick_f, ext_0, ext_1, x_newB, r_nil, r_fAddr, Nat.zero_add, b_lss, b_leq, b_gtr, b_geq, b_eql, b_neq, u_not, Bool.not_true, Bool.not_false, oneOf_one, oneOf_two, again_normal, again_exit, again_ret, Bool.and_true, g1', q1]
  | succ q ih =>
    intro i k H1 acc hr hi hk he ha hnew
    intros
    obtain ⟨k, rfl⟩ : ∃ n, k = n + 1 := ⟨k - 1, by omega⟩
    have e : decide ((i : Int) < p.edges.length) = true := by simp; omega
    have e3 : IntKind.i64.wrap ((i : Int) + 1) = ((i + 1 : Nat) : Int) := by rw [wrap_i64 (by omega) (by omega)]; omega
    have hxi : p.edges[i]? = some p.edges[i] := List.getElem?_eq_getElem (by omega)
    obtain ⟨b, o, g1, g2, g3⟩ := (hx.ext he).at_ edC_len hxi .i64
    obtain ⟨y, hy⟩ : ∃ y, y = p.edges[i] := ⟨_, rfl⟩
    have l1 : ldN 2 (.pointer (some ⟨b, o, none⟩)) H1 = some (edV y, H1) := by rw [hy]; exact (g3 H1 rfl).1
    rw [← hy] at hxi
    have hct := cand_take v hxi
    have hcl := cand_le v (p.edges.take i)
    rw [List.length_take] at hcl
    have st := st_ed y H1
    obtain ⟨H2, hH2⟩ : ∃ H2, H2 = H1 ++ [edB y] := ⟨_, rfl⟩
    rw [← hH2] at st
    have x1 : Ext H1 H2 := by rw [hH2]; exact Fr.app _ _ _
    have hb : H2[H1.length]? = some (edB y) := by rw [hH2]; exact at_last _ _
    have la := ld_ed0 hb
    have lb := ld_ed1 hb
    have ha2 : Iw H2 acc (cand (p.edges.take i) v) := by rw [hH2]; exact ha.on _
    rw [loop_succ, f22_b0_eq]
    unfold f22_b0
    by_cases c1 : y.1 = y.2
    · have d1 : (y.1 == y.2) = true := by simpa using c1
      have hc0 : candE v y = [] := if_pos c1
      rw [hc0, List.append_nil] at hct
      simp -implicitDefEqProofs only [r_opt, r_ret, ob_some, ifB_true, iteV_true, iteV_false, r_gdt, r_gdt2, r_gdtf, r_gdtf2, r_gdff, r_gdff2, r_gdft, r_gdft2, r_gdu, r_gdu2, pick_t, pick_f, ext_0, ext_1, x_newB, r_nil, r_fAddr, Nat.zero_add, b_lss, b_leq, b_gtr, b_geq, b_eql, b_neq, u_not, Bool.not_true, Bool.not_false, oneOf_one, oneOf_two, again_normal, again_exit, again_ret, Bool.and_true, e, g1, l1, zEd, st, la, lb, d1, b_add, e3]
      exact ih (i + 1) k H2 acc (by omega) (by omega) (by omega) (he.tr x1) (by rw [hct]; exact ha2) hnew ..
    · have d1 : (y.1 == y.2) = false := by simpa using c1
      by_cases c2 : y.1 = v
      · have d2 : (y.1 == v) = true := by simpa using c2
        have hc0 : candE v y = [y.2] := by unfold candE; rw [if_neg c1, if_pos c2]
        rw [hc0] at hct
        obtain ⟨u, H3, t1, t2, t3, t4⟩ := ha2.push1 (by' := 8) inC_len inC_all (by decide) y.2 hnew (he.tr x1) (roomy_mono (n := 17592186044100) (by decide) (by omega))
        simp -implicitDefEqProofs only [r_opt, r_ret, ob_some, ifB_true, iteV_true, iteV_false, r_gdt, r_gdt2, r_gdtf, r_gdtf2, r_gdff, r_gdff2, r_gdft, r_gdft2, r_gdu, r_gdu2, pick_t, pick_f, ext_0, ext_1, x_newB, r_nil, r_fAddr, Nat.zero_add, b_lss, b_leq, b_gtr, b_geq, b_eql, b_neq, u_not, Bool.not_true, Bool.not_false, oneOf_one, oneOf_two, again_normal, again_exit, again_ret, Bool.and_true, e, g1, l1, zEd, st, la, lb, d1, d2, bldI, t1, b_add, e3]
        exact ih (i + 1) k H3 u (by omega) (by omega) (by omega) t4 (by rw [hct]; exact t2) t3 ..
      · have d2 : (y.1 == v) = false := by simpa using c2
        by_cases c3 : y.2 = v
        · have d3 : (y.2 == v) = true := by simpa using c3
          have hc0 : candE v y = [y.1] := by unfold candE; rw [if_neg c1, if_neg c2, if_pos c3]
          rw [hc0] at hct
          obtain ⟨u, H3, t1, t2, t3, t4⟩ := ha2.push1 (by' := 8) inC_len inC_all (by decide) y.1 hnew (he.tr x1) (roomy_mono (n := 17592186044100) (by decide) (by omega))
          simp -implicitDefEqProofs only [r_opt, r_ret, ob_some, ifB_true, iteV_true, iteV_false, r_gdt, r_gdt2, r_gdtf, r_gdtf2, r_gdff, r_gdff2, r_gdft, r_gdft2, r_gdu, r_gdu2, pick_t, pick_f, ext_0, ext_1, x_newB, r_nil, r_fAddr, Nat.zero_add, b_lss, b_leq, b_gtr, b_geq, b_eql, b_neq, u_not, Bool.not_true, Bool.not_false, oneOf_one, oneOf_two, again_normal, again_exit, again_ret, Bool.and_true, e, g1, l1, zEd, st, la, lb, d1, d2, d3, bldI, t1, b_add, e3]
          exact ih (i + 1) k H3 u (by omega) (by omega) (by omega) t4 (by rw [hct]; exact t2) t3 ..
        · have d3 : (y.2 == v) = false := by simpa using c3
          have hc0 : candE v y = [] := by unfold candE; rw [if_neg c1, if_neg c2, if_neg c3]
          rw [hc0, List.append_nil] at hct
          simp -implicitDefEqProofs only [r_opt, r_ret, ob_some, ifB_true, iteV_true, iteV_false, r_gdt, r_gdt2, r_gdtf, r_gdtf2, r_gdff, r_gdff2, r_gdft, r_gdft2, r_gdu, r_gdu2, pick_t, pick_f, ext_0, ext_1, x_newB, r_nil, r_fAddr, Nat.zero_add, b_lss, b_leq, b_gtr, b_geq, b_eql, b_neq, u_not, Bool.not_true, Bool.not_false, oneOf_one, oneOf_two, again_normal, again_exit, again_ret, Bool.and_true, e, g1, l1, zEd, st, la, lb, d1, d2, d3, b_add, e3]
          exact ih (i + 1) k H2 acc (by omega) (by omega) (by omega) (he.tr x1) (by rw [hct]; exact ha2) hnew ..
theorem beside_is (hp : PV H p ev wv nv) (hn : p.edges.length + 40 < m) (hm : m ≤ 72057594037927936) (v : Int) : ∃ H' u, lvl Try.prog pk12 m (.func 22) [plV p ev wv nv, .int .i64 v] H = some (u, H') ∧ Ext H H' ∧ Iw H' u (bes p.edges v) ∧ New H u := by
  refine lvl_ex (pk_no rfl rfl) (by omega) ?_
  have hb := at_last H (plB p ev wv nv)
  have l1 := ld_pl hb 1 _ rfl
  have hlen := hp.e.len
  rw [f22_eq]
  unfold f22
  simp -implicitDefEqProofs only [r_opt, r_ret, ob_some, ifB_true, iteV_true, iteV_false, r_gdt, r_gdt2, r_gdtf, r_gdtf2, r_gdff, r_gdff2, r_gdft, r_gdft2, r_gdu, r_gdu2, pick_t, pick_f, ext_0, ext_1, x_newB, r_nil, r_fAddr, Nat.zero_add, b_lss, b_leq, b_gtr, b_geq, b_eql, b_neq, u_not, Bool.not_true, Bool.not_false, oneOf_one, oneOf_two, again_normal, again_exit, again_ret, Bool.and_true, plV_cells, l1, hlen]
  exact beside_loop (fun H' u h1 h2 h3 => ⟨h1, h2, h3⟩) hp.e hp.be (m := m - 1) (by omega) (by omega) p.edges.length 0 (m - 1) _ _ (by omega) (by omega) (by omega) (Fr.app _ _ _) (Rw.nil (el := inC)) (New.nil _) ..
end
end Go.Proofs.Ytdobnaldfmpimaa

set_option linter.unusedSectionVars false
set_option linter.unusedSimpArgs false
set_option linter.unusedVariables false
set_option maxRecDepth 100000
namespace Go.Proofs.Ytdobnaldfmpimaa
open Go.Abs
def idxI (xs : List Int) (w : Int) : Int := fst (fun j => xs[j]? == some w) xs.length 0
def hopAt (es : List Ed) (v : Nat) : List Ed := ((bes es v).filter fun w => wi w 0 5).map fun w => ((v : Int), w)
def hopN (p : PlanD) : Nat := (min (max p.nodes 0) 6).toNat
def hopsOf (p : PlanD) : List Ed := (List.range (hopN p)).flatMap (hopAt p.edges)
abbrev Hs (H : Heap) (v : Value) (xs : List Ed) := Rs edC 38 H v xs
abbrev Hw (H : Heap) (v : Value) (xs : List Ed) := Rw edC 38 2 H v xs
theorem dd_mem (z : Int) : ∀ l, z ∈ dd l ↔ z ∈ l
  | [] => Iff.rfl
  | [x] => Iff.rfl
  | x :: y :: r => by
    have ih := dd_mem z (y :: r)
    unfold dd
    split
    · rename_i h
      subst h
      rw [ih]
      simp
    · simp only [List.mem_cons] at ih ⊢
      rw [ih]
theorem dd_pw : ∀ l : List Int, l.Pairwise (· ≤ ·) → (dd l).Pairwise (· < ·)
  | [], _ => List.Pairwise.nil
  | [x], _ => by simp [dd]
  | x :: y :: r, h => by
    obtain ⟨h1, h2⟩ := List.pairwise_cons.mp h
    have ih := dd_pw (y :: r) h2
    unfold dd
    split
    · exact ih
    · rename_i hne
      refine List.pairwise_cons.mpr ⟨fun z hz => ?_, ih⟩
      have hz' := (dd_mem z _).mp hz
      have h3 := h1 y (by simp)
      have h4 : y ≤ z := by
        rcases List.mem_cons.mp hz' with rfl | hz'
        · exact Int.le_refl _
        · exact (List.pairwise_cons.mp h2).1 z hz'
      omega
theorem bes_pw (es : List Ed) (v : Int) : (bes es v).Pairwise (· < ·) := dd_pw _ (srt_pw _)
theorem pw_few : ∀ (l : List Int) (lo hi : Int), l.Pairwise (· < ·) → (∀ x ∈ l, lo ≤ x ∧ x ≤ hi) → lo ≤ hi + 1 → (l.length : Int) ≤ hi + 1 - lo
  | [], lo, hi, _, _, h => by simp; omega
  | x :: r, lo, hi, hp, hb, h => by
    obtain ⟨h1, h2⟩ := List.pairwise_cons.mp hp
    have hx := hb x (by simp)
    have := pw_few r (x + 1) hi h2 (fun y hy => ⟨by have := h1 y hy; omega, (hb y (by simp [hy])).2⟩) (by omega)
    simp only [List.length_cons]
    omega
theorem filt_few (l : List Int) (h : l.Pairwise (· < ·)) : (l.filter fun w => wi w 0 5).length ≤ 6 := by
  have := pw_few (l.filter fun w => wi w 0 5) 0 5 (h.sublist (List.filter_sublist)) (fun x hx => by
    have := (List.mem_filter.mp hx).2
    unfold wi at this
    simpa using this) (by omega)
  omega
section
variable {H : Heap} {m : Nat} {p : PlanD} {ev wv nv : Value}
theorem ixI_loop {v : Value} {xs : List Int} {w : Int} (hx : Is H v xs) (hn : xs.length ≤ 72057594037927936) : ∀ (q i k : Nat), xs.length - i = q → i ≤ xs.length → q < k → ∀ (x2 x3 x4 x5 x6 x9 x10 x11 x12 x13 x14 x15 x16 x17 x18 : Value),
    loopN k (runCode Try.prog (lvl Try.prog pk12 m) (loopN m) f38_c0) (f38_k0 (lvl Try.prog pk12 m) (loopN m)) [v, (.int .i64 w), x2, x3, x4, x5, x6, (.int .i64 xs.length), (.int .i64 (i : Nat)), x9, x10, x11, x12, x13, x14, x15, x16, x17, x18] H = some (.int .i64 (fst (fun j => xs[j]? == some w) q i), H) := by
  intro q

  induction q with
  | zero =>
    intro i k  hr hi hk 
    intros
    obtain ⟨k, rfl⟩ : ∃ n, k = n + 1 := ⟨k - 1, by omega⟩
    obtain rfl : xs.length = i := by omega
    have e : decide (((xs.length : Nat) : Int) < (xs.length : Nat)) = false := by simp
    rw [loop_succ, f38_b0_eq]
    unfold f38_b0
    simp -implicitDefEqProofs only [r_opt, r_ret, ob_some, ifB_true, iteV_true, iteV_false, r_gdt, r_gdt2, r_gdtf, r_gdtf2, r_gdff, r_gdff2, r_gdft, r_gdft2, r_gdu, r_gdu2, pick_t, pick_f, ext_0, ext_1, x_newB, r_nil, r_fAddr, Nat.zero_add, b_lss, b_leq, b_gtr, b_geq, b_eql, b_neq, u_not, Bool.not_true, Bool.not_false, oneOf_one, oneOf_two, again_normal, again_exit, again_ret, Bool.and_true, e]
    rw [f38_e0_0_eq]
    rfl
  | succ q ih =>
    intro i k  hr hi hk 
    intros
    obtain ⟨k, rfl⟩ : ∃ n, k = n + 1 := ⟨k - 1, by omega⟩
    have e : decide ((i : Int) < (xs.length : Nat)) = true := decide_eq_true (by omega)
    have e3 : IntKind.i64.wrap ((i : Int) + 1) = ((i + 1 : Nat) : Int) := by rw [wrap_i64 (by omega) (by omega)]; omega
    have hxi : xs[i]? = some xs[i] := List.getElem?_eq_getElem (by omega)
    obtain ⟨b, o, g1, g2, g3⟩ := hx.at_ inC_len hxi .i64
    have l1 : ld1 (.pointer (some ⟨b, o, none⟩)) H = some (.int .i64 xs[i], H) := (g3 H rfl).2.1 0 _ rfl
    rw [loop_succ, f38_b0_eq]
    unfold f38_b0
    unfold fst
    by_cases h : w = xs[i]
    · have d : (w == xs[i]) = true := by rw [h]; simp
      have d2 : (xs[i]? == some w) = true := by rw [hxi, h]; simp
      simp -implicitDefEqProofs only [r_opt, r_ret, ob_some, ifB_true, iteV_true, iteV_false, r_gdt, r_gdt2, r_gdtf, r_gdtf2, r_gdff, r_gdff2, r_gdft, r_gdft2, r_gdu, r_gdu2, pick_t, pick_f, ext_0, ext_1, x_newB, r_nil, r_fAddr, Nat.zero_add, b_lss, b_leq, b_gtr, b_geq, b_eql, b_neq, u_not, Bool.not_true, Bool.not_false, oneOf_one, oneOf_two, again_normal, again_exit, again_ret, Bool.and_true, e, g1, l1, d]
      rw [f38_r0_eq, if_pos d2]
      rfl
    · have d : (w == xs[i]) = false := by simpa using h
      have d2 : ¬ (xs[i]? == some w) = true := by rw [hxi]; simpa using fun hh => h hh.symm
      simp -implicitDefEqProofs only [r_opt, r_ret, ob_some, ifB_true, iteV_true, iteV_false, r_gdt, r_gdt2, r_gdtf, r_gdtf2, r_gdff, r_gdff2, r_gdft, r_gdft2, r_gdu, r_gdu2, pick_t, pick_f, ext_0, ext_1, x_newB, r_nil, r_fAddr, Nat.zero_add, b_lss, b_leq, b_gtr, b_geq, b_eql, b_neq, u_not, Bool.not_true, Bool.not_false, oneOf_one, oneOf_two, again_normal, again_exit, again_ret, Bool.and_true, e, g1, l1, d, b_add, e3]
      rw [if_neg d2]
      exact ih (i + 1) k (by omega) (by omega) (by omega) ..
theorem ixI_is {v : Value} {xs : List Int} (hx : Is H v xs) (w : Int) (hn : xs.length + 10 < m) (hm : m ≤ 72057594037927936) : lvl Try.prog pk12 m (.func 38) [v, .int .i64 w] H = some (.int .i64 (idxI xs w), H) := by
  have hlen := hx.len
  refine lvl_at (pk_no rfl rfl) (by omega) ?_
  rw [f38_eq]
  unfold f38
  simp -implicitDefEqProofs only [r_opt, r_ret, ob_some, ifB_true, iteV_true, iteV_false, r_gdt, r_gdt2, r_gdtf, r_gdtf2, r_gdff, r_gdff2, r_gdft, r_gdft2, r_gdu, r_gdu2, pick_t, pick_f, ext_0, ext_1, x_newB, r_nil, r_fAddr, Nat.zero_add, b_lss, b_leq, b_gtr, b_geq, b_eql, b_neq, u_not, Bool.not_true, Bool.not_false, oneOf_one, oneOf_two, again_normal, again_exit, again_ret, Bool.and_true, hlen]
  exact ixI_loop hx (by omega) xs.length 0 (m - 1) (by omega) (by omega) (by omega) ..
theorem bes_le (es : List Ed) (v : Int) : (bes es v).length ≤ es.length := by
  have h1 := dd_le (srt (cand es v))
  have h2 := srt_len (cand es v)
  have h3 := cand_le v es
  unfold bes
  omega
theorem bHop (a b : Int) : bld Try.prog 38 [(0, .int .i64 a), (1, .int .i64 b)] = some (edV (a, b)) := rfl
theorem bldHop (H : Heap) (y : Ed) : bldSlice 38 2 1 [.int .i64 0, .int .i64 0] [(0, edV y)] H = some (.slice (some ⟨H.length, 0, none⟩) 1 1, H ++ [.cells (edC y) 38 .row]) := rfl
theorem hops_loop1 {H0 : Heap} {a : Nat} {v : Nat} {ws : List Int} {hs : List Ed} {Q : Heap → Value → Prop} {K : Ex → K (Value × Heap)} {bn : Int} {u : Value} (hs1 : hs.length + (ws.filter fun w => wi w 0 5).length ≤ 1000) (hws : ws.length ≤ 72057594037927936) (hm : 0 < m)
    (hK : ∀ (H' : Heap) (acc : Value), Ext H0 H' → Hw H' acc (hs ++ (ws.filter fun w => wi w 0 5).map fun w => ((v : Int), w)) → New H0 acc → ∀ (x0 x2 x4 x5 x6 x7 x8 x9 x12 x13 x14 x15 x16 x17 x18 x19 x20 x21 x22 x23 x24 x25 x26 x27 x28 x29 x30 x31 x32 : Value), ∃ H2 u2, K .normal [x0, (.pointer (some ⟨a, 0, none⟩)), x2, acc, x4, x5, x6, x7, x8, x9, (.int .i64 bn), (.int .i64 (IntKind.i64.wrap ((v : Int) + 1))), x12, x13, x14, x15, x16, x17, x18, x19, x20, x21, x22, x23, x24, x25, x26, x27, x28, x29, x30, x31, x32] H' = some (u2, H2) ∧ Q H2 u2) : ∀ (q i k : Nat) (H1 : Heap) (acc : Value), ws.length - i = q → i ≤ ws.length → q < k → Ext H0 H1 → Is H1 u ws → Apart H1 u acc → Hw H1 acc (hs ++ ((ws.take i).filter fun w => wi w 0 5).map fun w => ((v : Int), w)) → New H0 acc → ∀ (x0 x2 x5 x6 x7 x8 x9 x12 x13 x14 x15 x19 x20 x21 x22 x23 x24 x25 x26 x27 x28 x29 x30 x31 x32 : Value),
    ∃ H' u2, loopN k (runCode Try.prog (lvl Try.prog pk12 m) (loopN m) f18_c1) (f18_k1 (lvl Try.prog pk12 m) (loopN m) K) [x0, (.pointer (some ⟨a, 0, none⟩)), x2, acc, (.int .i64 (v : Nat)), x5, x6, x7, x8, x9, (.int .i64 bn), (.int .i64 (v : Nat)), x12, x13, x14, x15, u, (.int .i64 ws.length), (.int .i64 (i : Nat)), x19, x20, x21, x22, x23, x24, x25, x26, x27, x28, x29, x30, x31, x32] H1 = some (u2, H') ∧ Q H' u2 := by
  intro q

  induction q with
  | zero =>
    intro i k H1 acc hr hi hk he hu hap ha hnew
    intros
    obtain ⟨k, rfl⟩ : ∃ n, k = n + 1 := ⟨k - 1, by omega⟩
    obtain rfl : ws.length = i := by omega
    have e : decide (((ws.length : Nat) : Int) < (ws.length : Nat)) = false := by simp
    rw [List.take_of_length_le (Nat.le_refl _)] at ha
    rw [loop_succ, f18_b1_eq]
    unfold f18_b1
    simp -implicitDefEqProofs only [r_opt, r_ret, ob_some, ifB_true, iteV_true, iteV_false, r_gdt, r_gdt2, r_gdtf, r_gdtf2, r_gdff, r_gdff2, r_gdft, r_gdft2, r_gdu, r_gdu2, pick_t, pick_f, ext_0, ext_1, x_newB, r_nil, r_fAddr, Nat.zero_add, b_lss, b_leq, b_gtr, b_geq, b_eql, b_neq, u_not, Bool.not_true, Bool.not_false, oneOf_one, oneOf_two, again_normal, again_exit, again_ret, Bool.and_true, e]
    rw [f18_e1_2_eq]
    unfold f18_e1_2
    simp -implicitDefEqProofs only [r_opt, r_ret, ob_some, ifB_true, iteV_true, iteV_false, r_gdt, r_gdt2, r_gdtf, r_gdtf2, r_gdff, r_gdff2, r_gdft, r_gdft2, r_gdu, r_gdu2, pick_t, pick_f, ext_0, ext_1, x_newB, r_nil, r_fAddr, Nat.zero_add, b_lss, b_leq, b_gtr, b_geq, b_eql, b_neq, u_not, Bool.not_true, Bool.not_false, oneOf_one, oneOf_two, again_normal, again_exit, again_ret, Bool.and_true, b_add]
    exact hK H1 acc he ha hnew ..
  | succ q ih =>
    intro i k H1 acc hr hi hk he hu hap ha hnew
    intros
    obtain ⟨k, rfl⟩ : ∃ n, k = n + 1 := ⟨k - 1, by omega⟩
    have e : decide ((i : Int) < (ws.length : Nat)) = true := decide_eq_true (by omega)
    have e3 : IntKind.i64.wrap ((i : Int) + 1) = ((i + 1 : Nat) : Int) := by rw [wrap_i64 (by omega) (by omega)]; omega
    have hxi : ws[i]? = some ws[i] := List.getElem?_eq_getElem (by omega)
    obtain ⟨b, o, g1, g2, g3⟩ := hu.at_ inC_len hxi .i64
    have l1 : ld1 (.pointer (some ⟨b, o, none⟩)) H1 = some (.int .i64 ws[i], H1) := (g3 H1 rfl).2.1 0 _ rfl
    have htake : ws.take (i + 1) = ws.take i ++ [ws[i]] := by rw [List.take_add_one, hxi]; rfl
    have w1 := within_is (m := m) hm ws[i] 0 5 H1
    have hfl : ((ws.take i).filter fun w => wi w 0 5).length ≤ (ws.filter fun w => wi w 0 5).length := (List.Sublist.filter _ (List.take_sublist i ws)).length_le
    rw [loop_succ, f18_b1_eq]
    unfold f18_b1
    cases c : wi ws[i] 0 5 with
    | true =>
      rw [c] at w1
      obtain ⟨acc2, H2, t1, t2, t3, t4, t5, t6⟩ := ha.push2 (by' := 16) edC_len edC_all (by decide) ((v : Int), ws[i]) hnew he (roomy_mono (n := 1000000) (by decide) (by simp only [List.length_append, List.length_map]; omega))
      simp -implicitDefEqProofs only [r_opt, r_ret, ob_some, ifB_true, iteV_true, iteV_false, r_gdt, r_gdt2, r_gdtf, r_gdtf2, r_gdff, r_gdff2, r_gdft, r_gdft2, r_gdu, r_gdu2, pick_t, pick_f, ext_0, ext_1, x_newB, r_nil, r_fAddr, Nat.zero_add, b_lss, b_leq, b_gtr, b_geq, b_eql, b_neq, u_not, Bool.not_true, Bool.not_false, oneOf_one, oneOf_two, again_normal, again_exit, again_ret, Bool.and_true, e, g1, l1, w1, bHop, bldHop, t1, b_add, e3]
      refine ih (i + 1) k H2 acc2 (by omega) (by omega) (by omega) t4 (hu.apart hap t5) (hap.up t5 t6) ?_ t3 ..
      · rw [htake, List.filter_append, List.map_append, ← List.append_assoc]
        have : ([ws[i]].filter fun w => wi w 0 5) = [ws[i]] := by rw [List.filter_cons, if_pos c]; rfl
        rw [this]
        exact t2
    | false =>
      rw [c] at w1
      simp -implicitDefEqProofs only [r_opt, r_ret, ob_some, ifB_true, iteV_true, iteV_false, r_gdt, r_gdt2, r_gdtf, r_gdtf2, r_gdff, r_gdff2, r_gdft, r_gdft2, r_gdu, r_gdu2, pick_t, pick_f, ext_0, ext_1, x_newB, r_nil, r_fAddr, Nat.zero_add, b_lss, b_leq, b_gtr, b_geq, b_eql, b_neq, u_not, Bool.not_true, Bool.not_false, oneOf_one, oneOf_two, again_normal, again_exit, again_ret, Bool.and_true, e, g1, l1, w1, b_add, e3]
      refine ih (i + 1) k H1 acc (by omega) (by omega) (by omega) he hu hap ?_ hnew ..
      have : ([ws[i]].filter fun w => wi w 0 5) = [] := by rw [List.filter_cons, if_neg (by rw [c]; decide)]; rfl
      rw [htake, List.filter_append, this, List.append_nil]
      exact ha
theorem hopAt_le (es : List Ed) (v : Nat) : (hopAt es v).length ≤ 6 := by
  have h2 := filt_few _ (bes_pw es v)
  unfold hopAt
  rw [List.length_map]
  omega
theorem flat_bound (es : List Ed) : ∀ i, ((List.range i).flatMap (hopAt es)).length ≤ i * 6
  | 0 => by simp
  | i + 1 => by
    have := flat_bound es i
    have := hopAt_le es i
    rw [List.range_succ, List.flatMap_append, List.length_append, Nat.succ_mul]
    simp only [List.flatMap_cons, List.flatMap_nil, List.append_nil]
    omega
theorem hops_len (p : PlanD) : (hopsOf p).length ≤ 36 := by
  have := flat_bound p.edges (hopN p)
  have h6 : hopN p ≤ 6 := by unfold hopN; omega
  unfold hopsOf
  omega
theorem minI2 (a b : Int) : minmax Try.prog false [.int .i64 a, .int .i64 b] = some (.int .i64 (min a b)) := by
  simp [minmax, flat, purF, pur, Builtin.min_, Builtin.min2, pure, bind, Sem.bind]
  split <;> omega
theorem maxI2 (a b : Int) : minmax Try.prog true [.int .i64 a, .int .i64 b] = some (.int .i64 (max a b)) := by
  simp [minmax, flat, purF, pur, Builtin.max_, Builtin.max2, pure, bind, Sem.bind]
  split <;> omega
theorem hops_loop0 {H0 : Heap} {a : Nat} (hp : PV H0 p ev wv nv) (hn : p.edges.length + 60 < m) (hm : m ≤ 72057594037927936) : ∀ (q i k : Nat) (H1 : Heap) (acc : Value), (hopN p) - i = q → i ≤ (hopN p) → q < k → Ext H0 H1 → H0[a]? = some (plB p ev wv nv) → Hw H1 acc ((List.range i).flatMap (hopAt p.edges)) → New H0 acc → ∀ (x0 x2 x4 x5 x6 x7 x8 x9 x12 x13 x14 x15 x16 x17 x18 x19 x20 x21 x22 x23 x24 x25 x26 x27 x28 x29 x30 x31 x32 : Value),
    ∃ H' u2, loopN k (runCode Try.prog (lvl Try.prog pk12 m) (loopN m) f18_c0) (f18_k0 (lvl Try.prog pk12 m) (loopN m)) [x0, (.pointer (some ⟨a, 0, none⟩)), x2, acc, x4, x5, x6, x7, x8, x9, (.int .i64 (hopN p)), (.int .i64 (i : Nat)), x12, x13, x14, x15, x16, x17, x18, x19, x20, x21, x22, x23, x24, x25, x26, x27, x28, x29, x30, x31, x32] H1 = some (u2, H') ∧ Ext H0 H' ∧ Hw H' u2 (hopsOf p) ∧ New H0 u2 := by
  intro q
  have h6 : hopN p ≤ 6 := by unfold hopN; omega
  induction q with
  | zero =>
    intro i k H1 acc hr hi hk he hb0 ha hnew
    intros
    obtain ⟨k, rfl⟩ : ∃ n, k = n + 1 := ⟨k - 1, by omega⟩
    obtain rfl : (hopN p) = i := by omega
    have e : decide ((((hopN p) : Nat) : Int) < ((hopN p) : Nat)) = false := by simp
    refine ⟨H1, acc, ?_, he, ha, hnew⟩
    rw [loop_succ, f18_b0_eq]
    unfold f18_b0
    simp -implicitDefEqProofs only [r_opt, r_ret, ob_some, ifB_true, iteV_true, iteV_false, r_gdt, r_gdt2, r_gdtf, r_gdtf2, r_gdff, r_gdff2, r_gdft, r_gdft2, r_gdu, r_gdu2, pick_t, pick_f, ext_0, ext_1, x_newB, r_nil, r_fAddr, Nat.zero_add, b_lss, b_leq, b_gtr, b_geq, b_eql, b_neq, u_not, Bool.not_true, Bool.not_false, oneOf_one, oneOf_two, again_normal, again_exit, again_ret, Bool.and_true, e]
    rw [f18_e0_0_eq]
    rfl
  | succ q ih =>
    intro i k H1 acc hr hi hk he hb0 ha hnew
    intros
    obtain ⟨k, rfl⟩ : ∃ n, k = n + 1 := ⟨k - 1, by omega⟩
    have e : decide ((i : Int) < ((hopN p) : Nat)) = true := decide_eq_true (by omega)
    have e3 : IntKind.i64.wrap ((i : Int) + 1) = ((i + 1 : Nat) : Int) := by rw [wrap_i64 (by omega) (by omega)]; omega
    have hb := ld_of hb0 he
    have l11 := ld_pl11 hb
    obtain ⟨H2, u, g1, g2, g3, g4⟩ := beside_is (hp.ext he) (m := m) (by omega) (by omega) (i : Int)
    have hlen := g3.len
    have hble := bes_le p.edges (i : Int)
    have hol := flat_bound p.edges i
    have hff := filt_few _ (bes_pw p.edges (i : Int))
    have hL := hp.be
    have hap : Apart H2 u acc := fun b hb => ⟨g3.lt hb, fun hc => by have := g4 b hb; have := ha.lt hc; omega⟩
    have ha2 : Hw H2 acc ((List.range i).flatMap (hopAt p.edges)) := ha.keep fun b hb => g2.2 b (ha.lt hb) id
    rw [loop_succ, f18_b0_eq]
    unfold f18_b0
    simp -implicitDefEqProofs only [r_opt, r_ret, ob_some, ifB_true, iteV_true, iteV_false, r_gdt, r_gdt2, r_gdtf, r_gdtf2, r_gdff, r_gdff2, r_gdft, r_gdft2, r_gdu, r_gdu2, pick_t, pick_f, ext_0, ext_1, x_newB, r_nil, r_fAddr, Nat.zero_add, b_lss, b_leq, b_gtr, b_geq, b_eql, b_neq, u_not, Bool.not_true, Bool.not_false, oneOf_one, oneOf_two, again_normal, again_exit, again_ret, Bool.and_true, e, l11, g1, hlen]
    refine hops_loop1 (H0 := H0) (a := a) (v := i) (ws := bes p.edges (i : Int)) (hs := (List.range i).flatMap (hopAt p.edges)) (Q := fun H' u2 => Ext H0 H' ∧ Hw H' u2 (hopsOf p) ∧ New H0 u2) (by omega) (by omega) (by omega) ?_ (bes p.edges (i : Int)).length 0 m H2 acc (by omega) (by omega) (by omega) (he.tr g2) g3.rs hap (by simpa using ha2) hnew ..
    intro H3 acc3 k1 k2 k3
    intros
    rw [again_normal, e3]
    refine ih (i + 1) k H3 acc3 (by omega) (by omega) (by omega) k1 hb0 ?_ k3 ..
    rw [List.range_succ, List.flatMap_append]
    simpa [hopAt] using k2
theorem hops_is (hp : PV H p ev wv nv) (hn : p.edges.length + 70 < m) (hm : m ≤ 72057594037927936) : ∃ H' u, lvl Try.prog pk12 m (.func 18) [plV p ev wv nv] H = some (u, H') ∧ Ext H H' ∧ Hw H' u (hopsOf p) ∧ New H u := by
  have hL := hp.be
  obtain ⟨H0, hH0⟩ : ∃ H0, H0 = H ++ [plB p ev wv nv] := ⟨_, rfl⟩
  have x0 : Ext H H0 := by rw [hH0]; exact Fr.app _ _ _
  have b0 : H0[H.length]? = some (plB p ev wv nv) := by rw [hH0]; exact at_last _ _
  have l0 := ld_pl b0 0 _ rfl
  have h6 : hopN p ≤ 6 := by unfold hopN; omega
  have e1 : minmax Try.prog true [.int .i64 p.nodes, .int .i64 0] = some (.int .i64 (max p.nodes 0)) := maxI2 p.nodes 0
  have e2 : minmax Try.prog false [.int .i64 (max p.nodes 0), .int .i64 6] = some (.int .i64 (hopN p)) := by
    rw [minI2]
    congr 2
    unfold hopN
    omega
  obtain ⟨H', u, g1, g2, g3, g4⟩ : ∃ H' u, lvl Try.prog pk12 m (.func 18) [plV p ev wv nv] H = some (u, H') ∧ Ext H0 H' ∧ Hw H' u (hopsOf p) ∧ New H0 u := by
    refine lvl_ex (pk_no rfl rfl) (by omega) ?_
    rw [f18_eq]
    unfold f18
    simp -implicitDefEqProofs only [r_opt, r_ret, ob_some, ifB_true, iteV_true, iteV_false, r_gdt, r_gdt2, r_gdtf, r_gdtf2, r_gdff, r_gdff2, r_gdft, r_gdft2, r_gdu, r_gdu2, pick_t, pick_f, ext_0, ext_1, x_newB, r_nil, r_fAddr, Nat.zero_add, b_lss, b_leq, b_gtr, b_geq, b_eql, b_neq, u_not, Bool.not_true, Bool.not_false, oneOf_one, oneOf_two, again_normal, again_exit, again_ret, Bool.and_true, plV_cells, ← hH0, l0, e1, e2]
    exact hops_loop0 (hp.ext x0) (m := m - 1) (by omega) (by omega) (hopN p) 0 (m - 1) H0 _ (by omega) (by omega) (by omega) (Fr.refl _ _) b0 (Rw.nil (el := edC)) (New.nil _) ..
  exact ⟨H', u, g1, x0.tr g2, g3, fun b hb => Nat.le_trans x0.1 (g4 b hb)⟩
end
end Go.Proofs.Ytdobnaldfmpimaa

set_option linter.unusedSectionVars false
set_option linter.unusedSimpArgs false
set_option linter.unusedVariables false
set_option maxRecDepth 100000
namespace Go.Proofs.Ytdobnaldfmpimaa
open Go.Abs
theorem pw_ext : ∀ (l l' : List Int), l.Pairwise (· < ·) → l'.Pairwise (· < ·) → (∀ z, z ∈ l ↔ z ∈ l') → l = l'
  | [], [], _, _, _ => rfl
  | [], y :: r, _, _, h => absurd ((h y).mpr (by simp)) (by simp)
  | x :: l, [], _, _, h => absurd ((h x).mp (by simp)) (by simp)
  | x :: l, y :: r, h1, h2, h => by
    obtain ⟨a1, a2⟩ := List.pairwise_cons.mp h1
    obtain ⟨b1, b2⟩ := List.pairwise_cons.mp h2
    have hxy : x = y := by
      have h3 := (h x).mp (by simp)
      have h4 := (h y).mpr (by simp)
      rcases List.mem_cons.mp h3 with h3 | h3
      · exact h3
      · rcases List.mem_cons.mp h4 with h4 | h4
        · exact h4.symm
        · have := b1 x h3
          have := a1 y h4
          omega
    subst hxy
    rw [pw_ext l r a2 b2 fun z => ?_]
    constructor
    · intro hz
      rcases List.mem_cons.mp ((h z).mp (by simp [hz])) with h3 | h3
      · have := a1 z hz
        omega
      · exact h3
    · intro hz
      rcases List.mem_cons.mp ((h z).mpr (by simp [hz])) with h3 | h3
      · have := b1 z hz
        omega
      · exact h3
theorem bes_mem (es : List Ed) (v z : Int) : z ∈ bes es v ↔ z ∈ cand es v := by
  unfold bes
  rw [dd_mem, (srt_perm _).mem_iff]
section
variable {H : Heap} {m : Nat} {p : PlanD} {ev wv nv : Value}
end
end Go.Proofs.Ytdobnaldfmpimaa

set_option linter.unusedSectionVars false
set_option linter.unusedSimpArgs false
set_option linter.unusedVariables false
set_option maxRecDepth 100000
namespace Go.Proofs.Ytdobnaldfmpimaa
open Go.Abs
section
variable {H : Heap} {m : Nat} {p : PlanD} {ev wv nv : Value}
end
end Go.Proofs.Ytdobnaldfmpimaa
