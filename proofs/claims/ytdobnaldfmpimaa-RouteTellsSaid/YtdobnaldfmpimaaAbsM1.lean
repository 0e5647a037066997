/-
  PARTS OF THIS CLAIM'S PROOF, laid together by a program of mine out of texts written from templates.
-/
import Derived.Test.YtdobnaldfmpimaaAbsSim
import Derived.Test.YtdobnaldfmpimaaProg
import Derived.KernelRfl
import Derived.Test.YtdobnaldfmpimaaAbsSort
import Derived.Test.YtdobnaldfmpimaaAbsSortLay
import Derived.Test.YtdobnaldfmpimaaAbsRs
set_option linter.unusedVariables false
set_option maxRecDepth 100000
namespace Go.Proofs.Ytdobnaldfmpimaa
open Go.Abs
noncomputable def f15_c4 : Code := sub [1, 1, 1, 1, 1, 1, 0, 1, 0, 0, 1, 0, 0, 1, 0, 1, 0, 0] (fbody Try.prog 15)
noncomputable def f15_k4 (O : Oracle) (L : Loops (Value × Heap)) (k : Ex → K (Value × Heap)) : Ex → K (Value × Heap) := (blockK 8 (seqK Try.prog O L (sub [1, 1, 1, 1, 1, 1, 0, 1, 0, 0, 1, 0, 0, 1, 1] (fbody Try.prog 15)) (blockK 7 (seqK Try.prog O L (sub [1, 1, 1, 1, 1, 1, 0, 1, 0, 0, 1, 1] (fbody Try.prog 15)) k))))
noncomputable def f15_e4_8 (O : Oracle) (L : Loops (Value × Heap)) (k : Ex → K (Value × Heap)) (x0 x1 x2 x3 x4 x5 x6 x7 x8 x9 x10 x11 x12 x13 x14 x15 x16 x17 x18 x19 x20 x21 x22 x23 x24 x25 x26 x27 x28 x29 x30 x31 x32 x33 x34 x35 x36 x37 x38 x39 x40 x41 x42 x43 x44 x45 x46 x47 x48 x49 x50 x51 x52 x53 x54 x55 x56 x57 x58 x59 x60 x61 x62 x63 x64 x65 x66 x67 x68 x69 x70 x71 x72 x73 x74 x75 x76 x77 x78 x79 x80 x81 x82 x83 x84 x85 x86 x87 x88 x89 x90 x91 x92 x93 x94 x95 x96 x97 x98 x99 x100 x101 x102 x103 x104 x105 x106 x107 x108 x109 x110 x111 x112 x113 x114 x115 x116 x117 x118 x119 x120 x121 x122 x123 x124 x125 x126 x127 x128 x129 x130 x131 x132 x133 x134 x135 x136 x137 x138 : Value) (h : Heap) : Option (Value × Heap) :=
  ob ((M.ofOpt (fAddr 10 x11)) h) fun v90 h90 =>
  ob ((ld1 v90) h90) fun v91 h91 =>
  ob ((bldSlice 24 1 1 [(.slice none 0 0)] [(0, x18)]) h91) fun v92 h92 =>
  ob ((app 24 1 24 v91 v92) h92) fun v93 h93 =>
  ob ((M.ofOpt (fAddr 10 x11)) h93) fun v94 h94 =>
  ob ((stN 1 v94 v93) h94) fun v95 h95 =>
  ob ((M.ofOpt (bin Try.prog .add 3 x17 (.int .i64 1))) h95) fun v96 h96 =>
  k .normal [x0, x1, x2, x3, x4, x5, x6, x7, x8, x9, x10, x11, x12, x13, x14, x15, x16, v96, x18, x19, x20, x21, x22, x23, x24, x25, x26, x27, x28, x29, x30, x31, x32, x33, x34, x35, x36, x37, x38, x39, x40, x41, x42, x43, x44, x45, x46, x47, x48, x49, x50, x51, x52, x53, x54, x55, x56, x57, x58, x59, x60, x61, x62, x63, x64, x65, x66, x67, x68, x69, x70, x71, x72, x73, x74, x75, x76, x77, x78, x79, x80, x81, x82, x83, x84, x85, x86, x87, x88, x89, x90, x91, x92, x93, x94, x95, x17, v96, x98, x99, x100, x101, x102, x103, x104, x105, x106, x107, x108, x109, x110, x111, x112, x113, x114, x115, x116, x117, x118, x119, x120, x121, x122, x123, x124, x125, x126, x127, x128, x129, x130, x131, v90, v91, x18, v92, v93, v94, x138] h96
theorem f15_e4_8_eq (O : Oracle) (L : Loops (Value × Heap)) (k : Ex → K (Value × Heap)) (x0 x1 x2 x3 x4 x5 x6 x7 x8 x9 x10 x11 x12 x13 x14 x15 x16 x17 x18 x19 x20 x21 x22 x23 x24 x25 x26 x27 x28 x29 x30 x31 x32 x33 x34 x35 x36 x37 x38 x39 x40 x41 x42 x43 x44 x45 x46 x47 x48 x49 x50 x51 x52 x53 x54 x55 x56 x57 x58 x59 x60 x61 x62 x63 x64 x65 x66 x67 x68 x69 x70 x71 x72 x73 x74 x75 x76 x77 x78 x79 x80 x81 x82 x83 x84 x85 x86 x87 x88 x89 x90 x91 x92 x93 x94 x95 x96 x97 x98 x99 x100 x101 x102 x103 x104 x105 x106 x107 x108 x109 x110 x111 x112 x113 x114 x115 x116 x117 x118 x119 x120 x121 x122 x123 x124 x125 x126 x127 x128 x129 x130 x131 x132 x133 x134 x135 x136 x137 x138 : Value) (h : Heap) :
    f15_k4 O L k (.exit 8) [x0, x1, x2, x3, x4, x5, x6, x7, x8, x9, x10, x11, x12, x13, x14, x15, x16, x17, x18, x19, x20, x21, x22, x23, x24, x25, x26, x27, x28, x29, x30, x31, x32, x33, x34, x35, x36, x37, x38, x39, x40, x41, x42, x43, x44, x45, x46, x47, x48, x49, x50, x51, x52, x53, x54, x55, x56, x57, x58, x59, x60, x61, x62, x63, x64, x65, x66, x67, x68, x69, x70, x71, x72, x73, x74, x75, x76, x77, x78, x79, x80, x81, x82, x83, x84, x85, x86, x87, x88, x89, x90, x91, x92, x93, x94, x95, x96, x97, x98, x99, x100, x101, x102, x103, x104, x105, x106, x107, x108, x109, x110, x111, x112, x113, x114, x115, x116, x117, x118, x119, x120, x121, x122, x123, x124, x125, x126, x127, x128, x129, x130, x131, x132, x133, x134, x135, x136, x137, x138] h = f15_e4_8 O L k x0 x1 x2 x3 x4 x5 x6 x7 x8 x9 x10 x11 x12 x13 x14 x15 x16 x17 x18 x19 x20 x21 x22 x23 x24 x25 x26 x27 x28 x29 x30 x31 x32 x33 x34 x35 x36 x37 x38 x39 x40 x41 x42 x43 x44 x45 x46 x47 x48 x49 x50 x51 x52 x53 x54 x55 x56 x57 x58 x59 x60 x61 x62 x63 x64 x65 x66 x67 x68 x69 x70 x71 x72 x73 x74 x75 x76 x77 x78 x79 x80 x81 x82 x83 x84 x85 x86 x87 x88 x89 x90 x91 x92 x93 x94 x95 x96 x97 x98 x99 x100 x101 x102 x103 x104 x105 x106 x107 x108 x109 x110 x111 x112 x113 x114 x115 x116 x117 x118 x119 x120 x121 x122 x123 x124 x125 x126 x127 x128 x129 x130 x131 x132 x133 x134 x135 x136 x137 x138 h := by kernel_rfl
noncomputable def f15_b4 (O : Oracle) (L : Loops (Value × Heap)) (k : Ex → K (Value × Heap)) (x0 x1 x2 x3 x4 x5 x6 x7 x8 x9 x10 x11 x12 x13 x14 x15 x16 x17 x18 x19 x20 x21 x22 x23 x24 x25 x26 x27 x28 x29 x30 x31 x32 x33 x34 x35 x36 x37 x38 x39 x40 x41 x42 x43 x44 x45 x46 x47 x48 x49 x50 x51 x52 x53 x54 x55 x56 x57 x58 x59 x60 x61 x62 x63 x64 x65 x66 x67 x68 x69 x70 x71 x72 x73 x74 x75 x76 x77 x78 x79 x80 x81 x82 x83 x84 x85 x86 x87 x88 x89 x90 x91 x92 x93 x94 x95 x96 x97 x98 x99 x100 x101 x102 x103 x104 x105 x106 x107 x108 x109 x110 x111 x112 x113 x114 x115 x116 x117 x118 x119 x120 x121 x122 x123 x124 x125 x126 x127 x128 x129 x130 x131 x132 x133 x134 x135 x136 x137 x138 : Value) (h : Heap) : Option (Value × Heap) :=
  ob ((M.ofOpt (fAddr 0 x11)) h) fun v63 h63 =>
  ob ((ld1 v63) h63) fun v64 h64 =>
  ob ((M.ofOpt (bin Try.prog .lss 3 x19 v64)) h64) fun v65 h65 =>
  iteV v65 (
  ob ((M.ofOpt (lenSl x4)) h65) fun v66 h66 =>
  ob ((M.ofOpt (bin Try.prog .lss 3 x16 v66)) h66) fun v67 h67 =>
  ob ((gd v67 true (M.ret x4)) h67) fun v68 h68 =>
  ob ((gd v67 true (M.ret x16)) h68) fun v69 h69 =>
  ob ((gd v67 true (M.ofOpt (iAddr 1 v68 v69))) h69) fun v70 h70 =>
  ob ((gd v67 true (ld1 v70)) h70) fun v71 h71 =>
  ob ((gd v67 true (M.ofOpt (bin Try.prog .rem 5 v71 (.int .u8 4)))) h71) fun v72 h72 =>
  ob ((gd v67 true (M.ofOpt (bin Try.prog .eql 5 v72 (.int .u8 0)))) h72) fun v73 h73 =>
  ob ((M.ofOpt (pick v67 v73 (.bool false))) h73) fun v74 h74 =>
  iteV v74 (
  ob ((M.ofOpt (iAddr 1 x4 x16)) h74) fun v75 h75 =>
  ob ((ld1 v75) h75) fun v76 h76 =>
  ifB (true) (
  ob ((M.ofOpt (bin Try.prog .quo 5 v76 (.int .u8 4))) h76) fun v77 h77 =>
  ob ((conv Try.prog 5 3 v77) h77) fun v78 h78 =>
  ob ((M.ofOpt (fAddr 0 x11)) h78) fun v79 h79 =>
  ob ((ld1 v79) h79) fun v80 h80 =>
  ifB (true) (
  ob ((M.ofOpt (bin Try.prog .rem 3 v78 v80)) h80) fun v81 h81 =>
  ob ((bldSlice 3 1 1 [(.int .i64 0)] [(0, v81)]) h81) fun v82 h82 =>
  ob ((app 3 1 8 x18 v82) h82) fun v83 h83 =>
  ob ((M.ofOpt (bin Try.prog .add 3 x16 (.int .i64 1))) h83) fun v84 h84 =>
  ob ((M.ofOpt (bin Try.prog .add 3 x19 (.int .i64 1))) h84) fun v85 h85 =>
  k .normal [x0, x1, x2, x3, x4, x5, x6, x7, x8, x9, x10, x11, x12, x13, x14, x15, v84, x17, v83, v85, v81, x21, x22, x23, x24, x25, x26, x27, x28, x29, x30, x31, x32, x33, x34, x35, x36, x37, x38, x39, x40, x41, x42, x43, x44, x45, x46, x47, x48, x49, x50, x51, x52, x53, x54, x55, x56, x57, x58, x59, x60, x61, x62, x63, x64, x65, x66, x67, x68, x69, x70, x71, x72, x73, x74, x75, x76, x77, x78, x79, x80, x81, x82, x83, x84, x85, x86, x87, x88, x89, x90, x91, x92, x93, x94, x95, x96, x97, x19, v63, v64, v65, x19, v85, x19, x16, x4, v66, v67, v67, v68, v69, v70, v71, v72, v73, v74, x4, x16, v75, v76, v77, v78, v79, v80, v81, x18, v81, v82, v83, x16, v84, x132, x133, x134, x135, x136, x137, x138] h85))) (
  ob ((bldSlice 3 1 1 [(.int .i64 0)] [(0, x19)]) h74) fun v86 h86 =>
  ob ((app 3 1 8 x18 v86) h86) fun v87 h87 =>
  ob ((M.ofOpt (bin Try.prog .add 3 x16 (.int .i64 1))) h87) fun v88 h88 =>
  ob ((M.ofOpt (bin Try.prog .add 3 x19 (.int .i64 1))) h88) fun v89 h89 =>
  k .normal [x0, x1, x2, x3, x4, x5, x6, x7, x8, x9, x10, x11, x12, x13, x14, x15, v88, x17, v87, v89, x19, x21, x22, x23, x24, x25, x26, x27, x28, x29, x30, x31, x32, x33, x34, x35, x36, x37, x38, x39, x40, x41, x42, x43, x44, x45, x46, x47, x48, x49, x50, x51, x52, x53, x54, x55, x56, x57, x58, x59, x60, x61, x62, x63, x64, x65, x66, x67, x68, x69, x70, x71, x72, x73, x74, x75, x76, x77, x78, x79, x80, x81, x82, x83, x84, x85, x86, x87, x88, x89, x90, x91, x92, x93, x94, x95, x96, x97, x19, v63, v64, v65, x19, v89, x19, x16, x4, v66, v67, v67, v68, v69, v70, v71, v72, v73, v74, x117, x118, x119, x120, x121, x122, x123, x124, x125, x18, x19, v86, v87, x16, v88, x132, x133, x134, x135, x136, x137, x138] h89)) (
  k (.exit 8) [x0, x1, x2, x3, x4, x5, x6, x7, x8, x9, x10, x11, x12, x13, x14, x15, x16, x17, x18, x19, x20, x21, x22, x23, x24, x25, x26, x27, x28, x29, x30, x31, x32, x33, x34, x35, x36, x37, x38, x39, x40, x41, x42, x43, x44, x45, x46, x47, x48, x49, x50, x51, x52, x53, x54, x55, x56, x57, x58, x59, x60, x61, x62, x63, x64, x65, x66, x67, x68, x69, x70, x71, x72, x73, x74, x75, x76, x77, x78, x79, x80, x81, x82, x83, x84, x85, x86, x87, x88, x89, x90, x91, x92, x93, x94, x95, x96, x97, x19, v63, v64, v65, x102, x103, x104, x105, x106, x107, x108, x109, x110, x111, x112, x113, x114, x115, x116, x117, x118, x119, x120, x121, x122, x123, x124, x125, x126, x127, x128, x129, x130, x131, x132, x133, x134, x135, x136, x137, x138] h65)
theorem f15_b4_eq (O : Oracle) (L : Loops (Value × Heap)) (k : Ex → K (Value × Heap)) (x0 x1 x2 x3 x4 x5 x6 x7 x8 x9 x10 x11 x12 x13 x14 x15 x16 x17 x18 x19 x20 x21 x22 x23 x24 x25 x26 x27 x28 x29 x30 x31 x32 x33 x34 x35 x36 x37 x38 x39 x40 x41 x42 x43 x44 x45 x46 x47 x48 x49 x50 x51 x52 x53 x54 x55 x56 x57 x58 x59 x60 x61 x62 x63 x64 x65 x66 x67 x68 x69 x70 x71 x72 x73 x74 x75 x76 x77 x78 x79 x80 x81 x82 x83 x84 x85 x86 x87 x88 x89 x90 x91 x92 x93 x94 x95 x96 x97 x98 x99 x100 x101 x102 x103 x104 x105 x106 x107 x108 x109 x110 x111 x112 x113 x114 x115 x116 x117 x118 x119 x120 x121 x122 x123 x124 x125 x126 x127 x128 x129 x130 x131 x132 x133 x134 x135 x136 x137 x138 : Value) (h : Heap) :
    runCode Try.prog O L f15_c4 k [x0, x1, x2, x3, x4, x5, x6, x7, x8, x9, x10, x11, x12, x13, x14, x15, x16, x17, x18, x19, x20, x21, x22, x23, x24, x25, x26, x27, x28, x29, x30, x31, x32, x33, x34, x35, x36, x37, x38, x39, x40, x41, x42, x43, x44, x45, x46, x47, x48, x49, x50, x51, x52, x53, x54, x55, x56, x57, x58, x59, x60, x61, x62, x63, x64, x65, x66, x67, x68, x69, x70, x71, x72, x73, x74, x75, x76, x77, x78, x79, x80, x81, x82, x83, x84, x85, x86, x87, x88, x89, x90, x91, x92, x93, x94, x95, x96, x97, x98, x99, x100, x101, x102, x103, x104, x105, x106, x107, x108, x109, x110, x111, x112, x113, x114, x115, x116, x117, x118, x119, x120, x121, x122, x123, x124, x125, x126, x127, x128, x129, x130, x131, x132, x133, x134, x135, x136, x137, x138] h = f15_b4 O L k x0 x1 x2 x3 x4 x5 x6 x7 x8 x9 x10 x11 x12 x13 x14 x15 x16 x17 x18 x19 x20 x21 x22 x23 x24 x25 x26 x27 x28 x29 x30 x31 x32 x33 x34 x35 x36 x37 x38 x39 x40 x41 x42 x43 x44 x45 x46 x47 x48 x49 x50 x51 x52 x53 x54 x55 x56 x57 x58 x59 x60 x61 x62 x63 x64 x65 x66 x67 x68 x69 x70 x71 x72 x73 x74 x75 x76 x77 x78 x79 x80 x81 x82 x83 x84 x85 x86 x87 x88 x89 x90 x91 x92 x93 x94 x95 x96 x97 x98 x99 x100 x101 x102 x103 x104 x105 x106 x107 x108 x109 x110 x111 x112 x113 x114 x115 x116 x117 x118 x119 x120 x121 x122 x123 x124 x125 x126 x127 x128 x129 x130 x131 x132 x133 x134 x135 x136 x137 x138 h := by kernel_rfl
noncomputable def f15_c3 : Code := sub [1, 1, 1, 1, 1, 1, 0, 1, 0, 0] (fbody Try.prog 15)
noncomputable def f15_k3 (O : Oracle) (L : Loops (Value × Heap)) : Ex → K (Value × Heap) := (blockK 6 (seqK Try.prog O L (sub [1, 1, 1, 1, 1, 1, 1] (fbody Try.prog 15)) (kRet Try.prog Try.f15)))
noncomputable def f15_e3_6 (O : Oracle) (L : Loops (Value × Heap)) (x0 x1 x2 x3 x4 x5 x6 x7 x8 x9 x10 x11 x12 x13 x14 x15 x16 x17 x18 x19 x20 x21 x22 x23 x24 x25 x26 x27 x28 x29 x30 x31 x32 x33 x34 x35 x36 x37 x38 x39 x40 x41 x42 x43 x44 x45 x46 x47 x48 x49 x50 x51 x52 x53 x54 x55 x56 x57 x58 x59 x60 x61 x62 x63 x64 x65 x66 x67 x68 x69 x70 x71 x72 x73 x74 x75 x76 x77 x78 x79 x80 x81 x82 x83 x84 x85 x86 x87 x88 x89 x90 x91 x92 x93 x94 x95 x96 x97 x98 x99 x100 x101 x102 x103 x104 x105 x106 x107 x108 x109 x110 x111 x112 x113 x114 x115 x116 x117 x118 x119 x120 x121 x122 x123 x124 x125 x126 x127 x128 x129 x130 x131 x132 x133 x134 x135 x136 x137 x138 : Value) (h : Heap) : Option (Value × Heap) :=
  ob ((ldN 11 x11) h) fun v60 h60 =>
  ob ((stN 11 x10 v60) h60) fun v61 h61 =>
  ob ((ldN 11 x10) h61) fun w62 _ => some (oneOf [w62], h61)
theorem f15_e3_6_eq (O : Oracle) (L : Loops (Value × Heap)) (x0 x1 x2 x3 x4 x5 x6 x7 x8 x9 x10 x11 x12 x13 x14 x15 x16 x17 x18 x19 x20 x21 x22 x23 x24 x25 x26 x27 x28 x29 x30 x31 x32 x33 x34 x35 x36 x37 x38 x39 x40 x41 x42 x43 x44 x45 x46 x47 x48 x49 x50 x51 x52 x53 x54 x55 x56 x57 x58 x59 x60 x61 x62 x63 x64 x65 x66 x67 x68 x69 x70 x71 x72 x73 x74 x75 x76 x77 x78 x79 x80 x81 x82 x83 x84 x85 x86 x87 x88 x89 x90 x91 x92 x93 x94 x95 x96 x97 x98 x99 x100 x101 x102 x103 x104 x105 x106 x107 x108 x109 x110 x111 x112 x113 x114 x115 x116 x117 x118 x119 x120 x121 x122 x123 x124 x125 x126 x127 x128 x129 x130 x131 x132 x133 x134 x135 x136 x137 x138 : Value) (h : Heap) :
    f15_k3 O L (.exit 6) [x0, x1, x2, x3, x4, x5, x6, x7, x8, x9, x10, x11, x12, x13, x14, x15, x16, x17, x18, x19, x20, x21, x22, x23, x24, x25, x26, x27, x28, x29, x30, x31, x32, x33, x34, x35, x36, x37, x38, x39, x40, x41, x42, x43, x44, x45, x46, x47, x48, x49, x50, x51, x52, x53, x54, x55, x56, x57, x58, x59, x60, x61, x62, x63, x64, x65, x66, x67, x68, x69, x70, x71, x72, x73, x74, x75, x76, x77, x78, x79, x80, x81, x82, x83, x84, x85, x86, x87, x88, x89, x90, x91, x92, x93, x94, x95, x96, x97, x98, x99, x100, x101, x102, x103, x104, x105, x106, x107, x108, x109, x110, x111, x112, x113, x114, x115, x116, x117, x118, x119, x120, x121, x122, x123, x124, x125, x126, x127, x128, x129, x130, x131, x132, x133, x134, x135, x136, x137, x138] h = f15_e3_6 O L x0 x1 x2 x3 x4 x5 x6 x7 x8 x9 x10 x11 x12 x13 x14 x15 x16 x17 x18 x19 x20 x21 x22 x23 x24 x25 x26 x27 x28 x29 x30 x31 x32 x33 x34 x35 x36 x37 x38 x39 x40 x41 x42 x43 x44 x45 x46 x47 x48 x49 x50 x51 x52 x53 x54 x55 x56 x57 x58 x59 x60 x61 x62 x63 x64 x65 x66 x67 x68 x69 x70 x71 x72 x73 x74 x75 x76 x77 x78 x79 x80 x81 x82 x83 x84 x85 x86 x87 x88 x89 x90 x91 x92 x93 x94 x95 x96 x97 x98 x99 x100 x101 x102 x103 x104 x105 x106 x107 x108 x109 x110 x111 x112 x113 x114 x115 x116 x117 x118 x119 x120 x121 x122 x123 x124 x125 x126 x127 x128 x129 x130 x131 x132 x133 x134 x135 x136 x137 x138 h := by kernel_rfl
noncomputable def f15_b3 (O : Oracle) (L : Loops (Value × Heap)) (k : Ex → K (Value × Heap)) (x0 x1 x2 x3 x4 x5 x6 x7 x8 x9 x10 x11 x12 x13 x14 x15 x16 x17 x18 x19 x20 x21 x22 x23 x24 x25 x26 x27 x28 x29 x30 x31 x32 x33 x34 x35 x36 x37 x38 x39 x40 x41 x42 x43 x44 x45 x46 x47 x48 x49 x50 x51 x52 x53 x54 x55 x56 x57 x58 x59 x60 x61 x62 x63 x64 x65 x66 x67 x68 x69 x70 x71 x72 x73 x74 x75 x76 x77 x78 x79 x80 x81 x82 x83 x84 x85 x86 x87 x88 x89 x90 x91 x92 x93 x94 x95 x96 x97 x98 x99 x100 x101 x102 x103 x104 x105 x106 x107 x108 x109 x110 x111 x112 x113 x114 x115 x116 x117 x118 x119 x120 x121 x122 x123 x124 x125 x126 x127 x128 x129 x130 x131 x132 x133 x134 x135 x136 x137 x138 : Value) (h : Heap) : Option (Value × Heap) :=
  ob ((M.ofOpt (fAddr 0 x11)) h) fun v57 h57 =>
  ob ((ld1 v57) h57) fun v58 h58 =>
  ob ((M.ofOpt (bin Try.prog .lss 3 x17 v58)) h58) fun v59 h59 =>
  iteV v59 (
  L (runCode Try.prog O L f15_c4) (f15_k4 O L k) [x0, x1, x2, x3, x4, x5, x6, x7, x8, x9, x10, x11, x12, x13, x14, x15, x16, x17, (.slice none 0 0), (.int .i64 0), x20, x21, x22, x23, x24, x25, x26, x27, x28, x29, x30, x31, x32, x33, x34, x35, x36, x37, x38, x39, x40, x41, x42, x43, x44, x45, x46, x47, x48, x49, x50, x51, x52, x53, x54, x55, x56, x57, x58, x59, x60, x61, x62, x63, x64, x65, x66, x67, x68, x69, x70, x71, x72, x73, x74, x75, x76, x77, x78, x79, x80, x81, x82, x83, x84, x85, x86, x87, x88, x89, x90, x91, x17, v57, v58, v59, x96, x97, x98, x99, x100, x101, x102, x103, x104, x105, x106, x107, x108, x109, x110, x111, x112, x113, x114, x115, x116, x117, x118, x119, x120, x121, x122, x123, x124, x125, x126, x127, x128, x129, x130, x131, x132, x133, x134, x135, x136, x137, x138] h59) (
  k (.exit 6) [x0, x1, x2, x3, x4, x5, x6, x7, x8, x9, x10, x11, x12, x13, x14, x15, x16, x17, x18, x19, x20, x21, x22, x23, x24, x25, x26, x27, x28, x29, x30, x31, x32, x33, x34, x35, x36, x37, x38, x39, x40, x41, x42, x43, x44, x45, x46, x47, x48, x49, x50, x51, x52, x53, x54, x55, x56, x57, x58, x59, x60, x61, x62, x63, x64, x65, x66, x67, x68, x69, x70, x71, x72, x73, x74, x75, x76, x77, x78, x79, x80, x81, x82, x83, x84, x85, x86, x87, x88, x89, x90, x91, x17, v57, v58, v59, x96, x97, x98, x99, x100, x101, x102, x103, x104, x105, x106, x107, x108, x109, x110, x111, x112, x113, x114, x115, x116, x117, x118, x119, x120, x121, x122, x123, x124, x125, x126, x127, x128, x129, x130, x131, x132, x133, x134, x135, x136, x137, x138] h59)
theorem f15_b3_eq (O : Oracle) (L : Loops (Value × Heap)) (k : Ex → K (Value × Heap)) (x0 x1 x2 x3 x4 x5 x6 x7 x8 x9 x10 x11 x12 x13 x14 x15 x16 x17 x18 x19 x20 x21 x22 x23 x24 x25 x26 x27 x28 x29 x30 x31 x32 x33 x34 x35 x36 x37 x38 x39 x40 x41 x42 x43 x44 x45 x46 x47 x48 x49 x50 x51 x52 x53 x54 x55 x56 x57 x58 x59 x60 x61 x62 x63 x64 x65 x66 x67 x68 x69 x70 x71 x72 x73 x74 x75 x76 x77 x78 x79 x80 x81 x82 x83 x84 x85 x86 x87 x88 x89 x90 x91 x92 x93 x94 x95 x96 x97 x98 x99 x100 x101 x102 x103 x104 x105 x106 x107 x108 x109 x110 x111 x112 x113 x114 x115 x116 x117 x118 x119 x120 x121 x122 x123 x124 x125 x126 x127 x128 x129 x130 x131 x132 x133 x134 x135 x136 x137 x138 : Value) (h : Heap) :
    runCode Try.prog O L f15_c3 k [x0, x1, x2, x3, x4, x5, x6, x7, x8, x9, x10, x11, x12, x13, x14, x15, x16, x17, x18, x19, x20, x21, x22, x23, x24, x25, x26, x27, x28, x29, x30, x31, x32, x33, x34, x35, x36, x37, x38, x39, x40, x41, x42, x43, x44, x45, x46, x47, x48, x49, x50, x51, x52, x53, x54, x55, x56, x57, x58, x59, x60, x61, x62, x63, x64, x65, x66, x67, x68, x69, x70, x71, x72, x73, x74, x75, x76, x77, x78, x79, x80, x81, x82, x83, x84, x85, x86, x87, x88, x89, x90, x91, x92, x93, x94, x95, x96, x97, x98, x99, x100, x101, x102, x103, x104, x105, x106, x107, x108, x109, x110, x111, x112, x113, x114, x115, x116, x117, x118, x119, x120, x121, x122, x123, x124, x125, x126, x127, x128, x129, x130, x131, x132, x133, x134, x135, x136, x137, x138] h = f15_b3 O L k x0 x1 x2 x3 x4 x5 x6 x7 x8 x9 x10 x11 x12 x13 x14 x15 x16 x17 x18 x19 x20 x21 x22 x23 x24 x25 x26 x27 x28 x29 x30 x31 x32 x33 x34 x35 x36 x37 x38 x39 x40 x41 x42 x43 x44 x45 x46 x47 x48 x49 x50 x51 x52 x53 x54 x55 x56 x57 x58 x59 x60 x61 x62 x63 x64 x65 x66 x67 x68 x69 x70 x71 x72 x73 x74 x75 x76 x77 x78 x79 x80 x81 x82 x83 x84 x85 x86 x87 x88 x89 x90 x91 x92 x93 x94 x95 x96 x97 x98 x99 x100 x101 x102 x103 x104 x105 x106 x107 x108 x109 x110 x111 x112 x113 x114 x115 x116 x117 x118 x119 x120 x121 x122 x123 x124 x125 x126 x127 x128 x129 x130 x131 x132 x133 x134 x135 x136 x137 x138 h := by kernel_rfl
noncomputable def f15_c2 : Code := sub [1, 1, 1, 1, 0, 1, 0, 0, 1, 0, 0, 1, 0, 0] (fbody Try.prog 15)
noncomputable def f15_k2 (O : Oracle) (L : Loops (Value × Heap)) (k : Ex → K (Value × Heap)) : Ex → K (Value × Heap) := (blockK 4 (blockK 3 (seqK Try.prog O L (sub [1, 1, 1, 1, 0, 1, 0, 0, 1, 1] (fbody Try.prog 15)) k)))
noncomputable def f15_e2_4 (O : Oracle) (L : Loops (Value × Heap)) (k : Ex → K (Value × Heap)) (x0 x1 x2 x3 x4 x5 x6 x7 x8 x9 x10 x11 x12 x13 x14 x15 x16 x17 x18 x19 x20 x21 x22 x23 x24 x25 x26 x27 x28 x29 x30 x31 x32 x33 x34 x35 x36 x37 x38 x39 x40 x41 x42 x43 x44 x45 x46 x47 x48 x49 x50 x51 x52 x53 x54 x55 x56 x57 x58 x59 x60 x61 x62 x63 x64 x65 x66 x67 x68 x69 x70 x71 x72 x73 x74 x75 x76 x77 x78 x79 x80 x81 x82 x83 x84 x85 x86 x87 x88 x89 x90 x91 x92 x93 x94 x95 x96 x97 x98 x99 x100 x101 x102 x103 x104 x105 x106 x107 x108 x109 x110 x111 x112 x113 x114 x115 x116 x117 x118 x119 x120 x121 x122 x123 x124 x125 x126 x127 x128 x129 x130 x131 x132 x133 x134 x135 x136 x137 x138 : Value) (h : Heap) : Option (Value × Heap) :=
  ob ((M.ofOpt (bin Try.prog .add 3 x14 (.int .i64 1))) h) fun v56 h56 =>
  k .normal [x0, x1, x2, x3, x4, x5, x6, x7, x8, x9, x10, x11, x12, x13, v56, x15, x16, x17, x18, x19, x20, x21, x22, x23, x24, x25, x26, x27, x28, x29, x30, x31, x32, x33, x34, x35, x36, x37, x38, x39, x40, x41, x42, x43, x44, x45, x46, x47, x48, x49, x50, x51, x52, x53, x54, x55, x56, x57, x58, x59, x60, x61, x62, x63, x64, x65, x66, x67, x68, x69, x70, x71, x14, v56, x74, x75, x76, x77, x78, x79, x80, x81, x82, x83, x84, x85, x86, x87, x88, x89, x90, x91, x92, x93, x94, x95, x96, x97, x98, x99, x100, x101, x102, x103, x104, x105, x106, x107, x108, x109, x110, x111, x112, x113, x114, x115, x116, x117, x118, x119, x120, x121, x122, x123, x124, x125, x126, x127, x128, x129, x130, x131, x132, x133, x134, x135, x136, x137, x138] h56
theorem f15_e2_4_eq (O : Oracle) (L : Loops (Value × Heap)) (k : Ex → K (Value × Heap)) (x0 x1 x2 x3 x4 x5 x6 x7 x8 x9 x10 x11 x12 x13 x14 x15 x16 x17 x18 x19 x20 x21 x22 x23 x24 x25 x26 x27 x28 x29 x30 x31 x32 x33 x34 x35 x36 x37 x38 x39 x40 x41 x42 x43 x44 x45 x46 x47 x48 x49 x50 x51 x52 x53 x54 x55 x56 x57 x58 x59 x60 x61 x62 x63 x64 x65 x66 x67 x68 x69 x70 x71 x72 x73 x74 x75 x76 x77 x78 x79 x80 x81 x82 x83 x84 x85 x86 x87 x88 x89 x90 x91 x92 x93 x94 x95 x96 x97 x98 x99 x100 x101 x102 x103 x104 x105 x106 x107 x108 x109 x110 x111 x112 x113 x114 x115 x116 x117 x118 x119 x120 x121 x122 x123 x124 x125 x126 x127 x128 x129 x130 x131 x132 x133 x134 x135 x136 x137 x138 : Value) (h : Heap) :
    f15_k2 O L k (.exit 4) [x0, x1, x2, x3, x4, x5, x6, x7, x8, x9, x10, x11, x12, x13, x14, x15, x16, x17, x18, x19, x20, x21, x22, x23, x24, x25, x26, x27, x28, x29, x30, x31, x32, x33, x34, x35, x36, x37, x38, x39, x40, x41, x42, x43, x44, x45, x46, x47, x48, x49, x50, x51, x52, x53, x54, x55, x56, x57, x58, x59, x60, x61, x62, x63, x64, x65, x66, x67, x68, x69, x70, x71, x72, x73, x74, x75, x76, x77, x78, x79, x80, x81, x82, x83, x84, x85, x86, x87, x88, x89, x90, x91, x92, x93, x94, x95, x96, x97, x98, x99, x100, x101, x102, x103, x104, x105, x106, x107, x108, x109, x110, x111, x112, x113, x114, x115, x116, x117, x118, x119, x120, x121, x122, x123, x124, x125, x126, x127, x128, x129, x130, x131, x132, x133, x134, x135, x136, x137, x138] h = f15_e2_4 O L k x0 x1 x2 x3 x4 x5 x6 x7 x8 x9 x10 x11 x12 x13 x14 x15 x16 x17 x18 x19 x20 x21 x22 x23 x24 x25 x26 x27 x28 x29 x30 x31 x32 x33 x34 x35 x36 x37 x38 x39 x40 x41 x42 x43 x44 x45 x46 x47 x48 x49 x50 x51 x52 x53 x54 x55 x56 x57 x58 x59 x60 x61 x62 x63 x64 x65 x66 x67 x68 x69 x70 x71 x72 x73 x74 x75 x76 x77 x78 x79 x80 x81 x82 x83 x84 x85 x86 x87 x88 x89 x90 x91 x92 x93 x94 x95 x96 x97 x98 x99 x100 x101 x102 x103 x104 x105 x106 x107 x108 x109 x110 x111 x112 x113 x114 x115 x116 x117 x118 x119 x120 x121 x122 x123 x124 x125 x126 x127 x128 x129 x130 x131 x132 x133 x134 x135 x136 x137 x138 h := by kernel_rfl
noncomputable def f15_b2 (O : Oracle) (L : Loops (Value × Heap)) (k : Ex → K (Value × Heap)) (x0 x1 x2 x3 x4 x5 x6 x7 x8 x9 x10 x11 x12 x13 x14 x15 x16 x17 x18 x19 x20 x21 x22 x23 x24 x25 x26 x27 x28 x29 x30 x31 x32 x33 x34 x35 x36 x37 x38 x39 x40 x41 x42 x43 x44 x45 x46 x47 x48 x49 x50 x51 x52 x53 x54 x55 x56 x57 x58 x59 x60 x61 x62 x63 x64 x65 x66 x67 x68 x69 x70 x71 x72 x73 x74 x75 x76 x77 x78 x79 x80 x81 x82 x83 x84 x85 x86 x87 x88 x89 x90 x91 x92 x93 x94 x95 x96 x97 x98 x99 x100 x101 x102 x103 x104 x105 x106 x107 x108 x109 x110 x111 x112 x113 x114 x115 x116 x117 x118 x119 x120 x121 x122 x123 x124 x125 x126 x127 x128 x129 x130 x131 x132 x133 x134 x135 x136 x137 x138 : Value) (h : Heap) : Option (Value × Heap) :=
  ob ((M.ofOpt (bin Try.prog .lss 3 x15 x14)) h) fun v42 h42 =>
  iteV v42 (
  ob ((M.ofOpt (bin Try.prog .rem 22 x13 (.int .u16 2))) h42) fun v43 h43 =>
  ob ((M.ofOpt (bin Try.prog .eql 22 v43 (.int .u16 1))) h43) fun v44 h44 =>
  iteV v44 (
  ob ((M.ofOpt (fAddr 1 x11)) h44) fun v45 h45 =>
  ob ((ld1 v45) h45) fun v46 h46 =>
  ob ((M.ofOpt (bld Try.prog 33 [(0, x15), (1, x14)])) h46) fun v47 h47 =>
  ob ((bldSlice 33 2 1 [(.int .i64 0), (.int .i64 0)] [(0, v47)]) h47) fun v48 h48 =>
  ob ((app 33 2 16 v46 v48) h48) fun v49 h49 =>
  ob ((M.ofOpt (fAddr 1 x11)) h49) fun v50 h50 =>
  ob ((stN 1 v50 v49) h50) fun v51 h51 =>
  ob ((M.ofOpt (bin Try.prog .quo 22 x13 (.int .u16 2))) h51) fun v52 h52 =>
  ob ((M.ofOpt (bin Try.prog .add 3 x15 (.int .i64 1))) h52) fun v53 h53 =>
  k .normal [x0, x1, x2, x3, x4, x5, x6, x7, x8, x9, x10, x11, x12, v52, x14, v53, x16, x17, x18, x19, x20, x21, x22, x23, x24, x25, x26, x27, x28, x29, x30, x31, x32, x33, x34, x35, x36, x37, x38, x39, x40, x41, x42, x43, x44, x45, x46, x47, x48, x49, x50, x51, x52, x53, x54, x55, x56, x57, x58, x59, x60, x61, x62, x63, x64, x65, x66, x67, x68, x69, x70, x71, x72, x73, x15, x14, v42, x15, v53, x13, v43, v44, v45, v46, x15, x14, v47, v48, v49, v50, x13, v52, x92, x93, x94, x95, x96, x97, x98, x99, x100, x101, x102, x103, x104, x105, x106, x107, x108, x109, x110, x111, x112, x113, x114, x115, x116, x117, x118, x119, x120, x121, x122, x123, x124, x125, x126, x127, x128, x129, x130, x131, x132, x133, x134, x135, x136, x137, x138] h53) (
  ob ((M.ofOpt (bin Try.prog .quo 22 x13 (.int .u16 2))) h44) fun v54 h54 =>
  ob ((M.ofOpt (bin Try.prog .add 3 x15 (.int .i64 1))) h54) fun v55 h55 =>
  k .normal [x0, x1, x2, x3, x4, x5, x6, x7, x8, x9, x10, x11, x12, v54, x14, v55, x16, x17, x18, x19, x20, x21, x22, x23, x24, x25, x26, x27, x28, x29, x30, x31, x32, x33, x34, x35, x36, x37, x38, x39, x40, x41, x42, x43, x44, x45, x46, x47, x48, x49, x50, x51, x52, x53, x54, x55, x56, x57, x58, x59, x60, x61, x62, x63, x64, x65, x66, x67, x68, x69, x70, x71, x72, x73, x15, x14, v42, x15, v55, x13, v43, v44, x82, x83, x84, x85, x86, x87, x88, x89, x13, v54, x92, x93, x94, x95, x96, x97, x98, x99, x100, x101, x102, x103, x104, x105, x106, x107, x108, x109, x110, x111, x112, x113, x114, x115, x116, x117, x118, x119, x120, x121, x122, x123, x124, x125, x126, x127, x128, x129, x130, x131, x132, x133, x134, x135, x136, x137, x138] h55)) (
  k (.exit 4) [x0, x1, x2, x3, x4, x5, x6, x7, x8, x9, x10, x11, x12, x13, x14, x15, x16, x17, x18, x19, x20, x21, x22, x23, x24, x25, x26, x27, x28, x29, x30, x31, x32, x33, x34, x35, x36, x37, x38, x39, x40, x41, x42, x43, x44, x45, x46, x47, x48, x49, x50, x51, x52, x53, x54, x55, x56, x57, x58, x59, x60, x61, x62, x63, x64, x65, x66, x67, x68, x69, x70, x71, x72, x73, x15, x14, v42, x77, x78, x79, x80, x81, x82, x83, x84, x85, x86, x87, x88, x89, x90, x91, x92, x93, x94, x95, x96, x97, x98, x99, x100, x101, x102, x103, x104, x105, x106, x107, x108, x109, x110, x111, x112, x113, x114, x115, x116, x117, x118, x119, x120, x121, x122, x123, x124, x125, x126, x127, x128, x129, x130, x131, x132, x133, x134, x135, x136, x137, x138] h42)
theorem f15_b2_eq (O : Oracle) (L : Loops (Value × Heap)) (k : Ex → K (Value × Heap)) (x0 x1 x2 x3 x4 x5 x6 x7 x8 x9 x10 x11 x12 x13 x14 x15 x16 x17 x18 x19 x20 x21 x22 x23 x24 x25 x26 x27 x28 x29 x30 x31 x32 x33 x34 x35 x36 x37 x38 x39 x40 x41 x42 x43 x44 x45 x46 x47 x48 x49 x50 x51 x52 x53 x54 x55 x56 x57 x58 x59 x60 x61 x62 x63 x64 x65 x66 x67 x68 x69 x70 x71 x72 x73 x74 x75 x76 x77 x78 x79 x80 x81 x82 x83 x84 x85 x86 x87 x88 x89 x90 x91 x92 x93 x94 x95 x96 x97 x98 x99 x100 x101 x102 x103 x104 x105 x106 x107 x108 x109 x110 x111 x112 x113 x114 x115 x116 x117 x118 x119 x120 x121 x122 x123 x124 x125 x126 x127 x128 x129 x130 x131 x132 x133 x134 x135 x136 x137 x138 : Value) (h : Heap) :
    runCode Try.prog O L f15_c2 k [x0, x1, x2, x3, x4, x5, x6, x7, x8, x9, x10, x11, x12, x13, x14, x15, x16, x17, x18, x19, x20, x21, x22, x23, x24, x25, x26, x27, x28, x29, x30, x31, x32, x33, x34, x35, x36, x37, x38, x39, x40, x41, x42, x43, x44, x45, x46, x47, x48, x49, x50, x51, x52, x53, x54, x55, x56, x57, x58, x59, x60, x61, x62, x63, x64, x65, x66, x67, x68, x69, x70, x71, x72, x73, x74, x75, x76, x77, x78, x79, x80, x81, x82, x83, x84, x85, x86, x87, x88, x89, x90, x91, x92, x93, x94, x95, x96, x97, x98, x99, x100, x101, x102, x103, x104, x105, x106, x107, x108, x109, x110, x111, x112, x113, x114, x115, x116, x117, x118, x119, x120, x121, x122, x123, x124, x125, x126, x127, x128, x129, x130, x131, x132, x133, x134, x135, x136, x137, x138] h = f15_b2 O L k x0 x1 x2 x3 x4 x5 x6 x7 x8 x9 x10 x11 x12 x13 x14 x15 x16 x17 x18 x19 x20 x21 x22 x23 x24 x25 x26 x27 x28 x29 x30 x31 x32 x33 x34 x35 x36 x37 x38 x39 x40 x41 x42 x43 x44 x45 x46 x47 x48 x49 x50 x51 x52 x53 x54 x55 x56 x57 x58 x59 x60 x61 x62 x63 x64 x65 x66 x67 x68 x69 x70 x71 x72 x73 x74 x75 x76 x77 x78 x79 x80 x81 x82 x83 x84 x85 x86 x87 x88 x89 x90 x91 x92 x93 x94 x95 x96 x97 x98 x99 x100 x101 x102 x103 x104 x105 x106 x107 x108 x109 x110 x111 x112 x113 x114 x115 x116 x117 x118 x119 x120 x121 x122 x123 x124 x125 x126 x127 x128 x129 x130 x131 x132 x133 x134 x135 x136 x137 x138 h := by kernel_rfl
noncomputable def f15_c1 : Code := sub [1, 1, 1, 1, 0, 1, 0, 0] (fbody Try.prog 15)
noncomputable def f15_k1 (O : Oracle) (L : Loops (Value × Heap)) : Ex → K (Value × Heap) := (blockK 2 (seqK Try.prog O L (sub [1, 1, 1, 1, 1] (fbody Try.prog 15)) (kRet Try.prog Try.f15)))
noncomputable def f15_e1_2 (O : Oracle) (L : Loops (Value × Heap)) (x0 x1 x2 x3 x4 x5 x6 x7 x8 x9 x10 x11 x12 x13 x14 x15 x16 x17 x18 x19 x20 x21 x22 x23 x24 x25 x26 x27 x28 x29 x30 x31 x32 x33 x34 x35 x36 x37 x38 x39 x40 x41 x42 x43 x44 x45 x46 x47 x48 x49 x50 x51 x52 x53 x54 x55 x56 x57 x58 x59 x60 x61 x62 x63 x64 x65 x66 x67 x68 x69 x70 x71 x72 x73 x74 x75 x76 x77 x78 x79 x80 x81 x82 x83 x84 x85 x86 x87 x88 x89 x90 x91 x92 x93 x94 x95 x96 x97 x98 x99 x100 x101 x102 x103 x104 x105 x106 x107 x108 x109 x110 x111 x112 x113 x114 x115 x116 x117 x118 x119 x120 x121 x122 x123 x124 x125 x126 x127 x128 x129 x130 x131 x132 x133 x134 x135 x136 x137 x138 : Value) (h : Heap) : Option (Value × Heap) :=
  L (runCode Try.prog O L f15_c3) (f15_k3 O L) [x0, x1, x2, x3, x4, x5, x6, x7, x8, x9, x10, x11, x12, x13, x14, x15, (.int .i64 0), (.int .i64 0), x18, x19, x20, x21, x22, x23, x24, x25, x26, x27, x28, x29, x30, x31, x32, x33, x34, x35, x36, x37, x38, x39, x40, x41, x42, x43, x44, x45, x46, x47, x48, x49, x50, x51, x52, x53, x54, x55, x56, x57, x58, x59, x60, x61, x62, x63, x64, x65, x66, x67, x68, x69, x70, x71, x72, x73, x74, x75, x76, x77, x78, x79, x80, x81, x82, x83, x84, x85, x86, x87, x88, x89, x90, x91, x92, x93, x94, x95, x96, x97, x98, x99, x100, x101, x102, x103, x104, x105, x106, x107, x108, x109, x110, x111, x112, x113, x114, x115, x116, x117, x118, x119, x120, x121, x122, x123, x124, x125, x126, x127, x128, x129, x130, x131, x132, x133, x134, x135, x136, x137, x138] h
theorem f15_e1_2_eq (O : Oracle) (L : Loops (Value × Heap)) (x0 x1 x2 x3 x4 x5 x6 x7 x8 x9 x10 x11 x12 x13 x14 x15 x16 x17 x18 x19 x20 x21 x22 x23 x24 x25 x26 x27 x28 x29 x30 x31 x32 x33 x34 x35 x36 x37 x38 x39 x40 x41 x42 x43 x44 x45 x46 x47 x48 x49 x50 x51 x52 x53 x54 x55 x56 x57 x58 x59 x60 x61 x62 x63 x64 x65 x66 x67 x68 x69 x70 x71 x72 x73 x74 x75 x76 x77 x78 x79 x80 x81 x82 x83 x84 x85 x86 x87 x88 x89 x90 x91 x92 x93 x94 x95 x96 x97 x98 x99 x100 x101 x102 x103 x104 x105 x106 x107 x108 x109 x110 x111 x112 x113 x114 x115 x116 x117 x118 x119 x120 x121 x122 x123 x124 x125 x126 x127 x128 x129 x130 x131 x132 x133 x134 x135 x136 x137 x138 : Value) (h : Heap) :
    f15_k1 O L (.exit 2) [x0, x1, x2, x3, x4, x5, x6, x7, x8, x9, x10, x11, x12, x13, x14, x15, x16, x17, x18, x19, x20, x21, x22, x23, x24, x25, x26, x27, x28, x29, x30, x31, x32, x33, x34, x35, x36, x37, x38, x39, x40, x41, x42, x43, x44, x45, x46, x47, x48, x49, x50, x51, x52, x53, x54, x55, x56, x57, x58, x59, x60, x61, x62, x63, x64, x65, x66, x67, x68, x69, x70, x71, x72, x73, x74, x75, x76, x77, x78, x79, x80, x81, x82, x83, x84, x85, x86, x87, x88, x89, x90, x91, x92, x93, x94, x95, x96, x97, x98, x99, x100, x101, x102, x103, x104, x105, x106, x107, x108, x109, x110, x111, x112, x113, x114, x115, x116, x117, x118, x119, x120, x121, x122, x123, x124, x125, x126, x127, x128, x129, x130, x131, x132, x133, x134, x135, x136, x137, x138] h = f15_e1_2 O L x0 x1 x2 x3 x4 x5 x6 x7 x8 x9 x10 x11 x12 x13 x14 x15 x16 x17 x18 x19 x20 x21 x22 x23 x24 x25 x26 x27 x28 x29 x30 x31 x32 x33 x34 x35 x36 x37 x38 x39 x40 x41 x42 x43 x44 x45 x46 x47 x48 x49 x50 x51 x52 x53 x54 x55 x56 x57 x58 x59 x60 x61 x62 x63 x64 x65 x66 x67 x68 x69 x70 x71 x72 x73 x74 x75 x76 x77 x78 x79 x80 x81 x82 x83 x84 x85 x86 x87 x88 x89 x90 x91 x92 x93 x94 x95 x96 x97 x98 x99 x100 x101 x102 x103 x104 x105 x106 x107 x108 x109 x110 x111 x112 x113 x114 x115 x116 x117 x118 x119 x120 x121 x122 x123 x124 x125 x126 x127 x128 x129 x130 x131 x132 x133 x134 x135 x136 x137 x138 h := by kernel_rfl
noncomputable def f15_b1 (O : Oracle) (L : Loops (Value × Heap)) (k : Ex → K (Value × Heap)) (x0 x1 x2 x3 x4 x5 x6 x7 x8 x9 x10 x11 x12 x13 x14 x15 x16 x17 x18 x19 x20 x21 x22 x23 x24 x25 x26 x27 x28 x29 x30 x31 x32 x33 x34 x35 x36 x37 x38 x39 x40 x41 x42 x43 x44 x45 x46 x47 x48 x49 x50 x51 x52 x53 x54 x55 x56 x57 x58 x59 x60 x61 x62 x63 x64 x65 x66 x67 x68 x69 x70 x71 x72 x73 x74 x75 x76 x77 x78 x79 x80 x81 x82 x83 x84 x85 x86 x87 x88 x89 x90 x91 x92 x93 x94 x95 x96 x97 x98 x99 x100 x101 x102 x103 x104 x105 x106 x107 x108 x109 x110 x111 x112 x113 x114 x115 x116 x117 x118 x119 x120 x121 x122 x123 x124 x125 x126 x127 x128 x129 x130 x131 x132 x133 x134 x135 x136 x137 x138 : Value) (h : Heap) : Option (Value × Heap) :=
  ob ((M.ofOpt (fAddr 0 x11)) h) fun v39 h39 =>
  ob ((ld1 v39) h39) fun v40 h40 =>
  ob ((M.ofOpt (bin Try.prog .lss 3 x14 v40)) h40) fun v41 h41 =>
  iteV v41 (
  L (runCode Try.prog O L f15_c2) (f15_k2 O L k) [x0, x1, x2, x3, x4, x5, x6, x7, x8, x9, x10, x11, x12, x13, x14, (.int .i64 0), x16, x17, x18, x19, x20, x21, x22, x23, x24, x25, x26, x27, x28, x29, x30, x31, x32, x33, x34, x35, x36, x37, x38, x39, x40, x41, x42, x43, x44, x45, x46, x47, x48, x49, x50, x51, x52, x53, x54, x55, x56, x57, x58, x59, x60, x61, x62, x63, x64, x65, x66, x67, x14, v39, v40, v41, x72, x73, x74, x75, x76, x77, x78, x79, x80, x81, x82, x83, x84, x85, x86, x87, x88, x89, x90, x91, x92, x93, x94, x95, x96, x97, x98, x99, x100, x101, x102, x103, x104, x105, x106, x107, x108, x109, x110, x111, x112, x113, x114, x115, x116, x117, x118, x119, x120, x121, x122, x123, x124, x125, x126, x127, x128, x129, x130, x131, x132, x133, x134, x135, x136, x137, x138] h41) (
  k (.exit 2) [x0, x1, x2, x3, x4, x5, x6, x7, x8, x9, x10, x11, x12, x13, x14, x15, x16, x17, x18, x19, x20, x21, x22, x23, x24, x25, x26, x27, x28, x29, x30, x31, x32, x33, x34, x35, x36, x37, x38, x39, x40, x41, x42, x43, x44, x45, x46, x47, x48, x49, x50, x51, x52, x53, x54, x55, x56, x57, x58, x59, x60, x61, x62, x63, x64, x65, x66, x67, x14, v39, v40, v41, x72, x73, x74, x75, x76, x77, x78, x79, x80, x81, x82, x83, x84, x85, x86, x87, x88, x89, x90, x91, x92, x93, x94, x95, x96, x97, x98, x99, x100, x101, x102, x103, x104, x105, x106, x107, x108, x109, x110, x111, x112, x113, x114, x115, x116, x117, x118, x119, x120, x121, x122, x123, x124, x125, x126, x127, x128, x129, x130, x131, x132, x133, x134, x135, x136, x137, x138] h41)
theorem f15_b1_eq (O : Oracle) (L : Loops (Value × Heap)) (k : Ex → K (Value × Heap)) (x0 x1 x2 x3 x4 x5 x6 x7 x8 x9 x10 x11 x12 x13 x14 x15 x16 x17 x18 x19 x20 x21 x22 x23 x24 x25 x26 x27 x28 x29 x30 x31 x32 x33 x34 x35 x36 x37 x38 x39 x40 x41 x42 x43 x44 x45 x46 x47 x48 x49 x50 x51 x52 x53 x54 x55 x56 x57 x58 x59 x60 x61 x62 x63 x64 x65 x66 x67 x68 x69 x70 x71 x72 x73 x74 x75 x76 x77 x78 x79 x80 x81 x82 x83 x84 x85 x86 x87 x88 x89 x90 x91 x92 x93 x94 x95 x96 x97 x98 x99 x100 x101 x102 x103 x104 x105 x106 x107 x108 x109 x110 x111 x112 x113 x114 x115 x116 x117 x118 x119 x120 x121 x122 x123 x124 x125 x126 x127 x128 x129 x130 x131 x132 x133 x134 x135 x136 x137 x138 : Value) (h : Heap) :
    runCode Try.prog O L f15_c1 k [x0, x1, x2, x3, x4, x5, x6, x7, x8, x9, x10, x11, x12, x13, x14, x15, x16, x17, x18, x19, x20, x21, x22, x23, x24, x25, x26, x27, x28, x29, x30, x31, x32, x33, x34, x35, x36, x37, x38, x39, x40, x41, x42, x43, x44, x45, x46, x47, x48, x49, x50, x51, x52, x53, x54, x55, x56, x57, x58, x59, x60, x61, x62, x63, x64, x65, x66, x67, x68, x69, x70, x71, x72, x73, x74, x75, x76, x77, x78, x79, x80, x81, x82, x83, x84, x85, x86, x87, x88, x89, x90, x91, x92, x93, x94, x95, x96, x97, x98, x99, x100, x101, x102, x103, x104, x105, x106, x107, x108, x109, x110, x111, x112, x113, x114, x115, x116, x117, x118, x119, x120, x121, x122, x123, x124, x125, x126, x127, x128, x129, x130, x131, x132, x133, x134, x135, x136, x137, x138] h = f15_b1 O L k x0 x1 x2 x3 x4 x5 x6 x7 x8 x9 x10 x11 x12 x13 x14 x15 x16 x17 x18 x19 x20 x21 x22 x23 x24 x25 x26 x27 x28 x29 x30 x31 x32 x33 x34 x35 x36 x37 x38 x39 x40 x41 x42 x43 x44 x45 x46 x47 x48 x49 x50 x51 x52 x53 x54 x55 x56 x57 x58 x59 x60 x61 x62 x63 x64 x65 x66 x67 x68 x69 x70 x71 x72 x73 x74 x75 x76 x77 x78 x79 x80 x81 x82 x83 x84 x85 x86 x87 x88 x89 x90 x91 x92 x93 x94 x95 x96 x97 x98 x99 x100 x101 x102 x103 x104 x105 x106 x107 x108 x109 x110 x111 x112 x113 x114 x115 x116 x117 x118 x119 x120 x121 x122 x123 x124 x125 x126 x127 x128 x129 x130 x131 x132 x133 x134 x135 x136 x137 x138 h := by kernel_rfl
noncomputable def f15_c0 : Code := sub [1, 1, 0, 1, 0, 0] (fbody Try.prog 15)
noncomputable def f15_k0 (O : Oracle) (L : Loops (Value × Heap)) : Ex → K (Value × Heap) := (blockK 0 (seqK Try.prog O L (sub [1, 1, 1] (fbody Try.prog 15)) (kRet Try.prog Try.f15)))
noncomputable def f15_e0_0 (O : Oracle) (L : Loops (Value × Heap)) (x0 x1 x2 x3 x4 x5 x6 x7 x8 x9 x10 x11 x12 x13 x14 x15 x16 x17 x18 x19 x20 x21 x22 x23 x24 x25 x26 x27 x28 x29 x30 x31 x32 x33 x34 x35 x36 x37 x38 x39 x40 x41 x42 x43 x44 x45 x46 x47 x48 x49 x50 x51 x52 x53 x54 x55 x56 x57 x58 x59 x60 x61 x62 x63 x64 x65 x66 x67 x68 x69 x70 x71 x72 x73 x74 x75 x76 x77 x78 x79 x80 x81 x82 x83 x84 x85 x86 x87 x88 x89 x90 x91 x92 x93 x94 x95 x96 x97 x98 x99 x100 x101 x102 x103 x104 x105 x106 x107 x108 x109 x110 x111 x112 x113 x114 x115 x116 x117 x118 x119 x120 x121 x122 x123 x124 x125 x126 x127 x128 x129 x130 x131 x132 x133 x134 x135 x136 x137 x138 : Value) (h : Heap) : Option (Value × Heap) :=
  L (runCode Try.prog O L f15_c1) (f15_k1 O L) [x0, x1, x2, x3, x4, x5, x6, x7, x8, x9, x10, x11, x12, x3, (.int .i64 1), x15, x16, x17, x18, x19, x20, x21, x22, x23, x24, x25, x26, x27, x28, x29, x30, x31, x32, x33, x34, x35, x36, x37, x38, x39, x40, x41, x42, x43, x44, x45, x46, x47, x48, x49, x50, x51, x52, x53, x54, x55, x56, x57, x58, x59, x60, x61, x62, x63, x64, x65, x66, x3, x68, x69, x70, x71, x72, x73, x74, x75, x76, x77, x78, x79, x80, x81, x82, x83, x84, x85, x86, x87, x88, x89, x90, x91, x92, x93, x94, x95, x96, x97, x98, x99, x100, x101, x102, x103, x104, x105, x106, x107, x108, x109, x110, x111, x112, x113, x114, x115, x116, x117, x118, x119, x120, x121, x122, x123, x124, x125, x126, x127, x128, x129, x130, x131, x132, x133, x134, x135, x136, x137, x138] h
theorem f15_e0_0_eq (O : Oracle) (L : Loops (Value × Heap)) (x0 x1 x2 x3 x4 x5 x6 x7 x8 x9 x10 x11 x12 x13 x14 x15 x16 x17 x18 x19 x20 x21 x22 x23 x24 x25 x26 x27 x28 x29 x30 x31 x32 x33 x34 x35 x36 x37 x38 x39 x40 x41 x42 x43 x44 x45 x46 x47 x48 x49 x50 x51 x52 x53 x54 x55 x56 x57 x58 x59 x60 x61 x62 x63 x64 x65 x66 x67 x68 x69 x70 x71 x72 x73 x74 x75 x76 x77 x78 x79 x80 x81 x82 x83 x84 x85 x86 x87 x88 x89 x90 x91 x92 x93 x94 x95 x96 x97 x98 x99 x100 x101 x102 x103 x104 x105 x106 x107 x108 x109 x110 x111 x112 x113 x114 x115 x116 x117 x118 x119 x120 x121 x122 x123 x124 x125 x126 x127 x128 x129 x130 x131 x132 x133 x134 x135 x136 x137 x138 : Value) (h : Heap) :
    f15_k0 O L (.exit 0) [x0, x1, x2, x3, x4, x5, x6, x7, x8, x9, x10, x11, x12, x13, x14, x15, x16, x17, x18, x19, x20, x21, x22, x23, x24, x25, x26, x27, x28, x29, x30, x31, x32, x33, x34, x35, x36, x37, x38, x39, x40, x41, x42, x43, x44, x45, x46, x47, x48, x49, x50, x51, x52, x53, x54, x55, x56, x57, x58, x59, x60, x61, x62, x63, x64, x65, x66, x67, x68, x69, x70, x71, x72, x73, x74, x75, x76, x77, x78, x79, x80, x81, x82, x83, x84, x85, x86, x87, x88, x89, x90, x91, x92, x93, x94, x95, x96, x97, x98, x99, x100, x101, x102, x103, x104, x105, x106, x107, x108, x109, x110, x111, x112, x113, x114, x115, x116, x117, x118, x119, x120, x121, x122, x123, x124, x125, x126, x127, x128, x129, x130, x131, x132, x133, x134, x135, x136, x137, x138] h = f15_e0_0 O L x0 x1 x2 x3 x4 x5 x6 x7 x8 x9 x10 x11 x12 x13 x14 x15 x16 x17 x18 x19 x20 x21 x22 x23 x24 x25 x26 x27 x28 x29 x30 x31 x32 x33 x34 x35 x36 x37 x38 x39 x40 x41 x42 x43 x44 x45 x46 x47 x48 x49 x50 x51 x52 x53 x54 x55 x56 x57 x58 x59 x60 x61 x62 x63 x64 x65 x66 x67 x68 x69 x70 x71 x72 x73 x74 x75 x76 x77 x78 x79 x80 x81 x82 x83 x84 x85 x86 x87 x88 x89 x90 x91 x92 x93 x94 x95 x96 x97 x98 x99 x100 x101 x102 x103 x104 x105 x106 x107 x108 x109 x110 x111 x112 x113 x114 x115 x116 x117 x118 x119 x120 x121 x122 x123 x124 x125 x126 x127 x128 x129 x130 x131 x132 x133 x134 x135 x136 x137 x138 h := by kernel_rfl
noncomputable def f15_b0 (O : Oracle) (L : Loops (Value × Heap)) (k : Ex → K (Value × Heap)) (x0 x1 x2 x3 x4 x5 x6 x7 x8 x9 x10 x11 x12 x13 x14 x15 x16 x17 x18 x19 x20 x21 x22 x23 x24 x25 x26 x27 x28 x29 x30 x31 x32 x33 x34 x35 x36 x37 x38 x39 x40 x41 x42 x43 x44 x45 x46 x47 x48 x49 x50 x51 x52 x53 x54 x55 x56 x57 x58 x59 x60 x61 x62 x63 x64 x65 x66 x67 x68 x69 x70 x71 x72 x73 x74 x75 x76 x77 x78 x79 x80 x81 x82 x83 x84 x85 x86 x87 x88 x89 x90 x91 x92 x93 x94 x95 x96 x97 x98 x99 x100 x101 x102 x103 x104 x105 x106 x107 x108 x109 x110 x111 x112 x113 x114 x115 x116 x117 x118 x119 x120 x121 x122 x123 x124 x125 x126 x127 x128 x129 x130 x131 x132 x133 x134 x135 x136 x137 x138 : Value) (h : Heap) : Option (Value × Heap) :=
  ob ((M.ofOpt (fAddr 2 x11)) h) fun v25 h25 =>
  ob ((ld1 v25) h25) fun v26 h26 =>
  ob ((M.ofOpt (bin Try.prog .lss 3 x12 v26)) h26) fun v27 h27 =>
  iteV v27 (
  ob ((M.ofOpt (fAddr 8 x11)) h27) fun v28 h28 =>
  ob ((ld1 v28) h28) fun v29 h29 =>
  ob ((conv Try.prog 5 3 x2) h29) fun v30 h30 =>
  ob ((M.ofOpt (bin Try.prog .add 3 x12 v30)) h30) fun v31 h31 =>
  ob ((M.ofOpt (bin Try.prog .rem 3 v31 (.int .i64 5))) h31) fun v32 h32 =>
  ob ((M.ofOpt (bin Try.prog .add 3 (.int .i64 1) v32)) h32) fun v33 h33 =>
  ob ((bldSlice 3 1 1 [(.int .i64 0)] [(0, v33)]) h33) fun v34 h34 =>
  ob ((app 3 1 8 v29 v34) h34) fun v35 h35 =>
  ob ((M.ofOpt (fAddr 8 x11)) h35) fun v36 h36 =>
  ob ((stN 1 v36 v35) h36) fun v37 h37 =>
  ob ((M.ofOpt (bin Try.prog .add 3 x12 (.int .i64 1))) h37) fun v38 h38 =>
  k .normal [x0, x1, x2, x3, x4, x5, x6, x7, x8, x9, x10, x11, v38, x13, x14, x15, x16, x17, x18, x19, x20, x21, x22, x23, x24, x25, x26, x27, x28, x29, x30, x31, x32, x33, x34, x35, x36, x37, x38, x39, x40, x41, x42, x43, x44, x45, x46, x47, x48, x49, x12, v25, v26, v27, x12, v38, v28, v29, x12, x2, v30, v31, v32, v33, v34, v35, v36, x67, x68, x69, x70, x71, x72, x73, x74, x75, x76, x77, x78, x79, x80, x81, x82, x83, x84, x85, x86, x87, x88, x89, x90, x91, x92, x93, x94, x95, x96, x97, x98, x99, x100, x101, x102, x103, x104, x105, x106, x107, x108, x109, x110, x111, x112, x113, x114, x115, x116, x117, x118, x119, x120, x121, x122, x123, x124, x125, x126, x127, x128, x129, x130, x131, x132, x133, x134, x135, x136, x137, x138] h38) (
  k (.exit 0) [x0, x1, x2, x3, x4, x5, x6, x7, x8, x9, x10, x11, x12, x13, x14, x15, x16, x17, x18, x19, x20, x21, x22, x23, x24, x25, x26, x27, x28, x29, x30, x31, x32, x33, x34, x35, x36, x37, x38, x39, x40, x41, x42, x43, x44, x45, x46, x47, x48, x49, x12, v25, v26, v27, x54, x55, x56, x57, x58, x59, x60, x61, x62, x63, x64, x65, x66, x67, x68, x69, x70, x71, x72, x73, x74, x75, x76, x77, x78, x79, x80, x81, x82, x83, x84, x85, x86, x87, x88, x89, x90, x91, x92, x93, x94, x95, x96, x97, x98, x99, x100, x101, x102, x103, x104, x105, x106, x107, x108, x109, x110, x111, x112, x113, x114, x115, x116, x117, x118, x119, x120, x121, x122, x123, x124, x125, x126, x127, x128, x129, x130, x131, x132, x133, x134, x135, x136, x137, x138] h27)
theorem f15_b0_eq (O : Oracle) (L : Loops (Value × Heap)) (k : Ex → K (Value × Heap)) (x0 x1 x2 x3 x4 x5 x6 x7 x8 x9 x10 x11 x12 x13 x14 x15 x16 x17 x18 x19 x20 x21 x22 x23 x24 x25 x26 x27 x28 x29 x30 x31 x32 x33 x34 x35 x36 x37 x38 x39 x40 x41 x42 x43 x44 x45 x46 x47 x48 x49 x50 x51 x52 x53 x54 x55 x56 x57 x58 x59 x60 x61 x62 x63 x64 x65 x66 x67 x68 x69 x70 x71 x72 x73 x74 x75 x76 x77 x78 x79 x80 x81 x82 x83 x84 x85 x86 x87 x88 x89 x90 x91 x92 x93 x94 x95 x96 x97 x98 x99 x100 x101 x102 x103 x104 x105 x106 x107 x108 x109 x110 x111 x112 x113 x114 x115 x116 x117 x118 x119 x120 x121 x122 x123 x124 x125 x126 x127 x128 x129 x130 x131 x132 x133 x134 x135 x136 x137 x138 : Value) (h : Heap) :
    runCode Try.prog O L f15_c0 k [x0, x1, x2, x3, x4, x5, x6, x7, x8, x9, x10, x11, x12, x13, x14, x15, x16, x17, x18, x19, x20, x21, x22, x23, x24, x25, x26, x27, x28, x29, x30, x31, x32, x33, x34, x35, x36, x37, x38, x39, x40, x41, x42, x43, x44, x45, x46, x47, x48, x49, x50, x51, x52, x53, x54, x55, x56, x57, x58, x59, x60, x61, x62, x63, x64, x65, x66, x67, x68, x69, x70, x71, x72, x73, x74, x75, x76, x77, x78, x79, x80, x81, x82, x83, x84, x85, x86, x87, x88, x89, x90, x91, x92, x93, x94, x95, x96, x97, x98, x99, x100, x101, x102, x103, x104, x105, x106, x107, x108, x109, x110, x111, x112, x113, x114, x115, x116, x117, x118, x119, x120, x121, x122, x123, x124, x125, x126, x127, x128, x129, x130, x131, x132, x133, x134, x135, x136, x137, x138] h = f15_b0 O L k x0 x1 x2 x3 x4 x5 x6 x7 x8 x9 x10 x11 x12 x13 x14 x15 x16 x17 x18 x19 x20 x21 x22 x23 x24 x25 x26 x27 x28 x29 x30 x31 x32 x33 x34 x35 x36 x37 x38 x39 x40 x41 x42 x43 x44 x45 x46 x47 x48 x49 x50 x51 x52 x53 x54 x55 x56 x57 x58 x59 x60 x61 x62 x63 x64 x65 x66 x67 x68 x69 x70 x71 x72 x73 x74 x75 x76 x77 x78 x79 x80 x81 x82 x83 x84 x85 x86 x87 x88 x89 x90 x91 x92 x93 x94 x95 x96 x97 x98 x99 x100 x101 x102 x103 x104 x105 x106 x107 x108 x109 x110 x111 x112 x113 x114 x115 x116 x117 x118 x119 x120 x121 x122 x123 x124 x125 x126 x127 x128 x129 x130 x131 x132 x133 x134 x135 x136 x137 x138 h := by kernel_rfl
noncomputable def f15 (O : Oracle) (L : Loops (Value × Heap)) (a0 a1 a2 a3 a4 : Value) (h : Heap) : Option (Value × Heap) :=
  ob ((newB 27 [(.int .i64 0), (.slice none 0 0), (.int .i64 0), (.int .i64 0), (.int .i64 0), (.int .i64 0), (.int .i64 0), (.int .i64 0), (.slice none 0 0), (.int .u16 0), (.slice none 0 0)] .fix) h) fun v0 h0 =>
  ob ((M.ofOpt (bin Try.prog .rem 5 a0 (.int .u8 5))) h0) fun v1 h1 =>
  ob ((conv Try.prog 5 3 v1) h1) fun v2 h2 =>
  ob ((M.ofOpt (bin Try.prog .add 3 (.int .i64 2) v2)) h2) fun v3 h3 =>
  ob ((M.ofOpt (bin Try.prog .rem 5 a2 (.int .u8 3))) h3) fun v4 h4 =>
  ob ((conv Try.prog 5 3 v4) h4) fun v5 h5 =>
  ob ((M.ofOpt (bin Try.prog .add 3 (.int .i64 1) v5)) h5) fun v6 h6 =>
  ob ((M.ofOpt (bin Try.prog .rem 5 a1 (.int .u8 8))) h6) fun v7 h7 =>
  ob ((conv Try.prog 5 3 v7) h7) fun v8 h8 =>
  ob ((M.ofOpt (bin Try.prog .add 3 (.int .i64 1) v8)) h8) fun v9 h9 =>
  ob ((M.ofOpt (bin Try.prog .quo 5 a1 (.int .u8 8))) h9) fun v10 h10 =>
  ob ((M.ofOpt (bin Try.prog .rem 5 v10 (.int .u8 8))) h10) fun v11 h11 =>
  ob ((conv Try.prog 5 3 v11) h11) fun v12 h12 =>
  ob ((M.ofOpt (bin Try.prog .add 3 (.int .i64 1) v12)) h12) fun v13 h13 =>
  ob ((M.ofOpt (bin Try.prog .quo 5 a2 (.int .u8 3))) h13) fun v14 h14 =>
  ob ((M.ofOpt (bin Try.prog .rem 5 v14 (.int .u8 4))) h14) fun v15 h15 =>
  ob ((conv Try.prog 5 3 v15) h15) fun v16 h16 =>
  ob ((M.ofOpt (bin Try.prog .add 3 (.int .i64 1) v16)) h16) fun v17 h17 =>
  ob ((M.ofOpt (bin Try.prog .quo 5 a2 (.int .u8 12))) h17) fun v18 h18 =>
  ob ((M.ofOpt (bin Try.prog .rem 5 v18 (.int .u8 8))) h18) fun v19 h19 =>
  ob ((conv Try.prog 5 3 v19) h19) fun v20 h20 =>
  ob ((M.ofOpt (bin Try.prog .add 3 (.int .i64 1) v20)) h20) fun v21 h21 =>
  ob ((M.ofOpt (bld Try.prog 27 [(0, v3), (2, v6), (3, v9), (4, v13), (5, v17), (6, v21), (7, (.int .i64 64)), (9, a3)])) h21) fun v22 h22 =>
  ob ((newB 27 [(.int .i64 0), (.slice none 0 0), (.int .i64 0), (.int .i64 0), (.int .i64 0), (.int .i64 0), (.int .i64 0), (.int .i64 0), (.slice none 0 0), (.int .u16 0), (.slice none 0 0)] .fix) h22) fun v23 h23 =>
  ob ((stN 11 v23 v22) h23) fun v24 h24 =>
  L (runCode Try.prog O L f15_c0) (f15_k0 O L) [a0, a1, a2, a3, a4, undef, undef, undef, undef, undef, v0, v23, (.int .i64 0), undef, undef, undef, undef, undef, undef, undef, undef, a0, v1, v2, v3, a2, v4, v5, v6, a1, v7, v8, v9, a1, v10, v11, v12, v13, a2, v14, v15, v16, v17, a2, v18, v19, v20, v21, a3, v22, undef, undef, undef, undef, undef, undef, undef, undef, undef, undef, undef, undef, undef, undef, undef, undef, undef, undef, undef, undef, undef, undef, undef, undef, undef, undef, undef, undef, undef, undef, undef, undef, undef, undef, undef, undef, undef, undef, undef, undef, undef, undef, undef, undef, undef, undef, undef, undef, undef, undef, undef, undef, undef, undef, undef, undef, undef, undef, undef, undef, undef, undef, undef, undef, undef, undef, undef, undef, undef, undef, undef, undef, undef, undef, undef, undef, undef, undef, undef, undef, undef, undef, undef, undef, undef, undef, undef, undef, undef] h24
theorem f15_eq (O : Oracle) (L : Loops (Value × Heap)) (a0 a1 a2 a3 a4 : Value) (h : Heap) :
    body Try.prog O L 15 [a0, a1, a2, a3, a4] h = f15 O L a0 a1 a2 a3 a4 h := by kernel_rfl
noncomputable def f17 (O : Oracle) (L : Loops (Value × Heap)) (a0 : Value) (h : Heap) : Option (Value × Heap) :=
  ob ((newB 27 (Value.cells a0).toList .fix) h) fun v0 h0 =>
  ob ((ldN 11 v0) h0) fun v1 h1 =>
  ob ((O (.func 33) [v1]) h1) fun v2 h2 =>
  ob ((M.ofOpt (un Try.prog .not v2)) h2) fun v3 h3 =>
  iteV v3 (
  iteV v3 (
  some (oneOf [(.int .u16 120)], h3)) (
  ob ((M.ofOpt (fAddr 8 v0)) h3) fun v4 h4 =>
  ob ((ld1 v4) h4) fun v5 h5 =>
  ob ((M.ofOpt (lenSl v5)) h5) fun v6 h6 =>
  ob ((M.ofOpt (fAddr 2 v0)) h6) fun v7 h7 =>
  ob ((ld1 v7) h7) fun v8 h8 =>
  ob ((M.ofOpt (bin Try.prog .neq 3 v6 v8)) h8) fun v9 h9 =>
  iteV v9 (
  iteV v9 (
  some (oneOf [(.int .u16 120)], h9)) (
  ob ((M.ofOpt (fAddr 10 v0)) h9) fun v10 h10 =>
  ob ((ld1 v10) h10) fun v11 h11 =>
  ob ((M.ofOpt (lenSl v11)) h11) fun v12 h12 =>
  ob ((M.ofOpt (fAddr 0 v0)) h12) fun v13 h13 =>
  ob ((ld1 v13) h13) fun v14 h14 =>
  ob ((M.ofOpt (bin Try.prog .neq 3 v12 v14)) h14) fun v15 h15 =>
  iteV v15 (
  iteV v15 (
  some (oneOf [(.int .u16 120)], h15)) (
  some (oneOf [(.int .u16 0)], h15))) (
  ob ((M.ofOpt (fAddr 10 v0)) h15) fun v16 h16 =>
  ob ((ld1 v16) h16) fun v17 h17 =>
  ob ((O (.func 36) [v17, (.func (.func 32) #[] #[v0])]) h17) fun v18 h18 =>
  iteV v18 (
  some (oneOf [(.int .u16 120)], h18)) (
  some (oneOf [(.int .u16 0)], h18))))) (
  ob ((M.ofOpt (fAddr 8 v0)) h9) fun v19 h19 =>
  ob ((ld1 v19) h19) fun v20 h20 =>
  ob ((O (.func 35) [v20]) h20) fun v21 h21 =>
  ob ((M.ofOpt (bin Try.prog .eql 60 v21 (.pointer none))) h21) fun v22 h22 =>
  iteV v22 (
  some (oneOf [(.int .u16 120)], h22)) (
  ob ((M.ofOpt (fAddr 10 v0)) h22) fun v23 h23 =>
  ob ((ld1 v23) h23) fun v24 h24 =>
  ob ((M.ofOpt (lenSl v24)) h24) fun v25 h25 =>
  ob ((M.ofOpt (fAddr 0 v0)) h25) fun v26 h26 =>
  ob ((ld1 v26) h26) fun v27 h27 =>
  ob ((M.ofOpt (bin Try.prog .neq 3 v25 v27)) h27) fun v28 h28 =>
  iteV v28 (
  iteV v28 (
  some (oneOf [(.int .u16 120)], h28)) (
  some (oneOf [(.int .u16 0)], h28))) (
  ob ((M.ofOpt (fAddr 10 v0)) h28) fun v29 h29 =>
  ob ((ld1 v29) h29) fun v30 h30 =>
  ob ((O (.func 36) [v30, (.func (.func 32) #[] #[v0])]) h30) fun v31 h31 =>
  iteV v31 (
  some (oneOf [(.int .u16 120)], h31)) (
  some (oneOf [(.int .u16 0)], h31))))))) (
  ob ((ldN 11 v0) h3) fun v32 h32 =>
  ob ((O (.func 34) [v32]) h32) fun v33 h33 =>
  ob ((M.ofOpt (un Try.prog .not v33)) h33) fun v34 h34 =>
  iteV v34 (
  some (oneOf [(.int .u16 120)], h34)) (
  ob ((M.ofOpt (fAddr 8 v0)) h34) fun v35 h35 =>
  ob ((ld1 v35) h35) fun v36 h36 =>
  ob ((M.ofOpt (lenSl v36)) h36) fun v37 h37 =>
  ob ((M.ofOpt (fAddr 2 v0)) h37) fun v38 h38 =>
  ob ((ld1 v38) h38) fun v39 h39 =>
  ob ((M.ofOpt (bin Try.prog .neq 3 v37 v39)) h39) fun v40 h40 =>
  iteV v40 (
  iteV v40 (
  some (oneOf [(.int .u16 120)], h40)) (
  ob ((M.ofOpt (fAddr 10 v0)) h40) fun v41 h41 =>
  ob ((ld1 v41) h41) fun v42 h42 =>
  ob ((M.ofOpt (lenSl v42)) h42) fun v43 h43 =>
  ob ((M.ofOpt (fAddr 0 v0)) h43) fun v44 h44 =>
  ob ((ld1 v44) h44) fun v45 h45 =>
  ob ((M.ofOpt (bin Try.prog .neq 3 v43 v45)) h45) fun v46 h46 =>
  iteV v46 (
  iteV v46 (
  some (oneOf [(.int .u16 120)], h46)) (
  some (oneOf [(.int .u16 0)], h46))) (
  ob ((M.ofOpt (fAddr 10 v0)) h46) fun v47 h47 =>
  ob ((ld1 v47) h47) fun v48 h48 =>
  ob ((O (.func 36) [v48, (.func (.func 32) #[] #[v0])]) h48) fun v49 h49 =>
  iteV v49 (
  some (oneOf [(.int .u16 120)], h49)) (
  some (oneOf [(.int .u16 0)], h49))))) (
  ob ((M.ofOpt (fAddr 8 v0)) h40) fun v50 h50 =>
  ob ((ld1 v50) h50) fun v51 h51 =>
  ob ((O (.func 35) [v51]) h51) fun v52 h52 =>
  ob ((M.ofOpt (bin Try.prog .eql 60 v52 (.pointer none))) h52) fun v53 h53 =>
  iteV v53 (
  some (oneOf [(.int .u16 120)], h53)) (
  ob ((M.ofOpt (fAddr 10 v0)) h53) fun v54 h54 =>
  ob ((ld1 v54) h54) fun v55 h55 =>
  ob ((M.ofOpt (lenSl v55)) h55) fun v56 h56 =>
  ob ((M.ofOpt (fAddr 0 v0)) h56) fun v57 h57 =>
  ob ((ld1 v57) h57) fun v58 h58 =>
  ob ((M.ofOpt (bin Try.prog .neq 3 v56 v58)) h58) fun v59 h59 =>
  iteV v59 (
  iteV v59 (
  some (oneOf [(.int .u16 120)], h59)) (
  some (oneOf [(.int .u16 0)], h59))) (
  ob ((M.ofOpt (fAddr 10 v0)) h59) fun v60 h60 =>
  ob ((ld1 v60) h60) fun v61 h61 =>
  ob ((O (.func 36) [v61, (.func (.func 32) #[] #[v0])]) h61) fun v62 h62 =>
  iteV v62 (
  some (oneOf [(.int .u16 120)], h62)) (
  some (oneOf [(.int .u16 0)], h62)))))))
theorem f17_eq (O : Oracle) (L : Loops (Value × Heap)) (a0 : Value) (h : Heap) :
    body Try.prog O L 17 [a0] h = f17 O L a0 h := by kernel_rfl
noncomputable def f18_c1 : Code := sub [1, 1, 0, 1, 0, 0, 1, 1, 0, 0, 1, 1, 0, 0] (fbody Try.prog 18)
noncomputable def f18_k1 (O : Oracle) (L : Loops (Value × Heap)) (k : Ex → K (Value × Heap)) : Ex → K (Value × Heap) := (blockK 2 (blockK 1 (seqK Try.prog O L (sub [1, 1, 0, 1, 0, 0, 1, 1, 1] (fbody Try.prog 18)) k)))
noncomputable def f18_e1_2 (O : Oracle) (L : Loops (Value × Heap)) (k : Ex → K (Value × Heap)) (x0 x1 x2 x3 x4 x5 x6 x7 x8 x9 x10 x11 x12 x13 x14 x15 x16 x17 x18 x19 x20 x21 x22 x23 x24 x25 x26 x27 x28 x29 x30 x31 x32 : Value) (h : Heap) : Option (Value × Heap) :=
  ob ((M.ofOpt (bin Try.prog .add 3 x11 (.int .i64 1))) h) fun v18 h18 =>
  k .normal [x0, x1, x2, x3, x4, x5, x6, x7, x8, x9, x10, v18, x12, x13, x14, x15, x16, x17, x18, x19, x20, x21, x22, x23, x24, x25, x26, x27, x28, x29, x30, v18, x32] h18
theorem f18_e1_2_eq (O : Oracle) (L : Loops (Value × Heap)) (k : Ex → K (Value × Heap)) (x0 x1 x2 x3 x4 x5 x6 x7 x8 x9 x10 x11 x12 x13 x14 x15 x16 x17 x18 x19 x20 x21 x22 x23 x24 x25 x26 x27 x28 x29 x30 x31 x32 : Value) (h : Heap) :
    f18_k1 O L k (.exit 2) [x0, x1, x2, x3, x4, x5, x6, x7, x8, x9, x10, x11, x12, x13, x14, x15, x16, x17, x18, x19, x20, x21, x22, x23, x24, x25, x26, x27, x28, x29, x30, x31, x32] h = f18_e1_2 O L k x0 x1 x2 x3 x4 x5 x6 x7 x8 x9 x10 x11 x12 x13 x14 x15 x16 x17 x18 x19 x20 x21 x22 x23 x24 x25 x26 x27 x28 x29 x30 x31 x32 h := by kernel_rfl
noncomputable def f18_b1 (O : Oracle) (L : Loops (Value × Heap)) (k : Ex → K (Value × Heap)) (x0 x1 x2 x3 x4 x5 x6 x7 x8 x9 x10 x11 x12 x13 x14 x15 x16 x17 x18 x19 x20 x21 x22 x23 x24 x25 x26 x27 x28 x29 x30 x31 x32 : Value) (h : Heap) : Option (Value × Heap) :=
  ob ((M.ofOpt (bin Try.prog .lss 3 x18 x17)) h) fun v9 h9 =>
  iteV v9 (
  ob ((M.ofOpt (iAddr 1 x16 x18)) h9) fun v10 h10 =>
  ob ((ld1 v10) h10) fun v11 h11 =>
  ob ((O (.func 37) [v11, (.int .i64 0), (.int .i64 5)]) h11) fun v12 h12 =>
  iteV v12 (
  ob ((M.ofOpt (bld Try.prog 38 [(0, x4), (1, v11)])) h12) fun v13 h13 =>
  ob ((bldSlice 38 2 1 [(.int .i64 0), (.int .i64 0)] [(0, v13)]) h13) fun v14 h14 =>
  ob ((app 38 2 16 x3 v14) h14) fun v15 h15 =>
  ob ((M.ofOpt (bin Try.prog .add 3 x18 (.int .i64 1))) h15) fun v16 h16 =>
  k .normal [x0, x1, x2, v15, x4, x5, v11, x7, x8, x9, x10, x11, x12, x13, x14, x15, x16, x17, v16, v9, v10, v11, v11, v12, x3, x4, v11, v13, v14, v15, v16, x31, x32] h16) (
  ob ((M.ofOpt (bin Try.prog .add 3 x18 (.int .i64 1))) h12) fun v17 h17 =>
  k .normal [x0, x1, x2, x3, x4, x5, v11, x7, x8, x9, x10, x11, x12, x13, x14, x15, x16, x17, v17, v9, v10, v11, v11, v12, x24, x25, x26, x27, x28, x29, v17, x31, x32] h17)) (
  k (.exit 2) [x0, x1, x2, x3, x4, x5, x6, x7, x8, x9, x10, x11, x12, x13, x14, x15, x16, x17, x18, v9, x20, x21, x22, x23, x24, x25, x26, x27, x28, x29, x30, x31, x32] h9)
theorem f18_b1_eq (O : Oracle) (L : Loops (Value × Heap)) (k : Ex → K (Value × Heap)) (x0 x1 x2 x3 x4 x5 x6 x7 x8 x9 x10 x11 x12 x13 x14 x15 x16 x17 x18 x19 x20 x21 x22 x23 x24 x25 x26 x27 x28 x29 x30 x31 x32 : Value) (h : Heap) :
    runCode Try.prog O L f18_c1 k [x0, x1, x2, x3, x4, x5, x6, x7, x8, x9, x10, x11, x12, x13, x14, x15, x16, x17, x18, x19, x20, x21, x22, x23, x24, x25, x26, x27, x28, x29, x30, x31, x32] h = f18_b1 O L k x0 x1 x2 x3 x4 x5 x6 x7 x8 x9 x10 x11 x12 x13 x14 x15 x16 x17 x18 x19 x20 x21 x22 x23 x24 x25 x26 x27 x28 x29 x30 x31 x32 h := by kernel_rfl
noncomputable def f18_c0 : Code := sub [1, 1, 0, 1, 0, 0] (fbody Try.prog 18)
noncomputable def f18_k0 (O : Oracle) (L : Loops (Value × Heap)) : Ex → K (Value × Heap) := (blockK 0 (seqK Try.prog O L (sub [1, 1, 1] (fbody Try.prog 18)) (kRet Try.prog Try.f18)))
noncomputable def f18_e0_0 (O : Oracle) (L : Loops (Value × Heap)) (x0 x1 x2 x3 x4 x5 x6 x7 x8 x9 x10 x11 x12 x13 x14 x15 x16 x17 x18 x19 x20 x21 x22 x23 x24 x25 x26 x27 x28 x29 x30 x31 x32 : Value) (h : Heap) : Option (Value × Heap) :=
  some (oneOf [x3], h)
theorem f18_e0_0_eq (O : Oracle) (L : Loops (Value × Heap)) (x0 x1 x2 x3 x4 x5 x6 x7 x8 x9 x10 x11 x12 x13 x14 x15 x16 x17 x18 x19 x20 x21 x22 x23 x24 x25 x26 x27 x28 x29 x30 x31 x32 : Value) (h : Heap) :
    f18_k0 O L (.exit 0) [x0, x1, x2, x3, x4, x5, x6, x7, x8, x9, x10, x11, x12, x13, x14, x15, x16, x17, x18, x19, x20, x21, x22, x23, x24, x25, x26, x27, x28, x29, x30, x31, x32] h = f18_e0_0 O L x0 x1 x2 x3 x4 x5 x6 x7 x8 x9 x10 x11 x12 x13 x14 x15 x16 x17 x18 x19 x20 x21 x22 x23 x24 x25 x26 x27 x28 x29 x30 x31 x32 h := by kernel_rfl
noncomputable def f18_b0 (O : Oracle) (L : Loops (Value × Heap)) (k : Ex → K (Value × Heap)) (x0 x1 x2 x3 x4 x5 x6 x7 x8 x9 x10 x11 x12 x13 x14 x15 x16 x17 x18 x19 x20 x21 x22 x23 x24 x25 x26 x27 x28 x29 x30 x31 x32 : Value) (h : Heap) : Option (Value × Heap) :=
  ob ((M.ofOpt (bin Try.prog .lss 3 x11 x10)) h) fun v5 h5 =>
  iteV v5 (
  ob ((ldN 11 x1) h5) fun v6 h6 =>
  ob ((O (.func 22) [v6, x11]) h6) fun v7 h7 =>
  ob ((M.ofOpt (lenSl v7)) h7) fun v8 h8 =>
  L (runCode Try.prog O L f18_c1) (f18_k1 O L k) [x0, x1, x2, x3, x11, x5, x6, x7, x8, x9, x10, x11, v5, x11, v6, x11, v7, v8, (.int .i64 0), x19, x20, x21, x22, x23, x24, x25, x26, x27, x28, x29, x30, x31, x32] h8) (
  k (.exit 0) [x0, x1, x2, x3, x4, x5, x6, x7, x8, x9, x10, x11, v5, x13, x14, x15, x16, x17, x18, x19, x20, x21, x22, x23, x24, x25, x26, x27, x28, x29, x30, x31, x32] h5)
theorem f18_b0_eq (O : Oracle) (L : Loops (Value × Heap)) (k : Ex → K (Value × Heap)) (x0 x1 x2 x3 x4 x5 x6 x7 x8 x9 x10 x11 x12 x13 x14 x15 x16 x17 x18 x19 x20 x21 x22 x23 x24 x25 x26 x27 x28 x29 x30 x31 x32 : Value) (h : Heap) :
    runCode Try.prog O L f18_c0 k [x0, x1, x2, x3, x4, x5, x6, x7, x8, x9, x10, x11, x12, x13, x14, x15, x16, x17, x18, x19, x20, x21, x22, x23, x24, x25, x26, x27, x28, x29, x30, x31, x32] h = f18_b0 O L k x0 x1 x2 x3 x4 x5 x6 x7 x8 x9 x10 x11 x12 x13 x14 x15 x16 x17 x18 x19 x20 x21 x22 x23 x24 x25 x26 x27 x28 x29 x30 x31 x32 h := by kernel_rfl
noncomputable def f18 (O : Oracle) (L : Loops (Value × Heap)) (a0 : Value) (h : Heap) : Option (Value × Heap) :=
  ob ((newB 27 (Value.cells a0).toList .fix) h) fun v0 h0 =>
  ob ((M.ofOpt (fAddr 0 v0)) h0) fun v1 h1 =>
  ob ((ld1 v1) h1) fun v2 h2 =>
  ob ((M.ofOpt (minmax Try.prog true [v2, (.int .i64 0)])) h2) fun v3 h3 =>
  ob ((M.ofOpt (minmax Try.prog false [v3, (.int .i64 6)])) h3) fun v4 h4 =>
  L (runCode Try.prog O L f18_c0) (f18_k0 O L) [a0, v0, (.slice none 0 0), (.slice none 0 0), undef, undef, undef, v1, v2, v3, v4, (.int .i64 0), undef, undef, undef, undef, undef, undef, undef, undef, undef, undef, undef, undef, undef, undef, undef, undef, undef, undef, undef, undef, undef] h4
theorem f18_eq (O : Oracle) (L : Loops (Value × Heap)) (a0 : Value) (h : Heap) :
    body Try.prog O L 18 [a0] h = f18 O L a0 h := by kernel_rfl
noncomputable def f20_c0 : Code := sub [1, 1, 0, 1, 0, 0] (fbody Try.prog 20)
noncomputable def f20_k0 (O : Oracle) (L : Loops (Value × Heap)) : Ex → K (Value × Heap) := (blockK 0 (seqK Try.prog O L (sub [1, 1, 1] (fbody Try.prog 20)) (kRet Try.prog Try.f20)))
noncomputable def f20_e0_0 (O : Oracle) (L : Loops (Value × Heap)) (x0 x1 x2 x3 x4 x5 x6 x7 x8 x9 x10 x11 x12 x13 x14 x15 x16 x17 x18 x19 x20 x21 x22 x23 x24 x25 x26 x27 x28 : Value) (h : Heap) : Option (Value × Heap) :=
  some (oneOf [x3], h)
theorem f20_e0_0_eq (O : Oracle) (L : Loops (Value × Heap)) (x0 x1 x2 x3 x4 x5 x6 x7 x8 x9 x10 x11 x12 x13 x14 x15 x16 x17 x18 x19 x20 x21 x22 x23 x24 x25 x26 x27 x28 : Value) (h : Heap) :
    f20_k0 O L (.exit 0) [x0, x1, x2, x3, x4, x5, x6, x7, x8, x9, x10, x11, x12, x13, x14, x15, x16, x17, x18, x19, x20, x21, x22, x23, x24, x25, x26, x27, x28] h = f20_e0_0 O L x0 x1 x2 x3 x4 x5 x6 x7 x8 x9 x10 x11 x12 x13 x14 x15 x16 x17 x18 x19 x20 x21 x22 x23 x24 x25 x26 x27 x28 h := by kernel_rfl
noncomputable def f20_b0 (O : Oracle) (L : Loops (Value × Heap)) (k : Ex → K (Value × Heap)) (x0 x1 x2 x3 x4 x5 x6 x7 x8 x9 x10 x11 x12 x13 x14 x15 x16 x17 x18 x19 x20 x21 x22 x23 x24 x25 x26 x27 x28 : Value) (h : Heap) : Option (Value × Heap) :=
  ob ((M.ofOpt (fAddr 10 x1)) h) fun v8 h8 =>
  ob ((ld1 v8) h8) fun v9 h9 =>
  ob ((M.ofOpt (lenSl v9)) h9) fun v10 h10 =>
  ob ((M.ofOpt (bin Try.prog .lss 3 x4 v10)) h10) fun v11 h11 =>
  iteV v11 (
  ob ((M.ofOpt (fAddr 10 x1)) h11) fun v12 h12 =>
  ob ((ld1 v12) h12) fun v13 h13 =>
  ob ((M.ofOpt (iAddr 1 v13 x4)) h13) fun v14 h14 =>
  ob ((ld1 v14) h14) fun v15 h15 =>
  ob ((M.ofOpt (lenSl v15)) h15) fun v16 h16 =>
  ob ((M.ofOpt (bin Try.prog .add 3 (.int .i64 1) v16)) h16) fun v17 h17 =>
  ob ((M.ofOpt (bin Try.prog .add 3 x3 v17)) h17) fun v18 h18 =>
  ob ((M.ofOpt (bin Try.prog .add 3 x4 (.int .i64 1))) h18) fun v19 h19 =>
  k .normal [x0, x1, x2, v18, v19, x5, x6, x7, x8, x9, x10, x11, x4, v8, v9, v10, v11, x4, v19, x3, v12, v13, x4, v14, v15, v16, v17, v18, x28] h19) (
  k (.exit 0) [x0, x1, x2, x3, x4, x5, x6, x7, x8, x9, x10, x11, x4, v8, v9, v10, v11, x17, x18, x19, x20, x21, x22, x23, x24, x25, x26, x27, x28] h11)
theorem f20_b0_eq (O : Oracle) (L : Loops (Value × Heap)) (k : Ex → K (Value × Heap)) (x0 x1 x2 x3 x4 x5 x6 x7 x8 x9 x10 x11 x12 x13 x14 x15 x16 x17 x18 x19 x20 x21 x22 x23 x24 x25 x26 x27 x28 : Value) (h : Heap) :
    runCode Try.prog O L f20_c0 k [x0, x1, x2, x3, x4, x5, x6, x7, x8, x9, x10, x11, x12, x13, x14, x15, x16, x17, x18, x19, x20, x21, x22, x23, x24, x25, x26, x27, x28] h = f20_b0 O L k x0 x1 x2 x3 x4 x5 x6 x7 x8 x9 x10 x11 x12 x13 x14 x15 x16 x17 x18 x19 x20 x21 x22 x23 x24 x25 x26 x27 x28 h := by kernel_rfl
noncomputable def f20 (O : Oracle) (L : Loops (Value × Heap)) (a0 : Value) (h : Heap) : Option (Value × Heap) :=
  ob ((newB 27 (Value.cells a0).toList .fix) h) fun v0 h0 =>
  ob ((M.ofOpt (fAddr 1 v0)) h0) fun v1 h1 =>
  ob ((ld1 v1) h1) fun v2 h2 =>
  ob ((M.ofOpt (lenSl v2)) h2) fun v3 h3 =>
  ob ((M.ofOpt (fAddr 8 v0)) h3) fun v4 h4 =>
  ob ((ld1 v4) h4) fun v5 h5 =>
  ob ((M.ofOpt (lenSl v5)) h5) fun v6 h6 =>
  ob ((M.ofOpt (bin Try.prog .add 3 v3 v6)) h6) fun v7 h7 =>
  L (runCode Try.prog O L f20_c0) (f20_k0 O L) [a0, v0, (.int .i64 0), v7, (.int .i64 0), v1, v2, v3, v4, v5, v6, v7, undef, undef, undef, undef, undef, undef, undef, undef, undef, undef, undef, undef, undef, undef, undef, undef, undef] h7
theorem f20_eq (O : Oracle) (L : Loops (Value × Heap)) (a0 : Value) (h : Heap) :
    body Try.prog O L 20 [a0] h = f20 O L a0 h := by kernel_rfl
noncomputable def f22_c0 : Code := sub [1, 1, 0, 1, 0, 0] (fbody Try.prog 22)
noncomputable def f22_k0 (O : Oracle) (L : Loops (Value × Heap)) : Ex → K (Value × Heap) := (blockK 0 (seqK Try.prog O L (sub [1, 1, 1] (fbody Try.prog 22)) (kRet Try.prog Try.f22)))
noncomputable def f22_e0_0 (O : Oracle) (L : Loops (Value × Heap)) (x0 x1 x2 x3 x4 x5 x6 x7 x8 x9 x10 x11 x12 x13 x14 x15 x16 x17 x18 x19 x20 x21 x22 x23 x24 x25 x26 x27 x28 x29 x30 x31 x32 x33 x34 x35 x36 x37 x38 x39 x40 x41 x42 x43 x44 x45 : Value) (h : Heap) : Option (Value × Heap) :=
  ob ((O (.func 44) [x5]) h) fun v32 h32 =>
  ob ((O (.func 45) [x5]) h32) fun v33 h33 =>
  some (oneOf [v33], h33)
theorem f22_e0_0_eq (O : Oracle) (L : Loops (Value × Heap)) (x0 x1 x2 x3 x4 x5 x6 x7 x8 x9 x10 x11 x12 x13 x14 x15 x16 x17 x18 x19 x20 x21 x22 x23 x24 x25 x26 x27 x28 x29 x30 x31 x32 x33 x34 x35 x36 x37 x38 x39 x40 x41 x42 x43 x44 x45 : Value) (h : Heap) :
    f22_k0 O L (.exit 0) [x0, x1, x2, x3, x4, x5, x6, x7, x8, x9, x10, x11, x12, x13, x14, x15, x16, x17, x18, x19, x20, x21, x22, x23, x24, x25, x26, x27, x28, x29, x30, x31, x32, x33, x34, x35, x36, x37, x38, x39, x40, x41, x42, x43, x44, x45] h = f22_e0_0 O L x0 x1 x2 x3 x4 x5 x6 x7 x8 x9 x10 x11 x12 x13 x14 x15 x16 x17 x18 x19 x20 x21 x22 x23 x24 x25 x26 x27 x28 x29 x30 x31 x32 x33 x34 x35 x36 x37 x38 x39 x40 x41 x42 x43 x44 x45 h := by kernel_rfl
noncomputable def f22_b0 (O : Oracle) (L : Loops (Value × Heap)) (k : Ex → K (Value × Heap)) (x0 x1 x2 x3 x4 x5 x6 x7 x8 x9 x10 x11 x12 x13 x14 x15 x16 x17 x18 x19 x20 x21 x22 x23 x24 x25 x26 x27 x28 x29 x30 x31 x32 x33 x34 x35 x36 x37 x38 x39 x40 x41 x42 x43 x44 x45 : Value) (h : Heap) : Option (Value × Heap) :=
  ob ((M.ofOpt (bin Try.prog .lss 3 x11 x10)) h) fun v4 h4 =>
  iteV v4 (
  ob ((M.ofOpt (iAddr 2 x9 x11)) h4) fun v5 h5 =>
  ob ((ldN 2 v5) h5) fun v6 h6 =>
  ob ((newB 33 [(.int .i64 0), (.int .i64 0)] .fix) h6) fun v7 h7 =>
  ob ((stN 2 v7 v6) h7) fun v8 h8 =>
  ob ((M.ofOpt (fAddr 0 v7)) h8) fun v9 h9 =>
  ob ((ld1 v9) h9) fun v10 h10 =>
  ob ((M.ofOpt (fAddr 1 v7)) h10) fun v11 h11 =>
  ob ((ld1 v11) h11) fun v12 h12 =>
  ob ((M.ofOpt (bin Try.prog .eql 3 v10 v12)) h12) fun v13 h13 =>
  iteV v13 (
  ob ((M.ofOpt (bin Try.prog .add 3 x11 (.int .i64 1))) h13) fun v14 h14 =>
  k .normal [x0, x1, x2, x3, x4, x5, x6, v7, x8, x9, x10, v14, v4, v5, v6, v13, v9, v10, v11, v12, v13, x21, x22, x23, x24, x25, x26, x27, x28, x29, x30, x31, x32, x33, x34, x35, x36, x37, x38, x39, x40, v14, x42, x43, x44, x45] h14) (
  ob ((M.ofOpt (fAddr 0 v7)) h13) fun v15 h15 =>
  ob ((ld1 v15) h15) fun v16 h16 =>
  ob ((M.ofOpt (bin Try.prog .eql 3 v16 x1)) h16) fun v17 h17 =>
  iteV v17 (
  ob ((M.ofOpt (fAddr 1 v7)) h17) fun v18 h18 =>
  ob ((ld1 v18) h18) fun v19 h19 =>
  ob ((bldSlice 3 1 1 [(.int .i64 0)] [(0, v19)]) h19) fun v20 h20 =>
  ob ((app 3 1 8 x5 v20) h20) fun v21 h21 =>
  ob ((M.ofOpt (bin Try.prog .add 3 x11 (.int .i64 1))) h21) fun v22 h22 =>
  k .normal [x0, x1, x2, x3, x4, v21, x6, v7, x8, x9, x10, v22, v4, v5, v6, v13, v9, v10, v11, v12, v13, v17, v15, v16, x1, v17, x5, v18, v19, v20, v21, x31, x32, x33, x34, x35, x36, x37, x38, x39, x40, v22, x42, x43, x44, x45] h22) (
  ob ((M.ofOpt (fAddr 1 v7)) h17) fun v23 h23 =>
  ob ((ld1 v23) h23) fun v24 h24 =>
  ob ((M.ofOpt (bin Try.prog .eql 3 v24 x1)) h24) fun v25 h25 =>
  iteV v25 (
  ob ((M.ofOpt (fAddr 0 v7)) h25) fun v26 h26 =>
  ob ((ld1 v26) h26) fun v27 h27 =>
  ob ((bldSlice 3 1 1 [(.int .i64 0)] [(0, v27)]) h27) fun v28 h28 =>
  ob ((app 3 1 8 x5 v28) h28) fun v29 h29 =>
  ob ((M.ofOpt (bin Try.prog .add 3 x11 (.int .i64 1))) h29) fun v30 h30 =>
  k .normal [x0, x1, x2, x3, x4, v29, x6, v7, x8, x9, x10, v30, v4, v5, v6, v13, v9, v10, v11, v12, v13, v17, v15, v16, x1, v17, x26, x27, x28, x29, x30, v25, v23, v24, x1, v25, x5, v26, v27, v28, v29, v30, x42, x43, x44, x45] h30) (
  ob ((M.ofOpt (bin Try.prog .add 3 x11 (.int .i64 1))) h25) fun v31 h31 =>
  k .normal [x0, x1, x2, x3, x4, x5, x6, v7, x8, x9, x10, v31, v4, v5, v6, v13, v9, v10, v11, v12, v13, v17, v15, v16, x1, v17, x26, x27, x28, x29, x30, v25, v23, v24, x1, v25, x36, x37, x38, x39, x40, v31, x42, x43, x44, x45] h31)))) (
  k (.exit 0) [x0, x1, x2, x3, x4, x5, x6, x7, x8, x9, x10, x11, v4, x13, x14, x15, x16, x17, x18, x19, x20, x21, x22, x23, x24, x25, x26, x27, x28, x29, x30, x31, x32, x33, x34, x35, x36, x37, x38, x39, x40, x41, x42, x43, x44, x45] h4)
theorem f22_b0_eq (O : Oracle) (L : Loops (Value × Heap)) (k : Ex → K (Value × Heap)) (x0 x1 x2 x3 x4 x5 x6 x7 x8 x9 x10 x11 x12 x13 x14 x15 x16 x17 x18 x19 x20 x21 x22 x23 x24 x25 x26 x27 x28 x29 x30 x31 x32 x33 x34 x35 x36 x37 x38 x39 x40 x41 x42 x43 x44 x45 : Value) (h : Heap) :
    runCode Try.prog O L f22_c0 k [x0, x1, x2, x3, x4, x5, x6, x7, x8, x9, x10, x11, x12, x13, x14, x15, x16, x17, x18, x19, x20, x21, x22, x23, x24, x25, x26, x27, x28, x29, x30, x31, x32, x33, x34, x35, x36, x37, x38, x39, x40, x41, x42, x43, x44, x45] h = f22_b0 O L k x0 x1 x2 x3 x4 x5 x6 x7 x8 x9 x10 x11 x12 x13 x14 x15 x16 x17 x18 x19 x20 x21 x22 x23 x24 x25 x26 x27 x28 x29 x30 x31 x32 x33 x34 x35 x36 x37 x38 x39 x40 x41 x42 x43 x44 x45 h := by kernel_rfl
noncomputable def f22 (O : Oracle) (L : Loops (Value × Heap)) (a0 a1 : Value) (h : Heap) : Option (Value × Heap) :=
  ob ((newB 27 (Value.cells a0).toList .fix) h) fun v0 h0 =>
  ob ((M.ofOpt (fAddr 1 v0)) h0) fun v1 h1 =>
  ob ((ld1 v1) h1) fun v2 h2 =>
  ob ((M.ofOpt (lenSl v2)) h2) fun v3 h3 =>
  L (runCode Try.prog O L f22_c0) (f22_k0 O L) [a0, a1, v0, undef, (.slice none 0 0), (.slice none 0 0), undef, undef, v1, v2, v3, (.int .i64 0), undef, undef, undef, undef, undef, undef, undef, undef, undef, undef, undef, undef, undef, undef, undef, undef, undef, undef, undef, undef, undef, undef, undef, undef, undef, undef, undef, undef, undef, undef, undef, undef, undef, undef] h3
theorem f22_eq (O : Oracle) (L : Loops (Value × Heap)) (a0 a1 : Value) (h : Heap) :
    body Try.prog O L 22 [a0, a1] h = f22 O L a0 a1 h := by kernel_rfl
noncomputable def f32 (O : Oracle) (L : Loops (Value × Heap)) (a0 a1 : Value) (h : Heap) : Option (Value × Heap) :=
  ob ((M.ofOpt (lenSl a0)) h) fun v0 h0 =>
  ob ((M.ofOpt (fAddr 0 a1)) h0) fun v1 h1 =>
  ob ((ld1 v1) h1) fun v2 h2 =>
  ob ((M.ofOpt (bin Try.prog .neq 3 v0 v2)) h2) fun v3 h3 =>
  some (oneOf [v3], h3)
theorem f32_eq (O : Oracle) (L : Loops (Value × Heap)) (a0 a1 : Value) (h : Heap) :
    body Try.prog O L 32 [a0, a1] h = f32 O L a0 a1 h := by kernel_rfl
noncomputable def f33 (O : Oracle) (L : Loops (Value × Heap)) (a0 : Value) (h : Heap) : Option (Value × Heap) :=
  ob ((newB 27 (Value.cells a0).toList .fix) h) fun v0 h0 =>
  ob ((M.ofOpt (fAddr 0 v0)) h0) fun v1 h1 =>
  ob ((ld1 v1) h1) fun v2 h2 =>
  ob ((O (.func 37) [v2, (.int .i64 2), (.int .i64 6)]) h2) fun v3 h3 =>
  ob ((gd v3 true (M.ofOpt (fAddr 2 v0))) h3) fun v4 h4 =>
  ob ((gd v3 true (ld1 v4)) h4) fun v5 h5 =>
  ob ((gd v3 true (O (.func 37) [v5, (.int .i64 1), (.int .i64 3)])) h5) fun v6 h6 =>
  ob ((M.ofOpt (pick v3 v6 (.bool false))) h6) fun v7 h7 =>
  ob ((gd v7 true (M.ofOpt (fAddr 3 v0))) h7) fun v8 h8 =>
  ob ((gd v7 true (ld1 v8)) h8) fun v9 h9 =>
  ob ((gd v7 true (O (.func 37) [v9, (.int .i64 1), (.int .i64 8)])) h9) fun v10 h10 =>
  ob ((M.ofOpt (pick v7 v10 (.bool false))) h10) fun v11 h11 =>
  ob ((gd v11 true (M.ofOpt (fAddr 4 v0))) h11) fun v12 h12 =>
  ob ((gd v11 true (ld1 v12)) h12) fun v13 h13 =>
  ob ((gd v11 true (O (.func 37) [v13, (.int .i64 1), (.int .i64 8)])) h13) fun v14 h14 =>
  ob ((M.ofOpt (pick v11 v14 (.bool false))) h14) fun v15 h15 =>
  ob ((gd v15 true (M.ofOpt (fAddr 5 v0))) h15) fun v16 h16 =>
  ob ((gd v15 true (ld1 v16)) h16) fun v17 h17 =>
  ob ((gd v15 true (O (.func 37) [v17, (.int .i64 1), (.int .i64 4)])) h17) fun v18 h18 =>
  ob ((M.ofOpt (pick v15 v18 (.bool false))) h18) fun v19 h19 =>
  ob ((gd v19 true (M.ofOpt (fAddr 6 v0))) h19) fun v20 h20 =>
  ob ((gd v19 true (ld1 v20)) h20) fun v21 h21 =>
  ob ((gd v19 true (O (.func 37) [v21, (.int .i64 1), (.int .i64 8)])) h21) fun v22 h22 =>
  ob ((M.ofOpt (pick v19 v22 (.bool false))) h22) fun v23 h23 =>
  ob ((gd v23 true (M.ofOpt (fAddr 7 v0))) h23) fun v24 h24 =>
  ob ((gd v23 true (ld1 v24)) h24) fun v25 h25 =>
  ob ((gd v23 true (O (.func 37) [v25, (.int .i64 1), (.int .i64 64)])) h25) fun v26 h26 =>
  ob ((M.ofOpt (pick v23 v26 (.bool false))) h26) fun v27 h27 =>
  some (oneOf [v27], h27)
theorem f33_eq (O : Oracle) (L : Loops (Value × Heap)) (a0 : Value) (h : Heap) :
    body Try.prog O L 33 [a0] h = f33 O L a0 h := by kernel_rfl
noncomputable def f34_c0 : Code := sub [1, 0, 1, 0, 0] (fbody Try.prog 34)
noncomputable def f34_k0 (O : Oracle) (L : Loops (Value × Heap)) : Ex → K (Value × Heap) := (blockK 0 (seqK Try.prog O L (sub [1, 1] (fbody Try.prog 34)) (kRet Try.prog Try.f34)))
noncomputable def f34_e0_0 (O : Oracle) (L : Loops (Value × Heap)) (x0 x1 x2 x3 x4 x5 x6 x7 x8 x9 x10 x11 x12 x13 x14 x15 x16 x17 x18 x19 x20 x21 x22 x23 x24 x25 x26 x27 x28 x29 x30 x31 x32 x33 x34 x35 x36 x37 x38 x39 x40 x41 x42 : Value) (h : Heap) : Option (Value × Heap) :=
  ob ((M.ofOpt (fAddr 1 x1)) h) fun v32 h32 =>
  ob ((ld1 v32) h32) fun v33 h33 =>
  ob ((M.ofOpt (lenSl v33)) h33) fun v34 h34 =>
  ob ((M.ofOpt (bin Try.prog .leq 3 v34 (.int .i64 15))) h34) fun v35 h35 =>
  some (oneOf [v35], h35)
theorem f34_e0_0_eq (O : Oracle) (L : Loops (Value × Heap)) (x0 x1 x2 x3 x4 x5 x6 x7 x8 x9 x10 x11 x12 x13 x14 x15 x16 x17 x18 x19 x20 x21 x22 x23 x24 x25 x26 x27 x28 x29 x30 x31 x32 x33 x34 x35 x36 x37 x38 x39 x40 x41 x42 : Value) (h : Heap) :
    f34_k0 O L (.exit 0) [x0, x1, x2, x3, x4, x5, x6, x7, x8, x9, x10, x11, x12, x13, x14, x15, x16, x17, x18, x19, x20, x21, x22, x23, x24, x25, x26, x27, x28, x29, x30, x31, x32, x33, x34, x35, x36, x37, x38, x39, x40, x41, x42] h = f34_e0_0 O L x0 x1 x2 x3 x4 x5 x6 x7 x8 x9 x10 x11 x12 x13 x14 x15 x16 x17 x18 x19 x20 x21 x22 x23 x24 x25 x26 x27 x28 x29 x30 x31 x32 x33 x34 x35 x36 x37 x38 x39 x40 x41 x42 h := by kernel_rfl
noncomputable def f34_r0 (O : Oracle) (L : Loops (Value × Heap)) (x0 x1 x2 x3 x4 x5 x6 x7 x8 x9 x10 x11 x12 x13 x14 x15 x16 x17 x18 x19 x20 x21 x22 x23 x24 x25 x26 x27 x28 x29 x30 x31 x32 x33 x34 x35 x36 x37 x38 x39 x40 x41 x42 : Value) (h : Heap) : Option (Value × Heap) :=
  some (oneOf [x2], h)
theorem f34_r0_eq (O : Oracle) (L : Loops (Value × Heap)) (x0 x1 x2 x3 x4 x5 x6 x7 x8 x9 x10 x11 x12 x13 x14 x15 x16 x17 x18 x19 x20 x21 x22 x23 x24 x25 x26 x27 x28 x29 x30 x31 x32 x33 x34 x35 x36 x37 x38 x39 x40 x41 x42 : Value) (h : Heap) :
    f34_k0 O L .ret [x0, x1, x2, x3, x4, x5, x6, x7, x8, x9, x10, x11, x12, x13, x14, x15, x16, x17, x18, x19, x20, x21, x22, x23, x24, x25, x26, x27, x28, x29, x30, x31, x32, x33, x34, x35, x36, x37, x38, x39, x40, x41, x42] h = f34_r0 O L x0 x1 x2 x3 x4 x5 x6 x7 x8 x9 x10 x11 x12 x13 x14 x15 x16 x17 x18 x19 x20 x21 x22 x23 x24 x25 x26 x27 x28 x29 x30 x31 x32 x33 x34 x35 x36 x37 x38 x39 x40 x41 x42 h := by kernel_rfl
noncomputable def f34_b0 (O : Oracle) (L : Loops (Value × Heap)) (k : Ex → K (Value × Heap)) (x0 x1 x2 x3 x4 x5 x6 x7 x8 x9 x10 x11 x12 x13 x14 x15 x16 x17 x18 x19 x20 x21 x22 x23 x24 x25 x26 x27 x28 x29 x30 x31 x32 x33 x34 x35 x36 x37 x38 x39 x40 x41 x42 : Value) (h : Heap) : Option (Value × Heap) :=
  ob ((M.ofOpt (bin Try.prog .lss 3 x8 x7)) h) fun v4 h4 =>
  iteV v4 (
  ob ((M.ofOpt (iAddr 2 x6 x8)) h4) fun v5 h5 =>
  ob ((ldN 2 v5) h5) fun v6 h6 =>
  ob ((newB 33 [(.int .i64 0), (.int .i64 0)] .fix) h6) fun v7 h7 =>
  ob ((stN 2 v7 v6) h7) fun v8 h8 =>
  ob ((M.ofOpt (fAddr 0 v7)) h8) fun v9 h9 =>
  ob ((ld1 v9) h9) fun v10 h10 =>
  ifB (true) (
  ob ((M.ofOpt (bin Try.prog .lss 3 v10 (.int .i64 0))) h10) fun v11 h11 =>
  ob ((gd v11 false (M.ofOpt (fAddr 0 v7))) h11) fun v12 h12 =>
  ob ((gd v11 false (ld1 v12)) h12) fun v13 h13 =>
  ifB (true) (
  ob ((gd v11 false (M.ofOpt (fAddr 1 v7))) h13) fun v14 h14 =>
  ob ((gd v11 false (ld1 v14)) h14) fun v15 h15 =>
  ifB (true) (
  ob ((gd v11 false (M.ofOpt (bin Try.prog .geq 3 v13 v15))) h15) fun v16 h16 =>
  ob ((M.ofOpt (pick v11 (.bool true) v16)) h16) fun v17 h17 =>
  ob ((gd v17 false (M.ofOpt (fAddr 1 v7))) h17) fun v18 h18 =>
  ob ((gd v17 false (ld1 v18)) h18) fun v19 h19 =>
  ifB (true) (
  ob ((gd v17 false (M.ofOpt (fAddr 0 x1))) h19) fun v20 h20 =>
  ob ((gd v17 false (ld1 v20)) h20) fun v21 h21 =>
  ifB (true) (
  ob ((gd v17 false (M.ofOpt (bin Try.prog .geq 3 v19 v21))) h21) fun v22 h22 =>
  ob ((M.ofOpt (pick v17 (.bool true) v22)) h22) fun v23 h23 =>
  ob ((gd v23 false (M.ofOpt (fAddr 1 x1))) h23) fun v24 h24 =>
  ob ((gd v23 false (ld1 v24)) h24) fun v25 h25 =>
  ifB (true) (
  ob ((gd v23 false (M.ret x8)) h25) fun v26 h26 =>
  ob ((gd v23 false (slc Try.prog 2 v25 none (some v26) none)) h26) fun v27 h27 =>
  ifB (true) (
  ob ((gd v23 false (ldN 2 v7)) h27) fun v28 h28 =>
  ifB (true) (
  ob ((gd v23 false (O (.func 55) [v27, v28])) h28) fun v29 h29 =>
  ifB (true) (
  ob ((M.ofOpt (pick v23 (.bool true) v29)) h29) fun v30 h30 =>
  iteV v30 (
  k .ret [x0, x1, (.bool false), x8, v7, x5, x6, x7, x8, v4, x8, v5, v6, v9, v10, v11, v11, v12, v13, v14, v15, v16, v17, v17, v18, v19, v20, v21, v22, v23, v23, v24, v25, v26, v27, v28, v29, v30, x38, x39, x40, x41, x42] h30) (
  ob ((M.ofOpt (bin Try.prog .add 3 x8 (.int .i64 1))) h30) fun v31 h31 =>
  k .normal [x0, x1, x2, x8, v7, x5, x6, x7, v31, v4, x8, v5, v6, v9, v10, v11, v11, v12, v13, v14, v15, v16, v17, v17, v18, v19, v20, v21, v22, v23, v23, v24, v25, v26, v27, v28, v29, v30, v31, x39, x40, x41, x42] h31))))))))))) (
  k (.exit 0) [x0, x1, x2, x3, x4, x5, x6, x7, x8, v4, x10, x11, x12, x13, x14, x15, x16, x17, x18, x19, x20, x21, x22, x23, x24, x25, x26, x27, x28, x29, x30, x31, x32, x33, x34, x35, x36, x37, x38, x39, x40, x41, x42] h4)
theorem f34_b0_eq (O : Oracle) (L : Loops (Value × Heap)) (k : Ex → K (Value × Heap)) (x0 x1 x2 x3 x4 x5 x6 x7 x8 x9 x10 x11 x12 x13 x14 x15 x16 x17 x18 x19 x20 x21 x22 x23 x24 x25 x26 x27 x28 x29 x30 x31 x32 x33 x34 x35 x36 x37 x38 x39 x40 x41 x42 : Value) (h : Heap) :
    runCode Try.prog O L f34_c0 k [x0, x1, x2, x3, x4, x5, x6, x7, x8, x9, x10, x11, x12, x13, x14, x15, x16, x17, x18, x19, x20, x21, x22, x23, x24, x25, x26, x27, x28, x29, x30, x31, x32, x33, x34, x35, x36, x37, x38, x39, x40, x41, x42] h = f34_b0 O L k x0 x1 x2 x3 x4 x5 x6 x7 x8 x9 x10 x11 x12 x13 x14 x15 x16 x17 x18 x19 x20 x21 x22 x23 x24 x25 x26 x27 x28 x29 x30 x31 x32 x33 x34 x35 x36 x37 x38 x39 x40 x41 x42 h := by kernel_rfl
noncomputable def f34 (O : Oracle) (L : Loops (Value × Heap)) (a0 : Value) (h : Heap) : Option (Value × Heap) :=
  ob ((newB 27 (Value.cells a0).toList .fix) h) fun v0 h0 =>
  ob ((M.ofOpt (fAddr 1 v0)) h0) fun v1 h1 =>
  ob ((ld1 v1) h1) fun v2 h2 =>
  ob ((M.ofOpt (lenSl v2)) h2) fun v3 h3 =>
  L (runCode Try.prog O L f34_c0) (f34_k0 O L) [a0, v0, (.bool false), undef, undef, v1, v2, v3, (.int .i64 0), undef, undef, undef, undef, undef, undef, undef, undef, undef, undef, undef, undef, undef, undef, undef, undef, undef, undef, undef, undef, undef, undef, undef, undef, undef, undef, undef, undef, undef, undef, undef, undef, undef, undef] h3
theorem f34_eq (O : Oracle) (L : Loops (Value × Heap)) (a0 : Value) (h : Heap) :
    body Try.prog O L 34 [a0] h = f34 O L a0 h := by kernel_rfl
noncomputable def f35 (O : Oracle) (L : Loops (Value × Heap)) (a0 : Value) (h : Heap) : Option (Value × Heap) :=
  ob ((M.ofOpt (lenSl a0)) h) fun v0 h0 =>
  ob ((M.ofOpt (bin Try.prog .eql 3 v0 (.int .i64 0))) h0) fun v1 h1 =>
  ob ((gd v1 false (M.ret a0)) h1) fun v2 h2 =>
  ob ((gd v1 false (M.ofOpt (lenSl v2))) h2) fun v3 h3 =>
  ob ((gd v1 false (M.ofOpt (bin Try.prog .gtr 3 v3 (.int .i64 3)))) h3) fun v4 h4 =>
  ob ((M.ofOpt (pick v1 (.bool true) v4)) h4) fun v5 h5 =>
  ob ((gd v5 false (M.ret a0)) h5) fun v6 h6 =>
  ob ((gd v5 false (M.ret (.func (.func 56) #[] #[]))) h6) fun v7 h7 =>
  ob ((gd v5 false (O (.func 57) [v6, v7])) h7) fun v8 h8 =>
  ob ((M.ofOpt (pick v5 (.bool true) v8)) h8) fun v9 h9 =>
  iteV v9 (
  some (oneOf [(.pointer none)], h9)) (
  ob ((O (.func 58) [a0]) h9) fun v10 h10 =>
  ob ((O (.func 58) [a0]) h10) fun v11 h11 =>
  ob ((M.ofOpt (bld Try.prog 79 [(0, v10), (1, v11)])) h11) fun v12 h12 =>
  ob ((newB 79 (Value.cells v12).toList .fix) h12) fun v13 h13 =>
  some (oneOf [v13], h13))
theorem f35_eq (O : Oracle) (L : Loops (Value × Heap)) (a0 : Value) (h : Heap) :
    body Try.prog O L 35 [a0] h = f35 O L a0 h := by kernel_rfl
noncomputable def f36 (O : Oracle) (L : Loops (Value × Heap)) (a0 a1 : Value) (h : Heap) : Option (Value × Heap) :=
  ob ((O (.func 59) [a0, a1]) h) fun v0 h0 =>
  ob ((M.ofOpt (bin Try.prog .geq 3 v0 (.int .i64 0))) h0) fun v1 h1 =>
  some (oneOf [v1], h1)
theorem f36_eq (O : Oracle) (L : Loops (Value × Heap)) (a0 a1 : Value) (h : Heap) :
    body Try.prog O L 36 [a0, a1] h = f36 O L a0 a1 h := by kernel_rfl
noncomputable def f37 (O : Oracle) (L : Loops (Value × Heap)) (a0 a1 a2 : Value) (h : Heap) : Option (Value × Heap) :=
  ob ((M.ofOpt (bin Try.prog .geq 3 a0 a1)) h) fun v0 h0 =>
  ob ((gd v0 true (M.ret a0)) h0) fun v1 h1 =>
  ob ((gd v0 true (M.ret a2)) h1) fun v2 h2 =>
  ob ((gd v0 true (M.ofOpt (bin Try.prog .leq 3 v1 v2))) h2) fun v3 h3 =>
  ob ((M.ofOpt (pick v0 v3 (.bool false))) h3) fun v4 h4 =>
  some (oneOf [v4], h4)
theorem f37_eq (O : Oracle) (L : Loops (Value × Heap)) (a0 a1 a2 : Value) (h : Heap) :
    body Try.prog O L 37 [a0, a1, a2] h = f37 O L a0 a1 a2 h := by kernel_rfl
noncomputable def f38_c0 : Code := sub [1, 0, 1, 0, 0] (fbody Try.prog 38)
noncomputable def f38_k0 (O : Oracle) (L : Loops (Value × Heap)) : Ex → K (Value × Heap) := (blockK 0 (seqK Try.prog O L (sub [1, 1] (fbody Try.prog 38)) (kRet Try.prog Try.f38)))
noncomputable def f38_e0_0 (O : Oracle) (L : Loops (Value × Heap)) (x0 x1 x2 x3 x4 x5 x6 x7 x8 x9 x10 x11 x12 x13 x14 x15 x16 x17 x18 : Value) (h : Heap) : Option (Value × Heap) :=
  some (oneOf [(.int .i64 (-1))], h)
theorem f38_e0_0_eq (O : Oracle) (L : Loops (Value × Heap)) (x0 x1 x2 x3 x4 x5 x6 x7 x8 x9 x10 x11 x12 x13 x14 x15 x16 x17 x18 : Value) (h : Heap) :
    f38_k0 O L (.exit 0) [x0, x1, x2, x3, x4, x5, x6, x7, x8, x9, x10, x11, x12, x13, x14, x15, x16, x17, x18] h = f38_e0_0 O L x0 x1 x2 x3 x4 x5 x6 x7 x8 x9 x10 x11 x12 x13 x14 x15 x16 x17 x18 h := by kernel_rfl
noncomputable def f38_r0 (O : Oracle) (L : Loops (Value × Heap)) (x0 x1 x2 x3 x4 x5 x6 x7 x8 x9 x10 x11 x12 x13 x14 x15 x16 x17 x18 : Value) (h : Heap) : Option (Value × Heap) :=
  some (oneOf [x4], h)
theorem f38_r0_eq (O : Oracle) (L : Loops (Value × Heap)) (x0 x1 x2 x3 x4 x5 x6 x7 x8 x9 x10 x11 x12 x13 x14 x15 x16 x17 x18 : Value) (h : Heap) :
    f38_k0 O L .ret [x0, x1, x2, x3, x4, x5, x6, x7, x8, x9, x10, x11, x12, x13, x14, x15, x16, x17, x18] h = f38_r0 O L x0 x1 x2 x3 x4 x5 x6 x7 x8 x9 x10 x11 x12 x13 x14 x15 x16 x17 x18 h := by kernel_rfl
noncomputable def f38_b0 (O : Oracle) (L : Loops (Value × Heap)) (k : Ex → K (Value × Heap)) (x0 x1 x2 x3 x4 x5 x6 x7 x8 x9 x10 x11 x12 x13 x14 x15 x16 x17 x18 : Value) (h : Heap) : Option (Value × Heap) :=
  ob ((M.ofOpt (bin Try.prog .lss 3 x8 x7)) h) fun v1 h1 =>
  iteV v1 (
  ob ((M.ofOpt (iAddr 1 x0 x8)) h1) fun v2 h2 =>
  ob ((ld1 v2) h2) fun v3 h3 =>
  ob ((M.ofOpt (bin Try.prog .eql 3 x1 v3)) h3) fun v4 h4 =>
  iteV v4 (
  k .ret [x0, x1, x2, x3, x8, x8, x6, x7, x8, v1, x8, x1, x0, x8, v2, v3, v4, x8, x18] h4) (
  ob ((M.ofOpt (bin Try.prog .add 3 x8 (.int .i64 1))) h4) fun v5 h5 =>
  k .normal [x0, x1, x2, x3, x4, x8, x6, x7, v5, v1, x8, x1, x0, x8, v2, v3, v4, x17, v5] h5)) (
  k (.exit 0) [x0, x1, x2, x3, x4, x5, x6, x7, x8, v1, x10, x11, x12, x13, x14, x15, x16, x17, x18] h1)
theorem f38_b0_eq (O : Oracle) (L : Loops (Value × Heap)) (k : Ex → K (Value × Heap)) (x0 x1 x2 x3 x4 x5 x6 x7 x8 x9 x10 x11 x12 x13 x14 x15 x16 x17 x18 : Value) (h : Heap) :
    runCode Try.prog O L f38_c0 k [x0, x1, x2, x3, x4, x5, x6, x7, x8, x9, x10, x11, x12, x13, x14, x15, x16, x17, x18] h = f38_b0 O L k x0 x1 x2 x3 x4 x5 x6 x7 x8 x9 x10 x11 x12 x13 x14 x15 x16 x17 x18 h := by kernel_rfl
noncomputable def f38 (O : Oracle) (L : Loops (Value × Heap)) (a0 a1 : Value) (h : Heap) : Option (Value × Heap) :=
  ob ((M.ofOpt (lenSl a0)) h) fun v0 h0 =>
  L (runCode Try.prog O L f38_c0) (f38_k0 O L) [a0, a1, undef, undef, (.int .i64 0), undef, a0, v0, (.int .i64 0), undef, undef, undef, undef, undef, undef, undef, undef, undef, undef] h0
theorem f38_eq (O : Oracle) (L : Loops (Value × Heap)) (a0 a1 : Value) (h : Heap) :
    body Try.prog O L 38 [a0, a1] h = f38 O L a0 a1 h := by kernel_rfl
noncomputable def f39_c1 : Code := sub [1, 1, 0, 1, 0, 0, 1, 0, 0, 1, 1, 0, 0] (fbody Try.prog 39)
noncomputable def f39_k1 (O : Oracle) (L : Loops (Value × Heap)) (k : Ex → K (Value × Heap)) : Ex → K (Value × Heap) := (blockK 2 (blockK 1 (seqK Try.prog O L (sub [1, 1, 0, 1, 0, 0, 1, 1] (fbody Try.prog 39)) k)))
noncomputable def f39_e1_2 (O : Oracle) (L : Loops (Value × Heap)) (k : Ex → K (Value × Heap)) (x0 x1 x2 x3 x4 x5 x6 x7 x8 x9 x10 x11 x12 x13 x14 x15 x16 x17 x18 x19 x20 x21 x22 x23 x24 x25 x26 x27 x28 x29 x30 x31 x32 x33 x34 x35 x36 x37 x38 x39 x40 x41 x42 x43 x44 x45 x46 x47 : Value) (h : Heap) : Option (Value × Heap) :=
  ob ((M.ofOpt (bin Try.prog .add 3 x4 (.int .i64 1))) h) fun v27 h27 =>
  k .normal [x0, x1, x2, x3, v27, x5, x6, x7, x8, x9, x10, x11, x12, x13, x14, x4, v27, x17, x18, x19, x20, x21, x22, x23, x24, x25, x26, x27, x28, x29, x30, x31, x32, x33, x34, x35, x36, x37, x38, x39, x40, x41, x42, x43, x44, x45, x46, x47] h27
theorem f39_e1_2_eq (O : Oracle) (L : Loops (Value × Heap)) (k : Ex → K (Value × Heap)) (x0 x1 x2 x3 x4 x5 x6 x7 x8 x9 x10 x11 x12 x13 x14 x15 x16 x17 x18 x19 x20 x21 x22 x23 x24 x25 x26 x27 x28 x29 x30 x31 x32 x33 x34 x35 x36 x37 x38 x39 x40 x41 x42 x43 x44 x45 x46 x47 : Value) (h : Heap) :
    f39_k1 O L k (.exit 2) [x0, x1, x2, x3, x4, x5, x6, x7, x8, x9, x10, x11, x12, x13, x14, x15, x16, x17, x18, x19, x20, x21, x22, x23, x24, x25, x26, x27, x28, x29, x30, x31, x32, x33, x34, x35, x36, x37, x38, x39, x40, x41, x42, x43, x44, x45, x46, x47] h = f39_e1_2 O L k x0 x1 x2 x3 x4 x5 x6 x7 x8 x9 x10 x11 x12 x13 x14 x15 x16 x17 x18 x19 x20 x21 x22 x23 x24 x25 x26 x27 x28 x29 x30 x31 x32 x33 x34 x35 x36 x37 x38 x39 x40 x41 x42 x43 x44 x45 x46 x47 h := by kernel_rfl
noncomputable def f39_b1 (O : Oracle) (L : Loops (Value × Heap)) (k : Ex → K (Value × Heap)) (x0 x1 x2 x3 x4 x5 x6 x7 x8 x9 x10 x11 x12 x13 x14 x15 x16 x17 x18 x19 x20 x21 x22 x23 x24 x25 x26 x27 x28 x29 x30 x31 x32 x33 x34 x35 x36 x37 x38 x39 x40 x41 x42 x43 x44 x45 x46 x47 : Value) (h : Heap) : Option (Value × Heap) :=
  ob ((M.ofOpt (lenSl x5)) h) fun v9 h9 =>
  ob ((M.ofOpt (bin Try.prog .lss 3 x6 v9)) h9) fun v10 h10 =>
  iteV v10 (
  ob ((M.ofOpt (iAddr 1 x5 x6)) h10) fun v11 h11 =>
  ob ((ld1 v11) h11) fun v12 h12 =>
  ob ((M.ofOpt (bin Try.prog .geq 3 v12 (.int .i64 0))) h12) fun v13 h13 =>
  ob ((gd v13 true (M.ret x5)) h13) fun v14 h14 =>
  ob ((gd v13 true (M.ret x6)) h14) fun v15 h15 =>
  ob ((gd v13 true (M.ofOpt (iAddr 1 v14 v15))) h15) fun v16 h16 =>
  ob ((gd v13 true (ld1 v16)) h16) fun v17 h17 =>
  ob ((gd v13 true (M.ofOpt (bin Try.prog .lss 3 v17 (.int .i64 6)))) h17) fun v18 h18 =>
  ob ((M.ofOpt (pick v13 v18 (.bool false))) h18) fun v19 h19 =>
  iteV v19 (
  ob ((M.ofOpt (iAddr 1 x5 x6)) h19) fun v20 h20 =>
  ob ((ld1 v20) h20) fun v21 h21 =>
  ob ((M.ofOpt (bld Try.prog 38 [(0, x4), (1, v21)])) h21) fun v22 h22 =>
  ob ((bldSlice 38 2 1 [(.int .i64 0), (.int .i64 0)] [(0, v22)]) h22) fun v23 h23 =>
  ob ((app 38 2 16 x3 v23) h23) fun v24 h24 =>
  ob ((M.ofOpt (bin Try.prog .add 3 x6 (.int .i64 1))) h24) fun v25 h25 =>
  k .normal [x0, x1, x2, v24, x4, x5, v25, x7, x8, x9, x10, x11, x12, x13, x14, x15, x16, x17, x18, x19, x6, x5, v9, v10, x6, v25, x5, x6, v11, v12, v13, v13, v14, v15, v16, v17, v18, v19, x3, x4, x5, x6, v20, v21, v22, v23, v24, x47] h25) (
  ob ((M.ofOpt (bin Try.prog .add 3 x6 (.int .i64 1))) h19) fun v26 h26 =>
  k .normal [x0, x1, x2, x3, x4, x5, v26, x7, x8, x9, x10, x11, x12, x13, x14, x15, x16, x17, x18, x19, x6, x5, v9, v10, x6, v26, x5, x6, v11, v12, v13, v13, v14, v15, v16, v17, v18, v19, x38, x39, x40, x41, x42, x43, x44, x45, x46, x47] h26)) (
  k (.exit 2) [x0, x1, x2, x3, x4, x5, x6, x7, x8, x9, x10, x11, x12, x13, x14, x15, x16, x17, x18, x19, x6, x5, v9, v10, x24, x25, x26, x27, x28, x29, x30, x31, x32, x33, x34, x35, x36, x37, x38, x39, x40, x41, x42, x43, x44, x45, x46, x47] h10)
theorem f39_b1_eq (O : Oracle) (L : Loops (Value × Heap)) (k : Ex → K (Value × Heap)) (x0 x1 x2 x3 x4 x5 x6 x7 x8 x9 x10 x11 x12 x13 x14 x15 x16 x17 x18 x19 x20 x21 x22 x23 x24 x25 x26 x27 x28 x29 x30 x31 x32 x33 x34 x35 x36 x37 x38 x39 x40 x41 x42 x43 x44 x45 x46 x47 : Value) (h : Heap) :
    runCode Try.prog O L f39_c1 k [x0, x1, x2, x3, x4, x5, x6, x7, x8, x9, x10, x11, x12, x13, x14, x15, x16, x17, x18, x19, x20, x21, x22, x23, x24, x25, x26, x27, x28, x29, x30, x31, x32, x33, x34, x35, x36, x37, x38, x39, x40, x41, x42, x43, x44, x45, x46, x47] h = f39_b1 O L k x0 x1 x2 x3 x4 x5 x6 x7 x8 x9 x10 x11 x12 x13 x14 x15 x16 x17 x18 x19 x20 x21 x22 x23 x24 x25 x26 x27 x28 x29 x30 x31 x32 x33 x34 x35 x36 x37 x38 x39 x40 x41 x42 x43 x44 x45 x46 x47 h := by kernel_rfl
noncomputable def f39_c0 : Code := sub [1, 1, 0, 1, 0, 0] (fbody Try.prog 39)
noncomputable def f39_k0 (O : Oracle) (L : Loops (Value × Heap)) : Ex → K (Value × Heap) := (blockK 0 (seqK Try.prog O L (sub [1, 1, 1] (fbody Try.prog 39)) (kRet Try.prog Try.f39)))
noncomputable def f39_e0_0 (O : Oracle) (L : Loops (Value × Heap)) (x0 x1 x2 x3 x4 x5 x6 x7 x8 x9 x10 x11 x12 x13 x14 x15 x16 x17 x18 x19 x20 x21 x22 x23 x24 x25 x26 x27 x28 x29 x30 x31 x32 x33 x34 x35 x36 x37 x38 x39 x40 x41 x42 x43 x44 x45 x46 x47 : Value) (h : Heap) : Option (Value × Heap) :=
  some (oneOf [x3], h)
theorem f39_e0_0_eq (O : Oracle) (L : Loops (Value × Heap)) (x0 x1 x2 x3 x4 x5 x6 x7 x8 x9 x10 x11 x12 x13 x14 x15 x16 x17 x18 x19 x20 x21 x22 x23 x24 x25 x26 x27 x28 x29 x30 x31 x32 x33 x34 x35 x36 x37 x38 x39 x40 x41 x42 x43 x44 x45 x46 x47 : Value) (h : Heap) :
    f39_k0 O L (.exit 0) [x0, x1, x2, x3, x4, x5, x6, x7, x8, x9, x10, x11, x12, x13, x14, x15, x16, x17, x18, x19, x20, x21, x22, x23, x24, x25, x26, x27, x28, x29, x30, x31, x32, x33, x34, x35, x36, x37, x38, x39, x40, x41, x42, x43, x44, x45, x46, x47] h = f39_e0_0 O L x0 x1 x2 x3 x4 x5 x6 x7 x8 x9 x10 x11 x12 x13 x14 x15 x16 x17 x18 x19 x20 x21 x22 x23 x24 x25 x26 x27 x28 x29 x30 x31 x32 x33 x34 x35 x36 x37 x38 x39 x40 x41 x42 x43 x44 x45 x46 x47 h := by kernel_rfl
noncomputable def f39_b0 (O : Oracle) (L : Loops (Value × Heap)) (k : Ex → K (Value × Heap)) (x0 x1 x2 x3 x4 x5 x6 x7 x8 x9 x10 x11 x12 x13 x14 x15 x16 x17 x18 x19 x20 x21 x22 x23 x24 x25 x26 x27 x28 x29 x30 x31 x32 x33 x34 x35 x36 x37 x38 x39 x40 x41 x42 x43 x44 x45 x46 x47 : Value) (h : Heap) : Option (Value × Heap) :=
  ob ((M.ofOpt (fAddr 0 x1)) h) fun v1 h1 =>
  ob ((ld1 v1) h1) fun v2 h2 =>
  ob ((M.ofOpt (bin Try.prog .lss 3 x4 v2)) h2) fun v3 h3 =>
  ob ((gd v3 true (M.ret x4)) h3) fun v4 h4 =>
  ob ((gd v3 true (M.ofOpt (bin Try.prog .lss 3 v4 (.int .i64 6)))) h4) fun v5 h5 =>
  ob ((M.ofOpt (pick v3 v5 (.bool false))) h5) fun v6 h6 =>
  iteV v6 (
  ob ((ldN 11 x1) h6) fun v7 h7 =>
  ob ((O (.func 42) [v7, x4]) h7) fun v8 h8 =>
  L (runCode Try.prog O L f39_c1) (f39_k1 O L k) [x0, x1, x2, x3, x4, v8, (.int .i64 0), x4, v1, v2, v3, v3, v4, v5, v6, x15, x16, v7, x4, v8, x20, x21, x22, x23, x24, x25, x26, x27, x28, x29, x30, x31, x32, x33, x34, x35, x36, x37, x38, x39, x40, x41, x42, x43, x44, x45, x46, x47] h8) (
  k (.exit 0) [x0, x1, x2, x3, x4, x5, x6, x4, v1, v2, v3, v3, v4, v5, v6, x15, x16, x17, x18, x19, x20, x21, x22, x23, x24, x25, x26, x27, x28, x29, x30, x31, x32, x33, x34, x35, x36, x37, x38, x39, x40, x41, x42, x43, x44, x45, x46, x47] h6)
theorem f39_b0_eq (O : Oracle) (L : Loops (Value × Heap)) (k : Ex → K (Value × Heap)) (x0 x1 x2 x3 x4 x5 x6 x7 x8 x9 x10 x11 x12 x13 x14 x15 x16 x17 x18 x19 x20 x21 x22 x23 x24 x25 x26 x27 x28 x29 x30 x31 x32 x33 x34 x35 x36 x37 x38 x39 x40 x41 x42 x43 x44 x45 x46 x47 : Value) (h : Heap) :
    runCode Try.prog O L f39_c0 k [x0, x1, x2, x3, x4, x5, x6, x7, x8, x9, x10, x11, x12, x13, x14, x15, x16, x17, x18, x19, x20, x21, x22, x23, x24, x25, x26, x27, x28, x29, x30, x31, x32, x33, x34, x35, x36, x37, x38, x39, x40, x41, x42, x43, x44, x45, x46, x47] h = f39_b0 O L k x0 x1 x2 x3 x4 x5 x6 x7 x8 x9 x10 x11 x12 x13 x14 x15 x16 x17 x18 x19 x20 x21 x22 x23 x24 x25 x26 x27 x28 x29 x30 x31 x32 x33 x34 x35 x36 x37 x38 x39 x40 x41 x42 x43 x44 x45 x46 x47 h := by kernel_rfl
noncomputable def f39 (O : Oracle) (L : Loops (Value × Heap)) (a0 : Value) (h : Heap) : Option (Value × Heap) :=
  ob ((newB 27 (Value.cells a0).toList .fix) h) fun v0 h0 =>
  L (runCode Try.prog O L f39_c0) (f39_k0 O L) [a0, v0, (.slice none 0 0), (.slice none 0 0), (.int .i64 0), undef, undef, undef, undef, undef, undef, undef, undef, undef, undef, undef, undef, undef, undef, undef, undef, undef, undef, undef, undef, undef, undef, undef, undef, undef, undef, undef, undef, undef, undef, undef, undef, undef, undef, undef, undef, undef, undef, undef, undef, undef, undef, undef] h0
theorem f39_eq (O : Oracle) (L : Loops (Value × Heap)) (a0 : Value) (h : Heap) :
    body Try.prog O L 39 [a0] h = f39 O L a0 h := by kernel_rfl
noncomputable def f40_c0 : Code := sub [1, 1, 1, 0, 1, 0, 0] (fbody Try.prog 40)
noncomputable def f40_k0 (O : Oracle) (L : Loops (Value × Heap)) : Ex → K (Value × Heap) := (blockK 0 (seqK Try.prog O L (sub [1, 1, 1, 1] (fbody Try.prog 40)) (kRet Try.prog Try.f40)))
noncomputable def f40_e0_0 (O : Oracle) (L : Loops (Value × Heap)) (x0 x1 x2 x3 x4 x5 x6 x7 x8 x9 x10 x11 x12 x13 x14 x15 x16 x17 x18 x19 x20 x21 x22 x23 x24 x25 x26 x27 x28 x29 x30 x31 x32 x33 x34 x35 x36 x37 x38 x39 x40 x41 x42 x43 x44 x45 x46 x47 x48 x49 x50 x51 x52 x53 x54 x55 x56 x57 x58 x59 x60 x61 x62 x63 x64 x65 x66 x67 x68 x69 x70 x71 x72 x73 x74 x75 x76 x77 x78 x79 x80 x81 x82 : Value) (h : Heap) : Option (Value × Heap) :=
  some (oneOf [(.int .i64 0)], h)
theorem f40_e0_0_eq (O : Oracle) (L : Loops (Value × Heap)) (x0 x1 x2 x3 x4 x5 x6 x7 x8 x9 x10 x11 x12 x13 x14 x15 x16 x17 x18 x19 x20 x21 x22 x23 x24 x25 x26 x27 x28 x29 x30 x31 x32 x33 x34 x35 x36 x37 x38 x39 x40 x41 x42 x43 x44 x45 x46 x47 x48 x49 x50 x51 x52 x53 x54 x55 x56 x57 x58 x59 x60 x61 x62 x63 x64 x65 x66 x67 x68 x69 x70 x71 x72 x73 x74 x75 x76 x77 x78 x79 x80 x81 x82 : Value) (h : Heap) :
    f40_k0 O L (.exit 0) [x0, x1, x2, x3, x4, x5, x6, x7, x8, x9, x10, x11, x12, x13, x14, x15, x16, x17, x18, x19, x20, x21, x22, x23, x24, x25, x26, x27, x28, x29, x30, x31, x32, x33, x34, x35, x36, x37, x38, x39, x40, x41, x42, x43, x44, x45, x46, x47, x48, x49, x50, x51, x52, x53, x54, x55, x56, x57, x58, x59, x60, x61, x62, x63, x64, x65, x66, x67, x68, x69, x70, x71, x72, x73, x74, x75, x76, x77, x78, x79, x80, x81, x82] h = f40_e0_0 O L x0 x1 x2 x3 x4 x5 x6 x7 x8 x9 x10 x11 x12 x13 x14 x15 x16 x17 x18 x19 x20 x21 x22 x23 x24 x25 x26 x27 x28 x29 x30 x31 x32 x33 x34 x35 x36 x37 x38 x39 x40 x41 x42 x43 x44 x45 x46 x47 x48 x49 x50 x51 x52 x53 x54 x55 x56 x57 x58 x59 x60 x61 x62 x63 x64 x65 x66 x67 x68 x69 x70 x71 x72 x73 x74 x75 x76 x77 x78 x79 x80 x81 x82 h := by kernel_rfl
noncomputable def f40_r0 (O : Oracle) (L : Loops (Value × Heap)) (x0 x1 x2 x3 x4 x5 x6 x7 x8 x9 x10 x11 x12 x13 x14 x15 x16 x17 x18 x19 x20 x21 x22 x23 x24 x25 x26 x27 x28 x29 x30 x31 x32 x33 x34 x35 x36 x37 x38 x39 x40 x41 x42 x43 x44 x45 x46 x47 x48 x49 x50 x51 x52 x53 x54 x55 x56 x57 x58 x59 x60 x61 x62 x63 x64 x65 x66 x67 x68 x69 x70 x71 x72 x73 x74 x75 x76 x77 x78 x79 x80 x81 x82 : Value) (h : Heap) : Option (Value × Heap) :=
  some (oneOf [x2], h)
theorem f40_r0_eq (O : Oracle) (L : Loops (Value × Heap)) (x0 x1 x2 x3 x4 x5 x6 x7 x8 x9 x10 x11 x12 x13 x14 x15 x16 x17 x18 x19 x20 x21 x22 x23 x24 x25 x26 x27 x28 x29 x30 x31 x32 x33 x34 x35 x36 x37 x38 x39 x40 x41 x42 x43 x44 x45 x46 x47 x48 x49 x50 x51 x52 x53 x54 x55 x56 x57 x58 x59 x60 x61 x62 x63 x64 x65 x66 x67 x68 x69 x70 x71 x72 x73 x74 x75 x76 x77 x78 x79 x80 x81 x82 : Value) (h : Heap) :
    f40_k0 O L .ret [x0, x1, x2, x3, x4, x5, x6, x7, x8, x9, x10, x11, x12, x13, x14, x15, x16, x17, x18, x19, x20, x21, x22, x23, x24, x25, x26, x27, x28, x29, x30, x31, x32, x33, x34, x35, x36, x37, x38, x39, x40, x41, x42, x43, x44, x45, x46, x47, x48, x49, x50, x51, x52, x53, x54, x55, x56, x57, x58, x59, x60, x61, x62, x63, x64, x65, x66, x67, x68, x69, x70, x71, x72, x73, x74, x75, x76, x77, x78, x79, x80, x81, x82] h = f40_r0 O L x0 x1 x2 x3 x4 x5 x6 x7 x8 x9 x10 x11 x12 x13 x14 x15 x16 x17 x18 x19 x20 x21 x22 x23 x24 x25 x26 x27 x28 x29 x30 x31 x32 x33 x34 x35 x36 x37 x38 x39 x40 x41 x42 x43 x44 x45 x46 x47 x48 x49 x50 x51 x52 x53 x54 x55 x56 x57 x58 x59 x60 x61 x62 x63 x64 x65 x66 x67 x68 x69 x70 x71 x72 x73 x74 x75 x76 x77 x78 x79 x80 x81 x82 h := by kernel_rfl
noncomputable def f40_b0 (O : Oracle) (L : Loops (Value × Heap)) (k : Ex → K (Value × Heap)) (x0 x1 x2 x3 x4 x5 x6 x7 x8 x9 x10 x11 x12 x13 x14 x15 x16 x17 x18 x19 x20 x21 x22 x23 x24 x25 x26 x27 x28 x29 x30 x31 x32 x33 x34 x35 x36 x37 x38 x39 x40 x41 x42 x43 x44 x45 x46 x47 x48 x49 x50 x51 x52 x53 x54 x55 x56 x57 x58 x59 x60 x61 x62 x63 x64 x65 x66 x67 x68 x69 x70 x71 x72 x73 x74 x75 x76 x77 x78 x79 x80 x81 x82 : Value) (h : Heap) : Option (Value × Heap) :=
  ob ((M.ofOpt (fAddr 10 x1)) h) fun v52 h52 =>
  ob ((ld1 v52) h52) fun v53 h53 =>
  ob ((M.ofOpt (lenSl v53)) h53) fun v54 h54 =>
  ob ((M.ofOpt (bin Try.prog .lss 3 x4 v54)) h54) fun v55 h55 =>
  iteV v55 (
  ob ((M.ofOpt (fAddr 10 x1)) h55) fun v56 h56 =>
  ob ((ld1 v56) h56) fun v57 h57 =>
  ifB (true) (
  ob ((M.ofOpt (iAddr 1 v57 x4)) h57) fun v58 h58 =>
  ob ((ld1 v58) h58) fun v59 h59 =>
  ifB (true) (
  ob ((M.ofOpt (lenSl v59)) h59) fun v60 h60 =>
  ob ((M.ofOpt (fAddr 0 x1)) h60) fun v61 h61 =>
  ob ((ld1 v61) h61) fun v62 h62 =>
  ifB (true) (
  ob ((M.ofOpt (bin Try.prog .neq 3 v60 v62)) h62) fun v63 h63 =>
  iteV v63 (
  k .ret [x0, x1, (.int .i64 120), x3, x4, x5, x6, x7, x8, x9, x10, x11, x12, x13, x14, x15, x16, x17, x18, x19, x20, x21, x22, x23, x24, x25, x26, x27, x28, x29, x30, x31, x32, x33, x34, x35, x36, x37, x38, x39, x40, x41, x42, x43, x44, x45, x46, x47, x48, x49, x50, x51, x52, x53, x54, x55, x56, x57, x58, x59, x60, x61, x62, x63, x64, x65, x66, x4, v52, v53, v54, v55, x72, x73, v56, v57, x4, v58, v59, v60, v61, v62, v63] h63) (
  ob ((M.ofOpt (bin Try.prog .add 3 x4 (.int .i64 1))) h63) fun v64 h64 =>
  k .normal [x0, x1, x2, x3, v64, x5, x6, x7, x8, x9, x10, x11, x12, x13, x14, x15, x16, x17, x18, x19, x20, x21, x22, x23, x24, x25, x26, x27, x28, x29, x30, x31, x32, x33, x34, x35, x36, x37, x38, x39, x40, x41, x42, x43, x44, x45, x46, x47, x48, x49, x50, x51, x52, x53, x54, x55, x56, x57, x58, x59, x60, x61, x62, x63, x64, x65, x66, x4, v52, v53, v54, v55, x4, v64, v56, v57, x4, v58, v59, v60, v61, v62, v63] h64))))) (
  k (.exit 0) [x0, x1, x2, x3, x4, x5, x6, x7, x8, x9, x10, x11, x12, x13, x14, x15, x16, x17, x18, x19, x20, x21, x22, x23, x24, x25, x26, x27, x28, x29, x30, x31, x32, x33, x34, x35, x36, x37, x38, x39, x40, x41, x42, x43, x44, x45, x46, x47, x48, x49, x50, x51, x52, x53, x54, x55, x56, x57, x58, x59, x60, x61, x62, x63, x64, x65, x66, x4, v52, v53, v54, v55, x72, x73, x74, x75, x76, x77, x78, x79, x80, x81, x82] h55)
theorem f40_b0_eq (O : Oracle) (L : Loops (Value × Heap)) (k : Ex → K (Value × Heap)) (x0 x1 x2 x3 x4 x5 x6 x7 x8 x9 x10 x11 x12 x13 x14 x15 x16 x17 x18 x19 x20 x21 x22 x23 x24 x25 x26 x27 x28 x29 x30 x31 x32 x33 x34 x35 x36 x37 x38 x39 x40 x41 x42 x43 x44 x45 x46 x47 x48 x49 x50 x51 x52 x53 x54 x55 x56 x57 x58 x59 x60 x61 x62 x63 x64 x65 x66 x67 x68 x69 x70 x71 x72 x73 x74 x75 x76 x77 x78 x79 x80 x81 x82 : Value) (h : Heap) :
    runCode Try.prog O L f40_c0 k [x0, x1, x2, x3, x4, x5, x6, x7, x8, x9, x10, x11, x12, x13, x14, x15, x16, x17, x18, x19, x20, x21, x22, x23, x24, x25, x26, x27, x28, x29, x30, x31, x32, x33, x34, x35, x36, x37, x38, x39, x40, x41, x42, x43, x44, x45, x46, x47, x48, x49, x50, x51, x52, x53, x54, x55, x56, x57, x58, x59, x60, x61, x62, x63, x64, x65, x66, x67, x68, x69, x70, x71, x72, x73, x74, x75, x76, x77, x78, x79, x80, x81, x82] h = f40_b0 O L k x0 x1 x2 x3 x4 x5 x6 x7 x8 x9 x10 x11 x12 x13 x14 x15 x16 x17 x18 x19 x20 x21 x22 x23 x24 x25 x26 x27 x28 x29 x30 x31 x32 x33 x34 x35 x36 x37 x38 x39 x40 x41 x42 x43 x44 x45 x46 x47 x48 x49 x50 x51 x52 x53 x54 x55 x56 x57 x58 x59 x60 x61 x62 x63 x64 x65 x66 x67 x68 x69 x70 x71 x72 x73 x74 x75 x76 x77 x78 x79 x80 x81 x82 h := by kernel_rfl
noncomputable def f40 (O : Oracle) (L : Loops (Value × Heap)) (a0 : Value) (h : Heap) : Option (Value × Heap) :=
  ob ((newB 27 (Value.cells a0).toList .fix) h) fun v0 h0 =>
  ob ((M.ofOpt (fAddr 0 v0)) h0) fun v1 h1 =>
  ob ((ld1 v1) h1) fun v2 h2 =>
  ob ((O (.func 60) [v2, (.int .i64 2), (.int .i64 6)]) h2) fun v3 h3 =>
  ob ((gd v3 true (M.ofOpt (fAddr 2 v0))) h3) fun v4 h4 =>
  ob ((gd v3 true (ld1 v4)) h4) fun v5 h5 =>
  ob ((gd v3 true (O (.func 60) [v5, (.int .i64 1), (.int .i64 3)])) h5) fun v6 h6 =>
  ob ((M.ofOpt (pick v3 v6 (.bool false))) h6) fun v7 h7 =>
  ob ((gd v7 true (M.ofOpt (fAddr 3 v0))) h7) fun v8 h8 =>
  ob ((gd v7 true (ld1 v8)) h8) fun v9 h9 =>
  ob ((gd v7 true (O (.func 60) [v9, (.int .i64 1), (.int .i64 8)])) h9) fun v10 h10 =>
  ob ((M.ofOpt (pick v7 v10 (.bool false))) h10) fun v11 h11 =>
  ob ((gd v11 true (M.ofOpt (fAddr 4 v0))) h11) fun v12 h12 =>
  ob ((gd v11 true (ld1 v12)) h12) fun v13 h13 =>
  ob ((gd v11 true (O (.func 60) [v13, (.int .i64 1), (.int .i64 8)])) h13) fun v14 h14 =>
  ob ((M.ofOpt (pick v11 v14 (.bool false))) h14) fun v15 h15 =>
  ob ((gd v15 true (M.ofOpt (fAddr 5 v0))) h15) fun v16 h16 =>
  ob ((gd v15 true (ld1 v16)) h16) fun v17 h17 =>
  ob ((gd v15 true (O (.func 60) [v17, (.int .i64 1), (.int .i64 4)])) h17) fun v18 h18 =>
  ob ((M.ofOpt (pick v15 v18 (.bool false))) h18) fun v19 h19 =>
  ob ((gd v19 true (M.ofOpt (fAddr 6 v0))) h19) fun v20 h20 =>
  ob ((gd v19 true (ld1 v20)) h20) fun v21 h21 =>
  ob ((gd v19 true (O (.func 60) [v21, (.int .i64 1), (.int .i64 8)])) h21) fun v22 h22 =>
  ob ((M.ofOpt (pick v19 v22 (.bool false))) h22) fun v23 h23 =>
  ob ((gd v23 true (M.ofOpt (fAddr 7 v0))) h23) fun v24 h24 =>
  ob ((gd v23 true (ld1 v24)) h24) fun v25 h25 =>
  ob ((gd v23 true (O (.func 60) [v25, (.int .i64 1), (.int .i64 64)])) h25) fun v26 h26 =>
  ob ((M.ofOpt (pick v23 v26 (.bool false))) h26) fun v27 h27 =>
  ob ((M.ofOpt (un Try.prog .not v27)) h27) fun v28 h28 =>
  ob ((gd v28 false (ldN 11 v0)) h28) fun v29 h29 =>
  ob ((gd v28 false (O (.func 61) [v29])) h29) fun v30 h30 =>
  ob ((gd v28 false (M.ofOpt (un Try.prog .not v30))) h30) fun v31 h31 =>
  ob ((M.ofOpt (pick v28 (.bool true) v31)) h31) fun v32 h32 =>
  ob ((gd v32 false (M.ofOpt (fAddr 8 v0))) h32) fun v33 h33 =>
  ob ((gd v32 false (ld1 v33)) h33) fun v34 h34 =>
  ob ((gd v32 false (M.ofOpt (lenSl v34))) h34) fun v35 h35 =>
  ob ((gd v32 false (M.ofOpt (fAddr 2 v0))) h35) fun v36 h36 =>
  ob ((gd v32 false (ld1 v36)) h36) fun v37 h37 =>
  ob ((gd v32 false (M.ofOpt (bin Try.prog .neq 3 v35 v37))) h37) fun v38 h38 =>
  ob ((M.ofOpt (pick v32 (.bool true) v38)) h38) fun v39 h39 =>
  ob ((gd v39 false (M.ofOpt (fAddr 8 v0))) h39) fun v40 h40 =>
  ob ((gd v39 false (ld1 v40)) h40) fun v41 h41 =>
  ob ((gd v39 false (O (.func 62) [v41])) h41) fun v42 h42 =>
  ob ((gd v39 false (M.ofOpt (bin Try.prog .eql 81 v42 (.pointer none)))) h42) fun v43 h43 =>
  ob ((M.ofOpt (pick v39 (.bool true) v43)) h43) fun v44 h44 =>
  ob ((gd v44 false (M.ofOpt (fAddr 10 v0))) h44) fun v45 h45 =>
  ob ((gd v44 false (ld1 v45)) h45) fun v46 h46 =>
  ob ((gd v44 false (M.ofOpt (lenSl v46))) h46) fun v47 h47 =>
  ob ((gd v44 false (M.ofOpt (fAddr 0 v0))) h47) fun v48 h48 =>
  ob ((gd v44 false (ld1 v48)) h48) fun v49 h49 =>
  ob ((gd v44 false (M.ofOpt (bin Try.prog .neq 3 v47 v49))) h49) fun v50 h50 =>
  ob ((M.ofOpt (pick v44 (.bool true) v50)) h50) fun v51 h51 =>
  iteV v51 (
  some (oneOf [(.int .i64 120)], h51)) (
  L (runCode Try.prog O L f40_c0) (f40_k0 O L) [a0, v0, (.int .i64 0), v27, (.int .i64 0), v1, v2, v3, v3, v4, v5, v6, v7, v7, v8, v9, v10, v11, v11, v12, v13, v14, v15, v15, v16, v17, v18, v19, v19, v20, v21, v22, v23, v23, v24, v25, v26, v27, v27, v28, v28, v29, v30, v31, v32, v32, v33, v34, v35, v36, v37, v38, v39, v39, v40, v41, v42, v43, v44, v44, v45, v46, v47, v48, v49, v50, v51, undef, undef, undef, undef, undef, undef, undef, undef, undef, undef, undef, undef, undef, undef, undef, undef] h51)
theorem f40_eq (O : Oracle) (L : Loops (Value × Heap)) (a0 : Value) (h : Heap) :
    body Try.prog O L 40 [a0] h = f40 O L a0 h := by kernel_rfl
noncomputable def f42_c0 : Code := sub [1, 1, 0, 1, 0, 0] (fbody Try.prog 42)
noncomputable def f42_k0 (O : Oracle) (L : Loops (Value × Heap)) : Ex → K (Value × Heap) := (blockK 0 (seqK Try.prog O L (sub [1, 1, 1] (fbody Try.prog 42)) (kRet Try.prog Try.f42)))
noncomputable def f42_e0_0 (O : Oracle) (L : Loops (Value × Heap)) (x0 x1 x2 x3 x4 x5 x6 x7 x8 x9 x10 x11 x12 x13 x14 x15 x16 x17 x18 x19 x20 x21 x22 x23 x24 x25 x26 x27 x28 x29 x30 x31 x32 x33 x34 x35 x36 x37 x38 x39 x40 x41 x42 x43 x44 x45 x46 x47 x48 : Value) (h : Heap) : Option (Value × Heap) :=
  some (oneOf [x5], h)
theorem f42_e0_0_eq (O : Oracle) (L : Loops (Value × Heap)) (x0 x1 x2 x3 x4 x5 x6 x7 x8 x9 x10 x11 x12 x13 x14 x15 x16 x17 x18 x19 x20 x21 x22 x23 x24 x25 x26 x27 x28 x29 x30 x31 x32 x33 x34 x35 x36 x37 x38 x39 x40 x41 x42 x43 x44 x45 x46 x47 x48 : Value) (h : Heap) :
    f42_k0 O L (.exit 0) [x0, x1, x2, x3, x4, x5, x6, x7, x8, x9, x10, x11, x12, x13, x14, x15, x16, x17, x18, x19, x20, x21, x22, x23, x24, x25, x26, x27, x28, x29, x30, x31, x32, x33, x34, x35, x36, x37, x38, x39, x40, x41, x42, x43, x44, x45, x46, x47, x48] h = f42_e0_0 O L x0 x1 x2 x3 x4 x5 x6 x7 x8 x9 x10 x11 x12 x13 x14 x15 x16 x17 x18 x19 x20 x21 x22 x23 x24 x25 x26 x27 x28 x29 x30 x31 x32 x33 x34 x35 x36 x37 x38 x39 x40 x41 x42 x43 x44 x45 x46 x47 x48 h := by kernel_rfl
noncomputable def f42_b0 (O : Oracle) (L : Loops (Value × Heap)) (k : Ex → K (Value × Heap)) (x0 x1 x2 x3 x4 x5 x6 x7 x8 x9 x10 x11 x12 x13 x14 x15 x16 x17 x18 x19 x20 x21 x22 x23 x24 x25 x26 x27 x28 x29 x30 x31 x32 x33 x34 x35 x36 x37 x38 x39 x40 x41 x42 x43 x44 x45 x46 x47 x48 : Value) (h : Heap) : Option (Value × Heap) :=
  ob ((M.ofOpt (fAddr 1 x2)) h) fun v1 h1 =>
  ob ((ld1 v1) h1) fun v2 h2 =>
  ob ((M.ofOpt (lenSl v2)) h2) fun v3 h3 =>
  ob ((M.ofOpt (bin Try.prog .lss 3 x6 v3)) h3) fun v4 h4 =>
  iteV v4 (
  ob ((M.ofOpt (fAddr 1 x2)) h4) fun v5 h5 =>
  ob ((ld1 v5) h5) fun v6 h6 =>
  ob ((M.ofOpt (iAddr 2 v6 x6)) h6) fun v7 h7 =>
  ob ((ldN 2 v7) h7) fun v8 h8 =>
  ob ((newB 33 [(.int .i64 0), (.int .i64 0)] .fix) h8) fun v9 h9 =>
  ob ((stN 2 v9 v8) h9) fun v10 h10 =>
  ob ((M.ofOpt (fAddr 0 v9)) h10) fun v11 h11 =>
  ob ((ld1 v11) h11) fun v12 h12 =>
  ob ((M.ofOpt (bin Try.prog .eql 3 v12 x1)) h12) fun v13 h13 =>
  ob ((gd v13 true (M.ofOpt (fAddr 1 v9))) h13) fun v14 h14 =>
  ob ((gd v13 true (ld1 v14)) h14) fun v15 h15 =>
  ob ((gd v13 true (M.ret x1)) h15) fun v16 h16 =>
  ob ((gd v13 true (M.ofOpt (bin Try.prog .neq 3 v15 v16))) h16) fun v17 h17 =>
  ob ((M.ofOpt (pick v13 v17 (.bool false))) h17) fun v18 h18 =>
  iteV v18 (
  ob ((M.ofOpt (fAddr 1 v9)) h18) fun v19 h19 =>
  ob ((ld1 v19) h19) fun v20 h20 =>
  ob ((O (.func 63) [x5, v20]) h20) fun v21 h21 =>
  ob ((M.ofOpt (fAddr 1 v9)) h21) fun v22 h22 =>
  ob ((ld1 v22) h22) fun v23 h23 =>
  ob ((M.ofOpt (bin Try.prog .eql 3 v23 x1)) h23) fun v24 h24 =>
  ob ((gd v24 true (M.ofOpt (fAddr 0 v9))) h24) fun v25 h25 =>
  ob ((gd v24 true (ld1 v25)) h25) fun v26 h26 =>
  ob ((gd v24 true (M.ret x1)) h26) fun v27 h27 =>
  ob ((gd v24 true (M.ofOpt (bin Try.prog .neq 3 v26 v27))) h27) fun v28 h28 =>
  ob ((M.ofOpt (pick v24 v28 (.bool false))) h28) fun v29 h29 =>
  iteV v29 (
  ob ((M.ofOpt (fAddr 0 v9)) h29) fun v30 h30 =>
  ob ((ld1 v30) h30) fun v31 h31 =>
  ob ((O (.func 63) [v21, v31]) h31) fun v32 h32 =>
  ob ((M.ofOpt (bin Try.prog .add 3 x6 (.int .i64 1))) h32) fun v33 h33 =>
  k .normal [x0, x1, x2, x3, x4, v32, v33, v9, x6, v1, v2, v3, v4, x6, v33, v5, v6, x6, v7, v8, v11, v12, x1, v13, v13, v14, v15, v16, v17, v18, x5, v19, v20, v21, v22, v23, x1, v24, v24, v25, v26, v27, v28, v29, v21, v30, v31, v32, x48] h33) (
  ob ((M.ofOpt (bin Try.prog .add 3 x6 (.int .i64 1))) h29) fun v34 h34 =>
  k .normal [x0, x1, x2, x3, x4, v21, v34, v9, x6, v1, v2, v3, v4, x6, v34, v5, v6, x6, v7, v8, v11, v12, x1, v13, v13, v14, v15, v16, v17, v18, x5, v19, v20, v21, v22, v23, x1, v24, v24, v25, v26, v27, v28, v29, x44, x45, x46, x47, x48] h34)) (
  ob ((M.ofOpt (fAddr 1 v9)) h18) fun v35 h35 =>
  ob ((ld1 v35) h35) fun v36 h36 =>
  ob ((M.ofOpt (bin Try.prog .eql 3 v36 x1)) h36) fun v37 h37 =>
  ob ((gd v37 true (M.ofOpt (fAddr 0 v9))) h37) fun v38 h38 =>
  ob ((gd v37 true (ld1 v38)) h38) fun v39 h39 =>
  ob ((gd v37 true (M.ret x1)) h39) fun v40 h40 =>
  ob ((gd v37 true (M.ofOpt (bin Try.prog .neq 3 v39 v40))) h40) fun v41 h41 =>
  ob ((M.ofOpt (pick v37 v41 (.bool false))) h41) fun v42 h42 =>
  iteV v42 (
  ob ((M.ofOpt (fAddr 0 v9)) h42) fun v43 h43 =>
  ob ((ld1 v43) h43) fun v44 h44 =>
  ob ((O (.func 63) [x5, v44]) h44) fun v45 h45 =>
  ob ((M.ofOpt (bin Try.prog .add 3 x6 (.int .i64 1))) h45) fun v46 h46 =>
  k .normal [x0, x1, x2, x3, x4, v45, v46, v9, x6, v1, v2, v3, v4, x6, v46, v5, v6, x6, v7, v8, v11, v12, x1, v13, v13, v14, v15, v16, v17, v18, x30, x31, x32, x33, v35, v36, x1, v37, v37, v38, v39, v40, v41, v42, x5, v43, v44, v45, x48] h46) (
  ob ((M.ofOpt (bin Try.prog .add 3 x6 (.int .i64 1))) h42) fun v47 h47 =>
  k .normal [x0, x1, x2, x3, x4, x5, v47, v9, x6, v1, v2, v3, v4, x6, v47, v5, v6, x6, v7, v8, v11, v12, x1, v13, v13, v14, v15, v16, v17, v18, x30, x31, x32, x33, v35, v36, x1, v37, v37, v38, v39, v40, v41, v42, x44, x45, x46, x47, x48] h47))) (
  k (.exit 0) [x0, x1, x2, x3, x4, x5, x6, x7, x6, v1, v2, v3, v4, x13, x14, x15, x16, x17, x18, x19, x20, x21, x22, x23, x24, x25, x26, x27, x28, x29, x30, x31, x32, x33, x34, x35, x36, x37, x38, x39, x40, x41, x42, x43, x44, x45, x46, x47, x48] h4)
theorem f42_b0_eq (O : Oracle) (L : Loops (Value × Heap)) (k : Ex → K (Value × Heap)) (x0 x1 x2 x3 x4 x5 x6 x7 x8 x9 x10 x11 x12 x13 x14 x15 x16 x17 x18 x19 x20 x21 x22 x23 x24 x25 x26 x27 x28 x29 x30 x31 x32 x33 x34 x35 x36 x37 x38 x39 x40 x41 x42 x43 x44 x45 x46 x47 x48 : Value) (h : Heap) :
    runCode Try.prog O L f42_c0 k [x0, x1, x2, x3, x4, x5, x6, x7, x8, x9, x10, x11, x12, x13, x14, x15, x16, x17, x18, x19, x20, x21, x22, x23, x24, x25, x26, x27, x28, x29, x30, x31, x32, x33, x34, x35, x36, x37, x38, x39, x40, x41, x42, x43, x44, x45, x46, x47, x48] h = f42_b0 O L k x0 x1 x2 x3 x4 x5 x6 x7 x8 x9 x10 x11 x12 x13 x14 x15 x16 x17 x18 x19 x20 x21 x22 x23 x24 x25 x26 x27 x28 x29 x30 x31 x32 x33 x34 x35 x36 x37 x38 x39 x40 x41 x42 x43 x44 x45 x46 x47 x48 h := by kernel_rfl
noncomputable def f42 (O : Oracle) (L : Loops (Value × Heap)) (a0 a1 : Value) (h : Heap) : Option (Value × Heap) :=
  ob ((newB 27 (Value.cells a0).toList .fix) h) fun v0 h0 =>
  L (runCode Try.prog O L f42_c0) (f42_k0 O L) [a0, a1, v0, undef, (.slice none 0 0), (.slice none 0 0), (.int .i64 0), undef, undef, undef, undef, undef, undef, undef, undef, undef, undef, undef, undef, undef, undef, undef, undef, undef, undef, undef, undef, undef, undef, undef, undef, undef, undef, undef, undef, undef, undef, undef, undef, undef, undef, undef, undef, undef, undef, undef, undef, undef, undef] h0
theorem f42_eq (O : Oracle) (L : Loops (Value × Heap)) (a0 a1 : Value) (h : Heap) :
    body Try.prog O L 42 [a0, a1] h = f42 O L a0 a1 h := by kernel_rfl
noncomputable def f43_c0 : Code := sub [1, 1, 0, 1, 0, 0] (fbody Try.prog 43)
noncomputable def f43_k0 (O : Oracle) (L : Loops (Value × Heap)) : Ex → K (Value × Heap) := (blockK 0 (seqK Try.prog O L (sub [1, 1, 1] (fbody Try.prog 43)) (kRet Try.prog Try.f43)))
noncomputable def f43_e0_0 (O : Oracle) (L : Loops (Value × Heap)) (x0 x1 x2 x3 x4 x5 x6 x7 x8 x9 x10 x11 x12 x13 x14 x15 x16 x17 x18 x19 x20 x21 x22 x23 x24 x25 : Value) (h : Heap) : Option (Value × Heap) :=
  some (oneOf [(.int .i64 (-1))], h)
theorem f43_e0_0_eq (O : Oracle) (L : Loops (Value × Heap)) (x0 x1 x2 x3 x4 x5 x6 x7 x8 x9 x10 x11 x12 x13 x14 x15 x16 x17 x18 x19 x20 x21 x22 x23 x24 x25 : Value) (h : Heap) :
    f43_k0 O L (.exit 0) [x0, x1, x2, x3, x4, x5, x6, x7, x8, x9, x10, x11, x12, x13, x14, x15, x16, x17, x18, x19, x20, x21, x22, x23, x24, x25] h = f43_e0_0 O L x0 x1 x2 x3 x4 x5 x6 x7 x8 x9 x10 x11 x12 x13 x14 x15 x16 x17 x18 x19 x20 x21 x22 x23 x24 x25 h := by kernel_rfl
noncomputable def f43_r0 (O : Oracle) (L : Loops (Value × Heap)) (x0 x1 x2 x3 x4 x5 x6 x7 x8 x9 x10 x11 x12 x13 x14 x15 x16 x17 x18 x19 x20 x21 x22 x23 x24 x25 : Value) (h : Heap) : Option (Value × Heap) :=
  some (oneOf [x6], h)
theorem f43_r0_eq (O : Oracle) (L : Loops (Value × Heap)) (x0 x1 x2 x3 x4 x5 x6 x7 x8 x9 x10 x11 x12 x13 x14 x15 x16 x17 x18 x19 x20 x21 x22 x23 x24 x25 : Value) (h : Heap) :
    f43_k0 O L .ret [x0, x1, x2, x3, x4, x5, x6, x7, x8, x9, x10, x11, x12, x13, x14, x15, x16, x17, x18, x19, x20, x21, x22, x23, x24, x25] h = f43_r0 O L x0 x1 x2 x3 x4 x5 x6 x7 x8 x9 x10 x11 x12 x13 x14 x15 x16 x17 x18 x19 x20 x21 x22 x23 x24 x25 h := by kernel_rfl
noncomputable def f43_b0 (O : Oracle) (L : Loops (Value × Heap)) (k : Ex → K (Value × Heap)) (x0 x1 x2 x3 x4 x5 x6 x7 x8 x9 x10 x11 x12 x13 x14 x15 x16 x17 x18 x19 x20 x21 x22 x23 x24 x25 : Value) (h : Heap) : Option (Value × Heap) :=
  ob ((M.ofOpt (lenSl x7)) h) fun v3 h3 =>
  ob ((M.ofOpt (bin Try.prog .lss 3 x8 v3)) h3) fun v4 h4 =>
  iteV v4 (
  ob ((M.ofOpt (iAddr 1 x7 x8)) h4) fun v5 h5 =>
  ob ((ld1 v5) h5) fun v6 h6 =>
  ob ((M.ofOpt (bin Try.prog .eql 3 v6 x2)) h6) fun v7 h7 =>
  iteV v7 (
  ob ((M.ofOpt (bin Try.prog .add 3 x8 (.int .i64 1))) h7) fun v8 h8 =>
  k .ret [x0, x1, x2, x3, x4, x5, v8, x7, x8, x9, x10, x11, x8, x7, v3, v4, x16, x17, x7, x8, v5, v6, x2, v7, x8, v8] h8) (
  ob ((M.ofOpt (bin Try.prog .add 3 x8 (.int .i64 1))) h7) fun v9 h9 =>
  k .normal [x0, x1, x2, x3, x4, x5, x6, x7, v9, x9, x10, x11, x8, x7, v3, v4, x8, v9, x7, x8, v5, v6, x2, v7, x24, x25] h9)) (
  k (.exit 0) [x0, x1, x2, x3, x4, x5, x6, x7, x8, x9, x10, x11, x8, x7, v3, v4, x16, x17, x18, x19, x20, x21, x22, x23, x24, x25] h4)
theorem f43_b0_eq (O : Oracle) (L : Loops (Value × Heap)) (k : Ex → K (Value × Heap)) (x0 x1 x2 x3 x4 x5 x6 x7 x8 x9 x10 x11 x12 x13 x14 x15 x16 x17 x18 x19 x20 x21 x22 x23 x24 x25 : Value) (h : Heap) :
    runCode Try.prog O L f43_c0 k [x0, x1, x2, x3, x4, x5, x6, x7, x8, x9, x10, x11, x12, x13, x14, x15, x16, x17, x18, x19, x20, x21, x22, x23, x24, x25] h = f43_b0 O L k x0 x1 x2 x3 x4 x5 x6 x7 x8 x9 x10 x11 x12 x13 x14 x15 x16 x17 x18 x19 x20 x21 x22 x23 x24 x25 h := by kernel_rfl
noncomputable def f43 (O : Oracle) (L : Loops (Value × Heap)) (a0 a1 a2 : Value) (h : Heap) : Option (Value × Heap) :=
  ob ((newB 27 (Value.cells a0).toList .fix) h) fun v0 h0 =>
  ob ((ldN 11 v0) h0) fun v1 h1 =>
  ob ((O (.func 42) [v1, a1]) h1) fun v2 h2 =>
  L (runCode Try.prog O L f43_c0) (f43_k0 O L) [a0, a1, a2, v0, undef, undef, (.int .i64 0), v2, (.int .i64 0), v1, a1, v2, undef, undef, undef, undef, undef, undef, undef, undef, undef, undef, undef, undef, undef, undef] h2
theorem f43_eq (O : Oracle) (L : Loops (Value × Heap)) (a0 a1 a2 : Value) (h : Heap) :
    body Try.prog O L 43 [a0, a1, a2] h = f43 O L a0 a1 a2 h := by kernel_rfl
noncomputable def f45_c1 : Code := sub [1, 1, 0, 1, 0, 0, 1, 0, 0, 1, 0, 1, 0, 1, 0, 0] (fbody Try.prog 45)
noncomputable def f45_k1 (O : Oracle) (L : Loops (Value × Heap)) (k : Ex → K (Value × Heap)) : Ex → K (Value × Heap) := (blockK 2 (seqK Try.prog O L (sub [1, 1, 0, 1, 0, 0, 1, 0, 0, 1, 0, 1, 1] (fbody Try.prog 45)) (blockK 1 (seqK Try.prog O L (sub [1, 1, 0, 1, 0, 0, 1, 1] (fbody Try.prog 45)) k))))
noncomputable def f45_e1_2 (O : Oracle) (L : Loops (Value × Heap)) (k : Ex → K (Value × Heap)) (x0 x1 x2 x3 x4 x5 x6 x7 x8 x9 x10 x11 x12 x13 x14 x15 x16 x17 x18 x19 x20 x21 x22 x23 x24 x25 x26 x27 x28 x29 x30 x31 x32 x33 x34 x35 x36 x37 x38 x39 x40 x41 x42 x43 x44 x45 x46 x47 x48 x49 x50 x51 x52 x53 x54 x55 x56 x57 x58 x59 x60 : Value) (h : Heap) : Option (Value × Heap) :=
  ob ((slc Try.prog 1 x0 (some x3) none none) h) fun v27 h27 =>
  ob ((clr 1 [(.int .i64 0)] v27) h27) fun v28 h28 =>
  ob ((slc Try.prog 1 x0 none (some x3) none) h28) fun v29 h29 =>
  k .ret [x0, x1, v29, x3, x4, x5, x6, x7, x8, x9, x10, x11, x12, x13, x14, x15, x16, x17, x18, x19, x20, x21, x22, x23, x24, x25, x26, x27, x28, x29, x30, x31, x32, x33, x34, x35, x36, x37, x38, x39, x40, x41, x42, x43, x44, x45, x46, x47, x48, x49, x50, x51, x52, x53, x0, x3, v27, x0, x3, v29, x60] h29
theorem f45_e1_2_eq (O : Oracle) (L : Loops (Value × Heap)) (k : Ex → K (Value × Heap)) (x0 x1 x2 x3 x4 x5 x6 x7 x8 x9 x10 x11 x12 x13 x14 x15 x16 x17 x18 x19 x20 x21 x22 x23 x24 x25 x26 x27 x28 x29 x30 x31 x32 x33 x34 x35 x36 x37 x38 x39 x40 x41 x42 x43 x44 x45 x46 x47 x48 x49 x50 x51 x52 x53 x54 x55 x56 x57 x58 x59 x60 : Value) (h : Heap) :
    f45_k1 O L k (.exit 2) [x0, x1, x2, x3, x4, x5, x6, x7, x8, x9, x10, x11, x12, x13, x14, x15, x16, x17, x18, x19, x20, x21, x22, x23, x24, x25, x26, x27, x28, x29, x30, x31, x32, x33, x34, x35, x36, x37, x38, x39, x40, x41, x42, x43, x44, x45, x46, x47, x48, x49, x50, x51, x52, x53, x54, x55, x56, x57, x58, x59, x60] h = f45_e1_2 O L k x0 x1 x2 x3 x4 x5 x6 x7 x8 x9 x10 x11 x12 x13 x14 x15 x16 x17 x18 x19 x20 x21 x22 x23 x24 x25 x26 x27 x28 x29 x30 x31 x32 x33 x34 x35 x36 x37 x38 x39 x40 x41 x42 x43 x44 x45 x46 x47 x48 x49 x50 x51 x52 x53 x54 x55 x56 x57 x58 x59 x60 h := by kernel_rfl
noncomputable def f45_b1 (O : Oracle) (L : Loops (Value × Heap)) (k : Ex → K (Value × Heap)) (x0 x1 x2 x3 x4 x5 x6 x7 x8 x9 x10 x11 x12 x13 x14 x15 x16 x17 x18 x19 x20 x21 x22 x23 x24 x25 x26 x27 x28 x29 x30 x31 x32 x33 x34 x35 x36 x37 x38 x39 x40 x41 x42 x43 x44 x45 x46 x47 x48 x49 x50 x51 x52 x53 x54 x55 x56 x57 x58 x59 x60 : Value) (h : Heap) : Option (Value × Heap) :=
  ob ((M.ofOpt (lenSl x4)) h) fun v12 h12 =>
  ob ((M.ofOpt (bin Try.prog .lss 3 x5 v12)) h12) fun v13 h13 =>
  iteV v13 (
  ob ((M.ofOpt (iAddr 1 x4 x5)) h13) fun v14 h14 =>
  ob ((ld1 v14) h14) fun v15 h15 =>
  ifB (true) (
  ob ((M.ofOpt (bin Try.prog .sub 3 x5 (.int .i64 1))) h15) fun v16 h16 =>
  ob ((M.ofOpt (iAddr 1 x4 v16)) h16) fun v17 h17 =>
  ob ((ld1 v17) h17) fun v18 h18 =>
  ifB (true) (
  ob ((M.ofOpt (bin Try.prog .neq 3 v15 v18)) h18) fun v19 h19 =>
  iteV v19 (
  ob ((M.ofOpt (iAddr 1 x4 x5)) h19) fun v20 h20 =>
  ob ((ld1 v20) h20) fun v21 h21 =>
  ob ((M.ofOpt (iAddr 1 x0 x3)) h21) fun v22 h22 =>
  ob ((stN 1 v22 v21) h22) fun v23 h23 =>
  ob ((M.ofOpt (bin Try.prog .add 3 x3 (.int .i64 1))) h23) fun v24 h24 =>
  ob ((M.ofOpt (bin Try.prog .add 3 x5 (.int .i64 1))) h24) fun v25 h25 =>
  k .normal [x0, x1, x2, v24, x4, v25, x6, x7, x8, x9, x10, x11, x12, x13, x14, x15, x16, x17, x18, x19, x20, x21, x22, x23, x24, x25, x26, x27, x28, x5, x4, v12, v13, x5, v25, x4, x5, v14, v15, x4, x5, v16, v17, v18, v19, x0, x3, x4, x5, v20, v21, v22, x3, v24, x54, x55, x56, x57, x58, x59, x60] h25) (
  ob ((M.ofOpt (bin Try.prog .add 3 x5 (.int .i64 1))) h19) fun v26 h26 =>
  k .normal [x0, x1, x2, x3, x4, v26, x6, x7, x8, x9, x10, x11, x12, x13, x14, x15, x16, x17, x18, x19, x20, x21, x22, x23, x24, x25, x26, x27, x28, x5, x4, v12, v13, x5, v26, x4, x5, v14, v15, x4, x5, v16, v17, v18, v19, x45, x46, x47, x48, x49, x50, x51, x52, x53, x54, x55, x56, x57, x58, x59, x60] h26)))) (
  k (.exit 2) [x0, x1, x2, x3, x4, x5, x6, x7, x8, x9, x10, x11, x12, x13, x14, x15, x16, x17, x18, x19, x20, x21, x22, x23, x24, x25, x26, x27, x28, x5, x4, v12, v13, x33, x34, x35, x36, x37, x38, x39, x40, x41, x42, x43, x44, x45, x46, x47, x48, x49, x50, x51, x52, x53, x54, x55, x56, x57, x58, x59, x60] h13)
theorem f45_b1_eq (O : Oracle) (L : Loops (Value × Heap)) (k : Ex → K (Value × Heap)) (x0 x1 x2 x3 x4 x5 x6 x7 x8 x9 x10 x11 x12 x13 x14 x15 x16 x17 x18 x19 x20 x21 x22 x23 x24 x25 x26 x27 x28 x29 x30 x31 x32 x33 x34 x35 x36 x37 x38 x39 x40 x41 x42 x43 x44 x45 x46 x47 x48 x49 x50 x51 x52 x53 x54 x55 x56 x57 x58 x59 x60 : Value) (h : Heap) :
    runCode Try.prog O L f45_c1 k [x0, x1, x2, x3, x4, x5, x6, x7, x8, x9, x10, x11, x12, x13, x14, x15, x16, x17, x18, x19, x20, x21, x22, x23, x24, x25, x26, x27, x28, x29, x30, x31, x32, x33, x34, x35, x36, x37, x38, x39, x40, x41, x42, x43, x44, x45, x46, x47, x48, x49, x50, x51, x52, x53, x54, x55, x56, x57, x58, x59, x60] h = f45_b1 O L k x0 x1 x2 x3 x4 x5 x6 x7 x8 x9 x10 x11 x12 x13 x14 x15 x16 x17 x18 x19 x20 x21 x22 x23 x24 x25 x26 x27 x28 x29 x30 x31 x32 x33 x34 x35 x36 x37 x38 x39 x40 x41 x42 x43 x44 x45 x46 x47 x48 x49 x50 x51 x52 x53 x54 x55 x56 x57 x58 x59 x60 h := by kernel_rfl
noncomputable def f45_c0 : Code := sub [1, 1, 0, 1, 0, 0] (fbody Try.prog 45)
noncomputable def f45_k0 (O : Oracle) (L : Loops (Value × Heap)) : Ex → K (Value × Heap) := (blockK 0 (seqK Try.prog O L (sub [1, 1, 1] (fbody Try.prog 45)) (kRet Try.prog Try.f45)))
noncomputable def f45_e0_0 (O : Oracle) (L : Loops (Value × Heap)) (x0 x1 x2 x3 x4 x5 x6 x7 x8 x9 x10 x11 x12 x13 x14 x15 x16 x17 x18 x19 x20 x21 x22 x23 x24 x25 x26 x27 x28 x29 x30 x31 x32 x33 x34 x35 x36 x37 x38 x39 x40 x41 x42 x43 x44 x45 x46 x47 x48 x49 x50 x51 x52 x53 x54 x55 x56 x57 x58 x59 x60 : Value) (h : Heap) : Option (Value × Heap) :=
  some (oneOf [x0], h)
theorem f45_e0_0_eq (O : Oracle) (L : Loops (Value × Heap)) (x0 x1 x2 x3 x4 x5 x6 x7 x8 x9 x10 x11 x12 x13 x14 x15 x16 x17 x18 x19 x20 x21 x22 x23 x24 x25 x26 x27 x28 x29 x30 x31 x32 x33 x34 x35 x36 x37 x38 x39 x40 x41 x42 x43 x44 x45 x46 x47 x48 x49 x50 x51 x52 x53 x54 x55 x56 x57 x58 x59 x60 : Value) (h : Heap) :
    f45_k0 O L (.exit 0) [x0, x1, x2, x3, x4, x5, x6, x7, x8, x9, x10, x11, x12, x13, x14, x15, x16, x17, x18, x19, x20, x21, x22, x23, x24, x25, x26, x27, x28, x29, x30, x31, x32, x33, x34, x35, x36, x37, x38, x39, x40, x41, x42, x43, x44, x45, x46, x47, x48, x49, x50, x51, x52, x53, x54, x55, x56, x57, x58, x59, x60] h = f45_e0_0 O L x0 x1 x2 x3 x4 x5 x6 x7 x8 x9 x10 x11 x12 x13 x14 x15 x16 x17 x18 x19 x20 x21 x22 x23 x24 x25 x26 x27 x28 x29 x30 x31 x32 x33 x34 x35 x36 x37 x38 x39 x40 x41 x42 x43 x44 x45 x46 x47 x48 x49 x50 x51 x52 x53 x54 x55 x56 x57 x58 x59 x60 h := by kernel_rfl
noncomputable def f45_r0 (O : Oracle) (L : Loops (Value × Heap)) (x0 x1 x2 x3 x4 x5 x6 x7 x8 x9 x10 x11 x12 x13 x14 x15 x16 x17 x18 x19 x20 x21 x22 x23 x24 x25 x26 x27 x28 x29 x30 x31 x32 x33 x34 x35 x36 x37 x38 x39 x40 x41 x42 x43 x44 x45 x46 x47 x48 x49 x50 x51 x52 x53 x54 x55 x56 x57 x58 x59 x60 : Value) (h : Heap) : Option (Value × Heap) :=
  some (oneOf [x2], h)
theorem f45_r0_eq (O : Oracle) (L : Loops (Value × Heap)) (x0 x1 x2 x3 x4 x5 x6 x7 x8 x9 x10 x11 x12 x13 x14 x15 x16 x17 x18 x19 x20 x21 x22 x23 x24 x25 x26 x27 x28 x29 x30 x31 x32 x33 x34 x35 x36 x37 x38 x39 x40 x41 x42 x43 x44 x45 x46 x47 x48 x49 x50 x51 x52 x53 x54 x55 x56 x57 x58 x59 x60 : Value) (h : Heap) :
    f45_k0 O L .ret [x0, x1, x2, x3, x4, x5, x6, x7, x8, x9, x10, x11, x12, x13, x14, x15, x16, x17, x18, x19, x20, x21, x22, x23, x24, x25, x26, x27, x28, x29, x30, x31, x32, x33, x34, x35, x36, x37, x38, x39, x40, x41, x42, x43, x44, x45, x46, x47, x48, x49, x50, x51, x52, x53, x54, x55, x56, x57, x58, x59, x60] h = f45_r0 O L x0 x1 x2 x3 x4 x5 x6 x7 x8 x9 x10 x11 x12 x13 x14 x15 x16 x17 x18 x19 x20 x21 x22 x23 x24 x25 x26 x27 x28 x29 x30 x31 x32 x33 x34 x35 x36 x37 x38 x39 x40 x41 x42 x43 x44 x45 x46 x47 x48 x49 x50 x51 x52 x53 x54 x55 x56 x57 x58 x59 x60 h := by kernel_rfl
noncomputable def f45_b0 (O : Oracle) (L : Loops (Value × Heap)) (k : Ex → K (Value × Heap)) (x0 x1 x2 x3 x4 x5 x6 x7 x8 x9 x10 x11 x12 x13 x14 x15 x16 x17 x18 x19 x20 x21 x22 x23 x24 x25 x26 x27 x28 x29 x30 x31 x32 x33 x34 x35 x36 x37 x38 x39 x40 x41 x42 x43 x44 x45 x46 x47 x48 x49 x50 x51 x52 x53 x54 x55 x56 x57 x58 x59 x60 : Value) (h : Heap) : Option (Value × Heap) :=
  ob ((M.ofOpt (lenSl x0)) h) fun v2 h2 =>
  ob ((M.ofOpt (bin Try.prog .lss 3 x3 v2)) h2) fun v3 h3 =>
  iteV v3 (
  ob ((M.ofOpt (iAddr 1 x0 x3)) h3) fun v4 h4 =>
  ob ((ld1 v4) h4) fun v5 h5 =>
  ifB (true) (
  ob ((M.ofOpt (bin Try.prog .sub 3 x3 (.int .i64 1))) h5) fun v6 h6 =>
  ob ((M.ofOpt (iAddr 1 x0 v6)) h6) fun v7 h7 =>
  ob ((ld1 v7) h7) fun v8 h8 =>
  ifB (true) (
  ob ((M.ofOpt (bin Try.prog .eql 3 v5 v8)) h8) fun v9 h9 =>
  iteV v9 (
  ob ((slc Try.prog 1 x0 (some x3) none none) h9) fun v10 h10 =>
  L (runCode Try.prog O L f45_c1) (f45_k1 O L k) [x0, x1, x2, x3, v10, (.int .i64 1), x6, x7, x8, x9, x3, x0, v2, v3, x14, x15, x0, x3, v4, v5, x0, x3, v6, v7, v8, v9, x0, x3, v10, x29, x30, x31, x32, x33, x34, x35, x36, x37, x38, x39, x40, x41, x42, x43, x44, x45, x46, x47, x48, x49, x50, x51, x52, x53, x54, x55, x56, x57, x58, x59, x60] h10) (
  ob ((M.ofOpt (bin Try.prog .add 3 x3 (.int .i64 1))) h9) fun v11 h11 =>
  k .normal [x0, x1, x2, v11, x4, x5, x6, x7, x8, x9, x3, x0, v2, v3, x3, v11, x0, x3, v4, v5, x0, x3, v6, v7, v8, v9, x26, x27, x28, x29, x30, x31, x32, x33, x34, x35, x36, x37, x38, x39, x40, x41, x42, x43, x44, x45, x46, x47, x48, x49, x50, x51, x52, x53, x54, x55, x56, x57, x58, x59, x60] h11)))) (
  k (.exit 0) [x0, x1, x2, x3, x4, x5, x6, x7, x8, x9, x3, x0, v2, v3, x14, x15, x16, x17, x18, x19, x20, x21, x22, x23, x24, x25, x26, x27, x28, x29, x30, x31, x32, x33, x34, x35, x36, x37, x38, x39, x40, x41, x42, x43, x44, x45, x46, x47, x48, x49, x50, x51, x52, x53, x54, x55, x56, x57, x58, x59, x60] h3)
theorem f45_b0_eq (O : Oracle) (L : Loops (Value × Heap)) (k : Ex → K (Value × Heap)) (x0 x1 x2 x3 x4 x5 x6 x7 x8 x9 x10 x11 x12 x13 x14 x15 x16 x17 x18 x19 x20 x21 x22 x23 x24 x25 x26 x27 x28 x29 x30 x31 x32 x33 x34 x35 x36 x37 x38 x39 x40 x41 x42 x43 x44 x45 x46 x47 x48 x49 x50 x51 x52 x53 x54 x55 x56 x57 x58 x59 x60 : Value) (h : Heap) :
    runCode Try.prog O L f45_c0 k [x0, x1, x2, x3, x4, x5, x6, x7, x8, x9, x10, x11, x12, x13, x14, x15, x16, x17, x18, x19, x20, x21, x22, x23, x24, x25, x26, x27, x28, x29, x30, x31, x32, x33, x34, x35, x36, x37, x38, x39, x40, x41, x42, x43, x44, x45, x46, x47, x48, x49, x50, x51, x52, x53, x54, x55, x56, x57, x58, x59, x60] h = f45_b0 O L k x0 x1 x2 x3 x4 x5 x6 x7 x8 x9 x10 x11 x12 x13 x14 x15 x16 x17 x18 x19 x20 x21 x22 x23 x24 x25 x26 x27 x28 x29 x30 x31 x32 x33 x34 x35 x36 x37 x38 x39 x40 x41 x42 x43 x44 x45 x46 x47 x48 x49 x50 x51 x52 x53 x54 x55 x56 x57 x58 x59 x60 h := by kernel_rfl
noncomputable def f45 (O : Oracle) (L : Loops (Value × Heap)) (a0 : Value) (h : Heap) : Option (Value × Heap) :=
  ob ((M.ofOpt (lenSl a0)) h) fun v0 h0 =>
  ob ((M.ofOpt (bin Try.prog .lss 3 v0 (.int .i64 2))) h0) fun v1 h1 =>
  iteV v1 (
  some (oneOf [a0], h1)) (
  L (runCode Try.prog O L f45_c0) (f45_k0 O L) [a0, undef, (.slice none 0 0), (.int .i64 1), undef, undef, a0, v0, v1, undef, undef, undef, undef, undef, undef, undef, undef, undef, undef, undef, undef, undef, undef, undef, undef, undef, undef, undef, undef, undef, undef, undef, undef, undef, undef, undef, undef, undef, undef, undef, undef, undef, undef, undef, undef, undef, undef, undef, undef, undef, undef, undef, undef, undef, undef, undef, undef, undef, undef, undef, undef] h1)
theorem f45_eq (O : Oracle) (L : Loops (Value × Heap)) (a0 : Value) (h : Heap) :
    body Try.prog O L 45 [a0] h = f45 O L a0 h := by kernel_rfl
noncomputable def f55 (O : Oracle) (L : Loops (Value × Heap)) (a0 a1 : Value) (h : Heap) : Option (Value × Heap) :=
  ob ((newB 33 (Value.cells a1).toList .fix) h) fun v0 h0 =>
  ob ((ldN 2 v0) h0) fun v1 h1 =>
  ob ((O (.func 70) [a0, v1]) h1) fun v2 h2 =>
  ob ((M.ofOpt (bin Try.prog .geq 3 v2 (.int .i64 0))) h2) fun v3 h3 =>
  some (oneOf [v3], h3)
theorem f55_eq (O : Oracle) (L : Loops (Value × Heap)) (a0 a1 : Value) (h : Heap) :
    body Try.prog O L 55 [a0, a1] h = f55 O L a0 a1 h := by kernel_rfl
noncomputable def f56 (O : Oracle) (L : Loops (Value × Heap)) (a0 : Value) (h : Heap) : Option (Value × Heap) :=
  ob ((M.ofOpt (bin Try.prog .lss 3 a0 (.int .i64 1))) h) fun v0 h0 =>
  ob ((gd v0 false (M.ret a0)) h0) fun v1 h1 =>
  ob ((gd v0 false (M.ofOpt (bin Try.prog .gtr 3 v1 (.int .i64 5)))) h1) fun v2 h2 =>
  ob ((M.ofOpt (pick v0 (.bool true) v2)) h2) fun v3 h3 =>
  some (oneOf [v3], h3)
theorem f56_eq (O : Oracle) (L : Loops (Value × Heap)) (a0 : Value) (h : Heap) :
    body Try.prog O L 56 [a0] h = f56 O L a0 h := by kernel_rfl
noncomputable def f57 (O : Oracle) (L : Loops (Value × Heap)) (a0 a1 : Value) (h : Heap) : Option (Value × Heap) :=
  ob ((O (.func 71) [a0, a1]) h) fun v0 h0 =>
  ob ((M.ofOpt (bin Try.prog .geq 3 v0 (.int .i64 0))) h0) fun v1 h1 =>
  some (oneOf [v1], h1)
theorem f57_eq (O : Oracle) (L : Loops (Value × Heap)) (a0 a1 : Value) (h : Heap) :
    body Try.prog O L 57 [a0, a1] h = f57 O L a0 a1 h := by kernel_rfl
noncomputable def f58 (O : Oracle) (L : Loops (Value × Heap)) (a0 : Value) (h : Heap) : Option (Value × Heap) :=
  ob ((M.ofOpt (bin Try.prog .eql 24 a0 (.slice none 0 0))) h) fun v0 h0 =>
  iteV v0 (
  some (oneOf [(.slice none 0 0)], h0)) (
  ob ((bldSlice 3 1 0 [(.int .i64 0)] []) h0) fun v1 h1 =>
  ob ((app 3 1 8 v1 a0) h1) fun v2 h2 =>
  some (oneOf [v2], h2))
theorem f58_eq (O : Oracle) (L : Loops (Value × Heap)) (a0 : Value) (h : Heap) :
    body Try.prog O L 58 [a0] h = f58 O L a0 h := by kernel_rfl
noncomputable def f59_c0 : Code := sub [1, 0, 1, 0, 0] (fbody Try.prog 59)
noncomputable def f59_k0 (O : Oracle) (L : Loops (Value × Heap)) : Ex → K (Value × Heap) := (blockK 0 (seqK Try.prog O L (sub [1, 1] (fbody Try.prog 59)) (kRet Try.prog Try.f59)))
noncomputable def f59_e0_0 (O : Oracle) (L : Loops (Value × Heap)) (x0 x1 x2 x3 x4 x5 x6 x7 x8 x9 x10 x11 x12 x13 x14 x15 x16 x17 x18 : Value) (h : Heap) : Option (Value × Heap) :=
  some (oneOf [(.int .i64 (-1))], h)
theorem f59_e0_0_eq (O : Oracle) (L : Loops (Value × Heap)) (x0 x1 x2 x3 x4 x5 x6 x7 x8 x9 x10 x11 x12 x13 x14 x15 x16 x17 x18 : Value) (h : Heap) :
    f59_k0 O L (.exit 0) [x0, x1, x2, x3, x4, x5, x6, x7, x8, x9, x10, x11, x12, x13, x14, x15, x16, x17, x18] h = f59_e0_0 O L x0 x1 x2 x3 x4 x5 x6 x7 x8 x9 x10 x11 x12 x13 x14 x15 x16 x17 x18 h := by kernel_rfl
noncomputable def f59_r0 (O : Oracle) (L : Loops (Value × Heap)) (x0 x1 x2 x3 x4 x5 x6 x7 x8 x9 x10 x11 x12 x13 x14 x15 x16 x17 x18 : Value) (h : Heap) : Option (Value × Heap) :=
  some (oneOf [x4], h)
theorem f59_r0_eq (O : Oracle) (L : Loops (Value × Heap)) (x0 x1 x2 x3 x4 x5 x6 x7 x8 x9 x10 x11 x12 x13 x14 x15 x16 x17 x18 : Value) (h : Heap) :
    f59_k0 O L .ret [x0, x1, x2, x3, x4, x5, x6, x7, x8, x9, x10, x11, x12, x13, x14, x15, x16, x17, x18] h = f59_r0 O L x0 x1 x2 x3 x4 x5 x6 x7 x8 x9 x10 x11 x12 x13 x14 x15 x16 x17 x18 h := by kernel_rfl
noncomputable def f59_b0 (O : Oracle) (L : Loops (Value × Heap)) (k : Ex → K (Value × Heap)) (x0 x1 x2 x3 x4 x5 x6 x7 x8 x9 x10 x11 x12 x13 x14 x15 x16 x17 x18 : Value) (h : Heap) : Option (Value × Heap) :=
  ob ((M.ofOpt (bin Try.prog .lss 3 x8 x7)) h) fun v1 h1 =>
  iteV v1 (
  ob ((M.ofOpt (iAddr 1 x0 x8)) h1) fun v2 h2 =>
  ob ((ld1 v2) h2) fun v3 h3 =>
  ob ((callV O x1 [v3]) h3) fun v4 h4 =>
  iteV v4 (
  k .ret [x0, x1, x2, x3, x8, x8, x6, x7, x8, v1, x8, x1, x0, x8, v2, v3, v4, x8, x18] h4) (
  ob ((M.ofOpt (bin Try.prog .add 3 x8 (.int .i64 1))) h4) fun v5 h5 =>
  k .normal [x0, x1, x2, x3, x4, x8, x6, x7, v5, v1, x8, x1, x0, x8, v2, v3, v4, x17, v5] h5)) (
  k (.exit 0) [x0, x1, x2, x3, x4, x5, x6, x7, x8, v1, x10, x11, x12, x13, x14, x15, x16, x17, x18] h1)
theorem f59_b0_eq (O : Oracle) (L : Loops (Value × Heap)) (k : Ex → K (Value × Heap)) (x0 x1 x2 x3 x4 x5 x6 x7 x8 x9 x10 x11 x12 x13 x14 x15 x16 x17 x18 : Value) (h : Heap) :
    runCode Try.prog O L f59_c0 k [x0, x1, x2, x3, x4, x5, x6, x7, x8, x9, x10, x11, x12, x13, x14, x15, x16, x17, x18] h = f59_b0 O L k x0 x1 x2 x3 x4 x5 x6 x7 x8 x9 x10 x11 x12 x13 x14 x15 x16 x17 x18 h := by kernel_rfl
noncomputable def f59 (O : Oracle) (L : Loops (Value × Heap)) (a0 a1 : Value) (h : Heap) : Option (Value × Heap) :=
  ob ((M.ofOpt (lenSl a0)) h) fun v0 h0 =>
  L (runCode Try.prog O L f59_c0) (f59_k0 O L) [a0, a1, undef, undef, (.int .i64 0), undef, a0, v0, (.int .i64 0), undef, undef, undef, undef, undef, undef, undef, undef, undef, undef] h0
theorem f59_eq (O : Oracle) (L : Loops (Value × Heap)) (a0 a1 : Value) (h : Heap) :
    body Try.prog O L 59 [a0, a1] h = f59 O L a0 a1 h := by kernel_rfl
noncomputable def f60 (O : Oracle) (L : Loops (Value × Heap)) (a0 a1 a2 : Value) (h : Heap) : Option (Value × Heap) :=
  ob ((M.ofOpt (bin Try.prog .geq 3 a0 a1)) h) fun v0 h0 =>
  ob ((gd v0 true (M.ret a0)) h0) fun v1 h1 =>
  ob ((gd v0 true (M.ret a2)) h1) fun v2 h2 =>
  ob ((gd v0 true (M.ofOpt (bin Try.prog .leq 3 v1 v2))) h2) fun v3 h3 =>
  ob ((M.ofOpt (pick v0 v3 (.bool false))) h3) fun v4 h4 =>
  some (oneOf [v4], h4)
theorem f60_eq (O : Oracle) (L : Loops (Value × Heap)) (a0 a1 a2 : Value) (h : Heap) :
    body Try.prog O L 60 [a0, a1, a2] h = f60 O L a0 a1 a2 h := by kernel_rfl
noncomputable def f61_c1 : Code := sub [1, 0, 1, 0, 0, 1, 0, 0, 1, 1, 1, 0, 0] (fbody Try.prog 61)
noncomputable def f61_k1 (O : Oracle) (L : Loops (Value × Heap)) (k : Ex → K (Value × Heap)) : Ex → K (Value × Heap) := (blockK 2 (blockK 1 (seqK Try.prog O L (sub [1, 0, 1, 0, 0, 1, 1] (fbody Try.prog 61)) k)))
noncomputable def f61_e1_2 (O : Oracle) (L : Loops (Value × Heap)) (k : Ex → K (Value × Heap)) (x0 x1 x2 x3 x4 x5 x6 x7 x8 x9 x10 x11 x12 x13 x14 x15 x16 x17 x18 x19 x20 x21 x22 x23 x24 x25 x26 x27 x28 x29 x30 x31 x32 x33 x34 x35 x36 x37 x38 x39 x40 x41 x42 x43 x44 x45 x46 x47 x48 x49 x50 : Value) (h : Heap) : Option (Value × Heap) :=
  ob ((M.ofOpt (bin Try.prog .add 3 x3 (.int .i64 1))) h) fun v38 h38 =>
  k .normal [x0, x1, x2, v38, x4, x5, x6, x7, x8, x9, x10, x3, v38, x13, x14, x15, x16, x17, x18, x19, x20, x21, x22, x23, x24, x25, x26, x27, x28, x29, x30, x31, x32, x33, x34, x35, x36, x37, x38, x39, x40, x41, x42, x43, x44, x45, x46, x47, x48, x49, x50] h38
theorem f61_e1_2_eq (O : Oracle) (L : Loops (Value × Heap)) (k : Ex → K (Value × Heap)) (x0 x1 x2 x3 x4 x5 x6 x7 x8 x9 x10 x11 x12 x13 x14 x15 x16 x17 x18 x19 x20 x21 x22 x23 x24 x25 x26 x27 x28 x29 x30 x31 x32 x33 x34 x35 x36 x37 x38 x39 x40 x41 x42 x43 x44 x45 x46 x47 x48 x49 x50 : Value) (h : Heap) :
    f61_k1 O L k (.exit 2) [x0, x1, x2, x3, x4, x5, x6, x7, x8, x9, x10, x11, x12, x13, x14, x15, x16, x17, x18, x19, x20, x21, x22, x23, x24, x25, x26, x27, x28, x29, x30, x31, x32, x33, x34, x35, x36, x37, x38, x39, x40, x41, x42, x43, x44, x45, x46, x47, x48, x49, x50] h = f61_e1_2 O L k x0 x1 x2 x3 x4 x5 x6 x7 x8 x9 x10 x11 x12 x13 x14 x15 x16 x17 x18 x19 x20 x21 x22 x23 x24 x25 x26 x27 x28 x29 x30 x31 x32 x33 x34 x35 x36 x37 x38 x39 x40 x41 x42 x43 x44 x45 x46 x47 x48 x49 x50 h := by kernel_rfl
noncomputable def f61_r1 (O : Oracle) (L : Loops (Value × Heap)) (k : Ex → K (Value × Heap)) (x0 x1 x2 x3 x4 x5 x6 x7 x8 x9 x10 x11 x12 x13 x14 x15 x16 x17 x18 x19 x20 x21 x22 x23 x24 x25 x26 x27 x28 x29 x30 x31 x32 x33 x34 x35 x36 x37 x38 x39 x40 x41 x42 x43 x44 x45 x46 x47 x48 x49 x50 : Value) (h : Heap) : Option (Value × Heap) :=
  k .ret [x0, x1, x2, x3, x4, x5, x6, x7, x8, x9, x10, x11, x12, x13, x14, x15, x16, x17, x18, x19, x20, x21, x22, x23, x24, x25, x26, x27, x28, x29, x30, x31, x32, x33, x34, x35, x36, x37, x38, x39, x40, x41, x42, x43, x44, x45, x46, x47, x48, x49, x50] h
theorem f61_r1_eq (O : Oracle) (L : Loops (Value × Heap)) (k : Ex → K (Value × Heap)) (x0 x1 x2 x3 x4 x5 x6 x7 x8 x9 x10 x11 x12 x13 x14 x15 x16 x17 x18 x19 x20 x21 x22 x23 x24 x25 x26 x27 x28 x29 x30 x31 x32 x33 x34 x35 x36 x37 x38 x39 x40 x41 x42 x43 x44 x45 x46 x47 x48 x49 x50 : Value) (h : Heap) :
    f61_k1 O L k .ret [x0, x1, x2, x3, x4, x5, x6, x7, x8, x9, x10, x11, x12, x13, x14, x15, x16, x17, x18, x19, x20, x21, x22, x23, x24, x25, x26, x27, x28, x29, x30, x31, x32, x33, x34, x35, x36, x37, x38, x39, x40, x41, x42, x43, x44, x45, x46, x47, x48, x49, x50] h = f61_r1 O L k x0 x1 x2 x3 x4 x5 x6 x7 x8 x9 x10 x11 x12 x13 x14 x15 x16 x17 x18 x19 x20 x21 x22 x23 x24 x25 x26 x27 x28 x29 x30 x31 x32 x33 x34 x35 x36 x37 x38 x39 x40 x41 x42 x43 x44 x45 x46 x47 x48 x49 x50 h := by kernel_rfl
noncomputable def f61_b1 (O : Oracle) (L : Loops (Value × Heap)) (k : Ex → K (Value × Heap)) (x0 x1 x2 x3 x4 x5 x6 x7 x8 x9 x10 x11 x12 x13 x14 x15 x16 x17 x18 x19 x20 x21 x22 x23 x24 x25 x26 x27 x28 x29 x30 x31 x32 x33 x34 x35 x36 x37 x38 x39 x40 x41 x42 x43 x44 x45 x46 x47 x48 x49 x50 : Value) (h : Heap) : Option (Value × Heap) :=
  ob ((M.ofOpt (bin Try.prog .lss 3 x5 x3)) h) fun v30 h30 =>
  iteV v30 (
  ob ((M.ofOpt (fAddr 1 x1)) h30) fun v31 h31 =>
  ob ((ld1 v31) h31) fun v32 h32 =>
  ifB (true) (
  ob ((M.ofOpt (iAddr 2 v32 x5)) h32) fun v33 h33 =>
  ob ((ldN 2 v33) h33) fun v34 h34 =>
  ifB (true) (
  ob ((ldN 2 x4) h34) fun v35 h35 =>
  ifB (true) (
  ob ((M.ofOpt (bin Try.prog .eql 33 v34 v35)) h35) fun v36 h36 =>
  iteV v36 (
  k .ret [x0, x1, (.bool false), x3, x4, x5, x6, x7, x8, x9, x10, x11, x12, x13, x14, x15, x16, x17, x18, x19, x20, x21, x22, x23, x24, x25, x26, x27, x28, x29, x30, x31, x32, x33, x34, x5, x3, v30, x38, x39, v31, v32, x5, v33, v34, v35, v36, x47, x48, x49, x50] h36) (
  ob ((M.ofOpt (bin Try.prog .add 3 x5 (.int .i64 1))) h36) fun v37 h37 =>
  k .normal [x0, x1, x2, x3, x4, v37, x6, x7, x8, x9, x10, x11, x12, x13, x14, x15, x16, x17, x18, x19, x20, x21, x22, x23, x24, x25, x26, x27, x28, x29, x30, x31, x32, x33, x34, x5, x3, v30, x5, v37, v31, v32, x5, v33, v34, v35, v36, x47, x48, x49, x50] h37))))) (
  k (.exit 2) [x0, x1, x2, x3, x4, x5, x6, x7, x8, x9, x10, x11, x12, x13, x14, x15, x16, x17, x18, x19, x20, x21, x22, x23, x24, x25, x26, x27, x28, x29, x30, x31, x32, x33, x34, x5, x3, v30, x38, x39, x40, x41, x42, x43, x44, x45, x46, x47, x48, x49, x50] h30)
theorem f61_b1_eq (O : Oracle) (L : Loops (Value × Heap)) (k : Ex → K (Value × Heap)) (x0 x1 x2 x3 x4 x5 x6 x7 x8 x9 x10 x11 x12 x13 x14 x15 x16 x17 x18 x19 x20 x21 x22 x23 x24 x25 x26 x27 x28 x29 x30 x31 x32 x33 x34 x35 x36 x37 x38 x39 x40 x41 x42 x43 x44 x45 x46 x47 x48 x49 x50 : Value) (h : Heap) :
    runCode Try.prog O L f61_c1 k [x0, x1, x2, x3, x4, x5, x6, x7, x8, x9, x10, x11, x12, x13, x14, x15, x16, x17, x18, x19, x20, x21, x22, x23, x24, x25, x26, x27, x28, x29, x30, x31, x32, x33, x34, x35, x36, x37, x38, x39, x40, x41, x42, x43, x44, x45, x46, x47, x48, x49, x50] h = f61_b1 O L k x0 x1 x2 x3 x4 x5 x6 x7 x8 x9 x10 x11 x12 x13 x14 x15 x16 x17 x18 x19 x20 x21 x22 x23 x24 x25 x26 x27 x28 x29 x30 x31 x32 x33 x34 x35 x36 x37 x38 x39 x40 x41 x42 x43 x44 x45 x46 x47 x48 x49 x50 h := by kernel_rfl
noncomputable def f61_c0 : Code := sub [1, 0, 1, 0, 0] (fbody Try.prog 61)
noncomputable def f61_k0 (O : Oracle) (L : Loops (Value × Heap)) : Ex → K (Value × Heap) := (blockK 0 (seqK Try.prog O L (sub [1, 1] (fbody Try.prog 61)) (kRet Try.prog Try.f61)))
noncomputable def f61_e0_0 (O : Oracle) (L : Loops (Value × Heap)) (x0 x1 x2 x3 x4 x5 x6 x7 x8 x9 x10 x11 x12 x13 x14 x15 x16 x17 x18 x19 x20 x21 x22 x23 x24 x25 x26 x27 x28 x29 x30 x31 x32 x33 x34 x35 x36 x37 x38 x39 x40 x41 x42 x43 x44 x45 x46 x47 x48 x49 x50 : Value) (h : Heap) : Option (Value × Heap) :=
  ob ((M.ofOpt (fAddr 1 x1)) h) fun v26 h26 =>
  ob ((ld1 v26) h26) fun v27 h27 =>
  ob ((M.ofOpt (lenSl v27)) h27) fun v28 h28 =>
  ob ((M.ofOpt (bin Try.prog .leq 3 v28 (.int .i64 15))) h28) fun v29 h29 =>
  some (oneOf [v29], h29)
theorem f61_e0_0_eq (O : Oracle) (L : Loops (Value × Heap)) (x0 x1 x2 x3 x4 x5 x6 x7 x8 x9 x10 x11 x12 x13 x14 x15 x16 x17 x18 x19 x20 x21 x22 x23 x24 x25 x26 x27 x28 x29 x30 x31 x32 x33 x34 x35 x36 x37 x38 x39 x40 x41 x42 x43 x44 x45 x46 x47 x48 x49 x50 : Value) (h : Heap) :
    f61_k0 O L (.exit 0) [x0, x1, x2, x3, x4, x5, x6, x7, x8, x9, x10, x11, x12, x13, x14, x15, x16, x17, x18, x19, x20, x21, x22, x23, x24, x25, x26, x27, x28, x29, x30, x31, x32, x33, x34, x35, x36, x37, x38, x39, x40, x41, x42, x43, x44, x45, x46, x47, x48, x49, x50] h = f61_e0_0 O L x0 x1 x2 x3 x4 x5 x6 x7 x8 x9 x10 x11 x12 x13 x14 x15 x16 x17 x18 x19 x20 x21 x22 x23 x24 x25 x26 x27 x28 x29 x30 x31 x32 x33 x34 x35 x36 x37 x38 x39 x40 x41 x42 x43 x44 x45 x46 x47 x48 x49 x50 h := by kernel_rfl
noncomputable def f61_r0 (O : Oracle) (L : Loops (Value × Heap)) (x0 x1 x2 x3 x4 x5 x6 x7 x8 x9 x10 x11 x12 x13 x14 x15 x16 x17 x18 x19 x20 x21 x22 x23 x24 x25 x26 x27 x28 x29 x30 x31 x32 x33 x34 x35 x36 x37 x38 x39 x40 x41 x42 x43 x44 x45 x46 x47 x48 x49 x50 : Value) (h : Heap) : Option (Value × Heap) :=
  some (oneOf [x2], h)
theorem f61_r0_eq (O : Oracle) (L : Loops (Value × Heap)) (x0 x1 x2 x3 x4 x5 x6 x7 x8 x9 x10 x11 x12 x13 x14 x15 x16 x17 x18 x19 x20 x21 x22 x23 x24 x25 x26 x27 x28 x29 x30 x31 x32 x33 x34 x35 x36 x37 x38 x39 x40 x41 x42 x43 x44 x45 x46 x47 x48 x49 x50 : Value) (h : Heap) :
    f61_k0 O L .ret [x0, x1, x2, x3, x4, x5, x6, x7, x8, x9, x10, x11, x12, x13, x14, x15, x16, x17, x18, x19, x20, x21, x22, x23, x24, x25, x26, x27, x28, x29, x30, x31, x32, x33, x34, x35, x36, x37, x38, x39, x40, x41, x42, x43, x44, x45, x46, x47, x48, x49, x50] h = f61_r0 O L x0 x1 x2 x3 x4 x5 x6 x7 x8 x9 x10 x11 x12 x13 x14 x15 x16 x17 x18 x19 x20 x21 x22 x23 x24 x25 x26 x27 x28 x29 x30 x31 x32 x33 x34 x35 x36 x37 x38 x39 x40 x41 x42 x43 x44 x45 x46 x47 x48 x49 x50 h := by kernel_rfl
noncomputable def f61_b0 (O : Oracle) (L : Loops (Value × Heap)) (k : Ex → K (Value × Heap)) (x0 x1 x2 x3 x4 x5 x6 x7 x8 x9 x10 x11 x12 x13 x14 x15 x16 x17 x18 x19 x20 x21 x22 x23 x24 x25 x26 x27 x28 x29 x30 x31 x32 x33 x34 x35 x36 x37 x38 x39 x40 x41 x42 x43 x44 x45 x46 x47 x48 x49 x50 : Value) (h : Heap) : Option (Value × Heap) :=
  ob ((M.ofOpt (fAddr 1 x1)) h) fun v1 h1 =>
  ob ((ld1 v1) h1) fun v2 h2 =>
  ob ((M.ofOpt (lenSl v2)) h2) fun v3 h3 =>
  ob ((M.ofOpt (bin Try.prog .lss 3 x3 v3)) h3) fun v4 h4 =>
  iteV v4 (
  ob ((M.ofOpt (fAddr 1 x1)) h4) fun v5 h5 =>
  ob ((ld1 v5) h5) fun v6 h6 =>
  ob ((M.ofOpt (iAddr 2 v6 x3)) h6) fun v7 h7 =>
  ob ((ldN 2 v7) h7) fun v8 h8 =>
  ob ((newB 33 [(.int .i64 0), (.int .i64 0)] .fix) h8) fun v9 h9 =>
  ob ((stN 2 v9 v8) h9) fun v10 h10 =>
  ob ((M.ofOpt (fAddr 0 v9)) h10) fun v11 h11 =>
  ob ((ld1 v11) h11) fun v12 h12 =>
  ob ((M.ofOpt (bin Try.prog .lss 3 v12 (.int .i64 0))) h12) fun v13 h13 =>
  ob ((gd v13 false (M.ofOpt (fAddr 0 v9))) h13) fun v14 h14 =>
  ob ((gd v13 false (ld1 v14)) h14) fun v15 h15 =>
  ob ((gd v13 false (M.ofOpt (fAddr 1 v9))) h15) fun v16 h16 =>
  ob ((gd v13 false (ld1 v16)) h16) fun v17 h17 =>
  ob ((gd v13 false (M.ofOpt (bin Try.prog .geq 3 v15 v17))) h17) fun v18 h18 =>
  ob ((M.ofOpt (pick v13 (.bool true) v18)) h18) fun v19 h19 =>
  ob ((gd v19 false (M.ofOpt (fAddr 1 v9))) h19) fun v20 h20 =>
  ob ((gd v19 false (ld1 v20)) h20) fun v21 h21 =>
  ob ((gd v19 false (M.ofOpt (fAddr 0 x1))) h21) fun v22 h22 =>
  ob ((gd v19 false (ld1 v22)) h22) fun v23 h23 =>
  ob ((gd v19 false (M.ofOpt (bin Try.prog .geq 3 v21 v23))) h23) fun v24 h24 =>
  ob ((M.ofOpt (pick v19 (.bool true) v24)) h24) fun v25 h25 =>
  iteV v25 (
  k .ret [x0, x1, (.bool false), x3, v9, x5, x3, v1, v2, v3, v4, x11, x12, v5, v6, x3, v7, v8, v11, v12, v13, v13, v14, v15, v16, v17, v18, v19, v19, v20, v21, v22, v23, v24, v25, x35, x36, x37, x38, x39, x40, x41, x42, x43, x44, x45, x46, x47, x48, x49, x50] h25) (
  L (runCode Try.prog O L f61_c1) (f61_k1 O L k) [x0, x1, x2, x3, v9, (.int .i64 0), x3, v1, v2, v3, v4, x11, x12, v5, v6, x3, v7, v8, v11, v12, v13, v13, v14, v15, v16, v17, v18, v19, v19, v20, v21, v22, v23, v24, v25, x35, x36, x37, x38, x39, x40, x41, x42, x43, x44, x45, x46, x47, x48, x49, x50] h25)) (
  k (.exit 0) [x0, x1, x2, x3, x4, x5, x3, v1, v2, v3, v4, x11, x12, x13, x14, x15, x16, x17, x18, x19, x20, x21, x22, x23, x24, x25, x26, x27, x28, x29, x30, x31, x32, x33, x34, x35, x36, x37, x38, x39, x40, x41, x42, x43, x44, x45, x46, x47, x48, x49, x50] h4)
theorem f61_b0_eq (O : Oracle) (L : Loops (Value × Heap)) (k : Ex → K (Value × Heap)) (x0 x1 x2 x3 x4 x5 x6 x7 x8 x9 x10 x11 x12 x13 x14 x15 x16 x17 x18 x19 x20 x21 x22 x23 x24 x25 x26 x27 x28 x29 x30 x31 x32 x33 x34 x35 x36 x37 x38 x39 x40 x41 x42 x43 x44 x45 x46 x47 x48 x49 x50 : Value) (h : Heap) :
    runCode Try.prog O L f61_c0 k [x0, x1, x2, x3, x4, x5, x6, x7, x8, x9, x10, x11, x12, x13, x14, x15, x16, x17, x18, x19, x20, x21, x22, x23, x24, x25, x26, x27, x28, x29, x30, x31, x32, x33, x34, x35, x36, x37, x38, x39, x40, x41, x42, x43, x44, x45, x46, x47, x48, x49, x50] h = f61_b0 O L k x0 x1 x2 x3 x4 x5 x6 x7 x8 x9 x10 x11 x12 x13 x14 x15 x16 x17 x18 x19 x20 x21 x22 x23 x24 x25 x26 x27 x28 x29 x30 x31 x32 x33 x34 x35 x36 x37 x38 x39 x40 x41 x42 x43 x44 x45 x46 x47 x48 x49 x50 h := by kernel_rfl
noncomputable def f61 (O : Oracle) (L : Loops (Value × Heap)) (a0 : Value) (h : Heap) : Option (Value × Heap) :=
  ob ((newB 27 (Value.cells a0).toList .fix) h) fun v0 h0 =>
  L (runCode Try.prog O L f61_c0) (f61_k0 O L) [a0, v0, (.bool false), (.int .i64 0), undef, undef, undef, undef, undef, undef, undef, undef, undef, undef, undef, undef, undef, undef, undef, undef, undef, undef, undef, undef, undef, undef, undef, undef, undef, undef, undef, undef, undef, undef, undef, undef, undef, undef, undef, undef, undef, undef, undef, undef, undef, undef, undef, undef, undef, undef, undef] h0
theorem f61_eq (O : Oracle) (L : Loops (Value × Heap)) (a0 : Value) (h : Heap) :
    body Try.prog O L 61 [a0] h = f61 O L a0 h := by kernel_rfl
noncomputable def f62_c0 : Code := sub [1, 0, 1, 0, 0] (fbody Try.prog 62)
noncomputable def f62_k0 (O : Oracle) (L : Loops (Value × Heap)) : Ex → K (Value × Heap) := (blockK 0 (seqK Try.prog O L (sub [1, 1] (fbody Try.prog 62)) (kRet Try.prog Try.f62)))
noncomputable def f62_e0_0 (O : Oracle) (L : Loops (Value × Heap)) (x0 x1 x2 x3 x4 x5 x6 x7 x8 x9 x10 x11 x12 x13 x14 x15 x16 x17 x18 x19 x20 x21 x22 x23 x24 x25 x26 x27 x28 x29 x30 x31 x32 x33 x34 x35 x36 x37 x38 x39 x40 x41 x42 x43 x44 x45 x46 x47 x48 x49 x50 x51 : Value) (h : Heap) : Option (Value × Heap) :=
  ob ((M.ofOpt (lenSl x0)) h) fun v12 h12 =>
  ob ((M.ofOpt (bin Try.prog .lss 3 v12 (.int .i64 1))) h12) fun v13 h13 =>
  ob ((gd v13 false (M.ret x0)) h13) fun v14 h14 =>
  ob ((gd v13 false (M.ofOpt (lenSl v14))) h14) fun v15 h15 =>
  ob ((gd v13 false (M.ofOpt (bin Try.prog .gtr 3 v15 (.int .i64 3)))) h15) fun v16 h16 =>
  ob ((M.ofOpt (pick v13 (.bool true) v16)) h16) fun v17 h17 =>
  iteV v17 (
  some (oneOf [(.pointer none)], h17)) (
  ob ((M.ofOpt (bld Try.prog 93 [])) h17) fun v18 h18 =>
  ob ((newB 93 (Value.cells v18).toList .fix) h18) fun v19 h19 =>
  ob ((M.ofOpt (nilChk v19)) h19) fun v20 h20 =>
  ob ((M.ofOpt (fAddr 0 v20)) h20) fun v21 h21 =>
  ob ((ld1 v21) h21) fun v22 h22 =>
  ob ((app 3 1 8 v22 x0) h22) fun v23 h23 =>
  ob ((M.ofOpt (nilChk v19)) h23) fun v24 h24 =>
  ob ((M.ofOpt (fAddr 0 v24)) h24) fun v25 h25 =>
  ob ((stN 1 v25 v23) h25) fun v26 h26 =>
  ob ((M.ofOpt (nilChk v19)) h26) fun v27 h27 =>
  ob ((M.ofOpt (fAddr 1 v27)) h27) fun v28 h28 =>
  ob ((ld1 v28) h28) fun v29 h29 =>
  ob ((app 3 1 8 v29 x0) h29) fun v30 h30 =>
  ob ((M.ofOpt (nilChk v19)) h30) fun v31 h31 =>
  ob ((M.ofOpt (fAddr 1 v31)) h31) fun v32 h32 =>
  ob ((stN 1 v32 v30) h32) fun v33 h33 =>
  some (oneOf [v19], h33))
theorem f62_e0_0_eq (O : Oracle) (L : Loops (Value × Heap)) (x0 x1 x2 x3 x4 x5 x6 x7 x8 x9 x10 x11 x12 x13 x14 x15 x16 x17 x18 x19 x20 x21 x22 x23 x24 x25 x26 x27 x28 x29 x30 x31 x32 x33 x34 x35 x36 x37 x38 x39 x40 x41 x42 x43 x44 x45 x46 x47 x48 x49 x50 x51 : Value) (h : Heap) :
    f62_k0 O L (.exit 0) [x0, x1, x2, x3, x4, x5, x6, x7, x8, x9, x10, x11, x12, x13, x14, x15, x16, x17, x18, x19, x20, x21, x22, x23, x24, x25, x26, x27, x28, x29, x30, x31, x32, x33, x34, x35, x36, x37, x38, x39, x40, x41, x42, x43, x44, x45, x46, x47, x48, x49, x50, x51] h = f62_e0_0 O L x0 x1 x2 x3 x4 x5 x6 x7 x8 x9 x10 x11 x12 x13 x14 x15 x16 x17 x18 x19 x20 x21 x22 x23 x24 x25 x26 x27 x28 x29 x30 x31 x32 x33 x34 x35 x36 x37 x38 x39 x40 x41 x42 x43 x44 x45 x46 x47 x48 x49 x50 x51 h := by kernel_rfl
noncomputable def f62_r0 (O : Oracle) (L : Loops (Value × Heap)) (x0 x1 x2 x3 x4 x5 x6 x7 x8 x9 x10 x11 x12 x13 x14 x15 x16 x17 x18 x19 x20 x21 x22 x23 x24 x25 x26 x27 x28 x29 x30 x31 x32 x33 x34 x35 x36 x37 x38 x39 x40 x41 x42 x43 x44 x45 x46 x47 x48 x49 x50 x51 : Value) (h : Heap) : Option (Value × Heap) :=
  some (oneOf [x2], h)
theorem f62_r0_eq (O : Oracle) (L : Loops (Value × Heap)) (x0 x1 x2 x3 x4 x5 x6 x7 x8 x9 x10 x11 x12 x13 x14 x15 x16 x17 x18 x19 x20 x21 x22 x23 x24 x25 x26 x27 x28 x29 x30 x31 x32 x33 x34 x35 x36 x37 x38 x39 x40 x41 x42 x43 x44 x45 x46 x47 x48 x49 x50 x51 : Value) (h : Heap) :
    f62_k0 O L .ret [x0, x1, x2, x3, x4, x5, x6, x7, x8, x9, x10, x11, x12, x13, x14, x15, x16, x17, x18, x19, x20, x21, x22, x23, x24, x25, x26, x27, x28, x29, x30, x31, x32, x33, x34, x35, x36, x37, x38, x39, x40, x41, x42, x43, x44, x45, x46, x47, x48, x49, x50, x51] h = f62_r0 O L x0 x1 x2 x3 x4 x5 x6 x7 x8 x9 x10 x11 x12 x13 x14 x15 x16 x17 x18 x19 x20 x21 x22 x23 x24 x25 x26 x27 x28 x29 x30 x31 x32 x33 x34 x35 x36 x37 x38 x39 x40 x41 x42 x43 x44 x45 x46 x47 x48 x49 x50 x51 h := by kernel_rfl
noncomputable def f62_b0 (O : Oracle) (L : Loops (Value × Heap)) (k : Ex → K (Value × Heap)) (x0 x1 x2 x3 x4 x5 x6 x7 x8 x9 x10 x11 x12 x13 x14 x15 x16 x17 x18 x19 x20 x21 x22 x23 x24 x25 x26 x27 x28 x29 x30 x31 x32 x33 x34 x35 x36 x37 x38 x39 x40 x41 x42 x43 x44 x45 x46 x47 x48 x49 x50 x51 : Value) (h : Heap) : Option (Value × Heap) :=
  ob ((M.ofOpt (lenSl x0)) h) fun v0 h0 =>
  ob ((M.ofOpt (bin Try.prog .lss 3 x3 v0)) h0) fun v1 h1 =>
  iteV v1 (
  ob ((M.ofOpt (iAddr 1 x0 x3)) h1) fun v2 h2 =>
  ob ((ld1 v2) h2) fun v3 h3 =>
  ob ((M.ofOpt (bin Try.prog .lss 3 v3 (.int .i64 1))) h3) fun v4 h4 =>
  ob ((gd v4 false (M.ret x0)) h4) fun v5 h5 =>
  ob ((gd v4 false (M.ret x3)) h5) fun v6 h6 =>
  ob ((gd v4 false (M.ofOpt (iAddr 1 v5 v6))) h6) fun v7 h7 =>
  ob ((gd v4 false (ld1 v7)) h7) fun v8 h8 =>
  ob ((gd v4 false (M.ofOpt (bin Try.prog .gtr 3 v8 (.int .i64 5)))) h8) fun v9 h9 =>
  ob ((M.ofOpt (pick v4 (.bool true) v9)) h9) fun v10 h10 =>
  iteV v10 (
  k .ret [x0, x1, (.pointer none), x3, x4, x3, x0, v0, v1, x9, x10, x0, x3, v2, v3, v4, v4, v5, v6, v7, v8, v9, v10, x23, x24, x25, x26, x27, x28, x29, x30, x31, x32, x33, x34, x35, x36, x37, x38, x39, x40, x41, x42, x43, x44, x45, x46, x47, x48, x49, x50, x51] h10) (
  ob ((M.ofOpt (bin Try.prog .add 3 x3 (.int .i64 1))) h10) fun v11 h11 =>
  k .normal [x0, x1, x2, v11, x4, x3, x0, v0, v1, x3, v11, x0, x3, v2, v3, v4, v4, v5, v6, v7, v8, v9, v10, x23, x24, x25, x26, x27, x28, x29, x30, x31, x32, x33, x34, x35, x36, x37, x38, x39, x40, x41, x42, x43, x44, x45, x46, x47, x48, x49, x50, x51] h11)) (
  k (.exit 0) [x0, x1, x2, x3, x4, x3, x0, v0, v1, x9, x10, x11, x12, x13, x14, x15, x16, x17, x18, x19, x20, x21, x22, x23, x24, x25, x26, x27, x28, x29, x30, x31, x32, x33, x34, x35, x36, x37, x38, x39, x40, x41, x42, x43, x44, x45, x46, x47, x48, x49, x50, x51] h1)
theorem f62_b0_eq (O : Oracle) (L : Loops (Value × Heap)) (k : Ex → K (Value × Heap)) (x0 x1 x2 x3 x4 x5 x6 x7 x8 x9 x10 x11 x12 x13 x14 x15 x16 x17 x18 x19 x20 x21 x22 x23 x24 x25 x26 x27 x28 x29 x30 x31 x32 x33 x34 x35 x36 x37 x38 x39 x40 x41 x42 x43 x44 x45 x46 x47 x48 x49 x50 x51 : Value) (h : Heap) :
    runCode Try.prog O L f62_c0 k [x0, x1, x2, x3, x4, x5, x6, x7, x8, x9, x10, x11, x12, x13, x14, x15, x16, x17, x18, x19, x20, x21, x22, x23, x24, x25, x26, x27, x28, x29, x30, x31, x32, x33, x34, x35, x36, x37, x38, x39, x40, x41, x42, x43, x44, x45, x46, x47, x48, x49, x50, x51] h = f62_b0 O L k x0 x1 x2 x3 x4 x5 x6 x7 x8 x9 x10 x11 x12 x13 x14 x15 x16 x17 x18 x19 x20 x21 x22 x23 x24 x25 x26 x27 x28 x29 x30 x31 x32 x33 x34 x35 x36 x37 x38 x39 x40 x41 x42 x43 x44 x45 x46 x47 x48 x49 x50 x51 h := by kernel_rfl
noncomputable def f62 (O : Oracle) (L : Loops (Value × Heap)) (a0 : Value) (h : Heap) : Option (Value × Heap) :=
  L (runCode Try.prog O L f62_c0) (f62_k0 O L) [a0, undef, (.pointer none), (.int .i64 0), undef, undef, undef, undef, undef, undef, undef, undef, undef, undef, undef, undef, undef, undef, undef, undef, undef, undef, undef, undef, undef, undef, undef, undef, undef, undef, undef, undef, undef, undef, undef, undef, undef, undef, undef, undef, undef, undef, undef, undef, undef, undef, undef, undef, undef, undef, undef, undef] h
theorem f62_eq (O : Oracle) (L : Loops (Value × Heap)) (a0 : Value) (h : Heap) :
    body Try.prog O L 62 [a0] h = f62 O L a0 h := by kernel_rfl
noncomputable def f63_c0 : Code := sub [1, 1, 1, 0, 0, 0] (fbody Try.prog 63)
noncomputable def f63_k0 (O : Oracle) (L : Loops (Value × Heap)) : Ex → K (Value × Heap) := (blockK 0 (seqK Try.prog O L (sub [1, 1, 1, 1] (fbody Try.prog 63)) (kRet Try.prog Try.f63)))
noncomputable def f63_e0_0 (O : Oracle) (L : Loops (Value × Heap)) (x0 x1 x2 x3 x4 x5 x6 x7 x8 x9 x10 x11 x12 x13 x14 x15 x16 x17 x18 x19 x20 x21 x22 x23 x24 x25 x26 x27 x28 x29 x30 x31 x32 x33 x34 x35 x36 x37 x38 x39 x40 x41 x42 x43 x44 x45 x46 x47 x48 x49 x50 x51 : Value) (h : Heap) : Option (Value × Heap) :=
  ob ((M.ofOpt (lenSl x0)) h) fun v14 h14 =>
  ob ((M.ofOpt (bin Try.prog .lss 3 x6 v14)) h14) fun v15 h15 =>
  ob ((gd v15 true (M.ret x0)) h15) fun v16 h16 =>
  ob ((gd v15 true (M.ret x6)) h16) fun v17 h17 =>
  ob ((gd v15 true (M.ofOpt (iAddr 1 v16 v17))) h17) fun v18 h18 =>
  ob ((gd v15 true (ld1 v18)) h18) fun v19 h19 =>
  ob ((gd v15 true (M.ret x1)) h19) fun v20 h20 =>
  ob ((gd v15 true (M.ofOpt (bin Try.prog .eql 3 v19 v20))) h20) fun v21 h21 =>
  ob ((M.ofOpt (pick v15 v21 (.bool false))) h21) fun v22 h22 =>
  iteV v22 (
  ob ((M.ofOpt (bin Try.prog .add 3 x6 (.int .i64 1))) h22) fun v23 h23 =>
  ob ((bldSlice 3 1 1 [(.int .i64 0)] [(0, x1)]) h23) fun v24 h24 =>
  ob ((app 3 1 8 x5 v24) h24) fun v25 h25 =>
  ob ((slc Try.prog 1 x0 (some v23) none none) h25) fun v26 h26 =>
  ob ((app 3 1 8 v25 v26) h26) fun v27 h27 =>
  some (oneOf [v27], h27)) (
  ob ((bldSlice 3 1 1 [(.int .i64 0)] [(0, x1)]) h22) fun v28 h28 =>
  ob ((app 3 1 8 x5 v28) h28) fun v29 h29 =>
  ob ((slc Try.prog 1 x0 (some x6) none none) h29) fun v30 h30 =>
  ob ((app 3 1 8 v29 v30) h30) fun v31 h31 =>
  some (oneOf [v31], h31))
theorem f63_e0_0_eq (O : Oracle) (L : Loops (Value × Heap)) (x0 x1 x2 x3 x4 x5 x6 x7 x8 x9 x10 x11 x12 x13 x14 x15 x16 x17 x18 x19 x20 x21 x22 x23 x24 x25 x26 x27 x28 x29 x30 x31 x32 x33 x34 x35 x36 x37 x38 x39 x40 x41 x42 x43 x44 x45 x46 x47 x48 x49 x50 x51 : Value) (h : Heap) :
    f63_k0 O L (.exit 0) [x0, x1, x2, x3, x4, x5, x6, x7, x8, x9, x10, x11, x12, x13, x14, x15, x16, x17, x18, x19, x20, x21, x22, x23, x24, x25, x26, x27, x28, x29, x30, x31, x32, x33, x34, x35, x36, x37, x38, x39, x40, x41, x42, x43, x44, x45, x46, x47, x48, x49, x50, x51] h = f63_e0_0 O L x0 x1 x2 x3 x4 x5 x6 x7 x8 x9 x10 x11 x12 x13 x14 x15 x16 x17 x18 x19 x20 x21 x22 x23 x24 x25 x26 x27 x28 x29 x30 x31 x32 x33 x34 x35 x36 x37 x38 x39 x40 x41 x42 x43 x44 x45 x46 x47 x48 x49 x50 x51 h := by kernel_rfl
noncomputable def f63_b0 (O : Oracle) (L : Loops (Value × Heap)) (k : Ex → K (Value × Heap)) (x0 x1 x2 x3 x4 x5 x6 x7 x8 x9 x10 x11 x12 x13 x14 x15 x16 x17 x18 x19 x20 x21 x22 x23 x24 x25 x26 x27 x28 x29 x30 x31 x32 x33 x34 x35 x36 x37 x38 x39 x40 x41 x42 x43 x44 x45 x46 x47 x48 x49 x50 x51 : Value) (h : Heap) : Option (Value × Heap) :=
  ob ((M.ofOpt (lenSl x0)) h) fun v0 h0 =>
  ob ((M.ofOpt (bin Try.prog .lss 3 x6 v0)) h0) fun v1 h1 =>
  ob ((gd v1 true (M.ret x0)) h1) fun v2 h2 =>
  ob ((gd v1 true (M.ret x6)) h2) fun v3 h3 =>
  ob ((gd v1 true (M.ofOpt (iAddr 1 v2 v3))) h3) fun v4 h4 =>
  ob ((gd v1 true (ld1 v4)) h4) fun v5 h5 =>
  ob ((gd v1 true (M.ret x1)) h5) fun v6 h6 =>
  ob ((gd v1 true (M.ofOpt (bin Try.prog .lss 3 v5 v6))) h6) fun v7 h7 =>
  ob ((M.ofOpt (pick v1 v7 (.bool false))) h7) fun v8 h8 =>
  iteV v8 (
  ob ((M.ofOpt (iAddr 1 x0 x6)) h8) fun v9 h9 =>
  ob ((ld1 v9) h9) fun v10 h10 =>
  ob ((bldSlice 3 1 1 [(.int .i64 0)] [(0, v10)]) h10) fun v11 h11 =>
  ob ((app 3 1 8 x5 v11) h11) fun v12 h12 =>
  ob ((M.ofOpt (bin Try.prog .add 3 x6 (.int .i64 1))) h12) fun v13 h13 =>
  k .normal [x0, x1, x2, x3, x4, v12, v13, x6, x0, v0, v1, v1, v2, v3, v4, v5, v6, v7, v8, x5, x0, x6, v9, v10, v11, v12, x6, v13, x28, x29, x30, x31, x32, x33, x34, x35, x36, x37, x38, x39, x40, x41, x42, x43, x44, x45, x46, x47, x48, x49, x50, x51] h13) (
  k (.exit 0) [x0, x1, x2, x3, x4, x5, x6, x6, x0, v0, v1, v1, v2, v3, v4, v5, v6, v7, v8, x19, x20, x21, x22, x23, x24, x25, x26, x27, x28, x29, x30, x31, x32, x33, x34, x35, x36, x37, x38, x39, x40, x41, x42, x43, x44, x45, x46, x47, x48, x49, x50, x51] h8)
theorem f63_b0_eq (O : Oracle) (L : Loops (Value × Heap)) (k : Ex → K (Value × Heap)) (x0 x1 x2 x3 x4 x5 x6 x7 x8 x9 x10 x11 x12 x13 x14 x15 x16 x17 x18 x19 x20 x21 x22 x23 x24 x25 x26 x27 x28 x29 x30 x31 x32 x33 x34 x35 x36 x37 x38 x39 x40 x41 x42 x43 x44 x45 x46 x47 x48 x49 x50 x51 : Value) (h : Heap) :
    runCode Try.prog O L f63_c0 k [x0, x1, x2, x3, x4, x5, x6, x7, x8, x9, x10, x11, x12, x13, x14, x15, x16, x17, x18, x19, x20, x21, x22, x23, x24, x25, x26, x27, x28, x29, x30, x31, x32, x33, x34, x35, x36, x37, x38, x39, x40, x41, x42, x43, x44, x45, x46, x47, x48, x49, x50, x51] h = f63_b0 O L k x0 x1 x2 x3 x4 x5 x6 x7 x8 x9 x10 x11 x12 x13 x14 x15 x16 x17 x18 x19 x20 x21 x22 x23 x24 x25 x26 x27 x28 x29 x30 x31 x32 x33 x34 x35 x36 x37 x38 x39 x40 x41 x42 x43 x44 x45 x46 x47 x48 x49 x50 x51 h := by kernel_rfl
noncomputable def f63 (O : Oracle) (L : Loops (Value × Heap)) (a0 a1 : Value) (h : Heap) : Option (Value × Heap) :=
  L (runCode Try.prog O L f63_c0) (f63_k0 O L) [a0, a1, undef, undef, (.slice none 0 0), (.slice none 0 0), (.int .i64 0), undef, undef, undef, undef, undef, undef, undef, undef, undef, undef, undef, undef, undef, undef, undef, undef, undef, undef, undef, undef, undef, undef, undef, undef, undef, undef, undef, undef, undef, undef, undef, undef, undef, undef, undef, undef, undef, undef, undef, undef, undef, undef, undef, undef, undef] h
theorem f63_eq (O : Oracle) (L : Loops (Value × Heap)) (a0 a1 : Value) (h : Heap) :
    body Try.prog O L 63 [a0, a1] h = f63 O L a0 a1 h := by kernel_rfl
noncomputable def f70_c0 : Code := sub [1, 0, 1, 0, 0] (fbody Try.prog 70)
noncomputable def f70_k0 (O : Oracle) (L : Loops (Value × Heap)) : Ex → K (Value × Heap) := (blockK 0 (seqK Try.prog O L (sub [1, 1] (fbody Try.prog 70)) (kRet Try.prog Try.f70)))
noncomputable def f70_e0_0 (O : Oracle) (L : Loops (Value × Heap)) (x0 x1 x2 x3 x4 x5 x6 x7 x8 x9 x10 x11 x12 x13 x14 x15 x16 x17 x18 : Value) (h : Heap) : Option (Value × Heap) :=
  some (oneOf [(.int .i64 (-1))], h)
theorem f70_e0_0_eq (O : Oracle) (L : Loops (Value × Heap)) (x0 x1 x2 x3 x4 x5 x6 x7 x8 x9 x10 x11 x12 x13 x14 x15 x16 x17 x18 : Value) (h : Heap) :
    f70_k0 O L (.exit 0) [x0, x1, x2, x3, x4, x5, x6, x7, x8, x9, x10, x11, x12, x13, x14, x15, x16, x17, x18] h = f70_e0_0 O L x0 x1 x2 x3 x4 x5 x6 x7 x8 x9 x10 x11 x12 x13 x14 x15 x16 x17 x18 h := by kernel_rfl
noncomputable def f70_r0 (O : Oracle) (L : Loops (Value × Heap)) (x0 x1 x2 x3 x4 x5 x6 x7 x8 x9 x10 x11 x12 x13 x14 x15 x16 x17 x18 : Value) (h : Heap) : Option (Value × Heap) :=
  some (oneOf [x4], h)
theorem f70_r0_eq (O : Oracle) (L : Loops (Value × Heap)) (x0 x1 x2 x3 x4 x5 x6 x7 x8 x9 x10 x11 x12 x13 x14 x15 x16 x17 x18 : Value) (h : Heap) :
    f70_k0 O L .ret [x0, x1, x2, x3, x4, x5, x6, x7, x8, x9, x10, x11, x12, x13, x14, x15, x16, x17, x18] h = f70_r0 O L x0 x1 x2 x3 x4 x5 x6 x7 x8 x9 x10 x11 x12 x13 x14 x15 x16 x17 x18 h := by kernel_rfl
noncomputable def f70_b0 (O : Oracle) (L : Loops (Value × Heap)) (k : Ex → K (Value × Heap)) (x0 x1 x2 x3 x4 x5 x6 x7 x8 x9 x10 x11 x12 x13 x14 x15 x16 x17 x18 : Value) (h : Heap) : Option (Value × Heap) :=
  ob ((M.ofOpt (bin Try.prog .lss 3 x8 x7)) h) fun v2 h2 =>
  iteV v2 (
  ob ((ldN 2 x3) h2) fun v3 h3 =>
  ifB (true) (
  ob ((M.ofOpt (iAddr 2 x0 x8)) h3) fun v4 h4 =>
  ob ((ldN 2 v4) h4) fun v5 h5 =>
  ifB (true) (
  ob ((M.ofOpt (bin Try.prog .eql 33 v3 v5)) h5) fun v6 h6 =>
  iteV v6 (
  k .ret [x0, x1, x2, x3, x8, x8, x6, x7, x8, v2, x8, v3, x0, x8, v4, v5, v6, x8, x18] h6) (
  ob ((M.ofOpt (bin Try.prog .add 3 x8 (.int .i64 1))) h6) fun v7 h7 =>
  k .normal [x0, x1, x2, x3, x4, x8, x6, x7, v7, v2, x8, v3, x0, x8, v4, v5, v6, x17, v7] h7)))) (
  k (.exit 0) [x0, x1, x2, x3, x4, x5, x6, x7, x8, v2, x10, x11, x12, x13, x14, x15, x16, x17, x18] h2)
theorem f70_b0_eq (O : Oracle) (L : Loops (Value × Heap)) (k : Ex → K (Value × Heap)) (x0 x1 x2 x3 x4 x5 x6 x7 x8 x9 x10 x11 x12 x13 x14 x15 x16 x17 x18 : Value) (h : Heap) :
    runCode Try.prog O L f70_c0 k [x0, x1, x2, x3, x4, x5, x6, x7, x8, x9, x10, x11, x12, x13, x14, x15, x16, x17, x18] h = f70_b0 O L k x0 x1 x2 x3 x4 x5 x6 x7 x8 x9 x10 x11 x12 x13 x14 x15 x16 x17 x18 h := by kernel_rfl
noncomputable def f70 (O : Oracle) (L : Loops (Value × Heap)) (a0 a1 : Value) (h : Heap) : Option (Value × Heap) :=
  ob ((newB 33 (Value.cells a1).toList .fix) h) fun v0 h0 =>
  ob ((M.ofOpt (lenSl a0)) h0) fun v1 h1 =>
  L (runCode Try.prog O L f70_c0) (f70_k0 O L) [a0, a1, undef, v0, (.int .i64 0), undef, a0, v1, (.int .i64 0), undef, undef, undef, undef, undef, undef, undef, undef, undef, undef] h1
theorem f70_eq (O : Oracle) (L : Loops (Value × Heap)) (a0 a1 : Value) (h : Heap) :
    body Try.prog O L 70 [a0, a1] h = f70 O L a0 a1 h := by kernel_rfl
noncomputable def f71_c0 : Code := sub [1, 0, 1, 0, 0] (fbody Try.prog 71)
noncomputable def f71_k0 (O : Oracle) (L : Loops (Value × Heap)) : Ex → K (Value × Heap) := (blockK 0 (seqK Try.prog O L (sub [1, 1] (fbody Try.prog 71)) (kRet Try.prog Try.f71)))
noncomputable def f71_e0_0 (O : Oracle) (L : Loops (Value × Heap)) (x0 x1 x2 x3 x4 x5 x6 x7 x8 x9 x10 x11 x12 x13 x14 x15 x16 x17 x18 : Value) (h : Heap) : Option (Value × Heap) :=
  some (oneOf [(.int .i64 (-1))], h)
theorem f71_e0_0_eq (O : Oracle) (L : Loops (Value × Heap)) (x0 x1 x2 x3 x4 x5 x6 x7 x8 x9 x10 x11 x12 x13 x14 x15 x16 x17 x18 : Value) (h : Heap) :
    f71_k0 O L (.exit 0) [x0, x1, x2, x3, x4, x5, x6, x7, x8, x9, x10, x11, x12, x13, x14, x15, x16, x17, x18] h = f71_e0_0 O L x0 x1 x2 x3 x4 x5 x6 x7 x8 x9 x10 x11 x12 x13 x14 x15 x16 x17 x18 h := by kernel_rfl
noncomputable def f71_r0 (O : Oracle) (L : Loops (Value × Heap)) (x0 x1 x2 x3 x4 x5 x6 x7 x8 x9 x10 x11 x12 x13 x14 x15 x16 x17 x18 : Value) (h : Heap) : Option (Value × Heap) :=
  some (oneOf [x4], h)
theorem f71_r0_eq (O : Oracle) (L : Loops (Value × Heap)) (x0 x1 x2 x3 x4 x5 x6 x7 x8 x9 x10 x11 x12 x13 x14 x15 x16 x17 x18 : Value) (h : Heap) :
    f71_k0 O L .ret [x0, x1, x2, x3, x4, x5, x6, x7, x8, x9, x10, x11, x12, x13, x14, x15, x16, x17, x18] h = f71_r0 O L x0 x1 x2 x3 x4 x5 x6 x7 x8 x9 x10 x11 x12 x13 x14 x15 x16 x17 x18 h := by kernel_rfl
noncomputable def f71_b0 (O : Oracle) (L : Loops (Value × Heap)) (k : Ex → K (Value × Heap)) (x0 x1 x2 x3 x4 x5 x6 x7 x8 x9 x10 x11 x12 x13 x14 x15 x16 x17 x18 : Value) (h : Heap) : Option (Value × Heap) :=
  ob ((M.ofOpt (bin Try.prog .lss 3 x8 x7)) h) fun v1 h1 =>
  iteV v1 (
  ob ((M.ofOpt (iAddr 1 x0 x8)) h1) fun v2 h2 =>
  ob ((ld1 v2) h2) fun v3 h3 =>
  ob ((callV O x1 [v3]) h3) fun v4 h4 =>
  iteV v4 (
  k .ret [x0, x1, x2, x3, x8, x8, x6, x7, x8, v1, x8, x1, x0, x8, v2, v3, v4, x8, x18] h4) (
  ob ((M.ofOpt (bin Try.prog .add 3 x8 (.int .i64 1))) h4) fun v5 h5 =>
  k .normal [x0, x1, x2, x3, x4, x8, x6, x7, v5, v1, x8, x1, x0, x8, v2, v3, v4, x17, v5] h5)) (
  k (.exit 0) [x0, x1, x2, x3, x4, x5, x6, x7, x8, v1, x10, x11, x12, x13, x14, x15, x16, x17, x18] h1)
theorem f71_b0_eq (O : Oracle) (L : Loops (Value × Heap)) (k : Ex → K (Value × Heap)) (x0 x1 x2 x3 x4 x5 x6 x7 x8 x9 x10 x11 x12 x13 x14 x15 x16 x17 x18 : Value) (h : Heap) :
    runCode Try.prog O L f71_c0 k [x0, x1, x2, x3, x4, x5, x6, x7, x8, x9, x10, x11, x12, x13, x14, x15, x16, x17, x18] h = f71_b0 O L k x0 x1 x2 x3 x4 x5 x6 x7 x8 x9 x10 x11 x12 x13 x14 x15 x16 x17 x18 h := by kernel_rfl
noncomputable def f71 (O : Oracle) (L : Loops (Value × Heap)) (a0 a1 : Value) (h : Heap) : Option (Value × Heap) :=
  ob ((M.ofOpt (lenSl a0)) h) fun v0 h0 =>
  L (runCode Try.prog O L f71_c0) (f71_k0 O L) [a0, a1, undef, undef, (.int .i64 0), undef, a0, v0, (.int .i64 0), undef, undef, undef, undef, undef, undef, undef, undef, undef, undef] h0
theorem f71_eq (O : Oracle) (L : Loops (Value × Heap)) (a0 a1 : Value) (h : Heap) :
    body Try.prog O L 71 [a0, a1] h = f71 O L a0 a1 h := by kernel_rfl
noncomputable def f3_c0 : Code := sub [1, 1, 1, 1, 1, 0, 1, 0, 0] (fbody Try.prog 3)
noncomputable def f3_k0 (O : Oracle) (L : Loops (Value × Heap)) : Ex → K (Value × Heap) := (blockK 0 (seqK Try.prog O L (sub [1, 1, 1, 1, 1, 1] (fbody Try.prog 3)) (kRet Try.prog Try.f3)))
noncomputable def f3 (O : Oracle) (L : Loops (Value × Heap)) (a0 a1 a2 a3 a4 : Value) (h : Heap) : Option (Value × Heap) :=
  ob ((O (.func 15) [a0, a1, a2, a3, (.slice none 0 0)]) h) fun v0 h0 =>
  ob ((newB 27 [(.int .i64 0), (.slice none 0 0), (.int .i64 0), (.int .i64 0), (.int .i64 0), (.int .i64 0), (.int .i64 0), (.int .i64 0), (.slice none 0 0), (.int .u16 0), (.slice none 0 0)] .fix) h0) fun v1 h1 =>
  ob ((stN 11 v1 v0) h1) fun v2 h2 =>
  ob ((O (.func 16) []) h2) fun v3 h3 =>
  ob ((M.ofOpt (un Try.prog .not v3)) h3) fun v4 h4 =>
  ob ((gd v4 false (ldN 11 v1)) h4) fun v5 h5 =>
  ob ((gd v4 false (O (.func 17) [v5])) h5) fun v6 h6 =>
  ob ((gd v4 false (M.ofOpt (bin Try.prog .neq 30 v6 (.int .u16 0)))) h6) fun v7 h7 =>
  ob ((M.ofOpt (pick v4 (.bool true) v7)) h7) fun v8 h8 =>
  iteV v8 (
  some (oneOf [(.bool false)], h8)) (
  ob ((ldN 11 v1) h8) fun v9 h9 =>
  ob ((newB 27 [(.int .i64 0), (.slice none 0 0), (.int .i64 0), (.int .i64 0), (.int .i64 0), (.int .i64 0), (.int .i64 0), (.int .i64 0), (.slice none 0 0), (.int .u16 0), (.slice none 0 0)] .fix) h9) fun v10 h10 =>
  ob ((stN 11 v10 v9) h10) fun v11 h11 =>
  ob ((M.ofOpt (fAddr 1 v10)) h11) fun v12 h12 =>
  ob ((stN 1 v12 (.slice none 0 0)) h12) fun v13 h13 =>
  ob ((M.ofOpt (fAddr 1 v1)) h13) fun v14 h14 =>
  ob ((ld1 v14) h14) fun v15 h15 =>
  ob ((M.ofOpt (lenSl v15)) h15) fun v16 h16 =>
  ob ((M.ofOpt (bin Try.prog .sub 3 v16 (.int .i64 1))) h16) fun v17 h17 =>
  L (runCode Try.prog O L f3_c0) (f3_k0 O L) [a0, a1, a2, a3, a4, undef, undef, undef, undef, undef, (.bool false), v1, v10, v17, undef, undef, undef, a0, a1, a2, a3, v0, v3, v4, v4, v5, v6, v7, v8, v9, v12, v14, v15, v16, v17, undef, undef, undef, undef, undef, undef, undef, undef, undef, undef, undef, undef, undef, undef, undef, undef, undef, undef, undef, undef, undef, undef, undef, undef, undef, undef, undef, undef, undef, undef, undef, undef, undef, undef, undef, undef, undef, undef, undef, undef, undef, undef, undef, undef, undef, undef, undef, undef, undef, undef, undef, undef, undef, undef, undef, undef, undef, undef, undef, undef, undef, undef, undef, undef, undef, undef, undef, undef, undef, undef, undef, undef, undef] h17)
noncomputable def f4_c0 : Code := sub [1, 1, 1, 0, 1, 0, 0] (fbody Try.prog 4)
noncomputable def f4_k0 (O : Oracle) (L : Loops (Value × Heap)) : Ex → K (Value × Heap) := (blockK 0 (seqK Try.prog O L (sub [1, 1, 1, 1] (fbody Try.prog 4)) (kRet Try.prog Try.f4)))
noncomputable def f4 (O : Oracle) (L : Loops (Value × Heap)) (a0 a1 : Value) (h : Heap) : Option (Value × Heap) :=
  ob ((O (.func 15) [a0, (.int .u8 0), (.int .u8 0), a1, (.slice none 0 0)]) h) fun v0 h0 =>
  ob ((newB 27 [(.int .i64 0), (.slice none 0 0), (.int .i64 0), (.int .i64 0), (.int .i64 0), (.int .i64 0), (.int .i64 0), (.int .i64 0), (.slice none 0 0), (.int .u16 0), (.slice none 0 0)] .fix) h0) fun v1 h1 =>
  ob ((stN 11 v1 v0) h1) fun v2 h2 =>
  ob ((ldN 11 v1) h2) fun v3 h3 =>
  ob ((O (.func 18) [v3]) h3) fun v4 h4 =>
  L (runCode Try.prog O L f4_c0) (f4_k0 O L) [a0, a1, undef, undef, (.bool false), v1, v4, (.int .i64 0), undef, undef, a0, a1, v0, v3, v4, undef, undef, undef, undef, undef, undef, undef, undef, undef, undef, undef, undef, undef, undef, undef, undef, undef, undef, undef, undef, undef, undef, undef, undef, undef, undef, undef, undef, undef, undef, undef, undef, undef, undef, undef, undef, undef, undef, undef, undef, undef, undef, undef, undef, undef, undef, undef, undef, undef, undef, undef, undef, undef, undef, undef, undef, undef, undef, undef, undef, undef, undef, undef, undef, undef, undef, undef, undef, undef, undef, undef, undef, undef, undef, undef, undef, undef, undef, undef, undef, undef, undef, undef, undef, undef, undef, undef, undef, undef, undef, undef, undef, undef, undef, undef, undef, undef, undef, undef, undef, undef, undef, undef, undef, undef, undef, undef, undef, undef, undef] h4
noncomputable def f5_c0 : Code := sub [1, 1, 1, 1, 1, 1, 0, 1, 0, 0] (fbody Try.prog 5)
noncomputable def f5_k0 (O : Oracle) (L : Loops (Value × Heap)) : Ex → K (Value × Heap) := (blockK 0 (seqK Try.prog O L (sub [1, 1, 1, 1, 1, 1, 1] (fbody Try.prog 5)) (kRet Try.prog Try.f5)))
noncomputable def f5 (O : Oracle) (L : Loops (Value × Heap)) (a0 a1 a2 a3 a4 : Value) (h : Heap) : Option (Value × Heap) :=
  ob ((O (.func 15) [a0, a1, a2, a3, (.slice none 0 0)]) h) fun v0 h0 =>
  ob ((newB 27 [(.int .i64 0), (.slice none 0 0), (.int .i64 0), (.int .i64 0), (.int .i64 0), (.int .i64 0), (.int .i64 0), (.int .i64 0), (.slice none 0 0), (.int .u16 0), (.slice none 0 0)] .fix) h0) fun v1 h1 =>
  ob ((stN 11 v1 v0) h1) fun v2 h2 =>
  ob ((ldN 11 v1) h2) fun v3 h3 =>
  ob ((newB 27 [(.int .i64 0), (.slice none 0 0), (.int .i64 0), (.int .i64 0), (.int .i64 0), (.int .i64 0), (.int .i64 0), (.int .i64 0), (.slice none 0 0), (.int .u16 0), (.slice none 0 0)] .fix) h3) fun v4 h4 =>
  ob ((stN 11 v4 v3) h4) fun v5 h5 =>
  ob ((M.ofOpt (fAddr 10 v1)) h5) fun v6 h6 =>
  ob ((ld1 v6) h6) fun v7 h7 =>
  ob ((M.ofOpt (fAddr 10 v1)) h7) fun v8 h8 =>
  ob ((ld1 v8) h8) fun v9 h9 =>
  ob ((M.ofOpt (lenSl v9)) h9) fun v10 h10 =>
  ob ((M.ofOpt (bin Try.prog .sub 3 v10 (.int .i64 1))) h10) fun v11 h11 =>
  ob ((slc Try.prog 1 v7 none (some v11) none) h11) fun v12 h12 =>
  ob ((M.ofOpt (fAddr 10 v4)) h12) fun v13 h13 =>
  ob ((stN 1 v13 v12) h13) fun v14 h14 =>
  ob ((ldN 11 v1) h14) fun v15 h15 =>
  ob ((newB 27 [(.int .i64 0), (.slice none 0 0), (.int .i64 0), (.int .i64 0), (.int .i64 0), (.int .i64 0), (.int .i64 0), (.int .i64 0), (.slice none 0 0), (.int .u16 0), (.slice none 0 0)] .fix) h15) fun v16 h16 =>
  ob ((stN 11 v16 v15) h16) fun v17 h17 =>
  ob ((M.ofOpt (fAddr 10 v16)) h17) fun v18 h18 =>
  ob ((stN 1 v18 (.slice none 0 0)) h18) fun v19 h19 =>
  L (runCode Try.prog O L f5_c0) (f5_k0 O L) [a0, a1, a2, a3, a4, undef, undef, undef, undef, undef, (.bool false), v1, v4, v16, (.int .i64 0), undef, a0, a1, a2, a3, v0, v3, v6, v7, v8, v9, v10, v11, v12, v13, v15, v18, undef, undef, undef, undef, undef, undef, undef, undef, undef, undef, undef, undef, undef, undef, undef, undef, undef, undef, undef, undef, undef, undef, undef, undef, undef, undef, undef, undef, undef, undef, undef, undef, undef, undef, undef, undef, undef, undef, undef, undef, undef, undef, undef, undef, undef, undef, undef] h19
noncomputable def f6 (O : Oracle) (L : Loops (Value × Heap)) (a0 a1 a2 : Value) (h : Heap) : Option (Value × Heap) :=
  ob ((newB 27 (Value.cells a0).toList .fix) h) fun v0 h0 =>
  ob ((ldN 11 v0) h0) fun v1 h1 =>
  ob ((O (.func 20) [v1]) h1) fun v2 h2 =>
  ob ((M.ofOpt (bin Try.prog .gtr 3 v2 (.int .i64 500))) h2) fun v3 h3 =>
  ob ((gd v3 false (O (.func 16) [])) h3) fun v4 h4 =>
  ob ((gd v3 false (M.ofOpt (un Try.prog .not v4))) h4) fun v5 h5 =>
  ob ((M.ofOpt (pick v3 (.bool true) v5)) h5) fun v6 h6 =>
  iteV v6 (
  ob ((O (.func 16) []) h6) fun v7 h7 =>
  some (oneOf [v7], h7)) (
  ob ((ldN 11 v0) h6) fun v8 h8 =>
  ob ((O (.func 21) [v8, a1, a2]) h8) fun v9 h9 =>
  some (oneOf [v9], h9))
noncomputable def f7 (O : Oracle) (L : Loops (Value × Heap)) (a0 a1 a2 a3 a4 a5 a6 a7 : Value) (h : Heap) : Option (Value × Heap) :=
  ob ((O (.func 15) [a0, a1, a2, a3, a4]) h) fun v0 h0 =>
  ob ((newB 27 [(.int .i64 0), (.slice none 0 0), (.int .i64 0), (.int .i64 0), (.int .i64 0), (.int .i64 0), (.int .i64 0), (.int .i64 0), (.slice none 0 0), (.int .u16 0), (.slice none 0 0)] .fix) h0) fun v1 h1 =>
  ob ((stN 11 v1 v0) h1) fun v2 h2 =>
  ob ((O (.func 16) []) h2) fun v3 h3 =>
  ob ((M.ofOpt (un Try.prog .not v3)) h3) fun v4 h4 =>
  ob ((gd v4 false (ldN 11 v1)) h4) fun v5 h5 =>
  ob ((gd v4 false (O (.func 17) [v5])) h5) fun v6 h6 =>
  ob ((gd v4 false (M.ofOpt (bin Try.prog .neq 30 v6 (.int .u16 0)))) h6) fun v7 h7 =>
  ob ((M.ofOpt (pick v4 (.bool true) v7)) h7) fun v8 h8 =>
  iteV v8 (
  some (oneOf [(.bool false)], h8)) (
  ob ((ldN 11 v1) h8) fun v9 h9 =>
  ob ((M.ofOpt (bin Try.prog .rem 5 a5 (.int .u8 8))) h9) fun v10 h10 =>
  ob ((conv Try.prog 5 3 v10) h10) fun v11 h11 =>
  ob ((M.ofOpt (bin Try.prog .rem 5 a6 (.int .u8 8))) h11) fun v12 h12 =>
  ob ((conv Try.prog 5 3 v12) h12) fun v13 h13 =>
  ob ((O (.func 21) [v9, v11, v13]) h13) fun v14 h14 =>
  ob ((M.ofOpt (bin Try.prog .rem 5 a7 (.int .u8 8))) h14) fun v15 h15 =>
  ob ((M.ofOpt (bin Try.prog .eql 5 v15 (.int .u8 0))) h15) fun v16 h16 =>
  iteV v16 (
  ob ((M.ofOpt (fAddr 0 v1)) h16) fun v17 h17 =>
  ob ((stN 1 v17 (.int .i64 7)) h17) fun v18 h18 =>
  ob ((gd v14 true (ldN 11 v1)) h18) fun v19 h19 =>
  ob ((gd v14 true (O (.func 17) [v19])) h19) fun v20 h20 =>
  ob ((gd v14 true (M.ofOpt (bin Try.prog .eql 30 v20 (.int .u16 120)))) h20) fun v21 h21 =>
  ob ((M.ofOpt (pick v14 v21 (.bool false))) h21) fun v22 h22 =>
  some (oneOf [v22], h22)) (
  ob ((M.ofOpt (bin Try.prog .eql 5 v15 (.int .u8 1))) h16) fun v23 h23 =>
  iteV v23 (
  ob ((M.ofOpt (fAddr 2 v1)) h23) fun v24 h24 =>
  ob ((stN 1 v24 (.int .i64 0)) h24) fun v25 h25 =>
  ob ((gd v14 true (ldN 11 v1)) h25) fun v26 h26 =>
  ob ((gd v14 true (O (.func 17) [v26])) h26) fun v27 h27 =>
  ob ((gd v14 true (M.ofOpt (bin Try.prog .eql 30 v27 (.int .u16 120)))) h27) fun v28 h28 =>
  ob ((M.ofOpt (pick v14 v28 (.bool false))) h28) fun v29 h29 =>
  some (oneOf [v29], h29)) (
  ob ((M.ofOpt (bin Try.prog .eql 5 v15 (.int .u8 2))) h23) fun v30 h30 =>
  iteV v30 (
  ob ((M.ofOpt (fAddr 3 v1)) h30) fun v31 h31 =>
  ob ((stN 1 v31 (.int .i64 9)) h31) fun v32 h32 =>
  ob ((gd v14 true (ldN 11 v1)) h32) fun v33 h33 =>
  ob ((gd v14 true (O (.func 17) [v33])) h33) fun v34 h34 =>
  ob ((gd v14 true (M.ofOpt (bin Try.prog .eql 30 v34 (.int .u16 120)))) h34) fun v35 h35 =>
  ob ((M.ofOpt (pick v14 v35 (.bool false))) h35) fun v36 h36 =>
  some (oneOf [v36], h36)) (
  ob ((M.ofOpt (bin Try.prog .eql 5 v15 (.int .u8 3))) h30) fun v37 h37 =>
  iteV v37 (
  ob ((M.ofOpt (fAddr 4 v1)) h37) fun v38 h38 =>
  ob ((stN 1 v38 (.int .i64 0)) h38) fun v39 h39 =>
  ob ((gd v14 true (ldN 11 v1)) h39) fun v40 h40 =>
  ob ((gd v14 true (O (.func 17) [v40])) h40) fun v41 h41 =>
  ob ((gd v14 true (M.ofOpt (bin Try.prog .eql 30 v41 (.int .u16 120)))) h41) fun v42 h42 =>
  ob ((M.ofOpt (pick v14 v42 (.bool false))) h42) fun v43 h43 =>
  some (oneOf [v43], h43)) (
  ob ((M.ofOpt (bin Try.prog .eql 5 v15 (.int .u8 4))) h37) fun v44 h44 =>
  iteV v44 (
  ob ((M.ofOpt (fAddr 5 v1)) h44) fun v45 h45 =>
  ob ((stN 1 v45 (.int .i64 5)) h45) fun v46 h46 =>
  ob ((gd v14 true (ldN 11 v1)) h46) fun v47 h47 =>
  ob ((gd v14 true (O (.func 17) [v47])) h47) fun v48 h48 =>
  ob ((gd v14 true (M.ofOpt (bin Try.prog .eql 30 v48 (.int .u16 120)))) h48) fun v49 h49 =>
  ob ((M.ofOpt (pick v14 v49 (.bool false))) h49) fun v50 h50 =>
  some (oneOf [v50], h50)) (
  ob ((M.ofOpt (bin Try.prog .eql 5 v15 (.int .u8 5))) h44) fun v51 h51 =>
  iteV v51 (
  ob ((M.ofOpt (fAddr 6 v1)) h51) fun v52 h52 =>
  ob ((stN 1 v52 (.int .i64 9)) h52) fun v53 h53 =>
  ob ((gd v14 true (ldN 11 v1)) h53) fun v54 h54 =>
  ob ((gd v14 true (O (.func 17) [v54])) h54) fun v55 h55 =>
  ob ((gd v14 true (M.ofOpt (bin Try.prog .eql 30 v55 (.int .u16 120)))) h55) fun v56 h56 =>
  ob ((M.ofOpt (pick v14 v56 (.bool false))) h56) fun v57 h57 =>
  some (oneOf [v57], h57)) (
  ob ((M.ofOpt (bin Try.prog .eql 5 v15 (.int .u8 6))) h51) fun v58 h58 =>
  iteV v58 (
  ob ((M.ofOpt (fAddr 7 v1)) h58) fun v59 h59 =>
  ob ((stN 1 v59 (.int .i64 65)) h59) fun v60 h60 =>
  ob ((gd v14 true (ldN 11 v1)) h60) fun v61 h61 =>
  ob ((gd v14 true (O (.func 17) [v61])) h61) fun v62 h62 =>
  ob ((gd v14 true (M.ofOpt (bin Try.prog .eql 30 v62 (.int .u16 120)))) h62) fun v63 h63 =>
  ob ((M.ofOpt (pick v14 v63 (.bool false))) h63) fun v64 h64 =>
  some (oneOf [v64], h64)) (
  ob ((M.ofOpt (fAddr 8 v1)) h58) fun v65 h65 =>
  ob ((ld1 v65) h65) fun v66 h66 =>
  ob ((M.ofOpt (fAddr 8 v1)) h66) fun v67 h67 =>
  ob ((ld1 v67) h67) fun v68 h68 =>
  ob ((M.ofOpt (lenSl v68)) h68) fun v69 h69 =>
  ob ((M.ofOpt (bin Try.prog .sub 3 v69 (.int .i64 1))) h69) fun v70 h70 =>
  ob ((slc Try.prog 1 v66 none (some v70) none) h70) fun v71 h71 =>
  ob ((M.ofOpt (fAddr 8 v1)) h71) fun v72 h72 =>
  ob ((stN 1 v72 v71) h72) fun v73 h73 =>
  ob ((gd v14 true (ldN 11 v1)) h73) fun v74 h74 =>
  ob ((gd v14 true (O (.func 17) [v74])) h74) fun v75 h75 =>
  ob ((gd v14 true (M.ofOpt (bin Try.prog .eql 30 v75 (.int .u16 120)))) h75) fun v76 h76 =>
  ob ((M.ofOpt (pick v14 v76 (.bool false))) h76) fun v77 h77 =>
  some (oneOf [v77], h77)))))))))
noncomputable def f8_c0 : Code := sub [1, 1, 1, 0, 1, 0, 0] (fbody Try.prog 8)
noncomputable def f8_k0 (O : Oracle) (L : Loops (Value × Heap)) : Ex → K (Value × Heap) := (blockK 0 (seqK Try.prog O L (sub [1, 1, 1, 1] (fbody Try.prog 8)) (kRet Try.prog Try.f8)))
noncomputable def f8 (O : Oracle) (L : Loops (Value × Heap)) (a0 a1 : Value) (h : Heap) : Option (Value × Heap) :=
  ob ((O (.func 15) [a0, (.int .u8 0), (.int .u8 0), a1, (.slice none 0 0)]) h) fun v0 h0 =>
  ob ((newB 27 [(.int .i64 0), (.slice none 0 0), (.int .i64 0), (.int .i64 0), (.int .i64 0), (.int .i64 0), (.int .i64 0), (.int .i64 0), (.slice none 0 0), (.int .u16 0), (.slice none 0 0)] .fix) h0) fun v1 h1 =>
  ob ((stN 11 v1 v0) h1) fun v2 h2 =>
  L (runCode Try.prog O L f8_c0) (f8_k0 O L) [a0, a1, undef, undef, (.bool false), v1, (.int .i64 0), (.int .i64 0), undef, undef, a0, a1, v0, undef, undef, undef, undef, undef, undef, undef, undef, undef, undef, undef, undef, undef, undef, undef, undef, undef, undef, undef, undef, undef, undef, undef, undef, undef, undef, undef, undef, undef, undef, undef, undef, undef, undef, undef, undef, undef, undef, undef, undef, undef, undef, undef, undef, undef, undef, undef, undef, undef, undef, undef, undef, undef, undef, undef, undef, undef, undef, undef, undef, undef, undef, undef, undef, undef, undef, undef, undef, undef, undef, undef, undef, undef, undef, undef, undef, undef, undef, undef] h2
end Go.Proofs.Ytdobnaldfmpimaa

set_option linter.unusedSectionVars false
set_option linter.unusedSimpArgs false
set_option linter.unusedVariables false
set_option maxRecDepth 100000
namespace Go.Proofs.Ytdobnaldfmpimaa
open Go.Abs
theorem sortOk : SortOk Try.prog 44 := ⟨enters_of Try.func44 (by kernel_rfl) rfl, Any.slices_Sort_int_none Try.laysSort, Any.slices_Sort_int Try.laysSort⟩
theorem mix12 : Try.prog.follows .mixedOrders = true := by kernel_rfl
theorem nil_ok : PrimsOk Try.prog (flatPr []) := flatPr_ok mix12 fun g hg => by simp at hg
theorem sort_ok : PrimsOk Try.prog (sortPr [] 44) := sortPr_ok nil_ok sortOk
theorem known12_true : (lvl Try.prog (sortPr [] 44) 300 (.func 16) [] []).map (·.1) = some (.bool true) := by kernel_rfl
abbrev pk12 : Prims := truePr [16] (sortPr [] 44)
theorem known12_ok : PrimsOk Try.prog pk12 := truePr_ok mix12 sort_ok fun g hg => by
  simp at hg
  subst hg
  exact ⟨300, known12_true⟩
theorem pk_no {k : FuncId} (h : (k == 16) = false) (h2 : (k == 44) = false) : pk12 (.func k) = none := truePr_no (by simpa using h) (sortPr_no h2 rfl)
theorem sort_is (n : Nat) (hn : 0 < n) (args : List Value) (H : Heap) : lvl Try.prog pk12 n (.func 44) args H = sortP args H := word_call ((truePr_old (ids := [16]) (pr := sortPr [] 44) rfl).trans sortPr_sort) hn args H
end Go.Proofs.Ytdobnaldfmpimaa

set_option linter.unusedSectionVars false
set_option linter.unusedSimpArgs false
set_option linter.unusedVariables false
set_option maxRecDepth 100000
namespace Go.Proofs.Ytdobnaldfmpimaa
open Go.Abs
theorem szI : Try.prog.cellsOf 3 = 1 := by kernel_rfl
theorem szEdge : Try.prog.cellsOf 33 = 2 := by kernel_rfl
abbrev Ed := Int × Int
def edC (e : Ed) : List Value := [.int .i64 e.1, .int .i64 e.2]
theorem edC_len (e : Ed) : (edC e).length = 2 := rfl
theorem edC_all (e : Ed) : allCells (edC e) = true := rfl
def edV (e : Ed) : Value := .agg ⟨edC e⟩
abbrev Is (H : Heap) (v : Value) (xs : List Int) := Rs inC 3 H v xs
abbrev Iw (H : Heap) (v : Value) (xs : List Int) := Rw inC 3 1 H v xs
abbrev Es (H : Heap) (v : Value) (xs : List Ed) := Rs edC 33 H v xs
abbrev Ew (H : Heap) (v : Value) (xs : List Ed) := Rw edC 33 2 H v xs
def vC (u : Value) : List Value := [u]
theorem vC_len (u : Value) : (vC u).length = 1 := rfl
def Rows (H : Heap) (v : Value) (xss : List (List Int)) : Prop := ∃ us, Rs vC 24 H v us ∧ us.length = xss.length ∧ ∀ (i : Nat) (u : Value) (xs : List Int), us[i]? = some u → xss[i]? = some xs → Is H u xs
theorem Rows.ext {H H' : Heap} {v : Value} {xss : List (List Int)} (h : Rows H v xss) (he : Ext H H') : Rows H' v xss := by
  obtain ⟨us, h1, h2, h3⟩ := h
  exact ⟨us, h1.ext he, h2, fun i u xs hu hx => (h3 i u xs hu hx).ext he⟩
theorem Rows.len {H : Heap} {v : Value} {xss : List (List Int)} (h : Rows H v xss) : lenSl v = some (.int .i64 xss.length) := by
  obtain ⟨us, h1, h2, h3⟩ := h
  rw [h1.len, h2]
theorem Rows.at_ {H : Heap} {v : Value} {xss : List (List Int)} (h : Rows H v xss) {i : Nat} {xs : List Int} (hx : xss[i]? = some xs) (k : IntKind) : ∃ p u, iAddr 1 v (.int k i) = some p ∧ ld1 p H = some (u, H) ∧ Is H u xs := by
  obtain ⟨us, h1, h2, h3⟩ := h
  have hi := (List.getElem?_eq_some_iff.mp hx).1
  have hu : us[i]? = some us[i] := List.getElem?_eq_getElem (by omega)
  obtain ⟨b, o, g1, g2, g3⟩ := h1.at_ vC_len hu k
  have := (g3 H rfl).2.1 0 us[i] rfl
  exact ⟨_, _, g1, this, h3 i _ _ hu hx⟩
structure PlanD where
  nodes : Int
  edges : List Ed
  lanes : Int
  room : Int
  queue : Int
  rounds : Int
  every : Int
  bag : Int
  weights : List Int
  start : Int
  next : List (List Int)
def plC (p : PlanD) (ev wv nv : Value) : List Value := [.int .i64 p.nodes, ev, .int .i64 p.lanes, .int .i64 p.room, .int .i64 p.queue, .int .i64 p.rounds, .int .i64 p.every, .int .i64 p.bag, wv, .int .u16 p.start, nv]
def plV (p : PlanD) (ev wv nv : Value) : Value := .agg ⟨plC p ev wv nv⟩
def plB (p : PlanD) (ev wv nv : Value) : Blk := .cells (plC p ev wv nv) 27 .fix
structure PV (H : Heap) (p : PlanD) (ev wv nv : Value) : Prop where
  e : Es H ev p.edges
  w : Is H wv p.weights
  n : Rows H nv p.next
  be : p.edges.length ≤ 17592186043000
  bw : p.weights.length ≤ 17592186044500
  bn : p.next.length ≤ 17592186043000
theorem PV.ext {H H' : Heap} {p : PlanD} {ev wv nv : Value} (h : PV H p ev wv nv) (he : Ext H H') : PV H' p ev wv nv := ⟨h.e.ext he, h.w.ext he, h.n.ext he, h.be, h.bw, h.bn⟩
theorem plV_cells (p : PlanD) (ev wv nv : Value) : Blk.cells (plV p ev wv nv).cells.toList 27 .fix = plB p ev wv nv := rfl
theorem ld_pl {H : Heap} {b : Nat} {p : PlanD} {ev wv nv : Value} (h : H[b]? = some (plB p ev wv nv)) (j : Nat) (v : Value) (hv : (plC p ev wv nv)[j]? = some v) : ld1 (.pointer (some ⟨b, j, none⟩)) H = some (v, H) := by
  rw [x_ld1, h]
  unfold plB
  rw [x_ldC, hv, x_cell]
theorem ld_pl11 {H : Heap} {b : Nat} {p : PlanD} {ev wv nv : Value} (h : H[b]? = some (plB p ev wv nv)) : ldN 11 (.pointer (some ⟨b, 0, none⟩)) H = some (plV p ev wv nv, H) := by
  rw [x_ldN, h]
  unfold plB
  rw [x_ldNC _ _ _ _ _ (by simp [plC])]
  rfl
theorem at_last (H : Heap) (x : Blk) : (H ++ [x])[H.length]? = some x := by simp
theorem ld_of {H H' : Heap} {b : Nat} {x : Blk} (h : H[b]? = some x) (he : Ext H H') : H'[b]? = some x := by
  rw [he.2 b (List.getElem?_eq_some_iff.mp h).1 id, h]
def wi (x lo hi : Int) : Bool := decide (lo ≤ x) && decide (x ≤ hi)
def numOk (p : PlanD) : Bool := wi p.nodes 2 6 && (wi p.lanes 1 3 && (wi p.room 1 8 && (wi p.queue 1 8 && (wi p.rounds 1 4 && (wi p.every 1 8 && wi p.bag 1 64)))))
section
variable {H : Heap} {m : Nat} {p : PlanD} {ev wv nv : Value}
theorem within_is (hm : 0 < m) (x lo hi : Int) (H : Heap) : lvl Try.prog pk12 m (.func 37) [.int .i64 x, .int .i64 lo, .int .i64 hi] H = some (.bool (wi x lo hi), H) := by
  refine lvl_at (pk_no rfl rfl) hm ?_
  rw [f37_eq]
  unfold f37 wi
  by_cases h : lo ≤ x
  · simp -implicitDefEqProofs only [r_opt, r_ret, ob_some, ifB_true, iteV_true, iteV_false, r_gdt, r_gdt2, r_gdtf, r_gdtf2, r_gdff, r_gdff2, r_gdft, r_gdft2, r_gdu, r_gdu2, pick_t, pick_f, ext_0, ext_1, x_newB, r_nil, r_fAddr, Nat.zero_add, b_lss, b_leq, b_gtr, b_geq, b_eql, b_neq, u_not, Bool.not_true, Bool.not_false, oneOf_one, oneOf_two, again_normal, again_exit, again_ret, Bool.and_true, h, decide_true, Bool.true_and]
  · simp -implicitDefEqProofs only [r_opt, r_ret, ob_some, ifB_true, iteV_true, iteV_false, r_gdt, r_gdt2, r_gdtf, r_gdtf2, r_gdff, r_gdff2, r_gdft, r_gdft2, r_gdu, r_gdu2, pick_t, pick_f, ext_0, ext_1, x_newB, r_nil, r_fAddr, Nat.zero_add, b_lss, b_leq, b_gtr, b_geq, b_eql, b_neq, u_not, Bool.not_true, Bool.not_false, oneOf_one, oneOf_two, again_normal, again_exit, again_ret, Bool.and_true, h, decide_false, Bool.false_and]
theorem numbers_is (hm : 1 < m) (p : PlanD) (ev wv nv : Value) : lvl Try.prog pk12 m (.func 33) [plV p ev wv nv] H = some (.bool (numOk p), H ++ [plB p ev wv nv]) := by
  refine lvl_at (pk_no rfl rfl) (by omega) ?_
  have w := fun x lo hi H => within_is (m := m - 1) (by omega) x lo hi H
  have hb := at_last H (plB p ev wv nv)
  have l0 := ld_pl hb 0 _ rfl
  have l2 := ld_pl hb 2 _ rfl
  have l3 := ld_pl hb 3 _ rfl
  have l4 := ld_pl hb 4 _ rfl
  have l5 := ld_pl hb 5 _ rfl
  have l6 := ld_pl hb 6 _ rfl
  have l7 := ld_pl hb 7 _ rfl
  rw [f33_eq]
  unfold f33 numOk
  cases c1 : wi p.nodes 2 6 with
  | false => simp -implicitDefEqProofs only [r_opt, r_ret, ob_some, ifB_true, iteV_true, iteV_false, r_gdt, r_gdt2, r_gdtf, r_gdtf2, r_gdff, r_gdff2, r_gdft, r_gdft2, r_gdu, r_gdu2, pick_t, pick_f, ext_0, ext_1, x_newB, r_nil, r_fAddr, Nat.zero_add, b_lss, b_leq, b_gtr, b_geq, b_eql, b_neq, u_not, Bool.not_true, Bool.not_false, oneOf_one, oneOf_two, again_normal, again_exit, again_ret, Bool.and_true, plV_cells, w, l0, l2, l3, l4, l5, l6, c1, Bool.false_and, Bool.true_and]
  | true =>
      cases c2 : wi p.lanes 1 3 with
      | false => simp -implicitDefEqProofs only [r_opt, r_ret, ob_some, ifB_true, iteV_true, iteV_false, r_gdt, r_gdt2, r_gdtf, r_gdtf2, r_gdff, r_gdff2, r_gdft, r_gdft2, r_gdu, r_gdu2, pick_t, pick_f, ext_0, ext_1, x_newB, r_nil, r_fAddr, Nat.zero_add, b_lss, b_leq, b_gtr, b_geq, b_eql, b_neq, u_not, Bool.not_true, Bool.not_false, oneOf_one, oneOf_two, again_normal, again_exit, again_ret, Bool.and_true, plV_cells, w, l0, l2, l3, l4, l5, l6, c1, c2, Bool.false_and, Bool.true_and]
      | true =>
          cases c3 : wi p.room 1 8 with
          | false => simp -implicitDefEqProofs only [r_opt, r_ret, ob_some, ifB_true, iteV_true, iteV_false, r_gdt, r_gdt2, r_gdtf, r_gdtf2, r_gdff, r_gdff2, r_gdft, r_gdft2, r_gdu, r_gdu2, pick_t, pick_f, ext_0, ext_1, x_newB, r_nil, r_fAddr, Nat.zero_add, b_lss, b_leq, b_gtr, b_geq, b_eql, b_neq, u_not, Bool.not_true, Bool.not_false, oneOf_one, oneOf_two, again_normal, again_exit, again_ret, Bool.and_true, plV_cells, w, l0, l2, l3, l4, l5, l6, c1, c2, c3, Bool.false_and, Bool.true_and]
          | true =>
              cases c4 : wi p.queue 1 8 with
              | false => simp -implicitDefEqProofs only [r_opt, r_ret, ob_some, ifB_true, iteV_true, iteV_false, r_gdt, r_gdt2, r_gdtf, r_gdtf2, r_gdff, r_gdff2, r_gdft, r_gdft2, r_gdu, r_gdu2, pick_t, pick_f, ext_0, ext_1, x_newB, r_nil, r_fAddr, Nat.zero_add, b_lss, b_leq, b_gtr, b_geq, b_eql, b_neq, u_not, Bool.not_true, Bool.not_false, oneOf_one, oneOf_two, again_normal, again_exit, again_ret, Bool.and_true, plV_cells, w, l0, l2, l3, l4, l5, l6, c1, c2, c3, c4, Bool.false_and, Bool.true_and]
              | true =>
                  cases c5 : wi p.rounds 1 4 with
                  | false => simp -implicitDefEqProofs only [r_opt, r_ret, ob_some, ifB_true, iteV_true, iteV_false, r_gdt, r_gdt2, r_gdtf, r_gdtf2, r_gdff, r_gdff2, r_gdft, r_gdft2, r_gdu, r_gdu2, pick_t, pick_f, ext_0, ext_1, x_newB, r_nil, r_fAddr, Nat.zero_add, b_lss, b_leq, b_gtr, b_geq, b_eql, b_neq, u_not, Bool.not_true, Bool.not_false, oneOf_one, oneOf_two, again_normal, again_exit, again_ret, Bool.and_true, plV_cells, w, l0, l2, l3, l4, l5, l6, c1, c2, c3, c4, c5, Bool.false_and, Bool.true_and]
                  | true =>
                      cases c6 : wi p.every 1 8 with
                      | false => simp -implicitDefEqProofs only [r_opt, r_ret, ob_some, ifB_true, iteV_true, iteV_false, r_gdt, r_gdt2, r_gdtf, r_gdtf2, r_gdff, r_gdff2, r_gdft, r_gdft2, r_gdu, r_gdu2, pick_t, pick_f, ext_0, ext_1, x_newB, r_nil, r_fAddr, Nat.zero_add, b_lss, b_leq, b_gtr, b_geq, b_eql, b_neq, u_not, Bool.not_true, Bool.not_false, oneOf_one, oneOf_two, again_normal, again_exit, again_ret, Bool.and_true, plV_cells, w, l0, l2, l3, l4, l5, l6, c1, c2, c3, c4, c5, c6, Bool.false_and, Bool.true_and]
                      | true =>
                          simp -implicitDefEqProofs only [r_opt, r_ret, ob_some, ifB_true, iteV_true, iteV_false, r_gdt, r_gdt2, r_gdtf, r_gdtf2, r_gdff, r_gdff2, r_gdft, r_gdft2, r_gdu, r_gdu2, pick_t, pick_f, ext_0, ext_1, x_newB, r_nil, r_fAddr, Nat.zero_add, b_lss, b_leq, b_gtr, b_geq, b_eql, b_neq, u_not, Bool.not_true, Bool.not_false, oneOf_one, oneOf_two, again_normal, again_exit, again_ret, Bool.and_true, plV_cells, w, l0, l2, l3, l4, l5, l6, l7, c1, c2, c3, c4, c5, c6, Bool.true_and]
def fst (p : Nat → Bool) : Nat → Nat → Int
  | 0, _ => -1
  | q + 1, i => if p i = true then i else fst p q (i + 1)
theorem fst_pos (p : Nat → Bool) : ∀ q i, (0 ≤ fst p q i) ↔ ∃ j, i ≤ j ∧ j < i + q ∧ p j = true
  | 0, i => by simp [fst]; omega
  | q + 1, i => by
    unfold fst
    by_cases h : p i = true
    · rw [if_pos h]
      exact ⟨fun _ => ⟨i, by omega, by omega, h⟩, fun _ => by omega⟩
    · rw [if_neg h, fst_pos p q (i + 1)]
      constructor
      · rintro ⟨j, h1, h2, h3⟩
        exact ⟨j, by omega, by omega, h3⟩
      · rintro ⟨j, h1, h2, h3⟩
        have : j ≠ i := fun hh => h (hh ▸ h3)
        exact ⟨j, by omega, by omega, h3⟩
theorem fst_any (p : Nat → Bool) (n : Nat) : decide (0 ≤ fst p n 0) = (List.range n).any p := by
  rw [Bool.eq_iff_iff, decide_eq_true_iff, fst_pos, List.any_eq_true]
  constructor
  · rintro ⟨j, h1, h2, h3⟩
    exact ⟨j, List.mem_range.mpr (by omega), h3⟩
  · rintro ⟨j, h1, h2⟩
    exact ⟨j, by omega, by have := List.mem_range.mp h1; omega, h2⟩
theorem any_range {α : Type} (xs : List α) (q : α → Bool) (p : Nat → Bool) (h : ∀ i x, xs[i]? = some x → p i = q x) : (List.range xs.length).any p = xs.any q := by
  rw [Bool.eq_iff_iff, List.any_eq_true, List.any_eq_true]
  constructor
  · rintro ⟨i, h1, h2⟩
    have hi := List.mem_range.mp h1
    have hx : xs[i]? = some xs[i] := List.getElem?_eq_getElem hi
    exact ⟨xs[i], List.getElem_mem hi, by rw [← h i _ hx]; exact h2⟩
  · rintro ⟨x, h1, h2⟩
    obtain ⟨i, hi⟩ := List.getElem?_of_mem h1
    exact ⟨i, List.mem_range.mpr (List.getElem?_eq_some_iff.mp hi).1, by rw [h i x hi]; exact h2⟩
theorem ifI_loop {v fv : Value} {n : Nat} (p : Nat → Bool) (hd : ∀ i, i < n → ∃ a u, iAddr 1 v (.int .i64 (i : Nat)) = some a ∧ ld1 a H = some (u, H) ∧ callV (lvl Try.prog pk12 m) fv [u] H = some (.bool (p i), H)) (hn : n ≤ 72057594037927936) : ∀ (q i k : Nat), n - i = q → i ≤ n → q < k → ∀ (x2 x3 x4 x5 x6 x9 x10 x11 x12 x13 x14 x15 x16 x17 x18 : Value),
    loopN k (runCode Try.prog (lvl Try.prog pk12 m) (loopN m) f71_c0) (f71_k0 (lvl Try.prog pk12 m) (loopN m)) [v, fv, x2, x3, x4, x5, x6, (.int .i64 n), (.int .i64 (i : Nat)), x9, x10, x11, x12, x13, x14, x15, x16, x17, x18] H = some (.int .i64 (fst p q i), H) := by
  intro q
  induction q with
  | zero =>
    intro i k hr hi hk
    intros
    obtain ⟨k, rfl⟩ : ∃ n, k = n + 1 := ⟨k - 1, by omega⟩
    obtain rfl : i = n := by omega
    have e : decide ((i : Int) < i) = false := by simp
    rw [loop_succ, f71_b0_eq]
    unfold f71_b0
    simp -implicitDefEqProofs only [r_opt, r_ret, ob_some, ifB_true, iteV_true, iteV_false, r_gdt, r_gdt2, r_gdtf, r_gdtf2, r_gdff, r_gdff2, r_gdft, r_gdft2, r_gdu, r_gdu2, pick_t, pick_f, ext_0, ext_1, x_newB, r_nil, r_fAddr, Nat.zero_add, b_lss, b_leq, b_gtr, b_geq, b_eql, b_neq, u_not, Bool.not_true, Bool.not_false, oneOf_one, oneOf_two, again_normal, again_exit, again_ret, Bool.and_true, e]
    rw [f71_e0_0_eq]
    rfl
  | succ q ih =>
    intro i k hr hi hk
    intros
    obtain ⟨k, rfl⟩ : ∃ n, k = n + 1 := ⟨k - 1, by omega⟩
    have e : decide ((i : Int) < n) = true := by simp; omega
    have e3 : IntKind.i64.wrap ((i : Int) + 1) = ((i + 1 : Nat) : Int) := by rw [wrap_i64 (by omega) (by omega)]; omega
    obtain ⟨a, u, g1, g2, g3⟩ := hd i (by omega)
    rw [loop_succ, f71_b0_eq]
    unfold f71_b0 fst
    cases h : p i with
    | true =>
      rw [h] at g3
      simp -implicitDefEqProofs only [r_opt, r_ret, ob_some, ifB_true, iteV_true, iteV_false, r_gdt, r_gdt2, r_gdtf, r_gdtf2, r_gdff, r_gdff2, r_gdft, r_gdft2, r_gdu, r_gdu2, pick_t, pick_f, ext_0, ext_1, x_newB, r_nil, r_fAddr, Nat.zero_add, b_lss, b_leq, b_gtr, b_geq, b_eql, b_neq, u_not, Bool.not_true, Bool.not_false, oneOf_one, oneOf_two, again_normal, again_exit, again_ret, Bool.and_true, e, g1, g2, g3, if_true]
      rw [f71_r0_eq]
      rfl
    | false =>
      rw [h] at g3
      simp -implicitDefEqProofs only [r_opt, r_ret, ob_some, ifB_true, iteV_true, iteV_false, r_gdt, r_gdt2, r_gdtf, r_gdtf2, r_gdff, r_gdff2, r_gdft, r_gdft2, r_gdu, r_gdu2, pick_t, pick_f, ext_0, ext_1, x_newB, r_nil, r_fAddr, Nat.zero_add, b_lss, b_leq, b_gtr, b_geq, b_eql, b_neq, u_not, Bool.not_true, Bool.not_false, oneOf_one, oneOf_two, again_normal, again_exit, again_ret, Bool.and_true, e, g1, g2, g3, b_add, e3, Bool.false_eq_true, if_false]
      exact ih (i + 1) k (by omega) (by omega) (by omega) ..
theorem cfI_is {v fv : Value} {n : Nat} (p : Nat → Bool) (hl : lenSl v = some (.int .i64 n)) (hn : n + 10 < m) (hm : m ≤ 72057594037927936) (hd : ∀ i, i < n → ∃ a u, iAddr 1 v (.int .i64 (i : Nat)) = some a ∧ ld1 a H = some (u, H) ∧ callV (lvl Try.prog pk12 (m - 1 - 1)) fv [u] H = some (.bool (p i), H)) :
    lvl Try.prog pk12 m (.func 57) [v, fv] H = some (.bool ((List.range n).any p), H) := by
  have g : lvl Try.prog pk12 (m - 1) (.func 71) [v, fv] H = some (.int .i64 (fst p n 0), H) := by
    refine lvl_at (pk_no rfl rfl) (by omega) ?_
    rw [f71_eq]
    unfold f71
    simp -implicitDefEqProofs only [r_opt, r_ret, ob_some, ifB_true, iteV_true, iteV_false, r_gdt, r_gdt2, r_gdtf, r_gdtf2, r_gdff, r_gdff2, r_gdft, r_gdft2, r_gdu, r_gdu2, pick_t, pick_f, ext_0, ext_1, x_newB, r_nil, r_fAddr, Nat.zero_add, b_lss, b_leq, b_gtr, b_geq, b_eql, b_neq, u_not, Bool.not_true, Bool.not_false, oneOf_one, oneOf_two, again_normal, again_exit, again_ret, Bool.and_true, hl]
    exact ifI_loop p hd (by omega) n 0 (m - 1 - 1) (by omega) (by omega) (by omega) ..
  refine lvl_at (pk_no rfl rfl) (by omega) ?_
  rw [f57_eq]
  unfold f57
  simp -implicitDefEqProofs only [r_opt, r_ret, ob_some, ifB_true, iteV_true, iteV_false, r_gdt, r_gdt2, r_gdtf, r_gdtf2, r_gdff, r_gdff2, r_gdft, r_gdft2, r_gdu, r_gdu2, pick_t, pick_f, ext_0, ext_1, x_newB, r_nil, r_fAddr, Nat.zero_add, b_lss, b_leq, b_gtr, b_geq, b_eql, b_neq, u_not, Bool.not_true, Bool.not_false, oneOf_one, oneOf_two, again_normal, again_exit, again_ret, Bool.and_true, g, fst_any]
theorem ifR_loop {v fv : Value} {n : Nat} (p : Nat → Bool) (hd : ∀ i, i < n → ∃ a u, iAddr 1 v (.int .i64 (i : Nat)) = some a ∧ ld1 a H = some (u, H) ∧ callV (lvl Try.prog pk12 m) fv [u] H = some (.bool (p i), H)) (hn : n ≤ 72057594037927936) : ∀ (q i k : Nat), n - i = q → i ≤ n → q < k → ∀ (x2 x3 x4 x5 x6 x9 x10 x11 x12 x13 x14 x15 x16 x17 x18 : Value),
    loopN k (runCode Try.prog (lvl Try.prog pk12 m) (loopN m) f59_c0) (f59_k0 (lvl Try.prog pk12 m) (loopN m)) [v, fv, x2, x3, x4, x5, x6, (.int .i64 n), (.int .i64 (i : Nat)), x9, x10, x11, x12, x13, x14, x15, x16, x17, x18] H = some (.int .i64 (fst p q i), H) := by
  intro q
  induction q with
  | zero =>
    intro i k hr hi hk
    intros
    obtain ⟨k, rfl⟩ : ∃ n, k = n + 1 := ⟨k - 1, by omega⟩
    obtain rfl : i = n := by omega
    have e : decide ((i : Int) < i) = false := by simp
    rw [loop_succ, f59_b0_eq]
    unfold f59_b0
    simp -implicitDefEqProofs only [r_opt, r_ret, ob_some, ifB_true, iteV_true, iteV_false, r_gdt, r_gdt2, r_gdtf, r_gdtf2, r_gdff, r_gdff2, r_gdft, r_gdft2, r_gdu, r_gdu2, pick_t, pick_f, ext_0, ext_1, x_newB, r_nil, r_fAddr, Nat.zero_add, b_lss, b_leq, b_gtr, b_geq, b_eql, b_neq, u_not, Bool.not_true, Bool.not_false, oneOf_one, oneOf_two, again_normal, again_exit, again_ret, Bool.and_true, e]
    rw [f59_e0_0_eq]
    rfl
  | succ q ih =>
    intro i k hr hi hk
    intros
    obtain ⟨k, rfl⟩ : ∃ n, k = n + 1 := ⟨k - 1, by omega⟩
    have e : decide ((i : Int) < n) = true := by simp; omega
    have e3 : IntKind.i64.wrap ((i : Int) + 1) = ((i + 1 : Nat) : Int) := by rw [wrap_i64 (by omega) (by omega)]; omega
    obtain ⟨a, u, g1, g2, g3⟩ := hd i (by omega)
    rw [loop_succ, f59_b0_eq]
    unfold f59_b0 fst
    cases h : p i with
    | true =>
      rw [h] at g3
      simp -implicitDefEqProofs only [r_opt, r_ret, ob_some, ifB_true, iteV_true, iteV_false, r_gdt, r_gdt2, r_gdtf, r_gdtf2, r_gdff, r_gdff2, r_gdft, r_gdft2, r_gdu, r_gdu2, pick_t, pick_f, ext_0, ext_1, x_newB, r_nil, r_fAddr, Nat.zero_add, b_lss, b_leq, b_gtr, b_geq, b_eql, b_neq, u_not, Bool.not_true, Bool.not_false, oneOf_one, oneOf_two, again_normal, again_exit, again_ret, Bool.and_true, e, g1, g2, g3, if_true]
      rw [f59_r0_eq]
      rfl
    | false =>
      rw [h] at g3
      simp -implicitDefEqProofs only [r_opt, r_ret, ob_some, ifB_true, iteV_true, iteV_false, r_gdt, r_gdt2, r_gdtf, r_gdtf2, r_gdff, r_gdff2, r_gdft, r_gdft2, r_gdu, r_gdu2, pick_t, pick_f, ext_0, ext_1, x_newB, r_nil, r_fAddr, Nat.zero_add, b_lss, b_leq, b_gtr, b_geq, b_eql, b_neq, u_not, Bool.not_true, Bool.not_false, oneOf_one, oneOf_two, again_normal, again_exit, again_ret, Bool.and_true, e, g1, g2, g3, b_add, e3, Bool.false_eq_true, if_false]
      exact ih (i + 1) k (by omega) (by omega) (by omega) ..
theorem cfR_is {v fv : Value} {n : Nat} (p : Nat → Bool) (hl : lenSl v = some (.int .i64 n)) (hn : n + 10 < m) (hm : m ≤ 72057594037927936) (hd : ∀ i, i < n → ∃ a u, iAddr 1 v (.int .i64 (i : Nat)) = some a ∧ ld1 a H = some (u, H) ∧ callV (lvl Try.prog pk12 (m - 1 - 1)) fv [u] H = some (.bool (p i), H)) :
    lvl Try.prog pk12 m (.func 36) [v, fv] H = some (.bool ((List.range n).any p), H) := by
  have g : lvl Try.prog pk12 (m - 1) (.func 59) [v, fv] H = some (.int .i64 (fst p n 0), H) := by
    refine lvl_at (pk_no rfl rfl) (by omega) ?_
    rw [f59_eq]
    unfold f59
    simp -implicitDefEqProofs only [r_opt, r_ret, ob_some, ifB_true, iteV_true, iteV_false, r_gdt, r_gdt2, r_gdtf, r_gdtf2, r_gdff, r_gdff2, r_gdft, r_gdft2, r_gdu, r_gdu2, pick_t, pick_f, ext_0, ext_1, x_newB, r_nil, r_fAddr, Nat.zero_add, b_lss, b_leq, b_gtr, b_geq, b_eql, b_neq, u_not, Bool.not_true, Bool.not_false, oneOf_one, oneOf_two, again_normal, again_exit, again_ret, Bool.and_true, hl]
    exact ifR_loop p hd (by omega) n 0 (m - 1 - 1) (by omega) (by omega) (by omega) ..
  refine lvl_at (pk_no rfl rfl) (by omega) ?_
  rw [f36_eq]
  unfold f36
  simp -implicitDefEqProofs only [r_opt, r_ret, ob_some, ifB_true, iteV_true, iteV_false, r_gdt, r_gdt2, r_gdtf, r_gdtf2, r_gdff, r_gdff2, r_gdft, r_gdft2, r_gdu, r_gdu2, pick_t, pick_f, ext_0, ext_1, x_newB, r_nil, r_fAddr, Nat.zero_add, b_lss, b_leq, b_gtr, b_geq, b_eql, b_neq, u_not, Bool.not_true, Bool.not_false, oneOf_one, oneOf_two, again_normal, again_exit, again_ret, Bool.and_true, g, fst_any]
theorem eEdge (a b : Ed) : bin Try.prog .eql 33 (edV a) (edV b) = some (.bool (a == b)) := by
  have k : kindsOf Try.prog 33 = some [true, true] := by kernel_rfl
  obtain ⟨a1, a2⟩ := a
  obtain ⟨b1, b2⟩ := b
  simp [bin, edV, flat, eqAny, k, eqT, edC]
  rfl
theorem ixE_loop {v : Value} {xs : List Ed} {a : Nat} {y : Ed} (hx : Es H v xs) (ha : H[a]? = some (.cells (edC y) 33 .fix)) (hn : xs.length ≤ 72057594037927936) : ∀ (q i k : Nat), xs.length - i = q → i ≤ xs.length → q < k → ∀ (x1 x2 x4 x5 x6 x9 x10 x11 x12 x13 x14 x15 x16 x17 x18 : Value),
    loopN k (runCode Try.prog (lvl Try.prog pk12 m) (loopN m) f70_c0) (f70_k0 (lvl Try.prog pk12 m) (loopN m)) [v, x1, x2, (.pointer (some ⟨a, 0, none⟩)), x4, x5, x6, (.int .i64 xs.length), (.int .i64 (i : Nat)), x9, x10, x11, x12, x13, x14, x15, x16, x17, x18] H = some (.int .i64 (fst (fun j => xs[j]? == some y) q i), H) := by
  intro q
  have la : ldN 2 (.pointer (some ⟨a, 0, none⟩)) H = some (edV y, H) := by
    rw [x_ldN, ha, x_ldNC _ _ _ _ _ (by simp [edC])]
    rfl
  induction q with
  | zero =>
    intro i k hr hi hk
    intros
    obtain ⟨k, rfl⟩ : ∃ n, k = n + 1 := ⟨k - 1, by omega⟩
    obtain rfl : i = xs.length := by omega
    have e : decide ((xs.length : Int) < xs.length) = false := by simp
    rw [loop_succ, f70_b0_eq]
    unfold f70_b0
    simp -implicitDefEqProofs only [r_opt, r_ret, ob_some, ifB_true, iteV_true, iteV_false, r_gdt, r_gdt2, r_gdtf, r_gdtf2, r_gdff, r_gdff2, r_gdft, r_gdft2, r_gdu, r_gdu2, pick_t, pick_f, ext_0, ext_1, x_newB, r_nil, r_fAddr, Nat.zero_add, b_lss, b_leq, b_gtr, b_geq, b_eql, b_neq, u_not, Bool.not_true, Bool.not_false, oneOf_one, oneOf_two, again_normal, again_exit, again_ret, Bool.and_true, e]
    rw [f70_e0_0_eq]
    rfl
  | succ q ih =>
    intro i k hr hi hk
    intros
    obtain ⟨k, rfl⟩ : ∃ n, k = n + 1 := ⟨k - 1, by omega⟩
    have e : decide ((i : Int) < xs.length) = true := by simp; omega
    have e3 : IntKind.i64.wrap ((i : Int) + 1) = ((i + 1 : Nat) : Int) := by rw [wrap_i64 (by omega) (by omega)]; omega
    have hxi : xs[i]? = some xs[i] := List.getElem?_eq_getElem (by omega)
    obtain ⟨b, o, g1, g2, g3⟩ := hx.at_ edC_len hxi .i64
    have l1 : ldN 2 (.pointer (some ⟨b, o, none⟩)) H = some (edV xs[i], H) := (g3 H rfl).1
    rw [loop_succ, f70_b0_eq]
    unfold f70_b0 fst
    by_cases h : y = xs[i]
    · have d : (y == xs[i]) = true := by rw [h]; simp
      have d2 : (xs[i]? == some y) = true := by rw [hxi, h]; simp
      simp -implicitDefEqProofs only [r_opt, r_ret, ob_some, ifB_true, iteV_true, iteV_false, r_gdt, r_gdt2, r_gdtf, r_gdtf2, r_gdff, r_gdff2, r_gdft, r_gdft2, r_gdu, r_gdu2, pick_t, pick_f, ext_0, ext_1, x_newB, r_nil, r_fAddr, Nat.zero_add, b_lss, b_leq, b_gtr, b_geq, b_eql, b_neq, u_not, Bool.not_true, Bool.not_false, oneOf_one, oneOf_two, again_normal, again_exit, again_ret, Bool.and_true, e, la, g1, l1, eEdge, d]
      rw [f70_r0_eq, if_pos d2]
      rfl
    · have d : (y == xs[i]) = false := by simpa using h
      have d2 : ¬ (xs[i]? == some y) = true := by rw [hxi]; simpa using fun hh => h hh.symm
      simp -implicitDefEqProofs only [r_opt, r_ret, ob_some, ifB_true, iteV_true, iteV_false, r_gdt, r_gdt2, r_gdtf, r_gdtf2, r_gdff, r_gdff2, r_gdft, r_gdft2, r_gdu, r_gdu2, pick_t, pick_f, ext_0, ext_1, x_newB, r_nil, r_fAddr, Nat.zero_add, b_lss, b_leq, b_gtr, b_geq, b_eql, b_neq, u_not, Bool.not_true, Bool.not_false, oneOf_one, oneOf_two, again_normal, again_exit, again_ret, Bool.and_true, e, la, g1, l1, eEdge, d, b_add, e3]
      rw [if_neg d2]
      exact ih (i + 1) k (by omega) (by omega) (by omega) ..
theorem hasE_is {v : Value} {xs : List Ed} (hx : Es H v xs) (y : Ed) (hn : xs.length + 10 < m) (hm : m ≤ 72057594037927936) : ∃ H', lvl Try.prog pk12 m (.func 55) [v, edV y] H = some (.bool (xs.any fun x => x == y), H') ∧ Ext H H' := by
  have c : Blk.cells (edV y).cells.toList 33 .fix = .cells (edC y) 33 .fix := rfl
  have b0 := at_last H (.cells (edC y) 33 .fix)
  have l0 : ldN 2 (.pointer (some ⟨H.length, 0, none⟩)) (H ++ [.cells (edC y) 33 .fix]) = some (edV y, H ++ [.cells (edC y) 33 .fix]) := by
    rw [x_ldN, b0, x_ldNC _ _ _ _ _ (by simp [edC])]
    rfl
  obtain ⟨H1, hH1⟩ : ∃ H1, H1 = H ++ [Blk.cells (edC y) 33 .fix] := ⟨_, rfl⟩
  have x1 : Ext H H1 := by rw [hH1]; exact Fr.app _ _ _
  have x2 : Ext H (H1 ++ [.cells (edC y) 33 .fix]) := x1.tr (Fr.app _ _ _)
  have hx2 := hx.ext x2
  have hlen := hx.len
  have g : lvl Try.prog pk12 (m - 1) (.func 70) [v, edV y] H1 = some (.int .i64 (fst (fun j => xs[j]? == some y) xs.length 0), H1 ++ [.cells (edC y) 33 .fix]) := by
    refine lvl_at (pk_no rfl rfl) (by omega) ?_
    rw [f70_eq]
    unfold f70
    simp -implicitDefEqProofs only [r_opt, r_ret, ob_some, ifB_true, iteV_true, iteV_false, r_gdt, r_gdt2, r_gdtf, r_gdtf2, r_gdff, r_gdff2, r_gdft, r_gdft2, r_gdu, r_gdu2, pick_t, pick_f, ext_0, ext_1, x_newB, r_nil, r_fAddr, Nat.zero_add, b_lss, b_leq, b_gtr, b_geq, b_eql, b_neq, u_not, Bool.not_true, Bool.not_false, oneOf_one, oneOf_two, again_normal, again_exit, again_ret, Bool.and_true, c, hlen]
    exact ixE_loop hx2 (at_last H1 _) (by omega) xs.length 0 (m - 1 - 1) (by omega) (by omega) (by omega) ..
  refine ⟨_, lvl_at (pk_no rfl rfl) (by omega) ?_, x2⟩
  rw [f55_eq]
  unfold f55
  have hb : decide (0 ≤ fst (fun j => xs[j]? == some y) xs.length 0) = xs.any fun x => x == y := by
    rw [fst_any]
    exact any_range xs _ _ fun i x h => by rw [h]; rfl
  rw [← hH1] at l0
  simp -implicitDefEqProofs only [r_opt, r_ret, ob_some, ifB_true, iteV_true, iteV_false, r_gdt, r_gdt2, r_gdtf, r_gdtf2, r_gdff, r_gdff2, r_gdft, r_gdft2, r_gdu, r_gdu2, pick_t, pick_f, ext_0, ext_1, x_newB, r_nil, r_fAddr, Nat.zero_add, b_lss, b_leq, b_gtr, b_geq, b_eql, b_neq, u_not, Bool.not_true, Bool.not_false, oneOf_one, oneOf_two, again_normal, again_exit, again_ret, Bool.and_true, c, ← hH1, l0, g, hb]
def edOk (n : Int) : List Ed → List Ed → Bool
  | _, [] => true
  | old, e :: r => (!(decide (e.1 < 0) || (decide (e.2 ≤ e.1) || (decide (n ≤ e.2) || old.any fun x => x == e)))) && edOk n (old ++ [e]) r
def edgesOk (p : PlanD) : Bool := edOk p.nodes [] p.edges && decide ((p.edges.length : Int) ≤ 15)
theorem edges_loop {a : Nat} (hx : Es H ev p.edges) (hn : p.edges.length + 20 < m) (hm : m ≤ 72057594037927936) : ∀ (q i k : Nat) (H' : Heap), p.edges.length - i = q → i ≤ p.edges.length → q < k → Ext H H' → H'[a]? = some (plB p ev wv nv) → ∀ (x0 x3 x4 x5 x9 x10 x11 x12 x13 x14 x15 x16 x17 x18 x19 x20 x21 x22 x23 x24 x25 x26 x27 x28 x29 x30 x31 x32 x33 x34 x35 x36 x37 x38 x39 x40 x41 x42 : Value),
    ∃ H2, loopN k (runCode Try.prog (lvl Try.prog pk12 m) (loopN m) f34_c0) (f34_k0 (lvl Try.prog pk12 m) (loopN m)) [x0, (.pointer (some ⟨a, 0, none⟩)), (.bool false), x3, x4, x5, ev, (.int .i64 p.edges.length), (.int .i64 (i : Nat)), x9, x10, x11, x12, x13, x14, x15, x16, x17, x18, x19, x20, x21, x22, x23, x24, x25, x26, x27, x28, x29, x30, x31, x32, x33, x34, x35, x36, x37, x38, x39, x40, x41, x42] H' = some (.bool (edOk p.nodes (p.edges.take i) (p.edges.drop i) && decide ((p.edges.length : Int) ≤ 15)), H2) ∧ Ext H H2 := by
  intro q
  induction q with
  | zero =>
    intro i k H' hr hi hk he ha
    intros
    obtain ⟨k, rfl⟩ : ∃ n, k = n + 1 := ⟨k - 1, by omega⟩
    obtain rfl : i = p.edges.length := by omega
    have e : decide ((p.edges.length : Int) < p.edges.length) = false := by simp
    have l1 := ld_pl ha 1 _ rfl
    have hlen := hx.len
    refine ⟨H', ?_, he⟩
    rw [loop_succ, f34_b0_eq]
    unfold f34_b0
    simp -implicitDefEqProofs only [r_opt, r_ret, ob_some, ifB_true, iteV_true, iteV_false, r_gdt, r_gdt2, r_gdtf, r_gdtf2, r_gdff, r_gdff2, r_gdft, r_gdft2, r_gdu, r_gdu2, pick_t, pick_f, ext_0, ext_1, x_newB, r_nil, r_fAddr, Nat.zero_add, b_lss, b_leq, b_gtr, b_geq, b_eql, b_neq, u_not, Bool.not_true, Bool.not_false, oneOf_one, oneOf_two, again_normal, again_exit, again_ret, Bool.and_true, e]
    rw [f34_e0_0_eq]
    unfold f34_e0_0
    rw [List.drop_length, edOk, Bool.true_and]
    simp -implicitDefEqProofs only [r_opt, r_ret, ob_some, ifB_true, iteV_true, iteV_false, r_gdt, r_gdt2, r_gdtf, r_gdtf2, r_gdff, r_gdff2, r_gdft, r_gdft2, r_gdu, r_gdu2, pick_t, pick_f, ext_0, ext_1, x_newB, r_nil, r_fAddr, Nat.zero_add, b_lss, b_leq, b_gtr, b_geq, b_eql, b_neq, u_not, Bool.not_true, Bool.not_false, oneOf_one, oneOf_two, again_normal, again_exit, again_ret, Bool.and_true, l1, hlen]
  | succ q ih =>
    intro i k H' hr hi hk he ha
    intros
    obtain ⟨k, rfl⟩ : ∃ n, k = n + 1 := ⟨k - 1, by omega⟩
    have e : decide ((i : Int) < p.edges.length) = true := by simp; omega
    have e3 : IntKind.i64.wrap ((i : Int) + 1) = ((i + 1 : Nat) : Int) := by rw [wrap_i64 (by omega) (by omega)]; omega
    have hxi : p.edges[i]? = some p.edges[i] := List.getElem?_eq_getElem (by omega)
    obtain ⟨b, o, g1, g2, g3⟩ := (hx.ext he).at_ edC_len hxi .i64
    obtain ⟨y, hy⟩ : ∃ y, y = p.edges[i] := ⟨_, rfl⟩
    have l1 : ldN 2 (.pointer (some ⟨b, o, none⟩)) H' = some (edV y, H') := by rw [hy]; exact (g3 H' rfl).1
    have hdrop : p.edges.drop i = y :: p.edges.drop (i + 1) := by rw [hy]; exact List.drop_eq_getElem_cons (by omega)
    have htake : p.edges.take i ++ [y] = p.edges.take (i + 1) := by rw [List.take_add_one, hxi, hy]; rfl
    have z : Blk.cells [Value.int .i64 0, .int .i64 0] 33 .fix = .cells (edC (0, 0)) 33 .fix := rfl
    have st : stN 2 (.pointer (some ⟨H'.length, 0, none⟩)) (edV y) (H' ++ [.cells (edC (0, 0)) 33 .fix]) = some (undef, H' ++ [.cells (edC y) 33 .fix]) := by
      rw [x_stN 2 _ _ _ rfl, at_last, x_stC _ _ _ _ _ _ (by decide) (by simp [edC, edV, Value.cells]) rfl]
      simp [edC, edV, Value.cells, setCells]
    obtain ⟨H1, hH1⟩ : ∃ H1, H1 = H' ++ [Blk.cells (edC y) 33 .fix] := ⟨_, rfl⟩
    rw [← hH1] at st
    have x1 : Ext H' H1 := by rw [hH1]; exact Fr.app _ _ _
    have hb1 : H1[H'.length]? = some (.cells (edC y) 33 .fix) := by rw [hH1]; exact at_last _ _
    have la : ld1 (.pointer (some ⟨H'.length, 0, none⟩)) H1 = some (.int .i64 y.1, H1) := by rw [x_ld1, hb1]; rfl
    have lb : ld1 (.pointer (some ⟨H'.length, 1, none⟩)) H1 = some (.int .i64 y.2, H1) := by rw [x_ld1, hb1]; rfl
    have lab : ldN 2 (.pointer (some ⟨H'.length, 0, none⟩)) H1 = some (edV y, H1) := by
      rw [x_ldN, hb1, x_ldNC _ _ _ _ _ (by simp [edC])]
      rfl
    have ha1 := ld_of ha x1
    have p0 := ld_pl ha1 0 _ rfl
    have p1 := ld_pl ha1 1 _ rfl
    obtain ⟨v', s1, s2, s3⟩ := ((hx.ext he).ext x1).sub (P := Try.prog) edC_len szEdge (fun h => by have := congrArg List.length h; simp only [List.length_nil] at this; omega) (lo := none) rfl (bnd_nat p.edges.length .i64 i) (Nat.zero_le _) (by omega)
    rw [List.drop_zero] at s2
    obtain ⟨H2, t1, t2⟩ := hasE_is s2 y (m := m) (by rw [List.length_take]; omega) hm
    rw [loop_succ, f34_b0_eq, hdrop, edOk, htake]
    unfold f34_b0
    by_cases c1 : y.1 < 0
    · refine ⟨H1, ?_, he.tr x1⟩
      simp -implicitDefEqProofs only [r_opt, r_ret, ob_some, ifB_true, iteV_true, iteV_false, r_gdt, r_gdt2, r_gdtf, r_gdtf2, r_gdff, r_gdff2, r_gdft, r_gdft2, r_gdu, r_gdu2, pick_t, pick_f, ext_0, ext_1, x_newB, r_nil, r_fAddr, Nat.zero_add, b_lss, b_leq, b_gtr, b_geq, b_eql, b_neq, u_not, Bool.not_true, Bool.not_false, oneOf_one, oneOf_two, again_normal, again_exit, again_ret, Bool.and_true, e, g1, l1, z, st, la, lb, c1, decide_true, Bool.true_or, Bool.false_and]
      rw [f34_r0_eq]
      rfl
    · by_cases c2 : y.2 ≤ y.1
      · refine ⟨H1, ?_, he.tr x1⟩
        simp -implicitDefEqProofs only [r_opt, r_ret, ob_some, ifB_true, iteV_true, iteV_false, r_gdt, r_gdt2, r_gdtf, r_gdtf2, r_gdff, r_gdff2, r_gdft, r_gdft2, r_gdu, r_gdu2, pick_t, pick_f, ext_0, ext_1, x_newB, r_nil, r_fAddr, Nat.zero_add, b_lss, b_leq, b_gtr, b_geq, b_eql, b_neq, u_not, Bool.not_true, Bool.not_false, oneOf_one, oneOf_two, again_normal, again_exit, again_ret, Bool.and_true, e, g1, l1, z, st, la, lb, c1, c2, decide_true, decide_false, Bool.false_or, Bool.true_or, Bool.false_and]
        rw [f34_r0_eq]
        rfl
      · by_cases c3 : p.nodes ≤ y.2
        · refine ⟨H1, ?_, he.tr x1⟩
          simp -implicitDefEqProofs only [r_opt, r_ret, ob_some, ifB_true, iteV_true, iteV_false, r_gdt, r_gdt2, r_gdtf, r_gdtf2, r_gdff, r_gdff2, r_gdft, r_gdft2, r_gdu, r_gdu2, pick_t, pick_f, ext_0, ext_1, x_newB, r_nil, r_fAddr, Nat.zero_add, b_lss, b_leq, b_gtr, b_geq, b_eql, b_neq, u_not, Bool.not_true, Bool.not_false, oneOf_one, oneOf_two, again_normal, again_exit, again_ret, Bool.and_true, e, g1, l1, z, st, la, lb, p0, c1, c2, c3, decide_true, decide_false, Bool.false_or, Bool.true_or, Bool.false_and]
          rw [f34_r0_eq]
          rfl
        · cases c4 : (p.edges.take i).any fun x => x == y with
          | true =>
            rw [c4] at t1
            refine ⟨H2, ?_, (he.tr x1).tr t2⟩
            simp -implicitDefEqProofs only [r_opt, r_ret, ob_some, ifB_true, iteV_true, iteV_false, r_gdt, r_gdt2, r_gdtf, r_gdtf2, r_gdff, r_gdff2, r_gdft, r_gdft2, r_gdu, r_gdu2, pick_t, pick_f, ext_0, ext_1, x_newB, r_nil, r_fAddr, Nat.zero_add, b_lss, b_leq, b_gtr, b_geq, b_eql, b_neq, u_not, Bool.not_true, Bool.not_false, oneOf_one, oneOf_two, again_normal, again_exit, again_ret, Bool.and_true, e, g1, l1, z, st, la, lb, lab, p0, p1, s1, t1, c1, c2, c3, decide_true, decide_false, Bool.false_or, Bool.false_and]
            rw [f34_r0_eq]
            rfl
          | false =>
            rw [c4] at t1
            simp -implicitDefEqProofs only [r_opt, r_ret, ob_some, ifB_true, iteV_true, iteV_false, r_gdt, r_gdt2, r_gdtf, r_gdtf2, r_gdff, r_gdff2, r_gdft, r_gdft2, r_gdu, r_gdu2, pick_t, pick_f, ext_0, ext_1, x_newB, r_nil, r_fAddr, Nat.zero_add, b_lss, b_leq, b_gtr, b_geq, b_eql, b_neq, u_not, Bool.not_true, Bool.not_false, oneOf_one, oneOf_two, again_normal, again_exit, again_ret, Bool.and_true, e, g1, l1, z, st, la, lb, lab, p0, p1, s1, t1, c1, c2, c3, decide_false, Bool.false_or, Bool.true_and, b_add, e3]
            exact ih (i + 1) k H2 (by omega) (by omega) (by omega) ((he.tr x1).tr t2) (ld_of ha1 t2) ..
theorem edges_is (hp : PV H p ev wv nv) (hn : p.edges.length + 20 < m - 1) (hm : m ≤ 72057594037927936) : ∃ H', lvl Try.prog pk12 m (.func 34) [plV p ev wv nv] H = some (.bool (edgesOk p), H') ∧ Ext H H' := by
  refine lvl_ex1 (pk_no rfl rfl) (by omega) ?_
  have hb := at_last H (plB p ev wv nv)
  have l1 := ld_pl hb 1 _ rfl
  have hlen := hp.e.len
  rw [f34_eq]
  unfold f34
  simp -implicitDefEqProofs only [r_opt, r_ret, ob_some, ifB_true, iteV_true, iteV_false, r_gdt, r_gdt2, r_gdtf, r_gdtf2, r_gdff, r_gdff2, r_gdft, r_gdft2, r_gdu, r_gdu2, pick_t, pick_f, ext_0, ext_1, x_newB, r_nil, r_fAddr, Nat.zero_add, b_lss, b_leq, b_gtr, b_geq, b_eql, b_neq, u_not, Bool.not_true, Bool.not_false, oneOf_one, oneOf_two, again_normal, again_exit, again_ret, Bool.and_true, plV_cells, l1, hlen]
  exact edges_loop hp.e (m := m - 1) hn (by omega) p.edges.length 0 (m - 1) _ (by omega) (by omega) (by omega) (Fr.app _ _ _) hb ..
end
end Go.Proofs.Ytdobnaldfmpimaa
