import Derived.Test.YtfplfbaebiaanaaGreatTb
namespace Go.Proofs.YtfplfbaebiaanaaGreat
open Go.RowKit Go.Fe
noncomputable def fe3 : FnE := ⟨Tryz.f3, .n 13 (.fin [0, 1, 2, 3, 4, 5, 6, 7, 8, 9, 10, 11, 12, 13, 14, 15, 16, 17, 18, 19]) .l (.n 14 (.fin [0, 1, 2, 3, 4, 5, 6, 7, 8, 9, 10, 11, 12, 13, 14, 15, 16, 17, 18, 19]) .l (.n 19 (.bar [0, 1, 2, 3, 4, 5, 6, 7, 8, 9, 10] 11 [] (.fin [12, 13, 14, 15, 16])) .l (.n 20 (.bar [0, 1, 2, 3, 4, 5, 6, 7, 8, 9, 10] 11 [] (.fin [12, 13, 14, 15, 16])) .l (.l)))), false, fun _ => none⟩
noncomputable def fe4 : FnE := ⟨Tryz.f4, .n 12 (.bar [0, 1, 2, 3, 4, 5, 6, 7, 8, 9, 10] 11 [] (.fin [12, 13, 14, 15, 16])) .l (.n 13 (.fin [0, 1, 2, 3, 4, 5, 6, 7, 8, 9, 10, 11, 12, 13, 14, 15, 16, 17, 18, 19]) .l (.l)), false, fun _ => none⟩
noncomputable def fe5 : FnE := ⟨Tryz.f5, .l, false, fun _ => none⟩
noncomputable def fe6 : FnE := ⟨Tryz.f6, .l, false, fun _ => none⟩
noncomputable def fe7 : FnE := ⟨Tryz.f7, .l, false, fun _ => none⟩
noncomputable def fe8 : FnE := ⟨Tryz.f8, .l, false, fun _ => none⟩
noncomputable def fe9 : FnE := ⟨Tryz.f9, .l, true, fun _ => none⟩
noncomputable def fe10 : FnE := ⟨Tryz.f10, .l, false, fun _ => none⟩
noncomputable def fe11 : FnE := ⟨Tryz.f11, .n 5 (.bar [0, 1, 2, 3, 4, 5, 6, 7, 8, 9, 10, 11, 12, 13, 14, 15, 16, 17, 18, 19, 20] 21 [5, 10, 15] (.as [22] [23] (.bar [] 24 [] (.fin [25])))) .l (.l), false, fun _ => none⟩
noncomputable def fe12 : FnE := ⟨Tryz.f12, .l, false, fun _ => none⟩
noncomputable def fe13 : FnE := ⟨Tryz.f13, .l, false, fun _ => none⟩
noncomputable def fe14 : FnE := ⟨Tryz.f14, .l, true, fun _ => none⟩
noncomputable def fe15 : FnE := ⟨Tryz.f15, .l, true, fun _ => none⟩
noncomputable def fe16 : FnE := ⟨Tryz.f16, .n 3 (.bar [0, 2, 3, 4, 5, 6, 7] 1 [5, 6, 7] (.fin [8, 9, 10, 11, 12, 13, 14, 15])) .l (.l), false, fun _ => none⟩
noncomputable def fe17 : FnE := ⟨Tryz.f17, .n 1 (.fin [0, 1, 2, 3, 4, 5, 6, 7, 8, 9, 10, 11, 12, 13, 14, 15, 16, 17]) .l (.l), false, fun _ => none⟩
noncomputable def fe18 : FnE := ⟨Tryz.f18, .n 3 (.bar [0, 1, 2, 4, 5, 6] 3 [] (.bar [] 7 [] (.fin [8, 9]))) .l (.l), false, fun _ => none⟩
noncomputable def fe19 : FnE := ⟨Tryz.f19, .l, true, fun _ => none⟩
noncomputable def fe20 : FnE := ⟨Tryz.f20, .n 10 (.bar [0, 1, 2, 3, 4, 5] 6 [] (.fin [7, 8, 9, 10, 11])) .l (.l), true, fun _ => none⟩
noncomputable def fe21 : FnE := ⟨Tryz.f21, .l, false, fun _ => none⟩
noncomputable def fe22 : FnE := ⟨Tryz.f22, .n 6 (.fin [0, 1, 2, 3, 4, 5, 6, 7, 8]) .l (.l), true, fun _ => none⟩
noncomputable def fe23 : FnE := ⟨Tryz.f23, .n 6 (.fin [0, 1, 2, 3, 4, 5, 6, 7, 8, 9, 10, 11, 12, 13, 14, 15, 16, 17, 18, 19, 20, 21, 22, 23, 24, 25, 26, 27, 28, 29, 30, 31, 32, 33, 34, 35, 36, 37, 38, 39, 40, 41, 42, 43, 44, 45, 46, 47, 48, 49, 50]) .l (.l), true, fun _ => none⟩
noncomputable def fe24 : FnE := ⟨Tryz.f24, .l, false, fun _ => none⟩
noncomputable def fe25 : FnE := ⟨Tryz.f25, .l, true, fun _ => none⟩
noncomputable def fe26 : FnE := ⟨Tryz.f26, .l, true, fun _ => none⟩
noncomputable def fe27 : FnE := ⟨Tryz.f27, .l, false, fun _ => none⟩
noncomputable def fe28 : FnE := ⟨Tryz.f28, .l, true, fun _ => none⟩
noncomputable def fe29 : FnE := ⟨Tryz.f29, .l, true, fun _ => none⟩
noncomputable def fe30 : FnE := ⟨Tryz.f30, .l, false, fun _ => none⟩
noncomputable def fe31 : FnE := ⟨Tryz.f31, .l, false, fun _ => none⟩
noncomputable def fe32 : FnE := ⟨Tryz.f32, .l, true, fun _ => none⟩
noncomputable def fe33 : FnE := ⟨Tryz.f33, .n 17 (.fin [0, 1, 2, 3, 4, 5, 6, 7, 8, 9, 10, 11]) .l (.l), true, fun _ => none⟩
noncomputable def fe34 : FnE := ⟨Tryz.f34, .n 5 (.as [0, 1, 2, 3, 4, 5, 6, 7] [8] (.bar [] 9 [] (.fin []))) .l (.l), true, fun _ => none⟩
noncomputable def fe35 : FnE := ⟨Tryz.f35, .n 10 (.bar [0, 1, 2, 3, 4, 5, 6, 7, 8, 9, 10, 11, 12, 13] 14 [] (.fin [])) .l (.n 24 (.fin [0, 1, 2, 3, 4, 5, 6, 7, 8, 9, 10, 11, 12, 13, 14, 15, 16, 17, 18, 19, 20, 21, 22, 23, 24, 25, 26, 27, 28, 29, 30]) .l (.l)), true, fun _ => none⟩
noncomputable def fe36 : FnE := ⟨Tryz.f36, .n 4 (.as [0, 1, 2, 3, 4, 5, 6, 7, 8, 9, 10, 11, 12, 13, 14] [15] (.fin [16, 17])) .l (.l), true, fun _ => none⟩
noncomputable def fe37 : FnE := ⟨Tryz.f37, .n 1 (.fin [0, 1, 2, 3, 4, 5, 6, 7, 8, 9, 10, 11, 12]) .l (.n 9 (.fin [0, 1, 2, 3, 4, 5, 6, 7, 8, 9, 10, 11, 12, 13, 14, 15, 16, 17, 18]) .l (.n 12 (.fin [0, 1, 2, 3, 4, 5, 6, 7, 8, 9, 10, 11, 12, 13, 14]) .l (.n 15 (.fin [0, 1, 2, 3, 4, 5, 6, 7, 8, 9, 10, 11, 12, 13, 14]) .l (.l)))), true, fun _ => none⟩
noncomputable def fe38 : FnE := ⟨Tryz.f38, .l, false, fun _ => none⟩
noncomputable def fe39 : FnE := ⟨Tryz.f39, .l, false, fun _ => none⟩
noncomputable def fe40 : FnE := ⟨Tryz.f40, .l, false, fun _ => none⟩
noncomputable def fe41 : FnE := ⟨Tryz.f41, .l, true, fun _ => none⟩
noncomputable def fe42 : FnE := ⟨Tryz.f42, .l, true, fun _ => none⟩
noncomputable def fe43 : FnE := ⟨Tryz.f43, .n 6 (.fin [0, 1, 2, 3, 4, 5, 6, 7, 8]) .l (.l), true, fun _ => none⟩
noncomputable def fe44 : FnE := ⟨Tryz.f44, .l, true, fun _ => none⟩
noncomputable def fe45 : FnE := ⟨Tryz.f45, .n 1 (.as [0, 1, 2, 3, 4] [5] (.bar [] 6 [] (.bar [] 7 [] (.fin [])))) .l (.n 3 (.bar [0, 1, 2] 3 [0] (.bar [4, 5] 6 [] (.fin []))) .l (.n 8 (.bar [0, 1, 2, 3, 4, 5, 6, 7, 8] 9 [2] (.bar [10, 11] 12 [] (.fin []))) .l (.l))), false, fun _ => none⟩
noncomputable def fe46 : FnE := ⟨Tryz.f46, .l, true, fun _ => none⟩
noncomputable def fe47 : FnE := ⟨Tryz.f47, .l, false, fun _ => none⟩
noncomputable def fe48 : FnE := ⟨Tryz.f48, .n 6 (.fin [0, 1, 2, 3, 4, 5, 6, 7, 8]) .l (.l), false, fun _ => none⟩
noncomputable def fe49 : FnE := ⟨Tryz.f49, .n 11 (.bar [0, 1, 2, 3, 4, 5, 6, 7, 8, 9, 10, 11, 12, 13, 14, 15] 16 [] (.fin [])) .l (.l), true, fun _ => none⟩
noncomputable def fe50 : FnE := ⟨Tryz.f50, .l, true, fun _ => none⟩
noncomputable def fe51 : FnE := ⟨Tryz.f51, .l, true, fun _ => none⟩
noncomputable def fe52 : FnE := ⟨Tryz.f52, .n 4 (.as [0, 1, 2, 3, 4, 5, 6, 7, 8, 9, 10, 11, 12, 13, 14] [15] (.fin [16, 17])) .l (.l), true, fun _ => none⟩
noncomputable def fe53 : FnE := ⟨Tryz.f53, .l, false, fun _ => none⟩
noncomputable def fe54 : FnE := ⟨Tryz.f54, .n 8 (.bar [0, 1, 2, 3, 4, 5, 6, 7, 8] 9 [5] (.bar [10] 11 [] (.fin []))) .l (.l), false, fun _ => none⟩
noncomputable def fe55 : FnE := ⟨Tryz.f55, .l, true, fun _ => none⟩
noncomputable def fe56 : FnE := ⟨Tryz.f56, .l, true, fun _ => none⟩
noncomputable def fe57 : FnE := ⟨Tryz.f57, .n 7 (.as [0, 1, 2, 3, 4, 5, 6, 7, 8, 9] [10, 11, 12, 13] (.bar [] 14 [] (.bar [] 15 [] (.bar [] 16 [] (.bar [] 17 [] (.fin [])))))) .l (.n 11 (.fin [0, 1, 2, 3, 4, 5, 6, 7]) .l (.n 13 (.bar [0, 1, 2, 3, 4, 5, 6, 7, 8, 9, 10, 11, 12, 13, 14, 15] 16 [] (.fin [])) .l (.n 15 (.bar [0, 1, 2, 3, 4, 5, 6, 7, 8, 9, 10, 11, 12, 13, 14, 15, 16] 17 [] (.fin [])) .l (.n 16 (.fin [0, 1, 2, 3, 4, 5, 6, 7, 8, 9, 10, 11, 12, 13, 14, 15, 16]) .l (.l))))), true, fun _ => none⟩
noncomputable def fe58 : FnE := ⟨Tryz.f58, .l, true, fun _ => none⟩
noncomputable def fe59 : FnE := ⟨Tryz.f59, .n 1 (.fin [0, 1, 2, 3, 4, 5, 6, 7, 8, 9, 10, 11, 12, 13, 14]) .l (.l), true, fun _ => none⟩
noncomputable def fe60 : FnE := ⟨Tryz.f60, .n 9 (.bar [0, 1, 2, 3, 4, 5, 6, 7, 8, 9, 10, 11, 12, 13, 14, 15] 16 [] (.fin [])) .l (.l), true, fun _ => none⟩
noncomputable def fe61 : FnE := ⟨Tryz.f61, .l, false, fun _ => none⟩
noncomputable def fe62 : FnE := ⟨Tryz.f62, .l, true, fun _ => none⟩
noncomputable def fe63 : FnE := ⟨Tryz.f63, .l, true, fun _ => none⟩
noncomputable def fe64 : FnE := ⟨Tryz.f64, .n 12 (.fin [0, 1, 2, 3, 4, 5, 6, 7, 8, 9, 10, 11, 12, 13, 14, 15]) .l (.l), true, fun _ => none⟩
noncomputable def fe65 : FnE := ⟨Tryz.f65, .l, false, fun _ => none⟩
noncomputable def fe66 : FnE := ⟨Tryz.f66, .n 0 (.bar [0, 1, 2, 3, 4] 5 [0] (.bar [6, 7, 8, 9, 10] 11 [] (.fin []))) .l (.l), false, fun _ => none⟩
noncomputable def fe69 : FnE := ⟨Tryz.f69, .l, true, fun _ => none⟩
noncomputable def fe70 : FnE := ⟨Tryz.f70, .l, true, fun _ => none⟩
noncomputable def fe71 : FnE := ⟨Tryz.f71, .n 5 (.as [0, 1, 2, 3, 4, 5, 6, 7] [8, 9] (.bar [] 10 [] (.bar [] 11 [] (.fin [])))) .l (.n 13 (.bar [0, 1, 2, 3, 4, 5, 6, 7, 8, 9, 10, 11, 12, 13, 14, 15, 16] 17 [11, 14] (.bar [18] 19 [] (.fin []))) .l (.n 16 (.bar [0, 1, 2, 3, 4] 5 [] (.fin [6])) .l (.l))), true, fun _ => none⟩
noncomputable def fe72 : FnE := ⟨Tryz.f72, .n 3 (.as [0, 1, 2, 3, 4, 5] [6, 7] (.bar [] 8 [] (.bar [] 9 [] (.fin [])))) .l (.n 8 (.fin [0, 1, 2, 3, 4, 5, 6, 7, 8, 9, 10, 11, 12, 13, 14]) .l (.l)), true, fun _ => none⟩
noncomputable def fe73 : FnE := ⟨Tryz.f73, .n 1 (.as [0, 1, 2, 3, 4, 5, 6, 7, 8, 9] [10] (.fin [11, 12])) .l (.l), true, fun _ => none⟩
noncomputable def fe74 : FnE := ⟨Tryz.f74, .l, false, fun _ => none⟩
noncomputable def fe75 : FnE := ⟨Tryz.f75, .l, true, fun _ => none⟩
noncomputable def fe76 : FnE := ⟨Tryz.f76, .l, true, fun _ => none⟩
noncomputable def fe77 : FnE := ⟨Tryz.f77, .l, true, fun _ => none⟩
noncomputable def fe78 : FnE := ⟨Tryz.f78, .l, true, fun _ => none⟩
noncomputable def fe79 : FnE := ⟨Tryz.f79, .l, true, fun _ => none⟩
noncomputable def fe80 : FnE := ⟨Tryz.f80, .l, true, fun _ => none⟩
noncomputable def fe81 : FnE := ⟨Tryz.f81, .n 24 (.bar [0, 1, 2, 3, 4, 6, 7, 8, 9, 10] 5 [10] (.bar [] 11 [] (.fin [12, 13, 14]))) .l (.l), false, fun _ => none⟩
noncomputable def fe82 : FnE := ⟨Tryz.f82, .n 9 (.bar [0, 1, 2, 3, 4, 5, 6] 7 [] (.fin [8, 9])) .l (.l), false, fun _ => none⟩
noncomputable def fe83 : FnE := ⟨Tryz.f83, .l, true, fun _ => none⟩
noncomputable def fe84 : FnE := ⟨Tryz.f84, .l, true, fun _ => none⟩
noncomputable def fe85 : FnE := ⟨Tryz.f85, .l, true, fun _ => none⟩
noncomputable def fe86 : FnE := ⟨Tryz.f86, .l, true, fun _ => none⟩
noncomputable def fe87 : FnE := ⟨Tryz.f87, .l, true, fun _ => none⟩
noncomputable def fe88 : FnE := ⟨Tryz.f88, .l, false, fun _ => none⟩
noncomputable def fe89 : FnE := ⟨Tryz.f89, .l, true, fun _ => none⟩
noncomputable def fe90 : FnE := ⟨Tryz.f90, .l, true, fun _ => none⟩
noncomputable def fe91 : FnE := ⟨Tryz.f91, .l, true, fun _ => none⟩
noncomputable def fe92 : FnE := ⟨Tryz.f92, .l, true, fun _ => none⟩
noncomputable def fe93 : FnE := ⟨Tryz.f93, .l, true, fun _ => none⟩
noncomputable def fe94 : FnE := ⟨Tryz.f94, .n 3 (.bar [0, 1, 2, 3, 4, 5, 6, 7, 8, 9] 10 [1] (.bar [] 11 [] (.fin [12]))) .l (.n 13 (.bar [0, 1] 2 [1] (.bar [] 3 [] (.fin [4]))) .l (.l)), true, fun _ => none⟩
noncomputable def fe96 : FnE := ⟨Tryz.f96, .l, true, fun _ => none⟩
noncomputable def fe97 : FnE := ⟨Tryz.f97, .l, true, fun _ => none⟩
noncomputable def fe98 : FnE := ⟨Tryz.f98, .l, true, fun _ => none⟩
noncomputable def fe99 : FnE := ⟨Tryz.f99, .l, false, fun _ => none⟩
noncomputable def fe100 : FnE := ⟨Tryz.f100, .l, false, fun _ => none⟩
noncomputable def fe101 : FnE := ⟨Tryz.f101, .l, true, fun _ => none⟩
noncomputable def fe102 : FnE := ⟨Tryz.f102, .l, true, fun _ => none⟩
noncomputable def fe103 : FnE := ⟨Tryz.f103, .l, true, fun _ => none⟩
noncomputable def fe104 : FnE := ⟨Tryz.f104, .l, true, fun _ => none⟩
noncomputable def fe105 : FnE := ⟨Tryz.f105, .l, true, fun _ => none⟩
noncomputable def fe106 : FnE := ⟨Tryz.f106, .n 17 (.fin [0, 1, 2, 3, 4, 5, 6, 7, 8, 9, 10, 11, 12, 13, 14, 15, 16]) .l (.l), false, fun _ => none⟩
noncomputable def fe107 : FnE := ⟨Tryz.f107, .l, true, fun _ => none⟩
noncomputable def fe108 : FnE := ⟨Tryz.f108, .l, true, fun _ => none⟩
noncomputable def fe109 : FnE := ⟨Tryz.f109, .n 3 (.as [0, 1, 2, 3] [4, 5] (.bar [] 6 [] (.bar [] 7 [] (.fin [])))) .l (.n 7 (.bar [0, 1, 2, 3, 4, 5, 6, 7] 8 [] (.fin [])) .l (.l)), true, fun _ => none⟩
noncomputable def fe110 : FnE := ⟨Tryz.f110, .n 5 (.as [0, 1, 2, 3, 4, 5, 6] [7] (.bar [] 8 [] (.fin []))) .l (.l), true, fun _ => none⟩
noncomputable def fe111 : FnE := ⟨Tryz.f111, .l, true, fun _ => none⟩
noncomputable def fe112 : FnE := ⟨Tryz.f112, .l, true, fun _ => none⟩
noncomputable def fe113 : FnE := ⟨Tryz.f113, .l, true, fun _ => none⟩
noncomputable def fe114 : FnE := ⟨Tryz.f114, .l, true, fun _ => none⟩
noncomputable def fe115 : FnE := ⟨Tryz.f115, .n 1 (.as [0, 1, 2, 3, 4, 5, 6, 7] [8, 9, 10] (.bar [] 11 [] (.bar [] 12 [] (.bar [] 13 [] (.fin []))))) .l (.n 5 (.fin [0, 1, 2, 3, 4, 5, 6, 7, 8, 9, 10, 11, 12, 13, 14, 15]) .l (.l)), true, fun _ => none⟩
noncomputable def fe116 : FnE := ⟨Tryz.f116, .n 1 (.fin [0, 1, 2, 3, 4, 5]) .l (.n 10 (.as [0, 1, 2, 3, 4, 5, 6, 7, 8, 9] [10] (.fin [11, 12])) .l (.l)), true, fun _ => none⟩
noncomputable def fe117 : FnE := ⟨Tryz.f117, .l, true, fun _ => none⟩
noncomputable def fe118 : FnE := ⟨Tryz.f118, .n 8 (.bar [0, 1, 2, 3, 4, 5, 6, 7, 8, 9, 10, 11, 12, 13, 14, 15, 16, 17, 18, 19, 20, 21, 22] 23 [] (.fin [])) .l (.n 9 (.bar [0, 1, 2, 3, 4, 5, 6, 7, 8, 9, 10, 11, 12, 13, 14, 15, 16, 17, 18, 19, 20] 21 [] (.fin [])) .l (.n 14 (.bar [0, 1, 2, 3, 4, 5, 6, 7, 8, 9, 10, 11, 12, 13, 14] 15 [] (.fin [])) .l (.l))), false, fun _ => none⟩
noncomputable def fe119 : FnE := ⟨Tryz.f119, .l, false, fun _ => none⟩
noncomputable def fe121 : FnE := ⟨Tryz.f121, .l, true, fun _ => none⟩
noncomputable def fe122 : FnE := ⟨Tryz.f122, .l, true, fun _ => none⟩
noncomputable def fe123 : FnE := ⟨Tryz.f123, .n 3 (.as [0, 1, 2, 3, 4, 5, 6, 7, 8, 9] [10] (.bar [] 11 [] (.fin [12]))) .l (.l), true, fun _ => none⟩
noncomputable def fe125 : FnE := ⟨Tryz.f125, .l, false, fun _ => none⟩
noncomputable def fe126 : FnE := ⟨Tryz.f126, .l, false, fun _ => none⟩
noncomputable def fe127 : FnE := ⟨Tryz.f127, .n 0 (.bar [0, 1, 2, 3, 4] 5 [] (.fin [])) .l (.l), false, fun _ => none⟩
noncomputable def fe128 : FnE := ⟨Tryz.f128, .l, true, fun _ => none⟩
noncomputable def fe129 : FnE := ⟨Tryz.f129, .n 4 (.fin [0, 1, 2, 3, 4, 5, 6, 7, 8, 9, 10, 11, 12, 13, 14, 15, 16]) .l (.n 6 (.bar [0, 1, 2, 3, 4, 5, 6, 7, 8, 9, 10, 11, 12, 13, 14] 15 [] (.bar [16] 17 [] (.fin []))) .l (.l)), false, fun _ => none⟩
noncomputable def fe130 : FnE := ⟨Tryz.f130, .n 10 (.bar [0, 1, 2, 3, 4, 5, 6, 7, 8, 9, 10, 11, 12, 13, 14, 15, 16] 17 [] (.bar [18] 19 [] (.fin []))) .l (.l), false, fun _ => none⟩
noncomputable def fe131 : FnE := ⟨Tryz.f131, .n 10 (.bar [0, 1, 2, 3, 4, 5, 6, 7, 8, 9, 10, 11, 12, 13, 14, 15, 16] 17 [] (.bar [18] 19 [] (.fin []))) .l (.l), false, fun _ => none⟩
noncomputable def fe132 : FnE := ⟨Tryz.f132, .l, false, fun _ => none⟩
noncomputable def fe133 : FnE := ⟨Tryz.f133, .n 3 (.bar [0, 1, 2, 3, 4, 5, 6, 7, 8, 9, 10, 11, 12] 13 [] (.bar [14] 15 [] (.fin []))) .l (.l), false, fun _ => none⟩
noncomputable def fe134 : FnE := ⟨Tryz.f134, .n 5 (.fin [0, 1, 2, 3, 4, 5, 6, 7, 8, 9, 10, 11, 12, 13, 14, 15, 16, 17]) .l (.n 11 (.bar [0, 1, 2, 3, 4, 5, 6, 7, 8, 9, 10, 11, 12, 13, 14] 15 [] (.bar [16] 17 [] (.fin []))) .l (.n 16 (.fin [0, 1, 2, 3, 4, 5, 6, 7, 8, 9, 10, 11, 12]) .l (.n 17 (.bar [0, 1, 2, 3, 4, 5, 6, 7, 8, 9, 10, 11, 12, 13, 14] 15 [] (.bar [16] 17 [] (.fin []))) .l (.n 22 (.fin [0, 1, 2, 3, 4, 5, 6, 7, 8, 9, 10, 11, 12]) .l (.n 23 (.bar [0, 1, 2, 3, 4, 5, 6, 7, 8, 9, 10, 11, 12, 13, 14] 15 [] (.bar [16] 17 [] (.fin []))) .l (.l)))))), false, fun _ => none⟩
noncomputable def fe135 : FnE := ⟨Tryz.f135, .n 1 (.bar [0, 1, 2, 3, 4, 5, 6, 7, 8, 9, 10, 11, 12] 13 [] (.bar [14] 15 [] (.fin []))) .l (.n 3 (.fin [0, 1, 2, 3, 4, 5, 6, 7, 8, 9, 10, 11, 12, 13, 14, 15, 16]) .l (.n 5 (.fin [0, 1, 2, 3, 4, 5, 6, 7, 8, 9, 10, 11, 12, 13, 14, 15]) .l (.n 8 (.bar [0, 1, 2, 3, 4, 5, 6, 7, 8, 9, 10, 11, 12] 13 [] (.bar [14] 15 [] (.fin []))) .l (.l)))), false, fun _ => none⟩
noncomputable def fe136 : FnE := ⟨Tryz.f136, .n 1 (.bar [0, 1, 2, 3, 4, 5, 6, 7, 8, 9, 10, 11, 12] 13 [] (.bar [14] 15 [] (.fin []))) .l (.n 3 (.fin [0, 1, 2, 3, 4, 5, 6, 7, 8, 9, 10, 11, 12, 13, 14, 15]) .l (.n 5 (.fin [0, 1, 2, 3, 4, 5, 6, 7, 8, 9, 10, 11, 12, 13, 14, 15, 16]) .l (.n 8 (.bar [0, 1, 2, 3, 4, 5, 6, 7, 8, 9, 10, 11, 12] 13 [] (.bar [14] 15 [] (.fin []))) .l (.n 10 (.bar [0, 1, 2, 3, 4, 5, 6, 7, 8, 9, 10, 11, 12] 13 [] (.bar [14] 15 [] (.fin []))) .l (.n 13 (.fin [0, 1, 2, 3, 4, 5, 6, 7, 8, 9, 10, 11, 12, 13, 14, 15]) .l (.n 15 (.fin [0, 1, 2, 3, 4, 5, 6, 7, 8, 9, 10, 11, 12, 13, 14, 15, 16]) .l (.n 18 (.bar [0, 1, 2, 3, 4, 5, 6, 7, 8, 9, 10, 11, 12] 13 [] (.bar [14] 15 [] (.fin []))) .l (.n 21 (.bar [0, 1, 2, 3, 4, 5, 6, 7, 8, 9, 10, 11, 12] 13 [] (.bar [14] 15 [] (.fin []))) .l (.l))))))))), false, fun _ => none⟩
noncomputable def fe137 : FnE := ⟨Tryz.f137, .l, true, fun _ => none⟩
noncomputable def fe138 : FnE := ⟨Tryz.f138, .l, true, fun _ => none⟩
noncomputable def fe139 : FnE := ⟨Tryz.f139, .n 3 (.bar [0, 1, 2, 3, 4, 5, 6, 7, 8, 9, 10, 11, 12] 13 [] (.fin [14])) .l (.l), true, fun _ => none⟩
noncomputable def fe140 : FnE := ⟨Tryz.f140, .l, true, fun _ => none⟩
noncomputable def fe141 : FnE := ⟨Tryz.f141, .l, true, fun _ => none⟩
noncomputable def fe142 : FnE := ⟨Tryz.f142, .l, true, fun _ => none⟩
noncomputable def fe143 : FnE := ⟨Tryz.f143, .n 1 (.fin [0, 1, 2, 3, 4, 5, 6, 7, 8, 9, 10, 11, 12, 13, 14]) .l (.l), true, fun _ => none⟩
noncomputable def fe144 : FnE := ⟨Tryz.f144, .l, true, fun _ => none⟩
noncomputable def fe145 : FnE := ⟨Tryz.f145, .l, true, fun _ => none⟩
noncomputable def fe146 : FnE := ⟨Tryz.f146, .l, true, fun _ => none⟩
noncomputable def fe147 : FnE := ⟨Tryz.f147, .l, true, fun _ => none⟩
noncomputable def fe148 : FnE := ⟨Tryz.f148, .n 3 (.as [0, 1, 2, 3, 4, 5, 6, 7, 8, 9] [10] (.fin [11, 12])) .l (.l), true, fun _ => none⟩
noncomputable def fe149 : FnE := ⟨Tryz.f149, .l, false, fun _ => none⟩
noncomputable def fe150 : FnE := ⟨Tryz.f150, .n 2 (.bar [0, 1, 2, 3] 4 [1] (.bar [] 5 [] (.bar [] 6 [] (.fin [])))) .l (.n 4 (.bar [0, 1, 2, 3] 4 [1] (.bar [] 5 [] (.bar [] 6 [] (.fin [])))) .l (.n 5 (.bar [0, 1, 2, 3] 4 [1] (.bar [] 5 [] (.bar [] 6 [] (.fin [])))) .l (.l))), false, fun _ => none⟩
noncomputable def fe151 : FnE := ⟨Tryz.f151, .l, false, fun _ => none⟩
noncomputable def fe152 : FnE := ⟨Tryz.f152, .l, true, fun _ => none⟩
noncomputable def fe153 : FnE := ⟨Tryz.f153, .l, true, fun _ => none⟩
noncomputable def fe154 : FnE := ⟨Tryz.f154, .l, false, fun _ => none⟩
noncomputable def fe155 : FnE := ⟨Tryz.f155, .l, false, fun _ => none⟩
noncomputable def fe157 : FnE := ⟨Tryz.f157, .l, true, fun _ => none⟩
noncomputable def fe158 : FnE := ⟨Tryz.f158, .n 3 (.fin [0, 1, 2, 3, 4, 5, 6, 7, 8, 9, 10, 11, 12, 13, 14, 15, 16, 17, 18, 19, 20, 21]) .l (.n 5 (.fin [0, 1, 2, 3, 4, 5, 6, 7, 8, 9, 10, 11, 12, 13, 14, 15]) .l (.n 6 (.bar [0, 1, 2, 3, 4, 5, 6, 7, 8, 9, 10, 11, 12, 13, 14, 15, 16, 17, 18, 19, 20] 21 [] (.bar [22] 23 [] (.fin []))) .l (.l))), false, fun _ => none⟩
noncomputable def fe159 : FnE := ⟨Tryz.f159, .l, true, fun _ => none⟩
noncomputable def fe160 : FnE := ⟨Tryz.f160, .n 1 (.bar [0, 1, 2, 3, 4, 5, 6, 7, 8] 9 [] (.fin [])) .l (.n 2 (.bar [0, 1, 2, 3, 4, 5, 6, 7, 8] 9 [] (.fin [])) .l (.n 3 (.bar [0, 1, 2, 3, 4, 5, 6, 7, 8] 9 [] (.fin [])) .l (.l))), false, fun _ => none⟩
noncomputable def fe161 : FnE := ⟨Tryz.f161, .l, false, fun _ => none⟩
noncomputable def fe162 : FnE := ⟨Tryz.f162, .l, false, fun _ => none⟩
noncomputable def fe163 : FnE := ⟨Tryz.f163, .n 3 (.as [0, 1, 2, 3] [4, 5] (.bar [] 6 [] (.bar [] 7 [] (.fin [])))) .l (.n 9 (.bar [0, 1, 2, 3, 4, 5, 6, 7, 8, 9, 10, 11, 12, 13, 14, 15, 16] 17 [] (.fin [])) .l (.l)), true, fun _ => none⟩
noncomputable def fe164 : FnE := ⟨Tryz.f164, .l, true, fun _ => none⟩
noncomputable def fe165 : FnE := ⟨Tryz.f165, .l, true, fun _ => none⟩
noncomputable def fe166 : FnE := ⟨Tryz.f166, .l, true, fun _ => none⟩
noncomputable def fe167 : FnE := ⟨Tryz.f167, .l, true, fun _ => none⟩
noncomputable def fe168 : FnE := ⟨Tryz.f168, .n 6 (.fin [0, 1, 2, 3, 4, 5, 6, 7, 8, 9]) .l (.l), false, fun _ => none⟩
noncomputable def fe169 : FnE := ⟨Tryz.f169, .n 4 (.fin [0, 1, 2, 3, 4, 5, 6]) .l (.n 6 (.fin [0, 1, 2, 3, 4, 5, 6]) .l (.l)), true, fun _ => none⟩
noncomputable def fe170 : FnE := ⟨Tryz.f170, .n 6 (.fin [0, 1, 2, 3, 4, 5, 6, 7, 8, 9]) .l (.l), false, fun _ => none⟩
noncomputable def fe171 : FnE := ⟨Tryz.f171, .l, true, fun _ => none⟩
noncomputable def fe180 : FnE := ⟨Tryz.f180, .n 1 (.fin [0, 1, 2, 3, 4, 5, 6, 7, 8, 9, 10]) .l (.l), false, fun _ => none⟩
noncomputable def fe181 : FnE := ⟨Tryz.f181, .l, true, fun _ => none⟩
noncomputable def fe182 : FnE := ⟨Tryz.f182, .l, true, fun _ => none⟩
noncomputable def fe183 : FnE := ⟨Tryz.f183, .l, true, fun _ => none⟩
noncomputable def fe184 : FnE := ⟨Tryz.f184, .l, true, fun _ => none⟩
noncomputable def fns : Fe.LT FnE := .n 89 fe89 (.n 45 fe45 (.n 24 fe24 (.n 13 fe13 (.n 8 fe8 (.n 5 fe5 (.n 4 fe4 (.n 3 fe3 (.l) (.l)) (.l)) (.n 7 fe7 (.n 6 fe6 (.l) (.l)) (.l))) (.n 11 fe11 (.n 10 fe10 (.n 9 fe9 (.l) (.l)) (.l)) (.n 12 fe12 (.l) (.l)))) (.n 19 fe19 (.n 16 fe16 (.n 15 fe15 (.n 14 fe14 (.l) (.l)) (.l)) (.n 18 fe18 (.n 17 fe17 (.l) (.l)) (.l))) (.n 22 fe22 (.n 21 fe21 (.n 20 fe20 (.l) (.l)) (.l)) (.n 23 fe23 (.l) (.l))))) (.n 35 fe35 (.n 30 fe30 (.n 27 fe27 (.n 26 fe26 (.n 25 fe25 (.l) (.l)) (.l)) (.n 29 fe29 (.n 28 fe28 (.l) (.l)) (.l))) (.n 33 fe33 (.n 32 fe32 (.n 31 fe31 (.l) (.l)) (.l)) (.n 34 fe34 (.l) (.l)))) (.n 40 fe40 (.n 38 fe38 (.n 37 fe37 (.n 36 fe36 (.l) (.l)) (.l)) (.n 39 fe39 (.l) (.l))) (.n 43 fe43 (.n 42 fe42 (.n 41 fe41 (.l) (.l)) (.l)) (.n 44 fe44 (.l) (.l)))))) (.n 66 fe66 (.n 56 fe56 (.n 51 fe51 (.n 48 fe48 (.n 47 fe47 (.n 46 fe46 (.l) (.l)) (.l)) (.n 50 fe50 (.n 49 fe49 (.l) (.l)) (.l))) (.n 54 fe54 (.n 53 fe53 (.n 52 fe52 (.l) (.l)) (.l)) (.n 55 fe55 (.l) (.l)))) (.n 61 fe61 (.n 59 fe59 (.n 58 fe58 (.n 57 fe57 (.l) (.l)) (.l)) (.n 60 fe60 (.l) (.l))) (.n 64 fe64 (.n 63 fe63 (.n 62 fe62 (.l) (.l)) (.l)) (.n 65 fe65 (.l) (.l))))) (.n 79 fe79 (.n 74 fe74 (.n 71 fe71 (.n 70 fe70 (.n 69 fe69 (.l) (.l)) (.l)) (.n 73 fe73 (.n 72 fe72 (.l) (.l)) (.l))) (.n 77 fe77 (.n 76 fe76 (.n 75 fe75 (.l) (.l)) (.l)) (.n 78 fe78 (.l) (.l)))) (.n 84 fe84 (.n 82 fe82 (.n 81 fe81 (.n 80 fe80 (.l) (.l)) (.l)) (.n 83 fe83 (.l) (.l))) (.n 87 fe87 (.n 86 fe86 (.n 85 fe85 (.l) (.l)) (.l)) (.n 88 fe88 (.l) (.l))))))) (.n 134 fe134 (.n 111 fe111 (.n 101 fe101 (.n 96 fe96 (.n 92 fe92 (.n 91 fe91 (.n 90 fe90 (.l) (.l)) (.l)) (.n 94 fe94 (.n 93 fe93 (.l) (.l)) (.l))) (.n 99 fe99 (.n 98 fe98 (.n 97 fe97 (.l) (.l)) (.l)) (.n 100 fe100 (.l) (.l)))) (.n 106 fe106 (.n 104 fe104 (.n 103 fe103 (.n 102 fe102 (.l) (.l)) (.l)) (.n 105 fe105 (.l) (.l))) (.n 109 fe109 (.n 108 fe108 (.n 107 fe107 (.l) (.l)) (.l)) (.n 110 fe110 (.l) (.l))))) (.n 123 fe123 (.n 117 fe117 (.n 114 fe114 (.n 113 fe113 (.n 112 fe112 (.l) (.l)) (.l)) (.n 116 fe116 (.n 115 fe115 (.l) (.l)) (.l))) (.n 121 fe121 (.n 119 fe119 (.n 118 fe118 (.l) (.l)) (.l)) (.n 122 fe122 (.l) (.l)))) (.n 129 fe129 (.n 127 fe127 (.n 126 fe126 (.n 125 fe125 (.l) (.l)) (.l)) (.n 128 fe128 (.l) (.l))) (.n 132 fe132 (.n 131 fe131 (.n 130 fe130 (.l) (.l)) (.l)) (.n 133 fe133 (.l) (.l)))))) (.n 155 fe155 (.n 145 fe145 (.n 140 fe140 (.n 137 fe137 (.n 136 fe136 (.n 135 fe135 (.l) (.l)) (.l)) (.n 139 fe139 (.n 138 fe138 (.l) (.l)) (.l))) (.n 143 fe143 (.n 142 fe142 (.n 141 fe141 (.l) (.l)) (.l)) (.n 144 fe144 (.l) (.l)))) (.n 150 fe150 (.n 148 fe148 (.n 147 fe147 (.n 146 fe146 (.l) (.l)) (.l)) (.n 149 fe149 (.l) (.l))) (.n 153 fe153 (.n 152 fe152 (.n 151 fe151 (.l) (.l)) (.l)) (.n 154 fe154 (.l) (.l))))) (.n 167 fe167 (.n 162 fe162 (.n 159 fe159 (.n 158 fe158 (.n 157 fe157 (.l) (.l)) (.l)) (.n 161 fe161 (.n 160 fe160 (.l) (.l)) (.l))) (.n 165 fe165 (.n 164 fe164 (.n 163 fe163 (.l) (.l)) (.l)) (.n 166 fe166 (.l) (.l)))) (.n 180 fe180 (.n 170 fe170 (.n 169 fe169 (.n 168 fe168 (.l) (.l)) (.l)) (.n 171 fe171 (.l) (.l))) (.n 183 fe183 (.n 182 fe182 (.n 181 fe181 (.l) (.l)) (.l)) (.n 184 fe184 (.l) (.l)))))))
theorem fb3 : fnB fe3 = true := by kernel_rfl
theorem fb4 : fnB fe4 = true := by kernel_rfl
theorem fb5 : fnB fe5 = true := by kernel_rfl
theorem fb6 : fnB fe6 = true := by kernel_rfl
theorem fb7 : fnB fe7 = true := by kernel_rfl
theorem fb8 : fnB fe8 = true := by kernel_rfl
theorem fb9 : fnB fe9 = true := by kernel_rfl
theorem fb10 : fnB fe10 = true := by kernel_rfl
theorem fb11 : fnB fe11 = true := by kernel_rfl
theorem fb12 : fnB fe12 = true := by kernel_rfl
theorem fb13 : fnB fe13 = true := by kernel_rfl
theorem fb14 : fnB fe14 = true := by kernel_rfl
theorem fb15 : fnB fe15 = true := by kernel_rfl
theorem fb16 : fnB fe16 = true := by kernel_rfl
theorem fb17 : fnB fe17 = true := by kernel_rfl
theorem fb18 : fnB fe18 = true := by kernel_rfl
theorem fb19 : fnB fe19 = true := by kernel_rfl
theorem fb20 : fnB fe20 = true := by kernel_rfl
theorem fb21 : fnB fe21 = true := by kernel_rfl
theorem fb22 : fnB fe22 = true := by kernel_rfl
theorem fb23 : fnB fe23 = true := by kernel_rfl
theorem fb24 : fnB fe24 = true := by kernel_rfl
theorem fb25 : fnB fe25 = true := by kernel_rfl
theorem fb26 : fnB fe26 = true := by kernel_rfl
theorem fb27 : fnB fe27 = true := by kernel_rfl
theorem fb28 : fnB fe28 = true := by kernel_rfl
theorem fb29 : fnB fe29 = true := by kernel_rfl
theorem fb30 : fnB fe30 = true := by kernel_rfl
theorem fb31 : fnB fe31 = true := by kernel_rfl
theorem fb32 : fnB fe32 = true := by kernel_rfl
theorem fb33 : fnB fe33 = true := by kernel_rfl
theorem fb34 : fnB fe34 = true := by kernel_rfl
theorem fb35 : fnB fe35 = true := by kernel_rfl
theorem fb36 : fnB fe36 = true := by kernel_rfl
theorem fb37 : fnB fe37 = true := by kernel_rfl
theorem fb38 : fnB fe38 = true := by kernel_rfl
theorem fb39 : fnB fe39 = true := by kernel_rfl
theorem fb40 : fnB fe40 = true := by kernel_rfl
theorem fb41 : fnB fe41 = true := by kernel_rfl
theorem fb42 : fnB fe42 = true := by kernel_rfl
theorem fb43 : fnB fe43 = true := by kernel_rfl
theorem fb44 : fnB fe44 = true := by kernel_rfl
theorem fb45 : fnB fe45 = true := by kernel_rfl
theorem fb46 : fnB fe46 = true := by kernel_rfl
theorem fb47 : fnB fe47 = true := by kernel_rfl
theorem fb48 : fnB fe48 = true := by kernel_rfl
theorem fb49 : fnB fe49 = true := by kernel_rfl
theorem fb50 : fnB fe50 = true := by kernel_rfl
theorem fb51 : fnB fe51 = true := by kernel_rfl
theorem fb52 : fnB fe52 = true := by kernel_rfl
theorem fb53 : fnB fe53 = true := by kernel_rfl
theorem fb54 : fnB fe54 = true := by kernel_rfl
theorem fb55 : fnB fe55 = true := by kernel_rfl
theorem fb56 : fnB fe56 = true := by kernel_rfl
theorem fb57 : fnB fe57 = true := by kernel_rfl
theorem fb58 : fnB fe58 = true := by kernel_rfl
theorem fb59 : fnB fe59 = true := by kernel_rfl
theorem fb60 : fnB fe60 = true := by kernel_rfl
theorem fb61 : fnB fe61 = true := by kernel_rfl
theorem fb62 : fnB fe62 = true := by kernel_rfl
theorem fb63 : fnB fe63 = true := by kernel_rfl
theorem fb64 : fnB fe64 = true := by kernel_rfl
theorem fb65 : fnB fe65 = true := by kernel_rfl
theorem fb66 : fnB fe66 = true := by kernel_rfl
theorem fb69 : fnB fe69 = true := by kernel_rfl
theorem fb70 : fnB fe70 = true := by kernel_rfl
theorem fb71 : fnB fe71 = true := by kernel_rfl
theorem fb72 : fnB fe72 = true := by kernel_rfl
theorem fb73 : fnB fe73 = true := by kernel_rfl
theorem fb74 : fnB fe74 = true := by kernel_rfl
theorem fb75 : fnB fe75 = true := by kernel_rfl
theorem fb76 : fnB fe76 = true := by kernel_rfl
theorem fb77 : fnB fe77 = true := by kernel_rfl
theorem fb78 : fnB fe78 = true := by kernel_rfl
theorem fb79 : fnB fe79 = true := by kernel_rfl
theorem fb80 : fnB fe80 = true := by kernel_rfl
theorem fb81 : fnB fe81 = true := by kernel_rfl
theorem fb82 : fnB fe82 = true := by kernel_rfl
theorem fb83 : fnB fe83 = true := by kernel_rfl
theorem fb84 : fnB fe84 = true := by kernel_rfl
theorem fb85 : fnB fe85 = true := by kernel_rfl
theorem fb86 : fnB fe86 = true := by kernel_rfl
theorem fb87 : fnB fe87 = true := by kernel_rfl
theorem fb88 : fnB fe88 = true := by kernel_rfl
theorem fb89 : fnB fe89 = true := by kernel_rfl
theorem fb90 : fnB fe90 = true := by kernel_rfl
theorem fb91 : fnB fe91 = true := by kernel_rfl
theorem fb92 : fnB fe92 = true := by kernel_rfl
theorem fb93 : fnB fe93 = true := by kernel_rfl
theorem fb94 : fnB fe94 = true := by kernel_rfl
theorem fb96 : fnB fe96 = true := by kernel_rfl
theorem fb97 : fnB fe97 = true := by kernel_rfl
theorem fb98 : fnB fe98 = true := by kernel_rfl
theorem fb99 : fnB fe99 = true := by kernel_rfl
theorem fb100 : fnB fe100 = true := by kernel_rfl
theorem fb101 : fnB fe101 = true := by kernel_rfl
theorem fb102 : fnB fe102 = true := by kernel_rfl
theorem fb103 : fnB fe103 = true := by kernel_rfl
theorem fb104 : fnB fe104 = true := by kernel_rfl
theorem fb105 : fnB fe105 = true := by kernel_rfl
theorem fb106 : fnB fe106 = true := by kernel_rfl
theorem fb107 : fnB fe107 = true := by kernel_rfl
theorem fb108 : fnB fe108 = true := by kernel_rfl
theorem fb109 : fnB fe109 = true := by kernel_rfl
theorem fb110 : fnB fe110 = true := by kernel_rfl
theorem fb111 : fnB fe111 = true := by kernel_rfl
theorem fb112 : fnB fe112 = true := by kernel_rfl
theorem fb113 : fnB fe113 = true := by kernel_rfl
theorem fb114 : fnB fe114 = true := by kernel_rfl
theorem fb115 : fnB fe115 = true := by kernel_rfl
theorem fb116 : fnB fe116 = true := by kernel_rfl
theorem fb117 : fnB fe117 = true := by kernel_rfl
theorem fb118 : fnB fe118 = true := by kernel_rfl
theorem fb119 : fnB fe119 = true := by kernel_rfl
theorem fb121 : fnB fe121 = true := by kernel_rfl
theorem fb122 : fnB fe122 = true := by kernel_rfl
theorem fb123 : fnB fe123 = true := by kernel_rfl
theorem fb125 : fnB fe125 = true := by kernel_rfl
theorem fb126 : fnB fe126 = true := by kernel_rfl
theorem fb127 : fnB fe127 = true := by kernel_rfl
theorem fb128 : fnB fe128 = true := by kernel_rfl
theorem fb129 : fnB fe129 = true := by kernel_rfl
theorem fb130 : fnB fe130 = true := by kernel_rfl
theorem fb131 : fnB fe131 = true := by kernel_rfl
theorem fb132 : fnB fe132 = true := by kernel_rfl
theorem fb133 : fnB fe133 = true := by kernel_rfl
theorem fb134 : fnB fe134 = true := by kernel_rfl
theorem fb135 : fnB fe135 = true := by kernel_rfl
theorem fb136 : fnB fe136 = true := by kernel_rfl
theorem fb137 : fnB fe137 = true := by kernel_rfl
theorem fb138 : fnB fe138 = true := by kernel_rfl
theorem fb139 : fnB fe139 = true := by kernel_rfl
theorem fb140 : fnB fe140 = true := by kernel_rfl
theorem fb141 : fnB fe141 = true := by kernel_rfl
theorem fb142 : fnB fe142 = true := by kernel_rfl
theorem fb143 : fnB fe143 = true := by kernel_rfl
theorem fb144 : fnB fe144 = true := by kernel_rfl
theorem fb145 : fnB fe145 = true := by kernel_rfl
theorem fb146 : fnB fe146 = true := by kernel_rfl
theorem fb147 : fnB fe147 = true := by kernel_rfl
theorem fb148 : fnB fe148 = true := by kernel_rfl
theorem fb149 : fnB fe149 = true := by kernel_rfl
theorem fb150 : fnB fe150 = true := by kernel_rfl
theorem fb151 : fnB fe151 = true := by kernel_rfl
theorem fb152 : fnB fe152 = true := by kernel_rfl
theorem fb153 : fnB fe153 = true := by kernel_rfl
theorem fb154 : fnB fe154 = true := by kernel_rfl
theorem fb155 : fnB fe155 = true := by kernel_rfl
theorem fb157 : fnB fe157 = true := by kernel_rfl
theorem fb158 : fnB fe158 = true := by kernel_rfl
theorem fb159 : fnB fe159 = true := by kernel_rfl
theorem fb160 : fnB fe160 = true := by kernel_rfl
theorem fb161 : fnB fe161 = true := by kernel_rfl
theorem fb162 : fnB fe162 = true := by kernel_rfl
theorem fb163 : fnB fe163 = true := by kernel_rfl
theorem fb164 : fnB fe164 = true := by kernel_rfl
theorem fb165 : fnB fe165 = true := by kernel_rfl
theorem fb166 : fnB fe166 = true := by kernel_rfl
theorem fb167 : fnB fe167 = true := by kernel_rfl
theorem fb168 : fnB fe168 = true := by kernel_rfl
theorem fb169 : fnB fe169 = true := by kernel_rfl
theorem fb170 : fnB fe170 = true := by kernel_rfl
theorem fb171 : fnB fe171 = true := by kernel_rfl
theorem fb180 : fnB fe180 = true := by kernel_rfl
theorem fb181 : fnB fe181 = true := by kernel_rfl
theorem fb182 : fnB fe182 = true := by kernel_rfl
theorem fb183 : fnB fe183 = true := by kernel_rfl
theorem fb184 : fnB fe184 = true := by kernel_rfl
theorem fnsE : Fe.LT.Each (fun i F => Tryz.prog.funcs[i]? = some F.fn ∧ fnB F = true) fns := ⟨⟨Tryz.func89, fb89⟩, ⟨⟨Tryz.func45, fb45⟩, ⟨⟨Tryz.func24, fb24⟩, ⟨⟨Tryz.func13, fb13⟩, ⟨⟨Tryz.func8, fb8⟩, ⟨⟨Tryz.func5, fb5⟩, ⟨⟨Tryz.func4, fb4⟩, ⟨⟨Tryz.func3, fb3⟩, trivial, trivial⟩, trivial⟩, ⟨⟨Tryz.func7, fb7⟩, ⟨⟨Tryz.func6, fb6⟩, trivial, trivial⟩, trivial⟩⟩, ⟨⟨Tryz.func11, fb11⟩, ⟨⟨Tryz.func10, fb10⟩, ⟨⟨Tryz.func9, fb9⟩, trivial, trivial⟩, trivial⟩, ⟨⟨Tryz.func12, fb12⟩, trivial, trivial⟩⟩⟩, ⟨⟨Tryz.func19, fb19⟩, ⟨⟨Tryz.func16, fb16⟩, ⟨⟨Tryz.func15, fb15⟩, ⟨⟨Tryz.func14, fb14⟩, trivial, trivial⟩, trivial⟩, ⟨⟨Tryz.func18, fb18⟩, ⟨⟨Tryz.func17, fb17⟩, trivial, trivial⟩, trivial⟩⟩, ⟨⟨Tryz.func22, fb22⟩, ⟨⟨Tryz.func21, fb21⟩, ⟨⟨Tryz.func20, fb20⟩, trivial, trivial⟩, trivial⟩, ⟨⟨Tryz.func23, fb23⟩, trivial, trivial⟩⟩⟩⟩, ⟨⟨Tryz.func35, fb35⟩, ⟨⟨Tryz.func30, fb30⟩, ⟨⟨Tryz.func27, fb27⟩, ⟨⟨Tryz.func26, fb26⟩, ⟨⟨Tryz.func25, fb25⟩, trivial, trivial⟩, trivial⟩, ⟨⟨Tryz.func29, fb29⟩, ⟨⟨Tryz.func28, fb28⟩, trivial, trivial⟩, trivial⟩⟩, ⟨⟨Tryz.func33, fb33⟩, ⟨⟨Tryz.func32, fb32⟩, ⟨⟨Tryz.func31, fb31⟩, trivial, trivial⟩, trivial⟩, ⟨⟨Tryz.func34, fb34⟩, trivial, trivial⟩⟩⟩, ⟨⟨Tryz.func40, fb40⟩, ⟨⟨Tryz.func38, fb38⟩, ⟨⟨Tryz.func37, fb37⟩, ⟨⟨Tryz.func36, fb36⟩, trivial, trivial⟩, trivial⟩, ⟨⟨Tryz.func39, fb39⟩, trivial, trivial⟩⟩, ⟨⟨Tryz.func43, fb43⟩, ⟨⟨Tryz.func42, fb42⟩, ⟨⟨Tryz.func41, fb41⟩, trivial, trivial⟩, trivial⟩, ⟨⟨Tryz.func44, fb44⟩, trivial, trivial⟩⟩⟩⟩⟩, ⟨⟨Tryz.func66, fb66⟩, ⟨⟨Tryz.func56, fb56⟩, ⟨⟨Tryz.func51, fb51⟩, ⟨⟨Tryz.func48, fb48⟩, ⟨⟨Tryz.func47, fb47⟩, ⟨⟨Tryz.func46, fb46⟩, trivial, trivial⟩, trivial⟩, ⟨⟨Tryz.func50, fb50⟩, ⟨⟨Tryz.func49, fb49⟩, trivial, trivial⟩, trivial⟩⟩, ⟨⟨Tryz.func54, fb54⟩, ⟨⟨Tryz.func53, fb53⟩, ⟨⟨Tryz.func52, fb52⟩, trivial, trivial⟩, trivial⟩, ⟨⟨Tryz.func55, fb55⟩, trivial, trivial⟩⟩⟩, ⟨⟨Tryz.func61, fb61⟩, ⟨⟨Tryz.func59, fb59⟩, ⟨⟨Tryz.func58, fb58⟩, ⟨⟨Tryz.func57, fb57⟩, trivial, trivial⟩, trivial⟩, ⟨⟨Tryz.func60, fb60⟩, trivial, trivial⟩⟩, ⟨⟨Tryz.func64, fb64⟩, ⟨⟨Tryz.func63, fb63⟩, ⟨⟨Tryz.func62, fb62⟩, trivial, trivial⟩, trivial⟩, ⟨⟨Tryz.func65, fb65⟩, trivial, trivial⟩⟩⟩⟩, ⟨⟨Tryz.func79, fb79⟩, ⟨⟨Tryz.func74, fb74⟩, ⟨⟨Tryz.func71, fb71⟩, ⟨⟨Tryz.func70, fb70⟩, ⟨⟨Tryz.func69, fb69⟩, trivial, trivial⟩, trivial⟩, ⟨⟨Tryz.func73, fb73⟩, ⟨⟨Tryz.func72, fb72⟩, trivial, trivial⟩, trivial⟩⟩, ⟨⟨Tryz.func77, fb77⟩, ⟨⟨Tryz.func76, fb76⟩, ⟨⟨Tryz.func75, fb75⟩, trivial, trivial⟩, trivial⟩, ⟨⟨Tryz.func78, fb78⟩, trivial, trivial⟩⟩⟩, ⟨⟨Tryz.func84, fb84⟩, ⟨⟨Tryz.func82, fb82⟩, ⟨⟨Tryz.func81, fb81⟩, ⟨⟨Tryz.func80, fb80⟩, trivial, trivial⟩, trivial⟩, ⟨⟨Tryz.func83, fb83⟩, trivial, trivial⟩⟩, ⟨⟨Tryz.func87, fb87⟩, ⟨⟨Tryz.func86, fb86⟩, ⟨⟨Tryz.func85, fb85⟩, trivial, trivial⟩, trivial⟩, ⟨⟨Tryz.func88, fb88⟩, trivial, trivial⟩⟩⟩⟩⟩⟩, ⟨⟨Tryz.func134, fb134⟩, ⟨⟨Tryz.func111, fb111⟩, ⟨⟨Tryz.func101, fb101⟩, ⟨⟨Tryz.func96, fb96⟩, ⟨⟨Tryz.func92, fb92⟩, ⟨⟨Tryz.func91, fb91⟩, ⟨⟨Tryz.func90, fb90⟩, trivial, trivial⟩, trivial⟩, ⟨⟨Tryz.func94, fb94⟩, ⟨⟨Tryz.func93, fb93⟩, trivial, trivial⟩, trivial⟩⟩, ⟨⟨Tryz.func99, fb99⟩, ⟨⟨Tryz.func98, fb98⟩, ⟨⟨Tryz.func97, fb97⟩, trivial, trivial⟩, trivial⟩, ⟨⟨Tryz.func100, fb100⟩, trivial, trivial⟩⟩⟩, ⟨⟨Tryz.func106, fb106⟩, ⟨⟨Tryz.func104, fb104⟩, ⟨⟨Tryz.func103, fb103⟩, ⟨⟨Tryz.func102, fb102⟩, trivial, trivial⟩, trivial⟩, ⟨⟨Tryz.func105, fb105⟩, trivial, trivial⟩⟩, ⟨⟨Tryz.func109, fb109⟩, ⟨⟨Tryz.func108, fb108⟩, ⟨⟨Tryz.func107, fb107⟩, trivial, trivial⟩, trivial⟩, ⟨⟨Tryz.func110, fb110⟩, trivial, trivial⟩⟩⟩⟩, ⟨⟨Tryz.func123, fb123⟩, ⟨⟨Tryz.func117, fb117⟩, ⟨⟨Tryz.func114, fb114⟩, ⟨⟨Tryz.func113, fb113⟩, ⟨⟨Tryz.func112, fb112⟩, trivial, trivial⟩, trivial⟩, ⟨⟨Tryz.func116, fb116⟩, ⟨⟨Tryz.func115, fb115⟩, trivial, trivial⟩, trivial⟩⟩, ⟨⟨Tryz.func121, fb121⟩, ⟨⟨Tryz.func119, fb119⟩, ⟨⟨Tryz.func118, fb118⟩, trivial, trivial⟩, trivial⟩, ⟨⟨Tryz.func122, fb122⟩, trivial, trivial⟩⟩⟩, ⟨⟨Tryz.func129, fb129⟩, ⟨⟨Tryz.func127, fb127⟩, ⟨⟨Tryz.func126, fb126⟩, ⟨⟨Tryz.func125, fb125⟩, trivial, trivial⟩, trivial⟩, ⟨⟨Tryz.func128, fb128⟩, trivial, trivial⟩⟩, ⟨⟨Tryz.func132, fb132⟩, ⟨⟨Tryz.func131, fb131⟩, ⟨⟨Tryz.func130, fb130⟩, trivial, trivial⟩, trivial⟩, ⟨⟨Tryz.func133, fb133⟩, trivial, trivial⟩⟩⟩⟩⟩, ⟨⟨Tryz.func155, fb155⟩, ⟨⟨Tryz.func145, fb145⟩, ⟨⟨Tryz.func140, fb140⟩, ⟨⟨Tryz.func137, fb137⟩, ⟨⟨Tryz.func136, fb136⟩, ⟨⟨Tryz.func135, fb135⟩, trivial, trivial⟩, trivial⟩, ⟨⟨Tryz.func139, fb139⟩, ⟨⟨Tryz.func138, fb138⟩, trivial, trivial⟩, trivial⟩⟩, ⟨⟨Tryz.func143, fb143⟩, ⟨⟨Tryz.func142, fb142⟩, ⟨⟨Tryz.func141, fb141⟩, trivial, trivial⟩, trivial⟩, ⟨⟨Tryz.func144, fb144⟩, trivial, trivial⟩⟩⟩, ⟨⟨Tryz.func150, fb150⟩, ⟨⟨Tryz.func148, fb148⟩, ⟨⟨Tryz.func147, fb147⟩, ⟨⟨Tryz.func146, fb146⟩, trivial, trivial⟩, trivial⟩, ⟨⟨Tryz.func149, fb149⟩, trivial, trivial⟩⟩, ⟨⟨Tryz.func153, fb153⟩, ⟨⟨Tryz.func152, fb152⟩, ⟨⟨Tryz.func151, fb151⟩, trivial, trivial⟩, trivial⟩, ⟨⟨Tryz.func154, fb154⟩, trivial, trivial⟩⟩⟩⟩, ⟨⟨Tryz.func167, fb167⟩, ⟨⟨Tryz.func162, fb162⟩, ⟨⟨Tryz.func159, fb159⟩, ⟨⟨Tryz.func158, fb158⟩, ⟨⟨Tryz.func157, fb157⟩, trivial, trivial⟩, trivial⟩, ⟨⟨Tryz.func161, fb161⟩, ⟨⟨Tryz.func160, fb160⟩, trivial, trivial⟩, trivial⟩⟩, ⟨⟨Tryz.func165, fb165⟩, ⟨⟨Tryz.func164, fb164⟩, ⟨⟨Tryz.func163, fb163⟩, trivial, trivial⟩, trivial⟩, ⟨⟨Tryz.func166, fb166⟩, trivial, trivial⟩⟩⟩, ⟨⟨Tryz.func180, fb180⟩, ⟨⟨Tryz.func170, fb170⟩, ⟨⟨Tryz.func169, fb169⟩, ⟨⟨Tryz.func168, fb168⟩, trivial, trivial⟩, trivial⟩, ⟨⟨Tryz.func171, fb171⟩, trivial, trivial⟩⟩, ⟨⟨Tryz.func183, fb183⟩, ⟨⟨Tryz.func182, fb182⟩, ⟨⟨Tryz.func181, fb181⟩, trivial, trivial⟩, trivial⟩, ⟨⟨Tryz.func184, fb184⟩, trivial, trivial⟩⟩⟩⟩⟩⟩⟩
theorem x67 : XF Tryz.prog 67 (Extern.Atomic.update (Op.intArith .add) .i64 true) := ⟨Tryz.f67, Tryz.func67, by kernel_rfl, by kernel_rfl, by kernel_rfl, by kernel_rfl⟩
theorem x68 : XF Tryz.prog 68 (Extern.Atomic.loadT (.int .i64)) := ⟨Tryz.f68, Tryz.func68, by kernel_rfl, by kernel_rfl, by kernel_rfl, by kernel_rfl⟩
theorem x124 : XF Tryz.prog 124 (Extern.Atomic.loadT (.int .u32)) := ⟨Tryz.f124, Tryz.func124, by kernel_rfl, by kernel_rfl, by kernel_rfl, by kernel_rfl⟩
theorem x156 : XF Tryz.prog 156 Extern.Atomic.storeT := ⟨Tryz.f156, Tryz.func156, by kernel_rfl, by kernel_rfl, by kernel_rfl, by kernel_rfl⟩
theorem x172 : XF Tryz.prog 172 (fun _ => do mark .disable; pure Extern.Race.none_) := ⟨Tryz.f172, Tryz.func172, by kernel_rfl, by kernel_rfl, by kernel_rfl, by kernel_rfl⟩
theorem x173 : XF Tryz.prog 173 (Extern.Atomic.casT (.int .i32)) := ⟨Tryz.f173, Tryz.func173, by kernel_rfl, by kernel_rfl, by kernel_rfl, by kernel_rfl⟩
theorem x174 : XF Tryz.prog 174 (fun _ => do mark .enable; pure Extern.Race.none_) := ⟨Tryz.f174, Tryz.func174, by kernel_rfl, by kernel_rfl, by kernel_rfl, by kernel_rfl⟩
theorem x175 : XF Tryz.prog 175 (Extern.Race.marked .acquire) := ⟨Tryz.f175, Tryz.func175, by kernel_rfl, by kernel_rfl, by kernel_rfl, by kernel_rfl⟩
theorem x177 : XF Tryz.prog 177 (Extern.Race.marked .releaseMerge) := ⟨Tryz.f177, Tryz.func177, by kernel_rfl, by kernel_rfl, by kernel_rfl, by kernel_rfl⟩
theorem x178 : XF Tryz.prog 178 (Extern.Atomic.update (Op.intArith .add) .i32 true) := ⟨Tryz.f178, Tryz.func178, by kernel_rfl, by kernel_rfl, by kernel_rfl, by kernel_rfl⟩
def exts : List (Nat × FC) := [(67, xAdd .i64), (68, xLoad .i64), (124, xLoad .u32), (156, xStore), (172, xMark0), (173, xCas .i32), (174, xMark0), (175, xMark1), (177, xMark1), (178, xAdd .i32)]
theorem extsOk : ∀ q ∈ exts, XcOk Tryz.prog q.1 q.2 := by
  intro q hq
  simp only [exts, List.mem_cons, List.not_mem_nil, or_false] at hq
  rcases hq with rfl | rfl | rfl | rfl | rfl | rfl | rfl | rfl | rfl | rfl
  · exact xAdd_ok x67
  · exact xLoad_ok x68
  · exact xLoad_ok x124
  · exact xStore_ok x156
  · exact xMark0_ok x172
  · exact xCas_ok x173
  · exact xMark0_ok x174
  · exact xMark1_ok x175
  · exact xMark1_ok x177
  · exact xAdd_ok x178
noncomputable def kit : Kit := { tb := tab, fns := fns, X := lookX exts }
theorem kitOk : KitOk Tryz.prog kit := ⟨tabOk, mixed, fns_ok' fnsE, ⟨fun _ _ h => (by cases h), fun _ _ h => (by cases h)⟩, fun _ _ h => (by cases h), fun _ _ h => (by cases h), lookX_ok extsOk⟩
end Go.Proofs.YtfplfbaebiaanaaGreat
