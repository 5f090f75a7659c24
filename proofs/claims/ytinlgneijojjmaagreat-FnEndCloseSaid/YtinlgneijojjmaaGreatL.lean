/- The engine's run of each function comes to the plain function. Written by a program of my own. -/
import Derived.Test.YtinlgneijojjmaaGreatF
import Derived.Test.YtinlgneijojjmaaGreatProg
import Derived.KernelRfl
set_option linter.unusedVariables false
set_option maxRecDepth 100000
namespace Go.VI.EwcVi
open Go Go.VI
def tab : Tab := [
(2, ⟨.int .i64, 1, (.int .i64)⟩),
(3, ⟨.int .i64, 1, (.int .i64)⟩),
(4, ⟨.bool, 1, .bool⟩),
(5, ⟨.int .u8, 1, (.int .u8)⟩),
(6, ⟨.int .u8, 1, (.int .u8)⟩),
(9, ⟨.str, 1, .str⟩),
(10, ⟨.str, 1, .str⟩),
(11, ⟨.str, 1, .str⟩),
(12, ⟨.int .u64, 1, (.int .u64)⟩),
(15, ⟨.ptr 312, 1, .unit⟩),
(16, ⟨.ptr 315, 1, .unit⟩),
(17, ⟨.ptr 324, 1, .unit⟩),
(21, ⟨.int .i32, 1, (.int .i32)⟩),
(22, ⟨.sl 5, 1, (.sl (.int .u8))⟩),
(23, ⟨.sl 89, 1, (.sl (.pair .str (.pair (.int .i64) (.pair (.int .i64) (.pair .str (.int .i64))))))⟩),
(24, ⟨.sl 113, 1, (.sl (.pair (.int .i64) (.sl (.pair (.int .i64) (.pair (.int .i64) (.pair (.int .i64) (.int .i64)))))))⟩),
(29, ⟨.sl 104, 1, (.sl (.pair (.pair .str (.pair (.int .i64) (.pair (.int .i64) (.pair .str (.int .i64))))) (.int .i64)))⟩),
(38, ⟨.sl 195, 1, (.sl (.pair (.int .i64) (.int .i64)))⟩),
(39, ⟨.struct [0, 1, 2, 3, 4], 5, (.pair (.int .i64) (.pair (.sl (.int .u8)) (.pair (.int .i64) (.pair (.int .i64) (.sl (.pair (.int .i64) (.int .i64)))))))⟩),
(40, ⟨.struct [0, 1, 2, 3, 4], 5, (.pair (.int .i64) (.pair (.sl (.int .u8)) (.pair (.int .i64) (.pair (.int .i64) (.sl (.pair (.int .i64) (.int .i64)))))))⟩),
(41, ⟨.sl 190, 1, (.sl (.pair (.int .i64) (.int .u8)))⟩),
(42, ⟨.struct [0, 1, 2, 3], 4, (.pair (.int .i64) (.pair (.int .i64) (.pair (.sl (.int .u8)) (.sl (.pair (.int .i64) (.int .u8))))))⟩),
(43, ⟨.struct [0, 1, 2, 3], 4, (.pair (.int .i64) (.pair (.int .i64) (.pair (.sl (.int .u8)) (.sl (.pair (.int .i64) (.int .u8))))))⟩),
(44, ⟨.struct [0, 1, 2], 3, (.pair (.int .i64) (.pair (.int .i64) (.int .i64)))⟩),
(45, ⟨.struct [0, 1, 2], 3, (.pair (.int .i64) (.pair (.int .i64) (.int .i64)))⟩),
(46, ⟨.struct [0, 1, 2, 3, 4, 5, 6, 11, 15, 16, 17, 18, 19, 20, 21], 24, (.pair (.int .i64) (.pair (.int .i64) (.pair (.int .i64) (.pair (.int .i64) (.pair (.int .i64) (.pair (.int .i64) (.pair (.pair (.int .i64) (.pair (.sl (.int .u8)) (.pair (.int .i64) (.pair (.int .i64) (.sl (.pair (.int .i64) (.int .i64))))))) (.pair (.pair (.int .i64) (.pair (.int .i64) (.pair (.sl (.int .u8)) (.sl (.pair (.int .i64) (.int .u8)))))) (.pair .bool (.pair .bool (.pair .bool (.pair (.int .i64) (.pair (.int .i64) (.pair (.int .i64) (.pair (.int .i64) (.pair (.int .i64) (.int .i64)))))))))))))))))⟩),
(47, ⟨.struct [0, 1, 2, 3, 4, 5, 6, 11, 15, 16, 17, 18, 19, 20, 21], 24, (.pair (.int .i64) (.pair (.int .i64) (.pair (.int .i64) (.pair (.int .i64) (.pair (.int .i64) (.pair (.int .i64) (.pair (.pair (.int .i64) (.pair (.sl (.int .u8)) (.pair (.int .i64) (.pair (.int .i64) (.sl (.pair (.int .i64) (.int .i64))))))) (.pair (.pair (.int .i64) (.pair (.int .i64) (.pair (.sl (.int .u8)) (.sl (.pair (.int .i64) (.int .u8)))))) (.pair .bool (.pair .bool (.pair .bool (.pair (.int .i64) (.pair (.int .i64) (.pair (.int .i64) (.pair (.int .i64) (.pair (.int .i64) (.int .i64)))))))))))))))))⟩),
(50, ⟨.sl 59, 1, (.sl (.pair (.int .i64) (.pair (.int .i64) (.pair (.int .i64) (.pair (.int .i64) (.pair (.int .i64) (.pair .bool (.pair .bool (.pair .bool (.pair .bool (.pair (.sl (.pair (.int .i64) (.int .i64))) (.sl (.int .u8)))))))))))))⟩),
(58, ⟨.struct [0, 1, 2, 3, 4, 5, 6, 7, 8, 9, 10], 11, (.pair (.int .i64) (.pair (.int .i64) (.pair (.int .i64) (.pair (.int .i64) (.pair (.int .i64) (.pair .bool (.pair .bool (.pair .bool (.pair .bool (.pair (.sl (.pair (.int .i64) (.int .i64))) (.sl (.int .u8))))))))))))⟩),
(59, ⟨.struct [0, 1, 2, 3, 4, 5, 6, 7, 8, 9, 10], 11, (.pair (.int .i64) (.pair (.int .i64) (.pair (.int .i64) (.pair (.int .i64) (.pair (.int .i64) (.pair .bool (.pair .bool (.pair .bool (.pair .bool (.pair (.sl (.pair (.int .i64) (.int .i64))) (.sl (.int .u8))))))))))))⟩),
(67, ⟨.sl 47, 1, (.sl (.pair (.int .i64) (.pair (.int .i64) (.pair (.int .i64) (.pair (.int .i64) (.pair (.int .i64) (.pair (.int .i64) (.pair (.pair (.int .i64) (.pair (.sl (.int .u8)) (.pair (.int .i64) (.pair (.int .i64) (.sl (.pair (.int .i64) (.int .i64))))))) (.pair (.pair (.int .i64) (.pair (.int .i64) (.pair (.sl (.int .u8)) (.sl (.pair (.int .i64) (.int .u8)))))) (.pair .bool (.pair .bool (.pair .bool (.pair (.int .i64) (.pair (.int .i64) (.pair (.int .i64) (.pair (.int .i64) (.pair (.int .i64) (.int .i64))))))))))))))))))⟩),
(68, ⟨.sl 145, 1, (.sl (.pair (.int .i64) (.pair .bool (.sl (.int .u8)))))⟩),
(69, ⟨.sl 22, 1, (.sl (.sl (.int .u8)))⟩),
(70, ⟨.struct [0, 1, 2, 3, 4], 5, (.pair (.sl (.pair (.int .i64) (.pair (.int .i64) (.pair (.int .i64) (.pair (.int .i64) (.pair (.int .i64) (.pair (.int .i64) (.pair (.pair (.int .i64) (.pair (.sl (.int .u8)) (.pair (.int .i64) (.pair (.int .i64) (.sl (.pair (.int .i64) (.int .i64))))))) (.pair (.pair (.int .i64) (.pair (.int .i64) (.pair (.sl (.int .u8)) (.sl (.pair (.int .i64) (.int .u8)))))) (.pair .bool (.pair .bool (.pair .bool (.pair (.int .i64) (.pair (.int .i64) (.pair (.int .i64) (.pair (.int .i64) (.pair (.int .i64) (.int .i64)))))))))))))))))) (.pair (.sl (.pair (.int .i64) (.pair .bool (.sl (.int .u8))))) (.pair (.int .i64) (.pair (.sl (.sl (.int .u8))) (.sl (.sl (.int .u8)))))))⟩),
(71, ⟨.struct [0, 1, 2, 3, 4], 5, (.pair (.sl (.pair (.int .i64) (.pair (.int .i64) (.pair (.int .i64) (.pair (.int .i64) (.pair (.int .i64) (.pair (.int .i64) (.pair (.pair (.int .i64) (.pair (.sl (.int .u8)) (.pair (.int .i64) (.pair (.int .i64) (.sl (.pair (.int .i64) (.int .i64))))))) (.pair (.pair (.int .i64) (.pair (.int .i64) (.pair (.sl (.int .u8)) (.sl (.pair (.int .i64) (.int .u8)))))) (.pair .bool (.pair .bool (.pair .bool (.pair (.int .i64) (.pair (.int .i64) (.pair (.int .i64) (.pair (.int .i64) (.pair (.int .i64) (.int .i64)))))))))))))))))) (.pair (.sl (.pair (.int .i64) (.pair .bool (.sl (.int .u8))))) (.pair (.int .i64) (.pair (.sl (.sl (.int .u8))) (.sl (.sl (.int .u8)))))))⟩),
(77, ⟨.sl 161, 1, (.sl (.pair (.int .i64) (.sl (.pair (.int .i64) (.pair (.int .i64) (.pair (.int .i64) (.int .i64)))))))⟩),
(85, ⟨.ptr 166, 1, .unit⟩),
(88, ⟨.struct [0, 1, 2, 3, 4], 5, (.pair .str (.pair (.int .i64) (.pair (.int .i64) (.pair .str (.int .i64)))))⟩),
(89, ⟨.struct [0, 1, 2, 3, 4], 5, (.pair .str (.pair (.int .i64) (.pair (.int .i64) (.pair .str (.int .i64)))))⟩),
(103, ⟨.struct [0, 5], 6, (.pair (.pair .str (.pair (.int .i64) (.pair (.int .i64) (.pair .str (.int .i64))))) (.int .i64))⟩),
(104, ⟨.struct [0, 5], 6, (.pair (.pair .str (.pair (.int .i64) (.pair (.int .i64) (.pair .str (.int .i64))))) (.int .i64))⟩),
(111, ⟨.sl 115, 1, (.sl (.pair (.int .i64) (.pair (.int .i64) (.pair (.int .i64) (.int .i64)))))⟩),
(112, ⟨.struct [0, 1], 2, (.pair (.int .i64) (.sl (.pair (.int .i64) (.pair (.int .i64) (.pair (.int .i64) (.int .i64))))))⟩),
(113, ⟨.struct [0, 1], 2, (.pair (.int .i64) (.sl (.pair (.int .i64) (.pair (.int .i64) (.pair (.int .i64) (.int .i64))))))⟩),
(114, ⟨.struct [0, 1, 2, 3], 4, (.pair (.int .i64) (.pair (.int .i64) (.pair (.int .i64) (.int .i64))))⟩),
(115, ⟨.struct [0, 1, 2, 3], 4, (.pair (.int .i64) (.pair (.int .i64) (.pair (.int .i64) (.int .i64))))⟩),
(144, ⟨.struct [0, 1, 2], 3, (.pair (.int .i64) (.pair .bool (.sl (.int .u8))))⟩),
(145, ⟨.struct [0, 1, 2], 3, (.pair (.int .i64) (.pair .bool (.sl (.int .u8))))⟩),
(149, ⟨.sl 154, 1, (.sl (.pair (.int .i64) (.pair (.int .i64) (.pair (.int .i64) (.pair (.int .i64) (.pair (.int .i64) (.pair (.int .i64) (.pair .bool (.pair .bool (.sl (.int .u8)))))))))))⟩),
(150, ⟨.struct [0, 1, 2], 3, (.pair (.sl (.pair (.int .i64) (.pair (.int .i64) (.pair (.int .i64) (.pair (.int .i64) (.pair (.int .i64) (.pair (.int .i64) (.pair .bool (.pair .bool (.sl (.int .u8))))))))))) (.pair (.sl (.pair (.int .i64) (.pair (.int .i64) (.pair (.int .i64) (.pair (.int .i64) (.pair (.int .i64) (.pair (.int .i64) (.pair .bool (.pair .bool (.sl (.int .u8))))))))))) (.int .i64)))⟩),
(151, ⟨.struct [0, 1, 2], 3, (.pair (.sl (.pair (.int .i64) (.pair (.int .i64) (.pair (.int .i64) (.pair (.int .i64) (.pair (.int .i64) (.pair (.int .i64) (.pair .bool (.pair .bool (.sl (.int .u8))))))))))) (.pair (.sl (.pair (.int .i64) (.pair (.int .i64) (.pair (.int .i64) (.pair (.int .i64) (.pair (.int .i64) (.pair (.int .i64) (.pair .bool (.pair .bool (.sl (.int .u8))))))))))) (.int .i64)))⟩),
(153, ⟨.struct [0, 1, 2, 3, 4, 5, 6, 7, 8], 9, (.pair (.int .i64) (.pair (.int .i64) (.pair (.int .i64) (.pair (.int .i64) (.pair (.int .i64) (.pair (.int .i64) (.pair .bool (.pair .bool (.sl (.int .u8))))))))))⟩),
(154, ⟨.struct [0, 1, 2, 3, 4, 5, 6, 7, 8], 9, (.pair (.int .i64) (.pair (.int .i64) (.pair (.int .i64) (.pair (.int .i64) (.pair (.int .i64) (.pair (.int .i64) (.pair .bool (.pair .bool (.sl (.int .u8))))))))))⟩),
(155, ⟨.sl 215, 1, (.sl (.pair (.sl (.pair (.int .i64) (.pair (.int .i64) (.pair (.int .i64) (.pair (.int .i64) (.pair (.int .i64) (.pair (.int .i64) (.pair .bool (.pair .bool (.sl (.int .u8))))))))))) (.int .i64)))⟩),
(159, ⟨.sl 264, 1, (.sl (.pair (.int .i64) (.pair (.int .i64) (.pair (.int .i64) (.int .i64)))))⟩),
(160, ⟨.struct [0, 1], 2, (.pair (.int .i64) (.sl (.pair (.int .i64) (.pair (.int .i64) (.pair (.int .i64) (.int .i64))))))⟩),
(161, ⟨.struct [0, 1], 2, (.pair (.int .i64) (.sl (.pair (.int .i64) (.pair (.int .i64) (.pair (.int .i64) (.int .i64))))))⟩),
(165, ⟨.struct [0, 1], 2, (.pair (.sl (.int .u8)) (.int .i64))⟩),
(166, ⟨.struct [0, 1], 2, (.pair (.sl (.int .u8)) (.int .i64))⟩),
(167, ⟨.sl 9, 1, (.sl .str)⟩),
(182, ⟨.sl 3, 1, (.sl (.int .i64))⟩),
(187, ⟨.ptr 47, 1, .unit⟩),
(189, ⟨.struct [0, 1], 2, (.pair (.int .i64) (.int .u8))⟩),
(190, ⟨.struct [0, 1], 2, (.pair (.int .i64) (.int .u8))⟩),
(194, ⟨.struct [0, 1], 2, (.pair (.int .i64) (.int .i64))⟩),
(195, ⟨.struct [0, 1], 2, (.pair (.int .i64) (.int .i64))⟩),
(205, ⟨.struct [0, 1, 2, 3], 4, (.pair (.int .i64) (.pair (.int .i64) (.pair (.int .i64) (.sl (.int .u8)))))⟩),
(206, ⟨.struct [0, 1, 2, 3], 4, (.pair (.int .i64) (.pair (.int .i64) (.pair (.int .i64) (.sl (.int .u8)))))⟩),
(210, ⟨.struct [0, 1, 2], 3, (.pair (.int .i64) (.pair (.int .i64) (.sl (.pair (.int .i64) (.pair (.int .i64) (.pair (.int .i64) (.pair (.int .i64) (.pair (.int .i64) (.pair (.int .i64) (.pair .bool (.pair .bool (.sl (.int .u8)))))))))))))⟩),
(211, ⟨.struct [0, 1, 2], 3, (.pair (.int .i64) (.pair (.int .i64) (.sl (.pair (.int .i64) (.pair (.int .i64) (.pair (.int .i64) (.pair (.int .i64) (.pair (.int .i64) (.pair (.int .i64) (.pair .bool (.pair .bool (.sl (.int .u8)))))))))))))⟩),
(214, ⟨.struct [0, 1], 2, (.pair (.sl (.pair (.int .i64) (.pair (.int .i64) (.pair (.int .i64) (.pair (.int .i64) (.pair (.int .i64) (.pair (.int .i64) (.pair .bool (.pair .bool (.sl (.int .u8))))))))))) (.int .i64))⟩),
(215, ⟨.struct [0, 1], 2, (.pair (.sl (.pair (.int .i64) (.pair (.int .i64) (.pair (.int .i64) (.pair (.int .i64) (.pair (.int .i64) (.pair (.int .i64) (.pair .bool (.pair .bool (.sl (.int .u8))))))))))) (.int .i64))⟩),
(230, ⟨.int .u64, 1, (.int .u64)⟩),
(231, ⟨.struct [0, 1], 10, (.pair (.int .i64) (.pair (.int .i64) (.pair (.int .i64) (.pair (.int .i64) (.pair (.int .i64) (.pair (.int .i64) (.pair (.int .i64) (.pair .bool (.pair .bool (.sl (.int .u8)))))))))))⟩),
(232, ⟨.struct [0, 1], 10, (.pair (.int .i64) (.pair (.int .i64) (.pair (.int .i64) (.pair (.int .i64) (.pair (.int .i64) (.pair (.int .i64) (.pair (.int .i64) (.pair .bool (.pair .bool (.sl (.int .u8)))))))))))⟩),
(233, ⟨.sl 232, 1, (.sl (.pair (.int .i64) (.pair (.int .i64) (.pair (.int .i64) (.pair (.int .i64) (.pair (.int .i64) (.pair (.int .i64) (.pair (.int .i64) (.pair .bool (.pair .bool (.sl (.int .u8))))))))))))⟩),
(256, ⟨.ptr 40, 1, .unit⟩),
(264, ⟨.struct [0, 1, 2, 3], 4, (.pair (.int .i64) (.pair (.int .i64) (.pair (.int .i64) (.int .i64))))⟩),
(289, ⟨.ptr 154, 1, .unit⟩),
(299, ⟨.struct [0, 1, 2], 3, (.pair (.int .i64) (.pair (.int .i64) (.sl (.int .u8))))⟩),
(300, ⟨.struct [0, 1, 2], 3, (.pair (.int .i64) (.pair (.int .i64) (.sl (.int .u8))))⟩),
(316, ⟨.int .u32, 1, (.int .u32)⟩),
(317, ⟨.int .u8, 1, (.int .u8)⟩),
(318, ⟨.int .u8, 1, (.int .u8)⟩),
(320, ⟨.ptr 5, 1, .unit⟩),
(321, ⟨.int .i32, 1, (.int .i32)⟩),
(322, ⟨.int .i32, 1, (.int .i32)⟩)]
noncomputable def fn_4 : Fun := ⟨Go.Proofs.Tryz.f4.ntmps, Go.Proofs.Tryz.f4.body.getD .skip, Go.Proofs.Tryz.f4.results.toList, []⟩
noncomputable def fn_5 : Fun := ⟨Go.Proofs.Tryz.f5.ntmps, Go.Proofs.Tryz.f5.body.getD .skip, Go.Proofs.Tryz.f5.results.toList, []⟩
noncomputable def fn_6 : Fun := ⟨Go.Proofs.Tryz.f6.ntmps, Go.Proofs.Tryz.f6.body.getD .skip, Go.Proofs.Tryz.f6.results.toList, []⟩
noncomputable def fn_14 : Fun := ⟨Go.Proofs.Tryz.f14.ntmps, Go.Proofs.Tryz.f14.body.getD .skip, Go.Proofs.Tryz.f14.results.toList, []⟩
noncomputable def fn_17 : Fun := ⟨Go.Proofs.Tryz.f17.ntmps, Go.Proofs.Tryz.f17.body.getD .skip, Go.Proofs.Tryz.f17.results.toList, []⟩
noncomputable def fn_18 : Fun := ⟨Go.Proofs.Tryz.f18.ntmps, Go.Proofs.Tryz.f18.body.getD .skip, Go.Proofs.Tryz.f18.results.toList, []⟩
noncomputable def fn_19 : Fun := ⟨Go.Proofs.Tryz.f19.ntmps, Go.Proofs.Tryz.f19.body.getD .skip, Go.Proofs.Tryz.f19.results.toList, []⟩
noncomputable def fn_20 : Fun := ⟨Go.Proofs.Tryz.f20.ntmps, Go.Proofs.Tryz.f20.body.getD .skip, Go.Proofs.Tryz.f20.results.toList, []⟩
noncomputable def fn_21 : Fun := ⟨Go.Proofs.Tryz.f21.ntmps, Go.Proofs.Tryz.f21.body.getD .skip, Go.Proofs.Tryz.f21.results.toList, []⟩
noncomputable def fn_22 : Fun := ⟨Go.Proofs.Tryz.f22.ntmps, Go.Proofs.Tryz.f22.body.getD .skip, Go.Proofs.Tryz.f22.results.toList, []⟩
noncomputable def fn_23 : Fun := ⟨Go.Proofs.Tryz.f23.ntmps, Go.Proofs.Tryz.f23.body.getD .skip, Go.Proofs.Tryz.f23.results.toList, []⟩
noncomputable def fn_24 : Fun := ⟨Go.Proofs.Tryz.f24.ntmps, Go.Proofs.Tryz.f24.body.getD .skip, Go.Proofs.Tryz.f24.results.toList, []⟩
noncomputable def fn_25 : Fun := ⟨Go.Proofs.Tryz.f25.ntmps, Go.Proofs.Tryz.f25.body.getD .skip, Go.Proofs.Tryz.f25.results.toList, []⟩
noncomputable def fn_26 : Fun := ⟨Go.Proofs.Tryz.f26.ntmps, Go.Proofs.Tryz.f26.body.getD .skip, Go.Proofs.Tryz.f26.results.toList, []⟩
noncomputable def fn_27 : Fun := ⟨Go.Proofs.Tryz.f27.ntmps, Go.Proofs.Tryz.f27.body.getD .skip, Go.Proofs.Tryz.f27.results.toList, []⟩
noncomputable def fn_28 : Fun := ⟨Go.Proofs.Tryz.f28.ntmps, Go.Proofs.Tryz.f28.body.getD .skip, Go.Proofs.Tryz.f28.results.toList, []⟩
noncomputable def fn_29 : Fun := ⟨Go.Proofs.Tryz.f29.ntmps, Go.Proofs.Tryz.f29.body.getD .skip, Go.Proofs.Tryz.f29.results.toList, []⟩
noncomputable def fn_30 : Fun := ⟨Go.Proofs.Tryz.f30.ntmps, Go.Proofs.Tryz.f30.body.getD .skip, Go.Proofs.Tryz.f30.results.toList, []⟩
noncomputable def fn_31 : Fun := ⟨Go.Proofs.Tryz.f31.ntmps, Go.Proofs.Tryz.f31.body.getD .skip, Go.Proofs.Tryz.f31.results.toList, []⟩
noncomputable def fn_32 : Fun := ⟨Go.Proofs.Tryz.f32.ntmps, Go.Proofs.Tryz.f32.body.getD .skip, Go.Proofs.Tryz.f32.results.toList, []⟩
noncomputable def fn_47 : Fun := ⟨Go.Proofs.Tryz.f47.ntmps, Go.Proofs.Tryz.f47.body.getD .skip, Go.Proofs.Tryz.f47.results.toList, []⟩
noncomputable def fn_49 : Fun := ⟨Go.Proofs.Tryz.f49.ntmps, Go.Proofs.Tryz.f49.body.getD .skip, Go.Proofs.Tryz.f49.results.toList, []⟩
noncomputable def fn_52 : Fun := ⟨Go.Proofs.Tryz.f52.ntmps, Go.Proofs.Tryz.f52.body.getD .skip, Go.Proofs.Tryz.f52.results.toList, []⟩
noncomputable def fn_63 : Fun := ⟨Go.Proofs.Tryz.f63.ntmps, Go.Proofs.Tryz.f63.body.getD .skip, Go.Proofs.Tryz.f63.results.toList, []⟩
noncomputable def fn_65 : Fun := ⟨Go.Proofs.Tryz.f65.ntmps, Go.Proofs.Tryz.f65.body.getD .skip, Go.Proofs.Tryz.f65.results.toList, []⟩
noncomputable def fn_66 : Fun := ⟨Go.Proofs.Tryz.f66.ntmps, Go.Proofs.Tryz.f66.body.getD .skip, Go.Proofs.Tryz.f66.results.toList, []⟩
noncomputable def fn_70 : Fun := ⟨Go.Proofs.Tryz.f70.ntmps, Go.Proofs.Tryz.f70.body.getD .skip, Go.Proofs.Tryz.f70.results.toList, []⟩
noncomputable def fn_71 : Fun := ⟨Go.Proofs.Tryz.f71.ntmps, Go.Proofs.Tryz.f71.body.getD .skip, Go.Proofs.Tryz.f71.results.toList, []⟩
noncomputable def fn_72 : Fun := ⟨Go.Proofs.Tryz.f72.ntmps, Go.Proofs.Tryz.f72.body.getD .skip, Go.Proofs.Tryz.f72.results.toList, []⟩
noncomputable def fn_73 : Fun := ⟨Go.Proofs.Tryz.f73.ntmps, Go.Proofs.Tryz.f73.body.getD .skip, Go.Proofs.Tryz.f73.results.toList, []⟩
noncomputable def fn_74 : Fun := ⟨Go.Proofs.Tryz.f74.ntmps, Go.Proofs.Tryz.f74.body.getD .skip, Go.Proofs.Tryz.f74.results.toList, []⟩
noncomputable def fn_75 : Fun := ⟨Go.Proofs.Tryz.f75.ntmps, Go.Proofs.Tryz.f75.body.getD .skip, Go.Proofs.Tryz.f75.results.toList, []⟩
noncomputable def fn_76 : Fun := ⟨Go.Proofs.Tryz.f76.ntmps, Go.Proofs.Tryz.f76.body.getD .skip, Go.Proofs.Tryz.f76.results.toList, []⟩
noncomputable def fn_77 : Fun := ⟨Go.Proofs.Tryz.f77.ntmps, Go.Proofs.Tryz.f77.body.getD .skip, Go.Proofs.Tryz.f77.results.toList, []⟩
noncomputable def fn_78 : Fun := ⟨Go.Proofs.Tryz.f78.ntmps, Go.Proofs.Tryz.f78.body.getD .skip, Go.Proofs.Tryz.f78.results.toList, []⟩
noncomputable def fn_79 : Fun := ⟨Go.Proofs.Tryz.f79.ntmps, Go.Proofs.Tryz.f79.body.getD .skip, Go.Proofs.Tryz.f79.results.toList, []⟩
noncomputable def fn_80 : Fun := ⟨Go.Proofs.Tryz.f80.ntmps, Go.Proofs.Tryz.f80.body.getD .skip, Go.Proofs.Tryz.f80.results.toList, []⟩
noncomputable def fn_81 : Fun := ⟨Go.Proofs.Tryz.f81.ntmps, Go.Proofs.Tryz.f81.body.getD .skip, Go.Proofs.Tryz.f81.results.toList, []⟩
noncomputable def fn_82 : Fun := ⟨Go.Proofs.Tryz.f82.ntmps, Go.Proofs.Tryz.f82.body.getD .skip, Go.Proofs.Tryz.f82.results.toList, []⟩
noncomputable def fn_83 : Fun := ⟨Go.Proofs.Tryz.f83.ntmps, Go.Proofs.Tryz.f83.body.getD .skip, Go.Proofs.Tryz.f83.results.toList, []⟩
noncomputable def fn_84 : Fun := ⟨Go.Proofs.Tryz.f84.ntmps, Go.Proofs.Tryz.f84.body.getD .skip, Go.Proofs.Tryz.f84.results.toList, []⟩
noncomputable def fn_85 : Fun := ⟨Go.Proofs.Tryz.f85.ntmps, Go.Proofs.Tryz.f85.body.getD .skip, Go.Proofs.Tryz.f85.results.toList, []⟩
noncomputable def fn_86 : Fun := ⟨Go.Proofs.Tryz.f86.ntmps, Go.Proofs.Tryz.f86.body.getD .skip, Go.Proofs.Tryz.f86.results.toList, []⟩
noncomputable def fn_87 : Fun := ⟨Go.Proofs.Tryz.f87.ntmps, Go.Proofs.Tryz.f87.body.getD .skip, Go.Proofs.Tryz.f87.results.toList, []⟩
noncomputable def fn_88 : Fun := ⟨Go.Proofs.Tryz.f88.ntmps, Go.Proofs.Tryz.f88.body.getD .skip, Go.Proofs.Tryz.f88.results.toList, []⟩
noncomputable def fn_89 : Fun := ⟨Go.Proofs.Tryz.f89.ntmps, Go.Proofs.Tryz.f89.body.getD .skip, Go.Proofs.Tryz.f89.results.toList, []⟩
noncomputable def fn_90 : Fun := ⟨Go.Proofs.Tryz.f90.ntmps, Go.Proofs.Tryz.f90.body.getD .skip, Go.Proofs.Tryz.f90.results.toList, []⟩
noncomputable def fn_91 : Fun := ⟨Go.Proofs.Tryz.f91.ntmps, Go.Proofs.Tryz.f91.body.getD .skip, Go.Proofs.Tryz.f91.results.toList, []⟩
noncomputable def fn_92 : Fun := ⟨Go.Proofs.Tryz.f92.ntmps, Go.Proofs.Tryz.f92.body.getD .skip, Go.Proofs.Tryz.f92.results.toList, []⟩
noncomputable def fn_93 : Fun := ⟨Go.Proofs.Tryz.f93.ntmps, Go.Proofs.Tryz.f93.body.getD .skip, Go.Proofs.Tryz.f93.results.toList, []⟩
noncomputable def fn_94 : Fun := ⟨Go.Proofs.Tryz.f94.ntmps, Go.Proofs.Tryz.f94.body.getD .skip, Go.Proofs.Tryz.f94.results.toList, []⟩
noncomputable def fn_95 : Fun := ⟨Go.Proofs.Tryz.f95.ntmps, Go.Proofs.Tryz.f95.body.getD .skip, Go.Proofs.Tryz.f95.results.toList, []⟩
noncomputable def fn_96 : Fun := ⟨Go.Proofs.Tryz.f96.ntmps, Go.Proofs.Tryz.f96.body.getD .skip, Go.Proofs.Tryz.f96.results.toList, []⟩
noncomputable def fn_97 : Fun := ⟨Go.Proofs.Tryz.f97.ntmps, Go.Proofs.Tryz.f97.body.getD .skip, Go.Proofs.Tryz.f97.results.toList, []⟩
noncomputable def fn_98 : Fun := ⟨Go.Proofs.Tryz.f98.ntmps, Go.Proofs.Tryz.f98.body.getD .skip, Go.Proofs.Tryz.f98.results.toList, []⟩
noncomputable def fn_99 : Fun := ⟨Go.Proofs.Tryz.f99.ntmps, Go.Proofs.Tryz.f99.body.getD .skip, Go.Proofs.Tryz.f99.results.toList, []⟩
noncomputable def fn_100 : Fun := ⟨Go.Proofs.Tryz.f100.ntmps, Go.Proofs.Tryz.f100.body.getD .skip, Go.Proofs.Tryz.f100.results.toList, []⟩
noncomputable def fn_101 : Fun := ⟨Go.Proofs.Tryz.f101.ntmps, Go.Proofs.Tryz.f101.body.getD .skip, Go.Proofs.Tryz.f101.results.toList, []⟩
noncomputable def fn_116 : Fun := ⟨Go.Proofs.Tryz.f116.ntmps, Go.Proofs.Tryz.f116.body.getD .skip, Go.Proofs.Tryz.f116.results.toList, []⟩
noncomputable def fn_128 : Fun := ⟨Go.Proofs.Tryz.f128.ntmps, Go.Proofs.Tryz.f128.body.getD .skip, Go.Proofs.Tryz.f128.results.toList, []⟩
noncomputable def fn_132 : Fun := ⟨Go.Proofs.Tryz.f132.ntmps, Go.Proofs.Tryz.f132.body.getD .skip, Go.Proofs.Tryz.f132.results.toList, []⟩
noncomputable def fn_137 : Fun := ⟨Go.Proofs.Tryz.f137.ntmps, Go.Proofs.Tryz.f137.body.getD .skip, Go.Proofs.Tryz.f137.results.toList, []⟩
noncomputable def fn_138 : Fun := ⟨Go.Proofs.Tryz.f138.ntmps, Go.Proofs.Tryz.f138.body.getD .skip, Go.Proofs.Tryz.f138.results.toList, []⟩
noncomputable def fn_139 : Fun := ⟨Go.Proofs.Tryz.f139.ntmps, Go.Proofs.Tryz.f139.body.getD .skip, Go.Proofs.Tryz.f139.results.toList, []⟩
noncomputable def fn_140 : Fun := ⟨Go.Proofs.Tryz.f140.ntmps, Go.Proofs.Tryz.f140.body.getD .skip, Go.Proofs.Tryz.f140.results.toList, []⟩
noncomputable def fn_141 : Fun := ⟨Go.Proofs.Tryz.f141.ntmps, Go.Proofs.Tryz.f141.body.getD .skip, Go.Proofs.Tryz.f141.results.toList, []⟩
noncomputable def fn_142 : Fun := ⟨Go.Proofs.Tryz.f142.ntmps, Go.Proofs.Tryz.f142.body.getD .skip, Go.Proofs.Tryz.f142.results.toList, []⟩
noncomputable def fn_143 : Fun := ⟨Go.Proofs.Tryz.f143.ntmps, Go.Proofs.Tryz.f143.body.getD .skip, Go.Proofs.Tryz.f143.results.toList, []⟩
noncomputable def fn_144 : Fun := ⟨Go.Proofs.Tryz.f144.ntmps, Go.Proofs.Tryz.f144.body.getD .skip, Go.Proofs.Tryz.f144.results.toList, []⟩
noncomputable def fn_145 : Fun := ⟨Go.Proofs.Tryz.f145.ntmps, Go.Proofs.Tryz.f145.body.getD .skip, Go.Proofs.Tryz.f145.results.toList, []⟩
noncomputable def fn_146 : Fun := ⟨Go.Proofs.Tryz.f146.ntmps, Go.Proofs.Tryz.f146.body.getD .skip, Go.Proofs.Tryz.f146.results.toList, []⟩
noncomputable def fn_147 : Fun := ⟨Go.Proofs.Tryz.f147.ntmps, Go.Proofs.Tryz.f147.body.getD .skip, Go.Proofs.Tryz.f147.results.toList, []⟩
noncomputable def fn_148 : Fun := ⟨Go.Proofs.Tryz.f148.ntmps, Go.Proofs.Tryz.f148.body.getD .skip, Go.Proofs.Tryz.f148.results.toList, []⟩
noncomputable def fn_149 : Fun := ⟨Go.Proofs.Tryz.f149.ntmps, Go.Proofs.Tryz.f149.body.getD .skip, Go.Proofs.Tryz.f149.results.toList, []⟩
noncomputable def fn_150 : Fun := ⟨Go.Proofs.Tryz.f150.ntmps, Go.Proofs.Tryz.f150.body.getD .skip, Go.Proofs.Tryz.f150.results.toList, []⟩
noncomputable def fn_151 : Fun := ⟨Go.Proofs.Tryz.f151.ntmps, Go.Proofs.Tryz.f151.body.getD .skip, Go.Proofs.Tryz.f151.results.toList, []⟩
noncomputable def fn_152 : Fun := ⟨Go.Proofs.Tryz.f152.ntmps, Go.Proofs.Tryz.f152.body.getD .skip, Go.Proofs.Tryz.f152.results.toList, []⟩
noncomputable def fn_153 : Fun := ⟨Go.Proofs.Tryz.f153.ntmps, Go.Proofs.Tryz.f153.body.getD .skip, Go.Proofs.Tryz.f153.results.toList, []⟩
noncomputable def fn_154 : Fun := ⟨Go.Proofs.Tryz.f154.ntmps, Go.Proofs.Tryz.f154.body.getD .skip, Go.Proofs.Tryz.f154.results.toList, []⟩
noncomputable def fn_155 : Fun := ⟨Go.Proofs.Tryz.f155.ntmps, Go.Proofs.Tryz.f155.body.getD .skip, Go.Proofs.Tryz.f155.results.toList, []⟩
noncomputable def fn_156 : Fun := ⟨Go.Proofs.Tryz.f156.ntmps, Go.Proofs.Tryz.f156.body.getD .skip, Go.Proofs.Tryz.f156.results.toList, []⟩
noncomputable def fn_157 : Fun := ⟨Go.Proofs.Tryz.f157.ntmps, Go.Proofs.Tryz.f157.body.getD .skip, Go.Proofs.Tryz.f157.results.toList, []⟩
noncomputable def fn_158 : Fun := ⟨Go.Proofs.Tryz.f158.ntmps, Go.Proofs.Tryz.f158.body.getD .skip, Go.Proofs.Tryz.f158.results.toList, []⟩
noncomputable def fn_159 : Fun := ⟨Go.Proofs.Tryz.f159.ntmps, Go.Proofs.Tryz.f159.body.getD .skip, Go.Proofs.Tryz.f159.results.toList, []⟩
noncomputable def fn_198 : Fun := ⟨Go.Proofs.Tryz.f198.ntmps, Go.Proofs.Tryz.f198.body.getD .skip, Go.Proofs.Tryz.f198.results.toList, []⟩
noncomputable def fn_200 : Fun := ⟨Go.Proofs.Tryz.f200.ntmps, Go.Proofs.Tryz.f200.body.getD .skip, Go.Proofs.Tryz.f200.results.toList, []⟩
noncomputable def fn_201 : Fun := ⟨Go.Proofs.Tryz.f201.ntmps, Go.Proofs.Tryz.f201.body.getD .skip, Go.Proofs.Tryz.f201.results.toList, []⟩
noncomputable def fn_202 : Fun := ⟨Go.Proofs.Tryz.f202.ntmps, Go.Proofs.Tryz.f202.body.getD .skip, Go.Proofs.Tryz.f202.results.toList, []⟩
noncomputable def fn_203 : Fun := ⟨Go.Proofs.Tryz.f203.ntmps, Go.Proofs.Tryz.f203.body.getD .skip, Go.Proofs.Tryz.f203.results.toList, []⟩
noncomputable def fn_204 : Fun := ⟨Go.Proofs.Tryz.f204.ntmps, Go.Proofs.Tryz.f204.body.getD .skip, Go.Proofs.Tryz.f204.results.toList, []⟩
noncomputable def fn_205 : Fun := ⟨Go.Proofs.Tryz.f205.ntmps, Go.Proofs.Tryz.f205.body.getD .skip, Go.Proofs.Tryz.f205.results.toList, []⟩
noncomputable def fn_206 : Fun := ⟨Go.Proofs.Tryz.f206.ntmps, Go.Proofs.Tryz.f206.body.getD .skip, Go.Proofs.Tryz.f206.results.toList, []⟩
noncomputable def fn_207 : Fun := ⟨Go.Proofs.Tryz.f207.ntmps, Go.Proofs.Tryz.f207.body.getD .skip, Go.Proofs.Tryz.f207.results.toList, []⟩
noncomputable def fn_208 : Fun := ⟨Go.Proofs.Tryz.f208.ntmps, Go.Proofs.Tryz.f208.body.getD .skip, Go.Proofs.Tryz.f208.results.toList, []⟩
noncomputable def fn_209 : Fun := ⟨Go.Proofs.Tryz.f209.ntmps, Go.Proofs.Tryz.f209.body.getD .skip, Go.Proofs.Tryz.f209.results.toList, []⟩
noncomputable def fn_210 : Fun := ⟨Go.Proofs.Tryz.f210.ntmps, Go.Proofs.Tryz.f210.body.getD .skip, Go.Proofs.Tryz.f210.results.toList, []⟩
noncomputable def fn_211 : Fun := ⟨Go.Proofs.Tryz.f211.ntmps, Go.Proofs.Tryz.f211.body.getD .skip, Go.Proofs.Tryz.f211.results.toList, []⟩
noncomputable def fn_212 : Fun := ⟨Go.Proofs.Tryz.f212.ntmps, Go.Proofs.Tryz.f212.body.getD .skip, Go.Proofs.Tryz.f212.results.toList, []⟩
noncomputable def fn_213 : Fun := ⟨Go.Proofs.Tryz.f213.ntmps, Go.Proofs.Tryz.f213.body.getD .skip, Go.Proofs.Tryz.f213.results.toList, []⟩
noncomputable def fn_214 : Fun := ⟨Go.Proofs.Tryz.f214.ntmps, Go.Proofs.Tryz.f214.body.getD .skip, Go.Proofs.Tryz.f214.results.toList, [5008]⟩
noncomputable def fn_244 : Fun := ⟨Go.Proofs.Tryz.f244.ntmps, Go.Proofs.Tryz.f244.body.getD .skip, Go.Proofs.Tryz.f244.results.toList, []⟩
noncomputable def fn_245 : Fun := ⟨Go.Proofs.Tryz.f245.ntmps, Go.Proofs.Tryz.f245.body.getD .skip, Go.Proofs.Tryz.f245.results.toList, []⟩
noncomputable def fn_246 : Fun := ⟨Go.Proofs.Tryz.f246.ntmps, Go.Proofs.Tryz.f246.body.getD .skip, Go.Proofs.Tryz.f246.results.toList, []⟩
noncomputable def fn_247 : Fun := ⟨Go.Proofs.Tryz.f247.ntmps, Go.Proofs.Tryz.f247.body.getD .skip, Go.Proofs.Tryz.f247.results.toList, []⟩
noncomputable def fn_248 : Fun := ⟨Go.Proofs.Tryz.f248.ntmps, Go.Proofs.Tryz.f248.body.getD .skip, Go.Proofs.Tryz.f248.results.toList, []⟩
noncomputable def fn_249 : Fun := ⟨Go.Proofs.Tryz.f249.ntmps, Go.Proofs.Tryz.f249.body.getD .skip, Go.Proofs.Tryz.f249.results.toList, []⟩
noncomputable def fn_250 : Fun := ⟨Go.Proofs.Tryz.f250.ntmps, Go.Proofs.Tryz.f250.body.getD .skip, Go.Proofs.Tryz.f250.results.toList, []⟩
noncomputable def fn_251 : Fun := ⟨Go.Proofs.Tryz.f251.ntmps, Go.Proofs.Tryz.f251.body.getD .skip, Go.Proofs.Tryz.f251.results.toList, []⟩
noncomputable def fn_252 : Fun := ⟨Go.Proofs.Tryz.f252.ntmps, Go.Proofs.Tryz.f252.body.getD .skip, Go.Proofs.Tryz.f252.results.toList, []⟩
noncomputable def fn_253 : Fun := ⟨Go.Proofs.Tryz.f253.ntmps, Go.Proofs.Tryz.f253.body.getD .skip, Go.Proofs.Tryz.f253.results.toList, []⟩
noncomputable def fn_254 : Fun := ⟨Go.Proofs.Tryz.f254.ntmps, Go.Proofs.Tryz.f254.body.getD .skip, Go.Proofs.Tryz.f254.results.toList, []⟩
noncomputable def fn_255 : Fun := ⟨Go.Proofs.Tryz.f255.ntmps, Go.Proofs.Tryz.f255.body.getD .skip, Go.Proofs.Tryz.f255.results.toList, []⟩
noncomputable def fn_266 : Fun := ⟨Go.Proofs.Tryz.f266.ntmps, Go.Proofs.Tryz.f266.body.getD .skip, Go.Proofs.Tryz.f266.results.toList, []⟩
noncomputable def fn_267 : Fun := ⟨Go.Proofs.Tryz.f267.ntmps, Go.Proofs.Tryz.f267.body.getD .skip, Go.Proofs.Tryz.f267.results.toList, []⟩
noncomputable def fn_268 : Fun := ⟨Go.Proofs.Tryz.f268.ntmps, Go.Proofs.Tryz.f268.body.getD .skip, Go.Proofs.Tryz.f268.results.toList, []⟩
noncomputable def fn_281 : Fun := ⟨Go.Proofs.Tryz.f281.ntmps, Go.Proofs.Tryz.f281.body.getD .skip, Go.Proofs.Tryz.f281.results.toList, []⟩
noncomputable def en_impl_in : En := ⟨65, [.dat (.int .i64), .dat (.int .i64), .dat (.int .i64)], [.dat .bool], true, fun x => some ((F_impl_in x.1 x.2.1 x.2.2.1, ()), ())⟩
noncomputable def en_impl_bytesOf : En := ⟨128, [.dat (.int .i64), .dat (.int .i64)], [.own (.int .u8)], false, fun x => F_impl_bytesOf x.1 x.2.1⟩
noncomputable def en_impl_BytesOf : En := ⟨63, [.dat (.int .i64), .dat (.int .i64)], [.own (.int .u8)], false, fun x => F_impl_BytesOf x.1 x.2.1⟩
noncomputable def en_laws_alive : En := ⟨14, [], [.dat .bool], false, fun x => F_laws_alive⟩
noncomputable def en_spec_l20Open : En := ⟨47, [.dat (.sl (.int .u8))], [.box ts_l20Rd []], false, fun x => F_spec_l20Open x.1⟩
noncomputable def en_spec_l20Rd_pick : En := ⟨49, [.box ts_l20Rd [], .dat (.int .i64)], [.dat (.int .i64)], false, fun x => F_spec_l20Rd_pick x.1 x.2.1⟩
noncomputable def en_spec_l1In : En := ⟨79, [.dat (.int .i64), .dat (.int .i64), .dat (.int .i64)], [.dat .bool], true, fun x => some ((F_spec_l1In x.1 x.2.1 x.2.2.1, ()), ())⟩
noncomputable def en_spec_MouthOk : En := ⟨142, [.agg tMouth []], [.dat .bool], false, fun x => F_spec_MouthOk x.1⟩
noncomputable def en_spec_EarOk : En := ⟨143, [.agg tEar []], [.dat .bool], false, fun x => F_spec_EarOk x.1⟩
noncomputable def en_spec_ClockOk : En := ⟨144, [.agg tClock []], [.dat .bool], true, fun x => some ((F_spec_ClockOk x.1, ()), ())⟩
noncomputable def en_spec_l15Open : En := ⟨145, [.agg tEnd []], [.dat .bool], false, fun x => F_spec_l15Open x.1⟩
noncomputable def en_spec_EndOk : En := ⟨78, [.agg tEnd []], [.dat .bool], false, fun x => F_spec_EndOk x.1⟩
noncomputable def en_spec_ClockNew : En := ⟨137, [.dat (.int .i64)], [.agg tClock []], false, fun x => F_spec_ClockNew x.1⟩
noncomputable def en_spec_EndNew : En := ⟨70, [.dat (.int .i64), .dat (.int .i64), .dat (.int .i64), .dat (.int .i64)], [.agg tEnd [7, 10, 13, 14]], false, fun x => F_spec_EndNew x.1 x.2.1 x.2.2.1 x.2.2.2.1⟩
noncomputable def en_spec_l20Rd_seq : En := ⟨71, [.box ts_l20Rd []], [.dat (.int .i64)], false, fun x => F_spec_l20Rd_seq x.1⟩
noncomputable def en_spec_l20Rd_odd : En := ⟨116, [.box ts_l20Rd [], .dat (.int .i64)], [.dat .bool], false, fun x => F_spec_l20Rd_odd x.1 x.2.1⟩
noncomputable def en_spec_l13Copy : En := ⟨146, [.agg tMouth []], [.agg tMouth [1, 4]], false, fun x => F_spec_l13Copy x.1⟩
noncomputable def en_spec_l15Copy : En := ⟨80, [.agg tEnd []], [.agg tEnd [7, 10, 13, 14]], false, fun x => F_spec_l15Copy x.1⟩
noncomputable def en_spec_l15Arm : En := ⟨81, [.agg tEnd [], .dat (.int .i64), .dat .bool], [.agg tEnd []], false, fun x => F_spec_l15Arm x.1 x.2.1 x.2.2.1⟩
noncomputable def en_spec_SeqOf : En := ⟨209, [.dat (.int .i64)], [.dat (.int .i64)], false, fun x => F_spec_SeqOf x.1⟩
noncomputable def en_spec_l15Wait : En := ⟨210, [.agg tEnd []], [.dat (.int .i64)], false, fun x => F_spec_l15Wait x.1⟩
noncomputable def en_spec_EarFree : En := ⟨211, [.agg tEar []], [.dat (.int .i64)], false, fun x => F_spec_EarFree x.1⟩
noncomputable def en_spec_EarRanges : En := ⟨212, [.agg tEar []], [.own tRange], false, fun x => F_spec_EarRanges x.1⟩
noncomputable def en_spec_l15Segment : En := ⟨147, [.agg tEnd [], .dat (.int .i64)], [.agg tSegment [9, 10]], false, fun x => F_spec_l15Segment x.1 x.2.1⟩
noncomputable def en_spec_l15First : En := ⟨82, [.agg tEnd []], [.agg tSegment [9, 10]], false, fun x => F_spec_l15First x.1⟩
noncomputable def en_spec_EndConnect : En := ⟨20, [.agg tEnd [], .dat (.int .i64), .dat (.int .i64), .dat (.int .i64)], [.agg tEnd [], .own tSegment], false, fun x => F_spec_EndConnect x.1 x.2.1 x.2.2.1 x.2.2.2.1⟩
noncomputable def en_spec_MouthWrite : En := ⟨97, [.agg tMouth [], .dat (.sl (.int .u8))], [.agg tMouth [1, 4], .dat (.int .i64)], false, fun x => F_spec_MouthWrite x.1 x.2.1⟩
noncomputable def en_spec_MouthNext : En := ⟨158, [.agg tMouth [], .dat (.int .i64)], [.agg tMouth [1, 4], .dat (.int .i64), .own (.int .u8)], false, fun x => F_spec_MouthNext x.1 x.2.1⟩
noncomputable def en_spec_l15Bytes : En := ⟨98, [.agg tEnd []], [.agg tEnd [], .own tSegment], false, fun x => F_spec_l15Bytes x.1⟩
noncomputable def en_spec_EndWrite : En := ⟨28, [.agg tEnd [], .dat (.sl (.int .u8)), .dat (.int .i64)], [.agg tEnd [], .dat (.int .i64), .own tSegment], false, fun x => F_spec_EndWrite x.1 x.2.1 x.2.2.1⟩
noncomputable def en_spec_l15Last : En := ⟨101, [.agg tEnd []], [.agg tSegment [9, 10]], false, fun x => F_spec_l15Last x.1⟩
noncomputable def en_spec_EndClose : En := ⟨32, [.agg tEnd [], .dat (.int .i64)], [.agg tEnd [], .own tSegment], false, fun x => F_spec_EndClose x.1 x.2.1⟩
noncomputable def en_spec_l20Rd_bytes : En := ⟨52, [.box ts_l20Rd [], .dat (.int .i64)], [.own (.int .u8)], false, fun x => F_spec_l20Rd_bytes x.1 x.2.1⟩
noncomputable def en_spec_EndListen : En := ⟨200, [.agg tEnd []], [.agg tEnd [7, 10, 13, 14], .dat .bool], false, fun x => F_spec_EndListen x.1⟩
noncomputable def en_spec_EarRead : En := ⟨244, [.agg tEar [], .dat (.int .i64)], [.agg tEar [2, 3], .own (.int .u8)], false, fun x => F_spec_EarRead x.1 x.2.1⟩
noncomputable def en_spec_l15Told : En := ⟨245, [.agg tEnd []], [.dat (.int .i64)], false, fun x => F_spec_l15Told x.1⟩
noncomputable def en_spec_EndRead : En := ⟨201, [.agg tEnd [], .dat (.int .i64), .dat (.int .i64)], [.agg tEnd [7, 10, 13, 14], .own (.int .u8), .own tSegment], false, fun x => F_spec_EndRead x.1 x.2.1 x.2.2.1⟩
noncomputable def en_spec_ClockLate : En := ⟨246, [.agg tClock []], [.agg tClock []], false, fun x => F_spec_ClockLate x.1⟩
noncomputable def en_spec_MouthAgain : En := ⟨247, [.agg tMouth [], .dat (.int .i64)], [.dat (.int .i64), .own (.int .u8)], false, fun x => F_spec_MouthAgain x.1 x.2.1⟩
noncomputable def en_spec_EndTick : En := ⟨202, [.agg tEnd [], .dat (.int .i64)], [.agg tEnd [7, 10, 13, 14], .own tSegment], false, fun x => F_spec_EndTick x.1 x.2.1⟩
noncomputable def en_spec_SegmentOk : En := ⟨248, [.agg tSegment []], [.dat .bool], false, fun x => F_spec_SegmentOk x.1⟩
noncomputable def en_spec_l15Flush : En := ⟨249, [.agg tEnd []], [.agg tEnd [], .own tSegment], false, fun x => F_spec_l15Flush x.1⟩
noncomputable def en_spec_SeqPlace : En := ⟨266, [.dat (.int .i64), .dat (.int .i64)], [.dat (.int .i64)], false, fun x => F_spec_SeqPlace x.1 x.2.1⟩
noncomputable def en_spec_MouthHear : En := ⟨267, [.agg tMouth [], .dat (.int .i64), .dat (.int .i64), .dat (.sl tRange)], [.agg tMouth [1, 4], .dat (.int .i64)], false, fun x => F_spec_MouthHear x.1 x.2.1 x.2.2.1 x.2.2.2.1⟩
noncomputable def en_spec_l15Took : En := ⟨250, [.agg tEnd [], .agg tSegment []], [.agg tEnd [], .dat .bool], false, fun x => F_spec_l15Took x.1 x.2.1⟩
noncomputable def en_spec_l12Put : En := ⟨281, [.dat (.sl tEarly), .agg tEarly []], [.own tEarly], false, fun x => F_spec_l12Put x.1 x.2.1⟩
noncomputable def en_spec_EarHear : En := ⟨268, [.agg tEar [], .dat (.int .i64), .dat (.sl (.int .u8))], [.agg tEar [2, 3]], false, fun x => F_spec_EarHear x.1 x.2.1 x.2.2.1⟩
noncomputable def en_spec_l15Heard : En := ⟨251, [.agg tEnd [], .agg tSegment []], [.agg tEnd []], false, fun x => F_spec_l15Heard x.1 x.2.1⟩
noncomputable def en_spec_SegmentLong : En := ⟨252, [.agg tSegment []], [.dat (.int .i64)], false, fun x => F_spec_SegmentLong x.1⟩
noncomputable def en_spec_SeqLess : En := ⟨253, [.dat (.int .i64), .dat (.int .i64)], [.dat .bool], false, fun x => F_spec_SeqLess x.1 x.2.1⟩
noncomputable def en_spec_EndHear : En := ⟨203, [.agg tEnd [], .dat (.int .i64), .agg tSegment [], .dat (.int .i64)], [.agg tEnd [], .own tSegment], false, fun x => F_spec_EndHear x.1 x.2.1 x.2.2.1 x.2.2.2.1⟩
noncomputable def en_spec_l20Ends : En := ⟨138, [.box ts_l20Rd []], [.agg tEnd [], .agg tEnd [], .own tSegment, .own tSegment], false, fun x => F_spec_l20Ends x.1⟩
noncomputable def en_spec_l20End : En := ⟨72, [.box ts_l20Rd [], .dat (.int .i64)], [.agg tEnd []], false, fun x => F_spec_l20End x.1 x.2.1⟩
noncomputable def en_spec_DrawEndConnect : En := ⟨18, [.dat (.sl (.int .u8))], [.agg tEnd [], .dat (.int .i64), .dat (.int .i64), .dat (.int .i64)], false, fun x => F_spec_DrawEndConnect x.1⟩
noncomputable def en_impl_word : En := ⟨66, [.dat (.int .i64)], [.dat .bool], true, fun x => some ((F_impl_word x.1, ()), ())⟩
noncomputable def en_impl_portOk : En := ⟨74, [.dat (.int .i64)], [.dat .bool], true, fun x => some ((F_impl_portOk x.1, ()), ())⟩
noncomputable def en_slices_Equal_impl_Range_impl_Range : En := ⟨149, [.dat (.sl tRange), .dat (.sl tRange)], [.dat .bool], false, fun x => F_slices_Equal_impl_Range_impl_Range x.1 x.2.1⟩
noncomputable def en_slices_Clip_impl_Range_impl_Range : En := ⟨254, [.dat (.sl tRange)], [.dat (.sl tRange)], false, fun x => F_slices_Clip_impl_Range_impl_Range x.1⟩
noncomputable def en_impl_clone_impl_Range : En := ⟨204, [.dat (.sl tRange)], [.dat (.sl tRange)], false, fun x => F_impl_clone_impl_Range x.1⟩
noncomputable def en_impl_rangesOk : En := ⟨150, [.dat (.sl tRange), .dat (.int .i64), .dat (.int .i64)], [.dat (.sl tRange)], false, fun x => F_impl_rangesOk x.1 x.2.1 x.2.2.1⟩
noncomputable def en_impl_MouthOk : En := ⟨86, [.agg tMouth []], [.dat .bool], false, fun x => F_impl_MouthOk x.1⟩
noncomputable def en_impl_Ear_free : En := ⟨151, [.agg tEar []], [.dat (.int .i64)], true, fun x => some ((F_impl_Ear_free x.1, ()), ())⟩
noncomputable def en_impl_EarOk : En := ⟨87, [.agg tEar []], [.dat .bool], false, fun x => F_impl_EarOk x.1⟩
noncomputable def en_impl_ClockOk : En := ⟨88, [.agg tClock []], [.dat .bool], true, fun x => some ((F_impl_ClockOk x.1, ()), ())⟩
noncomputable def en_impl_End_lastOk : En := ⟨89, [.agg tEnd []], [.dat .bool], false, fun x => F_impl_End_lastOk x.1⟩
noncomputable def en_impl_End_goes : En := ⟨90, [.agg tEnd []], [.dat .bool], true, fun x => some ((F_impl_End_goes x.1, ()), ())⟩
noncomputable def en_impl_EndOk : En := ⟨23, [.agg tEnd []], [.dat .bool], false, fun x => F_impl_EndOk x.1⟩
noncomputable def en_impl_asked : En := ⟨73, [.agg tEnd [], .dat (.int .i64)], [.dat .bool], false, fun x => F_impl_asked x.1 x.2.1⟩
noncomputable def en_slices_Clip_byte_byte : En := ⟨198, [.dat (.sl (.int .u8))], [.dat (.sl (.int .u8))], false, fun x => F_slices_Clip_byte_byte x.1⟩
noncomputable def en_impl_clone_byte : En := ⟨132, [.dat (.sl (.int .u8))], [.dat (.sl (.int .u8))], false, fun x => F_impl_clone_byte x.1⟩
noncomputable def en_impl_Mouth_copy : En := ⟨139, [.agg tMouth []], [.agg tMouth []], false, fun x => F_impl_Mouth_copy x.1⟩
noncomputable def en_slices_Clip_impl_Early_impl_Early : En := ⟨255, [.dat (.sl tEarly)], [.dat (.sl tEarly)], false, fun x => F_slices_Clip_impl_Early_impl_Early x.1⟩
noncomputable def en_impl_clone_impl_Early : En := ⟨205, [.dat (.sl tEarly)], [.dat (.sl tEarly)], false, fun x => F_impl_clone_impl_Early x.1⟩
noncomputable def en_impl_Ear_copy : En := ⟨140, [.agg tEar []], [.agg tEar []], false, fun x => F_impl_Ear_copy x.1⟩
noncomputable def en_impl_End_copy : En := ⟨75, [.agg tEnd []], [.agg tEnd []], false, fun x => F_impl_End_copy x.1⟩
noncomputable def en_impl_End_arm : En := ⟨76, [.box tEnd [], .dat (.int .i64)], [], false, fun x => F_impl_End_arm x.1 x.2.1⟩
noncomputable def en_impl_SeqOf : En := ⟨159, [.dat (.int .i64)], [.dat (.int .i64)], false, fun x => F_impl_SeqOf x.1⟩
noncomputable def en_impl_End_waits : En := ⟨206, [.agg tEnd []], [.dat (.int .i64)], false, fun x => F_impl_End_waits x.1⟩
noncomputable def en_impl_Ear_ranges : En := ⟨207, [.agg tEar []], [.dat (.sl tRange)], false, fun x => F_impl_Ear_ranges x.1⟩
noncomputable def en_impl_Segment_copy : En := ⟨208, [.agg tSegment []], [.agg tSegment []], false, fun x => F_impl_Segment_copy x.1⟩
noncomputable def en_impl_End_segment : En := ⟨141, [.agg tEnd [], .dat (.int .i64), .dat (.sl (.int .u8))], [.agg tSegment []], false, fun x => F_impl_End_segment x.1 x.2.1 x.2.2.1⟩
noncomputable def en_impl_End_first : En := ⟨77, [.agg tEnd []], [.agg tSegment []], false, fun x => F_impl_End_first x.1⟩
noncomputable def en_impl_EndConnect : En := ⟨19, [.agg tEnd [], .dat (.int .i64), .dat (.int .i64), .dat (.int .i64)], [.agg tEnd [], .own tSegment], false, fun x => F_impl_EndConnect x.1 x.2.1 x.2.2.1 x.2.2.2.1⟩
noncomputable def en_laws_sameBytes : En := ⟨17, [.dat (.sl (.int .u8)), .dat (.sl (.int .u8))], [.dat .bool], true, fun x => some ((F_laws_sameBytes x.1 x.2.1, ()), ())⟩
noncomputable def en_laws_sameRanges : En := ⟨148, [.dat (.sl tRange), .dat (.sl tRange)], [.dat .bool], false, fun x => F_laws_sameRanges x.1 x.2.1⟩
noncomputable def en_laws_sameMouth : En := ⟨83, [.agg tMouth [], .agg tMouth []], [.dat .bool], false, fun x => F_laws_sameMouth x.1 x.2.1⟩
noncomputable def en_laws_sameEar : En := ⟨84, [.agg tEar [], .agg tEar []], [.dat .bool], false, fun x => F_laws_sameEar x.1 x.2.1⟩
noncomputable def en_laws_sameEnd : En := ⟨21, [.agg tEnd [], .agg tEnd []], [.dat .bool], false, fun x => F_laws_sameEnd x.1 x.2.1⟩
noncomputable def en_laws_sameSegment : En := ⟨85, [.agg tSegment [], .agg tSegment []], [.dat .bool], false, fun x => F_laws_sameSegment x.1 x.2.1⟩
noncomputable def en_laws_sameSegments : En := ⟨22, [.dat (.sl tSegment), .dat (.sl tSegment)], [.dat .bool], false, fun x => F_laws_sameSegments x.1 x.2.1⟩
noncomputable def en_impl_ClockLate : En := ⟨91, [.agg tClock []], [.agg tClock []], false, fun x => F_impl_ClockLate x.1⟩
noncomputable def en_impl_End_last : En := ⟨100, [.agg tEnd []], [.agg tSegment []], false, fun x => F_impl_End_last x.1⟩
noncomputable def en_impl_Mouth_again : En := ⟨152, [.agg tMouth [], .dat (.int .i64)], [.dat (.sl (.int .u8))], false, fun x => F_impl_Mouth_again x.1 x.2.1⟩
noncomputable def en_impl_End_again : En := ⟨92, [.agg tEnd []], [.agg tSegment []], false, fun x => F_impl_End_again x.1⟩
noncomputable def en_impl_EndTick : En := ⟨24, [.agg tEnd [], .dat (.int .i64)], [.agg tEnd [], .own tSegment], false, fun x => F_impl_EndTick x.1 x.2.1⟩
noncomputable def en_impl_SegmentOk_1 : En := ⟨154, [.agg tRange []], [.dat .bool], true, fun x => some ((F_impl_SegmentOk_1 x.1, ()), ())⟩
noncomputable def en_slices_IndexFunc_impl_Range_impl_Range_impl_SegmentOk_1 : En := ⟨213, [.dat (.sl tRange), .fn 154 []], [.dat (.int .i64)], false, fun x => F_slices_IndexFunc_impl_Range_impl_Range_impl_SegmentOk_1 x.1 x.2.1⟩
noncomputable def en_slices_ContainsFunc_impl_Range_impl_Range_impl_SegmentOk_1 : En := ⟨153, [.dat (.sl tRange), .fn 154 []], [.dat .bool], false, fun x => F_slices_ContainsFunc_impl_Range_impl_Range_impl_SegmentOk_1 x.1 x.2.1⟩
noncomputable def en_impl_SegmentOk : En := ⟨93, [.agg tSegment []], [.dat .bool], false, fun x => F_impl_SegmentOk x.1⟩
noncomputable def en_laws_goodSegments : En := ⟨25, [.dat (.sl tSegment)], [.dat .bool], false, fun x => F_laws_goodSegments x.1⟩
noncomputable def en_laws_FnEndConnect : En := ⟨4, [.dat (.sl (.int .u8))], [.dat .bool], false, fun x => F_laws_FnEndConnect x.1⟩
noncomputable def en_spec_DrawEndWrite : En := ⟨26, [.dat (.sl (.int .u8))], [.agg tEnd [], .own (.int .u8), .dat (.int .i64)], false, fun x => F_spec_DrawEndWrite x.1⟩
noncomputable def en_slices_Grow_byte_byte : En := ⟨214, [.nil, .dat (.int .i64)], [.own (.int .u8)], false, fun x => F_slices_Grow_byte_byte x.1 x.2.1⟩
noncomputable def en_slices_Concat_byte_byte : En := ⟨155, [.dat (.sl (.sl (.int .u8)))], [.own (.int .u8)], false, fun x => F_slices_Concat_byte_byte x.1⟩
noncomputable def en_impl_MouthWrite : En := ⟨94, [.agg tMouth [], .dat (.sl (.int .u8))], [.agg tMouth [], .dat (.int .i64)], false, fun x => F_impl_MouthWrite x.1 x.2.1⟩
noncomputable def en_impl_Mouth_next : En := ⟨156, [.box tMouth [], .dat (.int .i64)], [.dat (.int .i64), .dat (.sl (.int .u8))], false, fun x => F_impl_Mouth_next x.1 x.2.1⟩
noncomputable def en_impl_End_tellBytes : En := ⟨95, [.box tEnd []], [.own tSegment], false, fun x => F_impl_End_tellBytes x.1⟩
noncomputable def en_slices_Clip_impl_Segment_impl_Segment : En := ⟨157, [.dat (.sl tSegment)], [.dat (.sl tSegment)], false, fun x => F_slices_Clip_impl_Segment_impl_Segment x.1⟩
noncomputable def en_impl_clone_impl_Segment : En := ⟨96, [.dat (.sl tSegment)], [.dat (.sl tSegment)], false, fun x => F_impl_clone_impl_Segment x.1⟩
noncomputable def en_impl_EndWrite : En := ⟨27, [.agg tEnd [], .dat (.sl (.int .u8)), .dat (.int .i64)], [.agg tEnd [], .dat (.int .i64), .dat (.sl tSegment)], false, fun x => F_impl_EndWrite x.1 x.2.1 x.2.2.1⟩
noncomputable def en_impl_seqPlace : En := ⟨99, [.dat (.int .i64), .dat (.int .i64)], [.dat (.int .i64)], false, fun x => F_impl_seqPlace x.1 x.2.1⟩
noncomputable def en_impl_SeqPlace : En := ⟨29, [.dat (.int .i64), .dat (.int .i64)], [.dat (.int .i64)], false, fun x => F_impl_SeqPlace x.1 x.2.1⟩
noncomputable def en_laws_FnEndWrite : En := ⟨5, [.dat (.sl (.int .u8))], [.dat .bool], false, fun x => F_laws_FnEndWrite x.1⟩
noncomputable def en_spec_DrawEndClose : En := ⟨30, [.dat (.sl (.int .u8))], [.agg tEnd [], .dat (.int .i64)], false, fun x => F_spec_DrawEndClose x.1⟩
noncomputable def en_impl_EndClose : En := ⟨31, [.agg tEnd [], .dat (.int .i64)], [.agg tEnd [], .own tSegment], false, fun x => F_impl_EndClose x.1 x.2.1⟩
noncomputable def en_laws_FnEndClose : En := ⟨6, [.dat (.sl (.int .u8))], [.dat .bool], false, fun x => F_laws_FnEndClose x.1⟩
noncomputable def ens_impl_in : List En := []
theorem run_impl_in (x : ShsD [.dat (.int .i64), .dat (.int .i64), .dat (.int .i64)]) : runF tab ens_impl_in fn_65 [.dat (.int .i64), .dat (.int .i64), .dat (.int .i64)] [.dat .bool] [] x = some ((F_impl_in x.1 x.2.1 x.2.2.1, ()), ()) := by kernel_rfl
noncomputable def ens_impl_bytesOf : List En := []
abbrev sl_impl_bytesOf_3 : List (Nat × Sh) := [(0, .dat (.int .i64)), (5, .own (.int .u8)), (6, .dat (.int .i64))]
theorem run_impl_bytesOf_3 (n : Nat) (p : ShsD (mapL (·.2) sl_impl_bytesOf_3)) : runL tab ens_impl_bytesOf fn_128 [.dat (.int .i64), .dat (.int .i64)] [.own (.int .u8)] [⟨3, [.r, .r, .l, .r, .l, .l, .l, .l], sl_impl_bytesOf_3, L_impl_bytesOf_3 n⟩] [.r, .r, .l, .r, .l, .l, .l, .l] sl_impl_bytesOf_3 p = L_impl_bytesOf_3 (n + 1) p := by kernel_rfl
theorem run_impl_bytesOf (x : ShsD [.dat (.int .i64), .dat (.int .i64)]) : runF tab ens_impl_bytesOf fn_128 [.dat (.int .i64), .dat (.int .i64)] [.own (.int .u8)] [⟨3, [.r, .r, .l, .r, .l, .l, .l, .l], sl_impl_bytesOf_3, L_impl_bytesOf_3 fuel⟩] x = F_impl_bytesOf x.1 x.2.1 := by kernel_rfl
noncomputable def ens_impl_BytesOf : List En := [en_impl_in, en_impl_bytesOf]
theorem run_impl_BytesOf (x : ShsD [.dat (.int .i64), .dat (.int .i64)]) : runF tab ens_impl_BytesOf fn_63 [.dat (.int .i64), .dat (.int .i64)] [.own (.int .u8)] [] x = F_impl_BytesOf x.1 x.2.1 := by kernel_rfl
noncomputable def ens_laws_alive : List En := [en_impl_BytesOf]
theorem run_laws_alive (x : ShsD []) : runF tab ens_laws_alive fn_14 [] [.dat .bool] [] x = F_laws_alive := by kernel_rfl
noncomputable def ens_spec_l20Open : List En := []
theorem run_spec_l20Open (x : ShsD [.dat (.sl (.int .u8))]) : runF tab ens_spec_l20Open fn_47 [.dat (.sl (.int .u8))] [.box ts_l20Rd []] [] x = F_spec_l20Open x.1 := by kernel_rfl
noncomputable def ens_spec_l20Rd_pick : List En := []
theorem run_spec_l20Rd_pick (x : ShsD [.box ts_l20Rd [], .dat (.int .i64)]) : runF tab ens_spec_l20Rd_pick fn_49 [.box ts_l20Rd [], .dat (.int .i64)] [.dat (.int .i64)] [] x = F_spec_l20Rd_pick x.1 x.2.1 := by kernel_rfl
noncomputable def ens_spec_l1In : List En := []
theorem run_spec_l1In (x : ShsD [.dat (.int .i64), .dat (.int .i64), .dat (.int .i64)]) : runF tab ens_spec_l1In fn_79 [.dat (.int .i64), .dat (.int .i64), .dat (.int .i64)] [.dat .bool] [] x = some ((F_spec_l1In x.1 x.2.1 x.2.2.1, ()), ()) := by kernel_rfl
noncomputable def ens_spec_MouthOk : List En := [en_spec_l1In]
abbrev sl_spec_MouthOk_4 : List (Nat × Sh) := [(1, .ptr 1 0), (3, .dat (.int .i64)), (1, .box tMouth [])]
theorem run_spec_MouthOk_4 (n : Nat) (p : ShsD (mapL (·.2) sl_spec_MouthOk_4)) : runL tab ens_spec_MouthOk fn_142 [.agg tMouth []] [.dat .bool] [⟨4, [.r, .r, .l, .r, .l, .l, .l, .l], sl_spec_MouthOk_4, L_spec_MouthOk_4 n⟩] [.r, .r, .l, .r, .l, .l, .l, .l] sl_spec_MouthOk_4 p = L_spec_MouthOk_4 (n + 1) p := by kernel_rfl
theorem run_spec_MouthOk (x : ShsD [.agg tMouth []]) : runF tab ens_spec_MouthOk fn_142 [.agg tMouth []] [.dat .bool] [⟨4, [.r, .r, .l, .r, .l, .l, .l, .l], sl_spec_MouthOk_4, L_spec_MouthOk_4 fuel⟩] x = F_spec_MouthOk x.1 := by kernel_rfl
noncomputable def ens_spec_EarOk : List En := [en_spec_l1In]
abbrev sl_spec_EarOk_4 : List (Nat × Sh) := [(1, .ptr 1 0), (3, .dat (.int .i64)), (1, .box tEar [])]
theorem run_spec_EarOk_4 (n : Nat) (p : ShsD (mapL (·.2) sl_spec_EarOk_4)) : runL tab ens_spec_EarOk fn_143 [.agg tEar []] [.dat .bool] [⟨4, [.r, .r, .l, .r, .l, .l, .l, .l], sl_spec_EarOk_4, L_spec_EarOk_4 n⟩] [.r, .r, .l, .r, .l, .l, .l, .l] sl_spec_EarOk_4 p = L_spec_EarOk_4 (n + 1) p := by kernel_rfl
theorem run_spec_EarOk (x : ShsD [.agg tEar []]) : runF tab ens_spec_EarOk fn_143 [.agg tEar []] [.dat .bool] [⟨4, [.r, .r, .l, .r, .l, .l, .l, .l], sl_spec_EarOk_4, L_spec_EarOk_4 fuel⟩] x = F_spec_EarOk x.1 := by kernel_rfl
noncomputable def ens_spec_ClockOk : List En := [en_spec_l1In]
theorem run_spec_ClockOk (x : ShsD [.agg tClock []]) : runF tab ens_spec_ClockOk fn_144 [.agg tClock []] [.dat .bool] [] x = some ((F_spec_ClockOk x.1, ()), ()) := by kernel_rfl
noncomputable def ens_spec_l15Open : List En := []
theorem run_spec_l15Open (x : ShsD [.agg tEnd []]) : runF tab ens_spec_l15Open fn_145 [.agg tEnd []] [.dat .bool] [] x = F_spec_l15Open x.1 := by kernel_rfl
noncomputable def ens_spec_EndOk : List En := [en_spec_l1In, en_spec_MouthOk, en_spec_EarOk, en_spec_ClockOk, en_spec_l15Open]
theorem run_spec_EndOk (x : ShsD [.agg tEnd []]) : runF tab ens_spec_EndOk fn_78 [.agg tEnd []] [.dat .bool] [] x = F_spec_EndOk x.1 := by kernel_rfl
noncomputable def ens_spec_ClockNew : List En := []
theorem run_spec_ClockNew (x : ShsD [.dat (.int .i64)]) : runF tab ens_spec_ClockNew fn_137 [.dat (.int .i64)] [.agg tClock []] [] x = F_spec_ClockNew x.1 := by kernel_rfl
noncomputable def ens_spec_EndNew : List En := [en_spec_EndOk, en_spec_ClockNew]
theorem run_spec_EndNew (x : ShsD [.dat (.int .i64), .dat (.int .i64), .dat (.int .i64), .dat (.int .i64)]) : runF tab ens_spec_EndNew fn_70 [.dat (.int .i64), .dat (.int .i64), .dat (.int .i64), .dat (.int .i64)] [.agg tEnd [7, 10, 13, 14]] [] x = F_spec_EndNew x.1 x.2.1 x.2.2.1 x.2.2.2.1 := by kernel_rfl
noncomputable def ens_spec_l20Rd_seq : List En := [en_spec_l20Rd_pick]
theorem run_spec_l20Rd_seq (x : ShsD [.box ts_l20Rd []]) : runF tab ens_spec_l20Rd_seq fn_71 [.box ts_l20Rd []] [.dat (.int .i64)] [] x = F_spec_l20Rd_seq x.1 := by kernel_rfl
noncomputable def ens_spec_l20Rd_odd : List En := [en_spec_l20Rd_pick]
theorem run_spec_l20Rd_odd (x : ShsD [.box ts_l20Rd [], .dat (.int .i64)]) : runF tab ens_spec_l20Rd_odd fn_116 [.box ts_l20Rd [], .dat (.int .i64)] [.dat .bool] [] x = F_spec_l20Rd_odd x.1 x.2.1 := by kernel_rfl
noncomputable def ens_spec_l13Copy : List En := []
theorem run_spec_l13Copy (x : ShsD [.agg tMouth []]) : runF tab ens_spec_l13Copy fn_146 [.agg tMouth []] [.agg tMouth [1, 4]] [] x = F_spec_l13Copy x.1 := by kernel_rfl
noncomputable def ens_spec_l15Copy : List En := [en_spec_l13Copy]
theorem run_spec_l15Copy (x : ShsD [.agg tEnd []]) : runF tab ens_spec_l15Copy fn_80 [.agg tEnd []] [.agg tEnd [7, 10, 13, 14]] [] x = F_spec_l15Copy x.1 := by kernel_rfl
noncomputable def ens_spec_l15Arm : List En := [en_spec_l15Open]
theorem run_spec_l15Arm (x : ShsD [.agg tEnd [], .dat (.int .i64), .dat .bool]) : runF tab ens_spec_l15Arm fn_81 [.agg tEnd [], .dat (.int .i64), .dat .bool] [.agg tEnd []] [] x = F_spec_l15Arm x.1 x.2.1 x.2.2.1 := by kernel_rfl
noncomputable def ens_spec_SeqOf : List En := []
theorem run_spec_SeqOf (x : ShsD [.dat (.int .i64)]) : runF tab ens_spec_SeqOf fn_209 [.dat (.int .i64)] [.dat (.int .i64)] [] x = F_spec_SeqOf x.1 := by kernel_rfl
noncomputable def ens_spec_l15Wait : List En := []
theorem run_spec_l15Wait (x : ShsD [.agg tEnd []]) : runF tab ens_spec_l15Wait fn_210 [.agg tEnd []] [.dat (.int .i64)] [] x = F_spec_l15Wait x.1 := by kernel_rfl
noncomputable def ens_spec_EarFree : List En := [en_spec_EarOk]
theorem run_spec_EarFree (x : ShsD [.agg tEar []]) : runF tab ens_spec_EarFree fn_211 [.agg tEar []] [.dat (.int .i64)] [] x = F_spec_EarFree x.1 := by kernel_rfl
noncomputable def ens_spec_EarRanges : List En := [en_spec_EarOk]
abbrev sl_spec_EarRanges_5 : List (Nat × Sh) := [(1, .ptr 1 0), (3, .own tRange), (4, .dat (.int .i64)), (1, .box tEar [])]
theorem run_spec_EarRanges_5 (n : Nat) (p : ShsD (mapL (·.2) sl_spec_EarRanges_5)) : runL tab ens_spec_EarRanges fn_212 [.agg tEar []] [.own tRange] [⟨5, [.r, .r, .r, .l, .r, .l, .l, .l, .l], sl_spec_EarRanges_5, L_spec_EarRanges_5 n⟩] [.r, .r, .r, .l, .r, .l, .l, .l, .l] sl_spec_EarRanges_5 p = L_spec_EarRanges_5 (n + 1) p := by kernel_rfl
theorem run_spec_EarRanges (x : ShsD [.agg tEar []]) : runF tab ens_spec_EarRanges fn_212 [.agg tEar []] [.own tRange] [⟨5, [.r, .r, .r, .l, .r, .l, .l, .l, .l], sl_spec_EarRanges_5, L_spec_EarRanges_5 fuel⟩] x = F_spec_EarRanges x.1 := by kernel_rfl
noncomputable def ens_spec_l15Segment : List En := [en_spec_SeqOf, en_spec_l15Wait, en_spec_EarFree, en_spec_EarRanges]
abbrev sl_spec_l15Segment_9 : List (Nat × Sh) := [(4, .ptr 4 0), (5, .ptr 5 0), (6, .own tRange), (7, .dat (.int .i64)), (4, .box tSegment [9, 10]), (5, .box tSegment [9, 10])]
theorem run_spec_l15Segment_9 (n : Nat) (p : ShsD (mapL (·.2) sl_spec_l15Segment_9)) : runL tab ens_spec_l15Segment fn_147 [.agg tEnd [], .dat (.int .i64)] [.agg tSegment [9, 10]] [⟨9, [.r, .r, .r, .r, .r, .r, .r, .l, .r, .l, .l, .l, .l], sl_spec_l15Segment_9, L_spec_l15Segment_9 n⟩] [.r, .r, .r, .r, .r, .r, .r, .l, .r, .l, .l, .l, .l] sl_spec_l15Segment_9 p = L_spec_l15Segment_9 (n + 1) p := by kernel_rfl
theorem run_spec_l15Segment (x : ShsD [.agg tEnd [], .dat (.int .i64)]) : runF tab ens_spec_l15Segment fn_147 [.agg tEnd [], .dat (.int .i64)] [.agg tSegment [9, 10]] [⟨9, [.r, .r, .r, .r, .r, .r, .r, .l, .r, .l, .l, .l, .l], sl_spec_l15Segment_9, L_spec_l15Segment_9 fuel⟩] x = F_spec_l15Segment x.1 x.2.1 := by kernel_rfl
noncomputable def ens_spec_l15First : List En := [en_spec_l15Segment]
theorem run_spec_l15First (x : ShsD [.agg tEnd []]) : runF tab ens_spec_l15First fn_82 [.agg tEnd []] [.agg tSegment [9, 10]] [] x = F_spec_l15First x.1 := by kernel_rfl
noncomputable def ens_spec_EndConnect : List En := [en_spec_EndOk, en_spec_l1In, en_spec_l15Copy, en_spec_l15Arm, en_spec_l15First]
theorem run_spec_EndConnect (x : ShsD [.agg tEnd [], .dat (.int .i64), .dat (.int .i64), .dat (.int .i64)]) : runF tab ens_spec_EndConnect fn_20 [.agg tEnd [], .dat (.int .i64), .dat (.int .i64), .dat (.int .i64)] [.agg tEnd [], .own tSegment] [] x = F_spec_EndConnect x.1 x.2.1 x.2.2.1 x.2.2.2.1 := by kernel_rfl
noncomputable def ens_spec_MouthWrite : List En := [en_spec_MouthOk, en_spec_l13Copy]
theorem run_spec_MouthWrite (x : ShsD [.agg tMouth [], .dat (.sl (.int .u8))]) : runF tab ens_spec_MouthWrite fn_97 [.agg tMouth [], .dat (.sl (.int .u8))] [.agg tMouth [1, 4], .dat (.int .i64)] [] x = F_spec_MouthWrite x.1 x.2.1 := by kernel_rfl
noncomputable def ens_spec_MouthNext : List En := [en_spec_l1In, en_spec_MouthOk, en_spec_l13Copy]
theorem run_spec_MouthNext (x : ShsD [.agg tMouth [], .dat (.int .i64)]) : runF tab ens_spec_MouthNext fn_158 [.agg tMouth [], .dat (.int .i64)] [.agg tMouth [1, 4], .dat (.int .i64), .own (.int .u8)] [] x = F_spec_MouthNext x.1 x.2.1 := by kernel_rfl
noncomputable def ens_spec_l15Bytes : List En := [en_spec_l15Segment, en_spec_MouthNext]
abbrev sl_spec_l15Bytes_2 : List (Nat × Sh) := [(1, .ptr 1 0), (2, .ptr 2 0), (4, .own tSegment), (1, .box tEnd []), (2, .box tEnd [7, 10, 13, 14])]
theorem run_spec_l15Bytes_2 (n : Nat) (p : ShsD (mapL (·.2) sl_spec_l15Bytes_2)) : runL tab ens_spec_l15Bytes fn_98 [.agg tEnd []] [.agg tEnd [], .own tSegment] [⟨2, [.r, .r, .l, .l, .l, .l, .l], sl_spec_l15Bytes_2, L_spec_l15Bytes_2 n⟩] [.r, .r, .l, .l, .l, .l, .l] sl_spec_l15Bytes_2 p = L_spec_l15Bytes_2 (n + 1) p := by kernel_rfl
theorem run_spec_l15Bytes (x : ShsD [.agg tEnd []]) : runF tab ens_spec_l15Bytes fn_98 [.agg tEnd []] [.agg tEnd [], .own tSegment] [⟨2, [.r, .r, .l, .l, .l, .l, .l], sl_spec_l15Bytes_2, L_spec_l15Bytes_2 fuel⟩] x = F_spec_l15Bytes x.1 := by kernel_rfl
noncomputable def ens_spec_EndWrite : List En := [en_spec_EndOk, en_spec_l1In, en_spec_l15Copy, en_spec_l15Arm, en_spec_MouthWrite, en_spec_l15Bytes]
theorem run_spec_EndWrite (x : ShsD [.agg tEnd [], .dat (.sl (.int .u8)), .dat (.int .i64)]) : runF tab ens_spec_EndWrite fn_28 [.agg tEnd [], .dat (.sl (.int .u8)), .dat (.int .i64)] [.agg tEnd [], .dat (.int .i64), .own tSegment] [] x = F_spec_EndWrite x.1 x.2.1 x.2.2.1 := by kernel_rfl
noncomputable def ens_spec_l15Last : List En := [en_spec_l15Segment]
theorem run_spec_l15Last (x : ShsD [.agg tEnd []]) : runF tab ens_spec_l15Last fn_101 [.agg tEnd []] [.agg tSegment [9, 10]] [] x = F_spec_l15Last x.1 := by kernel_rfl
noncomputable def ens_spec_EndClose : List En := [en_spec_EndOk, en_spec_l1In, en_spec_l15Copy, en_spec_l15Arm, en_spec_l15Last]
theorem run_spec_EndClose (x : ShsD [.agg tEnd [], .dat (.int .i64)]) : runF tab ens_spec_EndClose fn_32 [.agg tEnd [], .dat (.int .i64)] [.agg tEnd [], .own tSegment] [] x = F_spec_EndClose x.1 x.2.1 := by kernel_rfl
noncomputable def ens_spec_l20Rd_bytes : List En := [en_spec_l20Rd_pick]
abbrev sl_spec_l20Rd_bytes_2 : List (Nat × Sh) := [(0, .ptr 2000000 0), (1, .dat (.int .i64)), (5, .own (.int .u8)), (2000000, .box ts_l20Rd [])]
theorem run_spec_l20Rd_bytes_2 (n : Nat) (p : ShsD (mapL (·.2) sl_spec_l20Rd_bytes_2)) : runL tab ens_spec_l20Rd_bytes fn_52 [.box ts_l20Rd [], .dat (.int .i64)] [.own (.int .u8)] [⟨2, [.r, .r, .l, .l, .l, .l, .l], sl_spec_l20Rd_bytes_2, L_spec_l20Rd_bytes_2 n⟩] [.r, .r, .l, .l, .l, .l, .l] sl_spec_l20Rd_bytes_2 p = L_spec_l20Rd_bytes_2 (n + 1) p := by kernel_rfl
theorem run_spec_l20Rd_bytes (x : ShsD [.box ts_l20Rd [], .dat (.int .i64)]) : runF tab ens_spec_l20Rd_bytes fn_52 [.box ts_l20Rd [], .dat (.int .i64)] [.own (.int .u8)] [⟨2, [.r, .r, .l, .l, .l, .l, .l], sl_spec_l20Rd_bytes_2, L_spec_l20Rd_bytes_2 fuel⟩] x = F_spec_l20Rd_bytes x.1 x.2.1 := by kernel_rfl
noncomputable def ens_spec_EndListen : List En := [en_spec_EndOk, en_spec_l15Copy]
theorem run_spec_EndListen (x : ShsD [.agg tEnd []]) : runF tab ens_spec_EndListen fn_200 [.agg tEnd []] [.agg tEnd [7, 10, 13, 14], .dat .bool] [] x = F_spec_EndListen x.1 := by kernel_rfl
noncomputable def ens_spec_EarRead : List En := [en_spec_EarOk]
theorem run_spec_EarRead (x : ShsD [.agg tEar [], .dat (.int .i64)]) : runF tab ens_spec_EarRead fn_244 [.agg tEar [], .dat (.int .i64)] [.agg tEar [2, 3], .own (.int .u8)] [] x = F_spec_EarRead x.1 x.2.1 := by kernel_rfl
noncomputable def ens_spec_l15Told : List En := []
theorem run_spec_l15Told (x : ShsD [.agg tEnd []]) : runF tab ens_spec_l15Told fn_245 [.agg tEnd []] [.dat (.int .i64)] [] x = F_spec_l15Told x.1 := by kernel_rfl
noncomputable def ens_spec_EndRead : List En := [en_spec_EndOk, en_spec_l1In, en_spec_l15Copy, en_spec_l15Segment, en_spec_EarFree, en_spec_EarRead, en_spec_l15Told]
theorem run_spec_EndRead (x : ShsD [.agg tEnd [], .dat (.int .i64), .dat (.int .i64)]) : runF tab ens_spec_EndRead fn_201 [.agg tEnd [], .dat (.int .i64), .dat (.int .i64)] [.agg tEnd [7, 10, 13, 14], .own (.int .u8), .own tSegment] [] x = F_spec_EndRead x.1 x.2.1 x.2.2.1 := by kernel_rfl
noncomputable def ens_spec_ClockLate : List En := [en_spec_ClockOk]
theorem run_spec_ClockLate (x : ShsD [.agg tClock []]) : runF tab ens_spec_ClockLate fn_246 [.agg tClock []] [.agg tClock []] [] x = F_spec_ClockLate x.1 := by kernel_rfl
noncomputable def ens_spec_MouthAgain : List En := [en_spec_l1In, en_spec_MouthOk]
theorem run_spec_MouthAgain (x : ShsD [.agg tMouth [], .dat (.int .i64)]) : runF tab ens_spec_MouthAgain fn_247 [.agg tMouth [], .dat (.int .i64)] [.dat (.int .i64), .own (.int .u8)] [] x = F_spec_MouthAgain x.1 x.2.1 := by kernel_rfl
noncomputable def ens_spec_EndTick : List En := [en_spec_EndOk, en_spec_l1In, en_spec_l15Copy, en_spec_l15First, en_spec_l15Last, en_spec_l15Segment, en_spec_ClockLate, en_spec_MouthAgain]
theorem run_spec_EndTick (x : ShsD [.agg tEnd [], .dat (.int .i64)]) : runF tab ens_spec_EndTick fn_202 [.agg tEnd [], .dat (.int .i64)] [.agg tEnd [7, 10, 13, 14], .own tSegment] [] x = F_spec_EndTick x.1 x.2.1 := by kernel_rfl
noncomputable def ens_spec_SegmentOk : List En := [en_spec_l1In]
abbrev sl_spec_SegmentOk_4 : List (Nat × Sh) := [(1, .ptr 1 0), (3, .dat (.int .i64)), (1, .box tSegment [])]
theorem run_spec_SegmentOk_4 (n : Nat) (p : ShsD (mapL (·.2) sl_spec_SegmentOk_4)) : runL tab ens_spec_SegmentOk fn_248 [.agg tSegment []] [.dat .bool] [⟨4, [.r, .r, .l, .r, .l, .l, .l, .l], sl_spec_SegmentOk_4, L_spec_SegmentOk_4 n⟩] [.r, .r, .l, .r, .l, .l, .l, .l] sl_spec_SegmentOk_4 p = L_spec_SegmentOk_4 (n + 1) p := by kernel_rfl
theorem run_spec_SegmentOk (x : ShsD [.agg tSegment []]) : runF tab ens_spec_SegmentOk fn_248 [.agg tSegment []] [.dat .bool] [⟨4, [.r, .r, .l, .r, .l, .l, .l, .l], sl_spec_SegmentOk_4, L_spec_SegmentOk_4 fuel⟩] x = F_spec_SegmentOk x.1 := by kernel_rfl
noncomputable def ens_spec_l15Flush : List En := [en_spec_l15Bytes, en_spec_l15Last]
theorem run_spec_l15Flush (x : ShsD [.agg tEnd []]) : runF tab ens_spec_l15Flush fn_249 [.agg tEnd []] [.agg tEnd [], .own tSegment] [] x = F_spec_l15Flush x.1 := by kernel_rfl
noncomputable def ens_spec_SeqPlace : List En := [en_spec_l1In, en_spec_SeqOf]
theorem run_spec_SeqPlace (x : ShsD [.dat (.int .i64), .dat (.int .i64)]) : runF tab ens_spec_SeqPlace fn_266 [.dat (.int .i64), .dat (.int .i64)] [.dat (.int .i64)] [] x = F_spec_SeqPlace x.1 x.2.1 := by kernel_rfl
noncomputable def ens_spec_MouthHear : List En := [en_spec_l1In, en_spec_MouthOk, en_spec_l13Copy]
abbrev sl_spec_MouthHear_13 : List (Nat × Sh) := [(1, .dat (.int .i64)), (3, .dat (.sl tRange)), (8, .ptr 8 0), (10, .ptr 10 0), (11, .dat (.int .i64)), (12, .dat (.int .i64)), (8, .box tMouth [1, 4]), (10, .box tMouth [1, 4])]
theorem run_spec_MouthHear_13 (n : Nat) (p : ShsD (mapL (·.2) sl_spec_MouthHear_13)) : runL tab ens_spec_MouthHear fn_267 [.agg tMouth [], .dat (.int .i64), .dat (.int .i64), .dat (.sl tRange)] [.agg tMouth [1, 4], .dat (.int .i64)] [⟨13, [.r, .r, .r, .r, .r, .r, .r, .r, .r, .r, .l, .r, .l, .l, .l, .l], sl_spec_MouthHear_13, L_spec_MouthHear_13 n⟩] [.r, .r, .r, .r, .r, .r, .r, .r, .r, .r, .l, .r, .l, .l, .l, .l] sl_spec_MouthHear_13 p = L_spec_MouthHear_13 (n + 1) p := by kernel_rfl
theorem run_spec_MouthHear (x : ShsD [.agg tMouth [], .dat (.int .i64), .dat (.int .i64), .dat (.sl tRange)]) : runF tab ens_spec_MouthHear fn_267 [.agg tMouth [], .dat (.int .i64), .dat (.int .i64), .dat (.sl tRange)] [.agg tMouth [1, 4], .dat (.int .i64)] [⟨13, [.r, .r, .r, .r, .r, .r, .r, .r, .r, .r, .l, .r, .l, .l, .l, .l], sl_spec_MouthHear_13, L_spec_MouthHear_13 fuel⟩] x = F_spec_MouthHear x.1 x.2.1 x.2.2.1 x.2.2.2.1 := by kernel_rfl
noncomputable def ens_spec_l15Took : List En := [en_spec_MouthOk, en_spec_SeqPlace, en_spec_MouthHear]
abbrev sl_spec_l15Took_10 : List (Nat × Sh) := [(2, .ptr 2 0), (3, .ptr 3 0), (4, .ptr 4 0), (6, .dat (.int .i64)), (7, .dat .bool), (9, .own tRange), (10, .dat (.int .i64)), (2, .box tEnd []), (3, .box tSegment []), (4, .box tEnd [7, 10, 13, 14])]
theorem run_spec_l15Took_10 (n : Nat) (p : ShsD (mapL (·.2) sl_spec_l15Took_10)) : runL tab ens_spec_l15Took fn_250 [.agg tEnd [], .agg tSegment []] [.agg tEnd [], .dat .bool] [⟨10, [.r, .r, .r, .r, .r, .r, .l, .r, .l, .l, .l, .l], sl_spec_l15Took_10, L_spec_l15Took_10 n⟩] [.r, .r, .r, .r, .r, .r, .l, .r, .l, .l, .l, .l] sl_spec_l15Took_10 p = L_spec_l15Took_10 (n + 1) p := by kernel_rfl
theorem run_spec_l15Took (x : ShsD [.agg tEnd [], .agg tSegment []]) : runF tab ens_spec_l15Took fn_250 [.agg tEnd [], .agg tSegment []] [.agg tEnd [], .dat .bool] [⟨10, [.r, .r, .r, .r, .r, .r, .l, .r, .l, .l, .l, .l], sl_spec_l15Took_10, L_spec_l15Took_10 fuel⟩] x = F_spec_l15Took x.1 x.2.1 := by kernel_rfl
noncomputable def ens_spec_l12Put : List En := []
abbrev sl_spec_l12Put_4 : List (Nat × Sh) := [(0, .dat (.sl tEarly)), (3, .ptr 3 0), (5, .own tEarly), (6, .dat .bool), (7, .dat (.int .i64)), (3, .box tEarly [])]
theorem run_spec_l12Put_4 (n : Nat) (p : ShsD (mapL (·.2) sl_spec_l12Put_4)) : runL tab ens_spec_l12Put fn_281 [.dat (.sl tEarly), .agg tEarly []] [.own tEarly] [⟨4, [.r, .r, .r, .l, .r, .l, .l, .l, .l], sl_spec_l12Put_4, L_spec_l12Put_4 n⟩] [.r, .r, .r, .l, .r, .l, .l, .l, .l] sl_spec_l12Put_4 p = L_spec_l12Put_4 (n + 1) p := by kernel_rfl
theorem run_spec_l12Put (x : ShsD [.dat (.sl tEarly), .agg tEarly []]) : runF tab ens_spec_l12Put fn_281 [.dat (.sl tEarly), .agg tEarly []] [.own tEarly] [⟨4, [.r, .r, .r, .l, .r, .l, .l, .l, .l], sl_spec_l12Put_4, L_spec_l12Put_4 fuel⟩] x = F_spec_l12Put x.1 x.2.1 := by kernel_rfl
noncomputable def ens_spec_EarHear : List En := [en_spec_l1In, en_spec_EarOk, en_spec_EarFree, en_spec_l12Put]
abbrev sl_spec_EarHear_12 : List (Nat × Sh) := [(6, .ptr 6 0), (8, .own tEarly), (10, .ptr 10 0), (11, .dat (.int .i64)), (6, .box tEar [2, 3]), (10, .box tEar [2, 3])]
abbrev sl_spec_EarHear_6 : List (Nat × Sh) := [(1, .dat (.int .i64)), (2, .dat (.sl (.int .u8))), (3, .ptr 3 0), (6, .ptr 6 0), (7, .dat (.int .i64)), (8, .own tEarly), (9, .dat (.int .i64)), (3, .box tEar []), (6, .box tEar [2, 3])]
theorem run_spec_EarHear_12 (n : Nat) (p : ShsD (mapL (·.2) sl_spec_EarHear_12)) : runL tab ens_spec_EarHear fn_268 [.agg tEar [], .dat (.int .i64), .dat (.sl (.int .u8))] [.agg tEar [2, 3]] [⟨12, [.r, .r, .r, .r, .r, .r, .r, .l, .l, .l, .l, .l], sl_spec_EarHear_12, L_spec_EarHear_12 n⟩] [.r, .r, .r, .r, .r, .r, .r, .l, .l, .l, .l, .l] sl_spec_EarHear_12 p = L_spec_EarHear_12 (n + 1) p := by kernel_rfl
theorem run_spec_EarHear_6 (n : Nat) (p : ShsD (mapL (·.2) sl_spec_EarHear_6)) : runL tab ens_spec_EarHear fn_268 [.agg tEar [], .dat (.int .i64), .dat (.sl (.int .u8))] [.agg tEar [2, 3]] [⟨6, [.r, .r, .r, .r, .l, .r, .l, .l, .l, .l], sl_spec_EarHear_6, L_spec_EarHear_6 n⟩, ⟨12, [.r, .r, .r, .r, .r, .r, .r, .l, .l, .l, .l, .l], sl_spec_EarHear_12, L_spec_EarHear_12 fuel⟩] [.r, .r, .r, .r, .l, .r, .l, .l, .l, .l] sl_spec_EarHear_6 p = L_spec_EarHear_6 (n + 1) p := by kernel_rfl
theorem run_spec_EarHear (x : ShsD [.agg tEar [], .dat (.int .i64), .dat (.sl (.int .u8))]) : runF tab ens_spec_EarHear fn_268 [.agg tEar [], .dat (.int .i64), .dat (.sl (.int .u8))] [.agg tEar [2, 3]] [⟨6, [.r, .r, .r, .r, .l, .r, .l, .l, .l, .l], sl_spec_EarHear_6, L_spec_EarHear_6 fuel⟩] x = F_spec_EarHear x.1 x.2.1 x.2.2.1 := by kernel_rfl
noncomputable def ens_spec_l15Heard : List En := [en_spec_EarOk, en_spec_EarFree, en_spec_SeqPlace, en_spec_EarHear]
theorem run_spec_l15Heard (x : ShsD [.agg tEnd [], .agg tSegment []]) : runF tab ens_spec_l15Heard fn_251 [.agg tEnd [], .agg tSegment []] [.agg tEnd []] [] x = F_spec_l15Heard x.1 x.2.1 := by kernel_rfl
noncomputable def ens_spec_SegmentLong : List En := []
theorem run_spec_SegmentLong (x : ShsD [.agg tSegment []]) : runF tab ens_spec_SegmentLong fn_252 [.agg tSegment []] [.dat (.int .i64)] [] x = F_spec_SegmentLong x.1 := by kernel_rfl
noncomputable def ens_spec_SeqLess : List En := [en_spec_SeqOf]
theorem run_spec_SeqLess (x : ShsD [.dat (.int .i64), .dat (.int .i64)]) : runF tab ens_spec_SeqLess fn_253 [.dat (.int .i64), .dat (.int .i64)] [.dat .bool] [] x = F_spec_SeqLess x.1 x.2.1 := by kernel_rfl
noncomputable def ens_spec_EndHear : List En := [en_spec_EndOk, en_spec_l1In, en_spec_l15Copy, en_spec_l15Arm, en_spec_l15First, en_spec_l15Segment, en_spec_SeqOf, en_spec_l15Wait, en_spec_l15Told, en_spec_SegmentOk, en_spec_l15Flush, en_spec_l15Took, en_spec_l15Heard, en_spec_SegmentLong, en_spec_SeqLess]
abbrev sl_spec_EndHear_12 : List (Nat × Sh) := [(8, .ptr 8 0), (10, .own tSegment), (11, .ptr 11 0), (8, .box tEnd [7, 10, 13, 14]), (11, .box tEnd [7, 10, 13, 14])]
abbrev sl_spec_EndHear_50 : List (Nat × Sh) := [(3, .dat (.int .i64)), (8, .ptr 8 0), (11, .ptr 11 0), (16, .dat .bool), (19, .own tSegment), (8, .box tEnd [7, 10, 13, 14]), (11, .box tEnd [])]
abbrev sl_spec_EndHear_46 : List (Nat × Sh) := [(3, .dat (.int .i64)), (6, .ptr 6 0), (8, .ptr 8 0), (11, .ptr 11 0), (15, .dat (.int .i64)), (16, .dat .bool), (6, .box tSegment []), (8, .box tEnd [7, 10, 13, 14]), (11, .box tEnd [])]
theorem run_spec_EndHear_12 (p : ShsD (mapL (·.2) sl_spec_EndHear_12)) : runL tab ens_spec_EndHear fn_203 [.agg tEnd [], .dat (.int .i64), .agg tSegment [], .dat (.int .i64)] [.agg tEnd [], .own tSegment] [] [.r, .r, .r, .r, .r, .r, .l, .l, .r, .l, .r, .l] sl_spec_EndHear_12 p = L_spec_EndHear_12 p := by kernel_rfl
theorem run_spec_EndHear_50 (p : ShsD (mapL (·.2) sl_spec_EndHear_50)) : runL tab ens_spec_EndHear fn_203 [.agg tEnd [], .dat (.int .i64), .agg tSegment [], .dat (.int .i64)] [.agg tEnd [], .own tSegment] [] [.r, .r, .r, .r, .r, .r, .r, .r, .r, .r, .r, .r, .r, .l] sl_spec_EndHear_50 p = L_spec_EndHear_50 p := by kernel_rfl
theorem run_spec_EndHear_46 (p : ShsD (mapL (·.2) sl_spec_EndHear_46)) : runL tab ens_spec_EndHear fn_203 [.agg tEnd [], .dat (.int .i64), .agg tSegment [], .dat (.int .i64)] [.agg tEnd [], .own tSegment] [⟨50, [.r, .r, .r, .r, .r, .r, .r, .r, .r, .r, .r, .r, .r, .l], sl_spec_EndHear_50, L_spec_EndHear_50⟩] [.r, .r, .r, .r, .r, .r, .r, .r, .r, .r, .l] sl_spec_EndHear_46 p = L_spec_EndHear_46 p := by kernel_rfl
theorem run_spec_EndHear (x : ShsD [.agg tEnd [], .dat (.int .i64), .agg tSegment [], .dat (.int .i64)]) : runF tab ens_spec_EndHear fn_203 [.agg tEnd [], .dat (.int .i64), .agg tSegment [], .dat (.int .i64)] [.agg tEnd [], .own tSegment] [⟨12, [.r, .r, .r, .r, .r, .r, .l, .l, .r, .l, .r, .l], sl_spec_EndHear_12, L_spec_EndHear_12⟩, ⟨46, [.r, .r, .r, .r, .r, .r, .r, .r, .r, .r, .l], sl_spec_EndHear_46, L_spec_EndHear_46⟩] x = F_spec_EndHear x.1 x.2.1 x.2.2.1 x.2.2.2.1 := by kernel_rfl
noncomputable def ens_spec_l20Ends : List En := [en_spec_EndConnect, en_spec_EndWrite, en_spec_EndClose, en_spec_l20Rd_pick, en_spec_l20Rd_bytes, en_spec_EndNew, en_spec_EndListen, en_spec_EndRead, en_spec_EndTick, en_spec_EndHear]
abbrev sl_spec_l20Ends_10 : List (Nat × Sh) := [(0, .ptr 2000000 0), (2, .ptr 2 0), (3, .ptr 3 0), (6, .ptr 6 0), (7, .ptr 7 0), (8, .own tSegment), (9, .own tSegment), (11, .dat (.int .i64)), (2, .box tEnd [7, 10, 13, 14]), (3, .box tEnd [7, 10, 13, 14]), (6, .box tEnd []), (7, .box tEnd []), (2000000, .box ts_l20Rd [])]
theorem run_spec_l20Ends_10 (n : Nat) (p : ShsD (mapL (·.2) sl_spec_l20Ends_10)) : runL tab ens_spec_l20Ends fn_138 [.box ts_l20Rd []] [.agg tEnd [], .agg tEnd [], .own tSegment, .own tSegment] [⟨10, [.r, .r, .r, .r, .r, .r, .r, .r, .r, .l, .r, .l, .l, .l, .l], sl_spec_l20Ends_10, L_spec_l20Ends_10 n⟩] [.r, .r, .r, .r, .r, .r, .r, .r, .r, .l, .r, .l, .l, .l, .l] sl_spec_l20Ends_10 p = L_spec_l20Ends_10 (n + 1) p := by kernel_rfl
theorem run_spec_l20Ends (x : ShsD [.box ts_l20Rd []]) : runF tab ens_spec_l20Ends fn_138 [.box ts_l20Rd []] [.agg tEnd [], .agg tEnd [], .own tSegment, .own tSegment] [⟨10, [.r, .r, .r, .r, .r, .r, .r, .r, .r, .l, .r, .l, .l, .l, .l], sl_spec_l20Ends_10, L_spec_l20Ends_10 fuel⟩] x = F_spec_l20Ends x.1 := by kernel_rfl
noncomputable def ens_spec_l20End : List En := [en_spec_l20Rd_pick, en_spec_l20Rd_odd, en_spec_l20Ends]
theorem run_spec_l20End (x : ShsD [.box ts_l20Rd [], .dat (.int .i64)]) : runF tab ens_spec_l20End fn_72 [.box ts_l20Rd [], .dat (.int .i64)] [.agg tEnd []] [] x = F_spec_l20End x.1 x.2.1 := by kernel_rfl
noncomputable def ens_spec_DrawEndConnect : List En := [en_spec_l20Open, en_spec_l20Rd_pick, en_spec_EndNew, en_spec_l20Rd_seq, en_spec_l20End]
theorem run_spec_DrawEndConnect (x : ShsD [.dat (.sl (.int .u8))]) : runF tab ens_spec_DrawEndConnect fn_18 [.dat (.sl (.int .u8))] [.agg tEnd [], .dat (.int .i64), .dat (.int .i64), .dat (.int .i64)] [] x = F_spec_DrawEndConnect x.1 := by kernel_rfl
noncomputable def ens_impl_word : List En := [en_impl_in]
theorem run_impl_word (x : ShsD [.dat (.int .i64)]) : runF tab ens_impl_word fn_66 [.dat (.int .i64)] [.dat .bool] [] x = some ((F_impl_word x.1, ()), ()) := by kernel_rfl
noncomputable def ens_impl_portOk : List En := [en_impl_in]
theorem run_impl_portOk (x : ShsD [.dat (.int .i64)]) : runF tab ens_impl_portOk fn_74 [.dat (.int .i64)] [.dat .bool] [] x = some ((F_impl_portOk x.1, ()), ()) := by kernel_rfl
noncomputable def ens_slices_Equal_impl_Range_impl_Range : List En := []
abbrev sl_slices_Equal_impl_Range_impl_Range_4 : List (Nat × Sh) := [(0, .dat (.sl tRange)), (1, .dat (.sl tRange)), (12, .dat (.int .i64)), (13, .dat (.int .i64))]
theorem run_slices_Equal_impl_Range_impl_Range_4 (n : Nat) (p : ShsD (mapL (·.2) sl_slices_Equal_impl_Range_impl_Range_4)) : runL tab ens_slices_Equal_impl_Range_impl_Range fn_149 [.dat (.sl tRange), .dat (.sl tRange)] [.dat .bool] [⟨4, [.r, .r, .l, .r, .l, .l, .l], sl_slices_Equal_impl_Range_impl_Range_4, L_slices_Equal_impl_Range_impl_Range_4 n⟩] [.r, .r, .l, .r, .l, .l, .l] sl_slices_Equal_impl_Range_impl_Range_4 p = L_slices_Equal_impl_Range_impl_Range_4 (n + 1) p := by kernel_rfl
theorem run_slices_Equal_impl_Range_impl_Range (x : ShsD [.dat (.sl tRange), .dat (.sl tRange)]) : runF tab ens_slices_Equal_impl_Range_impl_Range fn_149 [.dat (.sl tRange), .dat (.sl tRange)] [.dat .bool] [⟨4, [.r, .r, .l, .r, .l, .l, .l], sl_slices_Equal_impl_Range_impl_Range_4, L_slices_Equal_impl_Range_impl_Range_4 fuel⟩] x = F_slices_Equal_impl_Range_impl_Range x.1 x.2.1 := by kernel_rfl
noncomputable def ens_slices_Clip_impl_Range_impl_Range : List En := []
theorem run_slices_Clip_impl_Range_impl_Range (x : ShsD [.dat (.sl tRange)]) : runF tab ens_slices_Clip_impl_Range_impl_Range fn_254 [.dat (.sl tRange)] [.dat (.sl tRange)] [] x = F_slices_Clip_impl_Range_impl_Range x.1 := by kernel_rfl
noncomputable def ens_impl_clone_impl_Range : List En := [en_slices_Clip_impl_Range_impl_Range]
theorem run_impl_clone_impl_Range (x : ShsD [.dat (.sl tRange)]) : runF tab ens_impl_clone_impl_Range fn_204 [.dat (.sl tRange)] [.dat (.sl tRange)] [] x = F_impl_clone_impl_Range x.1 := by kernel_rfl
noncomputable def ens_impl_rangesOk : List En := [en_impl_clone_impl_Range]
abbrev sl_impl_rangesOk_4 : List (Nat × Sh) := [(2, .dat (.int .i64)), (7, .own tRange), (8, .dat (.int .i64)), (12, .dat (.sl tRange)), (13, .dat (.int .i64)), (14, .dat (.int .i64))]
theorem run_impl_rangesOk_4 (n : Nat) (p : ShsD (mapL (·.2) sl_impl_rangesOk_4)) : runL tab ens_impl_rangesOk fn_150 [.dat (.sl tRange), .dat (.int .i64), .dat (.int .i64)] [.dat (.sl tRange)] [⟨4, [.r, .r, .r, .l, .r, .l, .l, .l], sl_impl_rangesOk_4, L_impl_rangesOk_4 n⟩] [.r, .r, .r, .l, .r, .l, .l, .l] sl_impl_rangesOk_4 p = L_impl_rangesOk_4 (n + 1) p := by kernel_rfl
theorem run_impl_rangesOk (x : ShsD [.dat (.sl tRange), .dat (.int .i64), .dat (.int .i64)]) : runF tab ens_impl_rangesOk fn_150 [.dat (.sl tRange), .dat (.int .i64), .dat (.int .i64)] [.dat (.sl tRange)] [⟨4, [.r, .r, .r, .l, .r, .l, .l, .l], sl_impl_rangesOk_4, L_impl_rangesOk_4 fuel⟩] x = F_impl_rangesOk x.1 x.2.1 x.2.2.1 := by kernel_rfl
noncomputable def ens_impl_MouthOk : List En := [en_impl_in, en_slices_Equal_impl_Range_impl_Range, en_impl_rangesOk]
theorem run_impl_MouthOk (x : ShsD [.agg tMouth []]) : runF tab ens_impl_MouthOk fn_86 [.agg tMouth []] [.dat .bool] [] x = F_impl_MouthOk x.1 := by kernel_rfl
noncomputable def ens_impl_Ear_free : List En := []
theorem run_impl_Ear_free (x : ShsD [.agg tEar []]) : runF tab ens_impl_Ear_free fn_151 [.agg tEar []] [.dat (.int .i64)] [] x = some ((F_impl_Ear_free x.1, ()), ()) := by kernel_rfl
noncomputable def ens_impl_EarOk : List En := [en_impl_in, en_impl_Ear_free]
abbrev sl_impl_EarOk_4 : List (Nat × Sh) := [(1, .ptr 1 0), (21, .dat (.sl tEarly)), (22, .dat (.int .i64)), (23, .dat (.int .i64)), (1, .box tEar [])]
theorem run_impl_EarOk_4 (n : Nat) (p : ShsD (mapL (·.2) sl_impl_EarOk_4)) : runL tab ens_impl_EarOk fn_87 [.agg tEar []] [.dat .bool] [⟨4, [.r, .r, .l, .r, .l, .l, .l], sl_impl_EarOk_4, L_impl_EarOk_4 n⟩] [.r, .r, .l, .r, .l, .l, .l] sl_impl_EarOk_4 p = L_impl_EarOk_4 (n + 1) p := by kernel_rfl
theorem run_impl_EarOk (x : ShsD [.agg tEar []]) : runF tab ens_impl_EarOk fn_87 [.agg tEar []] [.dat .bool] [⟨4, [.r, .r, .l, .r, .l, .l, .l], sl_impl_EarOk_4, L_impl_EarOk_4 fuel⟩] x = F_impl_EarOk x.1 := by kernel_rfl
noncomputable def ens_impl_ClockOk : List En := [en_impl_in]
theorem run_impl_ClockOk (x : ShsD [.agg tClock []]) : runF tab ens_impl_ClockOk fn_88 [.agg tClock []] [.dat .bool] [] x = some ((F_impl_ClockOk x.1, ()), ()) := by kernel_rfl
noncomputable def ens_impl_End_lastOk : List En := [en_impl_in]
abbrev sl_impl_End_lastOk_6 : List (Nat × Sh) := [(1, .ptr 1 0), (41, .dat (.sl tEarly)), (42, .dat (.int .i64)), (43, .dat (.int .i64)), (1, .box tEnd [])]
theorem run_impl_End_lastOk_6 (n : Nat) (p : ShsD (mapL (·.2) sl_impl_End_lastOk_6)) : runL tab ens_impl_End_lastOk fn_89 [.agg tEnd []] [.dat .bool] [⟨6, [.r, .r, .r, .l, .r, .l, .l, .l], sl_impl_End_lastOk_6, L_impl_End_lastOk_6 n⟩] [.r, .r, .r, .l, .r, .l, .l, .l] sl_impl_End_lastOk_6 p = L_impl_End_lastOk_6 (n + 1) p := by kernel_rfl
theorem run_impl_End_lastOk (x : ShsD [.agg tEnd []]) : runF tab ens_impl_End_lastOk fn_89 [.agg tEnd []] [.dat .bool] [⟨6, [.r, .r, .r, .l, .r, .l, .l, .l], sl_impl_End_lastOk_6, L_impl_End_lastOk_6 fuel⟩] x = F_impl_End_lastOk x.1 := by kernel_rfl
noncomputable def ens_impl_End_goes : List En := []
theorem run_impl_End_goes (x : ShsD [.agg tEnd []]) : runF tab ens_impl_End_goes fn_90 [.agg tEnd []] [.dat .bool] [] x = some ((F_impl_End_goes x.1, ()), ()) := by kernel_rfl
noncomputable def ens_impl_EndOk : List En := [en_impl_in, en_impl_word, en_impl_portOk, en_impl_MouthOk, en_impl_EarOk, en_impl_ClockOk, en_impl_End_lastOk, en_impl_End_goes]
theorem run_impl_EndOk (x : ShsD [.agg tEnd []]) : runF tab ens_impl_EndOk fn_23 [.agg tEnd []] [.dat .bool] [] x = F_impl_EndOk x.1 := by kernel_rfl
noncomputable def ens_impl_asked : List En := [en_impl_EndOk, en_impl_in]
theorem run_impl_asked (x : ShsD [.agg tEnd [], .dat (.int .i64)]) : runF tab ens_impl_asked fn_73 [.agg tEnd [], .dat (.int .i64)] [.dat .bool] [] x = F_impl_asked x.1 x.2.1 := by kernel_rfl
noncomputable def ens_slices_Clip_byte_byte : List En := []
theorem run_slices_Clip_byte_byte (x : ShsD [.dat (.sl (.int .u8))]) : runF tab ens_slices_Clip_byte_byte fn_198 [.dat (.sl (.int .u8))] [.dat (.sl (.int .u8))] [] x = F_slices_Clip_byte_byte x.1 := by kernel_rfl
noncomputable def ens_impl_clone_byte : List En := [en_slices_Clip_byte_byte]
theorem run_impl_clone_byte (x : ShsD [.dat (.sl (.int .u8))]) : runF tab ens_impl_clone_byte fn_132 [.dat (.sl (.int .u8))] [.dat (.sl (.int .u8))] [] x = F_impl_clone_byte x.1 := by kernel_rfl
noncomputable def ens_impl_Mouth_copy : List En := [en_impl_clone_byte, en_impl_clone_impl_Range]
theorem run_impl_Mouth_copy (x : ShsD [.agg tMouth []]) : runF tab ens_impl_Mouth_copy fn_139 [.agg tMouth []] [.agg tMouth []] [] x = F_impl_Mouth_copy x.1 := by kernel_rfl
noncomputable def ens_slices_Clip_impl_Early_impl_Early : List En := []
theorem run_slices_Clip_impl_Early_impl_Early (x : ShsD [.dat (.sl tEarly)]) : runF tab ens_slices_Clip_impl_Early_impl_Early fn_255 [.dat (.sl tEarly)] [.dat (.sl tEarly)] [] x = F_slices_Clip_impl_Early_impl_Early x.1 := by kernel_rfl
noncomputable def ens_impl_clone_impl_Early : List En := [en_slices_Clip_impl_Early_impl_Early]
theorem run_impl_clone_impl_Early (x : ShsD [.dat (.sl tEarly)]) : runF tab ens_impl_clone_impl_Early fn_205 [.dat (.sl tEarly)] [.dat (.sl tEarly)] [] x = F_impl_clone_impl_Early x.1 := by kernel_rfl
noncomputable def ens_impl_Ear_copy : List En := [en_impl_clone_byte, en_impl_clone_impl_Early]
theorem run_impl_Ear_copy (x : ShsD [.agg tEar []]) : runF tab ens_impl_Ear_copy fn_140 [.agg tEar []] [.agg tEar []] [] x = F_impl_Ear_copy x.1 := by kernel_rfl
noncomputable def ens_impl_End_copy : List En := [en_impl_Mouth_copy, en_impl_Ear_copy]
theorem run_impl_End_copy (x : ShsD [.agg tEnd []]) : runF tab ens_impl_End_copy fn_75 [.agg tEnd []] [.agg tEnd []] [] x = F_impl_End_copy x.1 := by kernel_rfl
noncomputable def ens_impl_End_arm : List En := [en_impl_End_goes]
theorem run_impl_End_arm (x : ShsD [.box tEnd [], .dat (.int .i64)]) : runF tab ens_impl_End_arm fn_76 [.box tEnd [], .dat (.int .i64)] [] [] x = F_impl_End_arm x.1 x.2.1 := by kernel_rfl
noncomputable def ens_impl_SeqOf : List En := []
theorem run_impl_SeqOf (x : ShsD [.dat (.int .i64)]) : runF tab ens_impl_SeqOf fn_159 [.dat (.int .i64)] [.dat (.int .i64)] [] x = F_impl_SeqOf x.1 := by kernel_rfl
noncomputable def ens_impl_End_waits : List En := []
theorem run_impl_End_waits (x : ShsD [.agg tEnd []]) : runF tab ens_impl_End_waits fn_206 [.agg tEnd []] [.dat (.int .i64)] [] x = F_impl_End_waits x.1 := by kernel_rfl
noncomputable def ens_impl_Ear_ranges : List En := [en_impl_clone_impl_Range]
abbrev sl_impl_Ear_ranges_3 : List (Nat × Sh) := [(3, .own tRange), (8, .dat (.sl tEarly)), (9, .dat (.int .i64)), (10, .dat (.int .i64))]
theorem run_impl_Ear_ranges_3 (n : Nat) (p : ShsD (mapL (·.2) sl_impl_Ear_ranges_3)) : runL tab ens_impl_Ear_ranges fn_207 [.agg tEar []] [.dat (.sl tRange)] [⟨3, [.r, .r, .l, .r, .l, .l, .l], sl_impl_Ear_ranges_3, L_impl_Ear_ranges_3 n⟩] [.r, .r, .l, .r, .l, .l, .l] sl_impl_Ear_ranges_3 p = L_impl_Ear_ranges_3 (n + 1) p := by kernel_rfl
theorem run_impl_Ear_ranges (x : ShsD [.agg tEar []]) : runF tab ens_impl_Ear_ranges fn_207 [.agg tEar []] [.dat (.sl tRange)] [⟨3, [.r, .r, .l, .r, .l, .l, .l], sl_impl_Ear_ranges_3, L_impl_Ear_ranges_3 fuel⟩] x = F_impl_Ear_ranges x.1 := by kernel_rfl
noncomputable def ens_impl_Segment_copy : List En := [en_impl_clone_byte, en_impl_clone_impl_Range]
theorem run_impl_Segment_copy (x : ShsD [.agg tSegment []]) : runF tab ens_impl_Segment_copy fn_208 [.agg tSegment []] [.agg tSegment []] [] x = F_impl_Segment_copy x.1 := by kernel_rfl
noncomputable def ens_impl_End_segment : List En := [en_impl_Ear_free, en_impl_SeqOf, en_impl_End_waits, en_impl_Ear_ranges, en_impl_Segment_copy]
abbrev sl_impl_End_segment_3 : List (Nat × Sh) := [(6, .ptr 6 0), (7, .ptr 7 0), (26, .dat (.sl tRange)), (27, .dat (.int .i64)), (28, .dat (.int .i64)), (6, .box tSegment [9, 10]), (7, .box tSegment [9])]
theorem run_impl_End_segment_3 (n : Nat) (p : ShsD (mapL (·.2) sl_impl_End_segment_3)) : runL tab ens_impl_End_segment fn_141 [.agg tEnd [], .dat (.int .i64), .dat (.sl (.int .u8))] [.agg tSegment []] [⟨3, [.r, .r, .l, .r, .l, .l, .l], sl_impl_End_segment_3, L_impl_End_segment_3 n⟩] [.r, .r, .l, .r, .l, .l, .l] sl_impl_End_segment_3 p = L_impl_End_segment_3 (n + 1) p := by kernel_rfl
theorem run_impl_End_segment (x : ShsD [.agg tEnd [], .dat (.int .i64), .dat (.sl (.int .u8))]) : runF tab ens_impl_End_segment fn_141 [.agg tEnd [], .dat (.int .i64), .dat (.sl (.int .u8))] [.agg tSegment []] [⟨3, [.r, .r, .l, .r, .l, .l, .l], sl_impl_End_segment_3, L_impl_End_segment_3 fuel⟩] x = F_impl_End_segment x.1 x.2.1 x.2.2.1 := by kernel_rfl
noncomputable def ens_impl_End_first : List En := [en_impl_End_segment]
theorem run_impl_End_first (x : ShsD [.agg tEnd []]) : runF tab ens_impl_End_first fn_77 [.agg tEnd []] [.agg tSegment []] [] x = F_impl_End_first x.1 := by kernel_rfl
noncomputable def ens_impl_EndConnect : List En := [en_impl_word, en_impl_asked, en_impl_portOk, en_impl_End_copy, en_impl_End_arm, en_impl_End_first]
theorem run_impl_EndConnect (x : ShsD [.agg tEnd [], .dat (.int .i64), .dat (.int .i64), .dat (.int .i64)]) : runF tab ens_impl_EndConnect fn_19 [.agg tEnd [], .dat (.int .i64), .dat (.int .i64), .dat (.int .i64)] [.agg tEnd [], .own tSegment] [] x = F_impl_EndConnect x.1 x.2.1 x.2.2.1 x.2.2.2.1 := by kernel_rfl
noncomputable def ens_laws_sameBytes : List En := []
theorem run_laws_sameBytes (x : ShsD [.dat (.sl (.int .u8)), .dat (.sl (.int .u8))]) : runF tab ens_laws_sameBytes fn_17 [.dat (.sl (.int .u8)), .dat (.sl (.int .u8))] [.dat .bool] [] x = some ((F_laws_sameBytes x.1 x.2.1, ()), ()) := by kernel_rfl
noncomputable def ens_laws_sameRanges : List En := []
abbrev sl_laws_sameRanges_4 : List (Nat × Sh) := [(0, .dat (.sl tRange)), (1, .dat (.sl tRange)), (5, .dat (.int .i64))]
theorem run_laws_sameRanges_4 (n : Nat) (p : ShsD (mapL (·.2) sl_laws_sameRanges_4)) : runL tab ens_laws_sameRanges fn_148 [.dat (.sl tRange), .dat (.sl tRange)] [.dat .bool] [⟨4, [.r, .r, .l, .r, .l, .l, .l, .l], sl_laws_sameRanges_4, L_laws_sameRanges_4 n⟩] [.r, .r, .l, .r, .l, .l, .l, .l] sl_laws_sameRanges_4 p = L_laws_sameRanges_4 (n + 1) p := by kernel_rfl
theorem run_laws_sameRanges (x : ShsD [.dat (.sl tRange), .dat (.sl tRange)]) : runF tab ens_laws_sameRanges fn_148 [.dat (.sl tRange), .dat (.sl tRange)] [.dat .bool] [⟨4, [.r, .r, .l, .r, .l, .l, .l, .l], sl_laws_sameRanges_4, L_laws_sameRanges_4 fuel⟩] x = F_laws_sameRanges x.1 x.2.1 := by kernel_rfl
noncomputable def ens_laws_sameMouth : List En := [en_laws_sameBytes, en_laws_sameRanges]
theorem run_laws_sameMouth (x : ShsD [.agg tMouth [], .agg tMouth []]) : runF tab ens_laws_sameMouth fn_83 [.agg tMouth [], .agg tMouth []] [.dat .bool] [] x = F_laws_sameMouth x.1 x.2.1 := by kernel_rfl
noncomputable def ens_laws_sameEar : List En := [en_laws_sameBytes]
abbrev sl_laws_sameEar_4 : List (Nat × Sh) := [(2, .ptr 2 0), (3, .ptr 3 0), (5, .dat (.int .i64)), (2, .box tEar []), (3, .box tEar [])]
theorem run_laws_sameEar_4 (n : Nat) (p : ShsD (mapL (·.2) sl_laws_sameEar_4)) : runL tab ens_laws_sameEar fn_84 [.agg tEar [], .agg tEar []] [.dat .bool] [⟨4, [.r, .r, .l, .r, .l, .l, .l, .l], sl_laws_sameEar_4, L_laws_sameEar_4 n⟩] [.r, .r, .l, .r, .l, .l, .l, .l] sl_laws_sameEar_4 p = L_laws_sameEar_4 (n + 1) p := by kernel_rfl
theorem run_laws_sameEar (x : ShsD [.agg tEar [], .agg tEar []]) : runF tab ens_laws_sameEar fn_84 [.agg tEar [], .agg tEar []] [.dat .bool] [⟨4, [.r, .r, .l, .r, .l, .l, .l, .l], sl_laws_sameEar_4, L_laws_sameEar_4 fuel⟩] x = F_laws_sameEar x.1 x.2.1 := by kernel_rfl
noncomputable def ens_laws_sameEnd : List En := [en_laws_sameMouth, en_laws_sameEar]
theorem run_laws_sameEnd (x : ShsD [.agg tEnd [], .agg tEnd []]) : runF tab ens_laws_sameEnd fn_21 [.agg tEnd [], .agg tEnd []] [.dat .bool] [] x = F_laws_sameEnd x.1 x.2.1 := by kernel_rfl
noncomputable def ens_laws_sameSegment : List En := [en_laws_sameBytes, en_laws_sameRanges]
theorem run_laws_sameSegment (x : ShsD [.agg tSegment [], .agg tSegment []]) : runF tab ens_laws_sameSegment fn_85 [.agg tSegment [], .agg tSegment []] [.dat .bool] [] x = F_laws_sameSegment x.1 x.2.1 := by kernel_rfl
noncomputable def ens_laws_sameSegments : List En := [en_laws_sameSegment]
abbrev sl_laws_sameSegments_4 : List (Nat × Sh) := [(0, .dat (.sl tSegment)), (1, .dat (.sl tSegment)), (5, .dat (.int .i64))]
theorem run_laws_sameSegments_4 (n : Nat) (p : ShsD (mapL (·.2) sl_laws_sameSegments_4)) : runL tab ens_laws_sameSegments fn_22 [.dat (.sl tSegment), .dat (.sl tSegment)] [.dat .bool] [⟨4, [.r, .r, .l, .r, .l, .l, .l, .l], sl_laws_sameSegments_4, L_laws_sameSegments_4 n⟩] [.r, .r, .l, .r, .l, .l, .l, .l] sl_laws_sameSegments_4 p = L_laws_sameSegments_4 (n + 1) p := by kernel_rfl
theorem run_laws_sameSegments (x : ShsD [.dat (.sl tSegment), .dat (.sl tSegment)]) : runF tab ens_laws_sameSegments fn_22 [.dat (.sl tSegment), .dat (.sl tSegment)] [.dat .bool] [⟨4, [.r, .r, .l, .r, .l, .l, .l, .l], sl_laws_sameSegments_4, L_laws_sameSegments_4 fuel⟩] x = F_laws_sameSegments x.1 x.2.1 := by kernel_rfl
noncomputable def ens_impl_ClockLate : List En := [en_impl_ClockOk]
theorem run_impl_ClockLate (x : ShsD [.agg tClock []]) : runF tab ens_impl_ClockLate fn_91 [.agg tClock []] [.agg tClock []] [] x = F_impl_ClockLate x.1 := by kernel_rfl
noncomputable def ens_impl_End_last : List En := [en_impl_End_segment]
theorem run_impl_End_last (x : ShsD [.agg tEnd []]) : runF tab ens_impl_End_last fn_100 [.agg tEnd []] [.agg tSegment []] [] x = F_impl_End_last x.1 := by kernel_rfl
noncomputable def ens_impl_Mouth_again : List En := [en_impl_clone_byte]
theorem run_impl_Mouth_again (x : ShsD [.agg tMouth [], .dat (.int .i64)]) : runF tab ens_impl_Mouth_again fn_152 [.agg tMouth [], .dat (.int .i64)] [.dat (.sl (.int .u8))] [] x = F_impl_Mouth_again x.1 x.2.1 := by kernel_rfl
noncomputable def ens_impl_End_again : List En := [en_impl_End_first, en_impl_End_last, en_impl_End_segment, en_impl_Mouth_again]
theorem run_impl_End_again (x : ShsD [.agg tEnd []]) : runF tab ens_impl_End_again fn_92 [.agg tEnd []] [.agg tSegment []] [] x = F_impl_End_again x.1 := by kernel_rfl
noncomputable def ens_impl_EndTick : List En := [en_impl_asked, en_impl_End_copy, en_impl_ClockLate, en_impl_End_again]
theorem run_impl_EndTick (x : ShsD [.agg tEnd [], .dat (.int .i64)]) : runF tab ens_impl_EndTick fn_24 [.agg tEnd [], .dat (.int .i64)] [.agg tEnd [], .own tSegment] [] x = F_impl_EndTick x.1 x.2.1 := by kernel_rfl
noncomputable def ens_impl_SegmentOk_1 : List En := [en_impl_word]
theorem run_impl_SegmentOk_1 (x : ShsD [.agg tRange []]) : runF tab ens_impl_SegmentOk_1 fn_154 [.agg tRange []] [.dat .bool] [] x = some ((F_impl_SegmentOk_1 x.1, ()), ()) := by kernel_rfl
noncomputable def ens_slices_IndexFunc_impl_Range_impl_Range_impl_SegmentOk_1 : List En := [en_impl_SegmentOk_1]
abbrev sl_slices_IndexFunc_impl_Range_impl_Range_impl_SegmentOk_1_2 : List (Nat × Sh) := [(0, .dat (.sl tRange)), (1, .fn 154 []), (7, .dat (.int .i64)), (8, .dat (.int .i64))]
theorem run_slices_IndexFunc_impl_Range_impl_Range_impl_SegmentOk_1_2 (n : Nat) (p : ShsD (mapL (·.2) sl_slices_IndexFunc_impl_Range_impl_Range_impl_SegmentOk_1_2)) : runL tab ens_slices_IndexFunc_impl_Range_impl_Range_impl_SegmentOk_1 fn_213 [.dat (.sl tRange), .fn 154 []] [.dat (.int .i64)] [⟨2, [.r, .l, .r, .l, .l, .l], sl_slices_IndexFunc_impl_Range_impl_Range_impl_SegmentOk_1_2, L_slices_IndexFunc_impl_Range_impl_Range_impl_SegmentOk_1_2 n⟩] [.r, .l, .r, .l, .l, .l] sl_slices_IndexFunc_impl_Range_impl_Range_impl_SegmentOk_1_2 p = L_slices_IndexFunc_impl_Range_impl_Range_impl_SegmentOk_1_2 (n + 1) p := by kernel_rfl
theorem run_slices_IndexFunc_impl_Range_impl_Range_impl_SegmentOk_1 (x : ShsD [.dat (.sl tRange), .fn 154 []]) : runF tab ens_slices_IndexFunc_impl_Range_impl_Range_impl_SegmentOk_1 fn_213 [.dat (.sl tRange), .fn 154 []] [.dat (.int .i64)] [⟨2, [.r, .l, .r, .l, .l, .l], sl_slices_IndexFunc_impl_Range_impl_Range_impl_SegmentOk_1_2, L_slices_IndexFunc_impl_Range_impl_Range_impl_SegmentOk_1_2 fuel⟩] x = F_slices_IndexFunc_impl_Range_impl_Range_impl_SegmentOk_1 x.1 x.2.1 := by kernel_rfl
noncomputable def ens_slices_ContainsFunc_impl_Range_impl_Range_impl_SegmentOk_1 : List En := [en_slices_IndexFunc_impl_Range_impl_Range_impl_SegmentOk_1]
theorem run_slices_ContainsFunc_impl_Range_impl_Range_impl_SegmentOk_1 (x : ShsD [.dat (.sl tRange), .fn 154 []]) : runF tab ens_slices_ContainsFunc_impl_Range_impl_Range_impl_SegmentOk_1 fn_153 [.dat (.sl tRange), .fn 154 []] [.dat .bool] [] x = F_slices_ContainsFunc_impl_Range_impl_Range_impl_SegmentOk_1 x.1 x.2.1 := by kernel_rfl
noncomputable def ens_impl_SegmentOk : List En := [en_impl_in, en_impl_word, en_impl_portOk, en_slices_ContainsFunc_impl_Range_impl_Range_impl_SegmentOk_1]
theorem run_impl_SegmentOk (x : ShsD [.agg tSegment []]) : runF tab ens_impl_SegmentOk fn_93 [.agg tSegment []] [.dat .bool] [] x = F_impl_SegmentOk x.1 := by kernel_rfl
noncomputable def ens_laws_goodSegments : List En := [en_impl_SegmentOk]
abbrev sl_laws_goodSegments_2 : List (Nat × Sh) := [(0, .dat (.sl tSegment)), (3, .dat (.int .i64))]
theorem run_laws_goodSegments_2 (n : Nat) (p : ShsD (mapL (·.2) sl_laws_goodSegments_2)) : runL tab ens_laws_goodSegments fn_25 [.dat (.sl tSegment)] [.dat .bool] [⟨2, [.r, .l, .r, .l, .l, .l, .l], sl_laws_goodSegments_2, L_laws_goodSegments_2 n⟩] [.r, .l, .r, .l, .l, .l, .l] sl_laws_goodSegments_2 p = L_laws_goodSegments_2 (n + 1) p := by kernel_rfl
theorem run_laws_goodSegments (x : ShsD [.dat (.sl tSegment)]) : runF tab ens_laws_goodSegments fn_25 [.dat (.sl tSegment)] [.dat .bool] [⟨2, [.r, .l, .r, .l, .l, .l, .l], sl_laws_goodSegments_2, L_laws_goodSegments_2 fuel⟩] x = F_laws_goodSegments x.1 := by kernel_rfl
noncomputable def ens_laws_FnEndConnect : List En := [en_laws_alive, en_spec_DrawEndConnect, en_impl_EndConnect, en_spec_EndConnect, en_laws_sameEnd, en_laws_sameSegments, en_impl_EndOk, en_impl_EndTick, en_laws_goodSegments]
theorem run_laws_FnEndConnect (x : ShsD [.dat (.sl (.int .u8))]) : runF tab ens_laws_FnEndConnect fn_4 [.dat (.sl (.int .u8))] [.dat .bool] [] x = F_laws_FnEndConnect x.1 := by kernel_rfl
noncomputable def ens_spec_DrawEndWrite : List En := [en_spec_l20Open, en_spec_l20Rd_pick, en_spec_l20Rd_bytes, en_spec_l20End]
theorem run_spec_DrawEndWrite (x : ShsD [.dat (.sl (.int .u8))]) : runF tab ens_spec_DrawEndWrite fn_26 [.dat (.sl (.int .u8))] [.agg tEnd [], .own (.int .u8), .dat (.int .i64)] [] x = F_spec_DrawEndWrite x.1 := by kernel_rfl
noncomputable def ens_slices_Grow_byte_byte : List En := []
theorem run_slices_Grow_byte_byte (x : ShsD [.nil, .dat (.int .i64)]) : runF tab ens_slices_Grow_byte_byte fn_214 [.nil, .dat (.int .i64)] [.own (.int .u8)] [] x = F_slices_Grow_byte_byte x.1 x.2.1 := by kernel_rfl
noncomputable def ens_slices_Concat_byte_byte : List En := [en_slices_Grow_byte_byte]
abbrev sl_slices_Concat_byte_byte_11 : List (Nat × Sh) := [(6, .own (.int .u8)), (25, .dat (.sl (.sl (.int .u8)))), (26, .dat (.int .i64)), (27, .dat (.int .i64))]
abbrev sl_slices_Concat_byte_byte_3 : List (Nat × Sh) := [(0, .dat (.sl (.sl (.int .u8)))), (3, .dat (.int .i64)), (9, .dat (.sl (.sl (.int .u8)))), (10, .dat (.int .i64)), (11, .dat (.int .i64))]
theorem run_slices_Concat_byte_byte_11 (n : Nat) (p : ShsD (mapL (·.2) sl_slices_Concat_byte_byte_11)) : runL tab ens_slices_Concat_byte_byte fn_155 [.dat (.sl (.sl (.int .u8)))] [.own (.int .u8)] [⟨11, [.r, .r, .r, .r, .l, .r, .l, .l, .l], sl_slices_Concat_byte_byte_11, L_slices_Concat_byte_byte_11 n⟩] [.r, .r, .r, .r, .l, .r, .l, .l, .l] sl_slices_Concat_byte_byte_11 p = L_slices_Concat_byte_byte_11 (n + 1) p := by kernel_rfl
theorem run_slices_Concat_byte_byte_3 (n : Nat) (p : ShsD (mapL (·.2) sl_slices_Concat_byte_byte_3)) : runL tab ens_slices_Concat_byte_byte fn_155 [.dat (.sl (.sl (.int .u8)))] [.own (.int .u8)] [⟨3, [.r, .r, .l, .r, .l, .l, .l], sl_slices_Concat_byte_byte_3, L_slices_Concat_byte_byte_3 n⟩, ⟨11, [.r, .r, .r, .r, .l, .r, .l, .l, .l], sl_slices_Concat_byte_byte_11, L_slices_Concat_byte_byte_11 fuel⟩] [.r, .r, .l, .r, .l, .l, .l] sl_slices_Concat_byte_byte_3 p = L_slices_Concat_byte_byte_3 (n + 1) p := by kernel_rfl
theorem run_slices_Concat_byte_byte (x : ShsD [.dat (.sl (.sl (.int .u8)))]) : runF tab ens_slices_Concat_byte_byte fn_155 [.dat (.sl (.sl (.int .u8)))] [.own (.int .u8)] [⟨3, [.r, .r, .l, .r, .l, .l, .l], sl_slices_Concat_byte_byte_3, L_slices_Concat_byte_byte_3 fuel⟩] x = F_slices_Concat_byte_byte x.1 := by kernel_rfl
noncomputable def ens_impl_MouthWrite : List En := [en_impl_MouthOk, en_impl_Mouth_copy, en_slices_Concat_byte_byte]
theorem run_impl_MouthWrite (x : ShsD [.agg tMouth [], .dat (.sl (.int .u8))]) : runF tab ens_impl_MouthWrite fn_94 [.agg tMouth [], .dat (.sl (.int .u8))] [.agg tMouth [], .dat (.int .i64)] [] x = F_impl_MouthWrite x.1 x.2.1 := by kernel_rfl
noncomputable def ens_impl_Mouth_next : List En := [en_impl_clone_byte]
theorem run_impl_Mouth_next (x : ShsD [.box tMouth [], .dat (.int .i64)]) : runF tab ens_impl_Mouth_next fn_156 [.box tMouth [], .dat (.int .i64)] [.dat (.int .i64), .dat (.sl (.int .u8))] [] x = F_impl_Mouth_next x.1 x.2.1 := by kernel_rfl
noncomputable def ens_impl_End_tellBytes : List En := [en_impl_End_segment, en_impl_Mouth_next]
abbrev sl_impl_End_tellBytes_2 : List (Nat × Sh) := [(0, .ptr 2000000 0), (3, .own tSegment), (2000000, .box tEnd [])]
theorem run_impl_End_tellBytes_2 (n : Nat) (p : ShsD (mapL (·.2) sl_impl_End_tellBytes_2)) : runL tab ens_impl_End_tellBytes fn_95 [.box tEnd []] [.own tSegment] [⟨2, [.r, .r, .l, .l, .l, .l, .l], sl_impl_End_tellBytes_2, L_impl_End_tellBytes_2 n⟩] [.r, .r, .l, .l, .l, .l, .l] sl_impl_End_tellBytes_2 p = L_impl_End_tellBytes_2 (n + 1) p := by kernel_rfl
theorem run_impl_End_tellBytes (x : ShsD [.box tEnd []]) : runF tab ens_impl_End_tellBytes fn_95 [.box tEnd []] [.own tSegment] [⟨2, [.r, .r, .l, .l, .l, .l, .l], sl_impl_End_tellBytes_2, L_impl_End_tellBytes_2 fuel⟩] x = F_impl_End_tellBytes x.1 := by kernel_rfl
noncomputable def ens_slices_Clip_impl_Segment_impl_Segment : List En := []
theorem run_slices_Clip_impl_Segment_impl_Segment (x : ShsD [.dat (.sl tSegment)]) : runF tab ens_slices_Clip_impl_Segment_impl_Segment fn_157 [.dat (.sl tSegment)] [.dat (.sl tSegment)] [] x = F_slices_Clip_impl_Segment_impl_Segment x.1 := by kernel_rfl
noncomputable def ens_impl_clone_impl_Segment : List En := [en_slices_Clip_impl_Segment_impl_Segment]
theorem run_impl_clone_impl_Segment (x : ShsD [.dat (.sl tSegment)]) : runF tab ens_impl_clone_impl_Segment fn_96 [.dat (.sl tSegment)] [.dat (.sl tSegment)] [] x = F_impl_clone_impl_Segment x.1 := by kernel_rfl
noncomputable def ens_impl_EndWrite : List En := [en_impl_asked, en_impl_End_copy, en_impl_End_arm, en_impl_MouthWrite, en_impl_End_tellBytes, en_impl_clone_impl_Segment]
theorem run_impl_EndWrite (x : ShsD [.agg tEnd [], .dat (.sl (.int .u8)), .dat (.int .i64)]) : runF tab ens_impl_EndWrite fn_27 [.agg tEnd [], .dat (.sl (.int .u8)), .dat (.int .i64)] [.agg tEnd [], .dat (.int .i64), .dat (.sl tSegment)] [] x = F_impl_EndWrite x.1 x.2.1 x.2.2.1 := by kernel_rfl
noncomputable def ens_impl_seqPlace : List En := [en_impl_SeqOf]
theorem run_impl_seqPlace (x : ShsD [.dat (.int .i64), .dat (.int .i64)]) : runF tab ens_impl_seqPlace fn_99 [.dat (.int .i64), .dat (.int .i64)] [.dat (.int .i64)] [] x = F_impl_seqPlace x.1 x.2.1 := by kernel_rfl
noncomputable def ens_impl_SeqPlace : List En := [en_impl_in, en_impl_seqPlace]
theorem run_impl_SeqPlace (x : ShsD [.dat (.int .i64), .dat (.int .i64)]) : runF tab ens_impl_SeqPlace fn_29 [.dat (.int .i64), .dat (.int .i64)] [.dat (.int .i64)] [] x = F_impl_SeqPlace x.1 x.2.1 := by kernel_rfl
noncomputable def ens_laws_FnEndWrite : List En := [en_laws_alive, en_laws_sameBytes, en_laws_sameEnd, en_laws_sameSegments, en_impl_EndOk, en_laws_goodSegments, en_spec_DrawEndWrite, en_impl_EndWrite, en_spec_EndWrite, en_impl_SeqPlace]
abbrev sl_laws_FnEndWrite_11 : List (Nat × Sh) := [(3, .ptr 3 0), (6, .ptr 6 0), (7, .dat (.int .i64)), (8, .dat (.sl tSegment)), (12, .dat (.int .i64)), (3, .box tEnd []), (6, .box tEnd [])]
theorem run_laws_FnEndWrite_11 (n : Nat) (p : ShsD (mapL (·.2) sl_laws_FnEndWrite_11)) : runL tab ens_laws_FnEndWrite fn_5 [.dat (.sl (.int .u8))] [.dat .bool] [⟨11, [.r, .r, .r, .r, .r, .r, .r, .l, .r, .l, .l, .l, .l], sl_laws_FnEndWrite_11, L_laws_FnEndWrite_11 n⟩] [.r, .r, .r, .r, .r, .r, .r, .l, .r, .l, .l, .l, .l] sl_laws_FnEndWrite_11 p = L_laws_FnEndWrite_11 (n + 1) p := by kernel_rfl
theorem run_laws_FnEndWrite (x : ShsD [.dat (.sl (.int .u8))]) : runF tab ens_laws_FnEndWrite fn_5 [.dat (.sl (.int .u8))] [.dat .bool] [⟨11, [.r, .r, .r, .r, .r, .r, .r, .l, .r, .l, .l, .l, .l], sl_laws_FnEndWrite_11, L_laws_FnEndWrite_11 fuel⟩] x = F_laws_FnEndWrite x.1 := by kernel_rfl
noncomputable def ens_spec_DrawEndClose : List En := [en_spec_l20Open, en_spec_l20Rd_pick, en_spec_l20End]
theorem run_spec_DrawEndClose (x : ShsD [.dat (.sl (.int .u8))]) : runF tab ens_spec_DrawEndClose fn_30 [.dat (.sl (.int .u8))] [.agg tEnd [], .dat (.int .i64)] [] x = F_spec_DrawEndClose x.1 := by kernel_rfl
noncomputable def ens_impl_EndClose : List En := [en_impl_asked, en_impl_End_copy, en_impl_End_arm, en_impl_End_last]
theorem run_impl_EndClose (x : ShsD [.agg tEnd [], .dat (.int .i64)]) : runF tab ens_impl_EndClose fn_31 [.agg tEnd [], .dat (.int .i64)] [.agg tEnd [], .own tSegment] [] x = F_impl_EndClose x.1 x.2.1 := by kernel_rfl
noncomputable def ens_laws_FnEndClose : List En := [en_laws_alive, en_laws_sameEnd, en_laws_sameSegments, en_impl_EndOk, en_laws_goodSegments, en_impl_EndWrite, en_spec_DrawEndClose, en_impl_EndClose, en_spec_EndClose]
theorem run_laws_FnEndClose (x : ShsD [.dat (.sl (.int .u8))]) : runF tab ens_laws_FnEndClose fn_6 [.dat (.sl (.int .u8))] [.dat .bool] [] x = F_laws_FnEndClose x.1 := by kernel_rfl
end Go.VI.EwcVi
