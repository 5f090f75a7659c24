/- The engine's run of each function comes to the plain function. Written by a program of my own. -/
import Derived.Test.YtinlgneijojjmaaF
import Derived.Test.YtinlgneijojjmaaProg
import Derived.KernelRfl
set_option linter.unusedVariables false
set_option maxRecDepth 100000
namespace Go.VI.RdyVi
open Go Go.VI
def tab : Tab := [
(2, ⟨.int .i64, 1, (.int .i64)⟩),
(3, ⟨.int .i64, 1, (.int .i64)⟩),
(4, ⟨.bool, 1, .bool⟩),
(5, ⟨.int .u8, 1, (.int .u8)⟩),
(6, ⟨.int .u8, 1, (.int .u8)⟩),
(9, ⟨.str, 1, .str⟩),
(10, ⟨.str, 1, .str⟩),
(11, ⟨.str, 1, .str⟩),
(12, ⟨.int .u64, 1, (.int .u64)⟩),
(15, ⟨.ptr 125, 1, .unit⟩),
(16, ⟨.ptr 128, 1, .unit⟩),
(17, ⟨.ptr 137, 1, .unit⟩),
(21, ⟨.int .i32, 1, (.int .i32)⟩),
(22, ⟨.sl 5, 1, (.sl (.int .u8))⟩),
(23, ⟨.sl 75, 1, (.sl (.pair (.int .i64) (.int .i64)))⟩),
(24, ⟨.struct [0, 1, 2, 3, 4], 5, (.pair (.int .i64) (.pair (.sl (.int .u8)) (.pair (.int .i64) (.pair (.int .i64) (.sl (.pair (.int .i64) (.int .i64)))))))⟩),
(25, ⟨.struct [0, 1, 2, 3, 4], 5, (.pair (.int .i64) (.pair (.sl (.int .u8)) (.pair (.int .i64) (.pair (.int .i64) (.sl (.pair (.int .i64) (.int .i64)))))))⟩),
(26, ⟨.sl 72, 1, (.sl (.pair (.int .i64) (.int .u8)))⟩),
(27, ⟨.struct [0, 1, 2, 3], 4, (.pair (.int .i64) (.pair (.int .i64) (.pair (.sl (.int .u8)) (.sl (.pair (.int .i64) (.int .u8))))))⟩),
(28, ⟨.struct [0, 1, 2, 3], 4, (.pair (.int .i64) (.pair (.int .i64) (.pair (.sl (.int .u8)) (.sl (.pair (.int .i64) (.int .u8))))))⟩),
(29, ⟨.struct [0, 1, 2], 3, (.pair (.int .i64) (.pair (.int .i64) (.int .i64)))⟩),
(30, ⟨.struct [0, 1, 2], 3, (.pair (.int .i64) (.pair (.int .i64) (.int .i64)))⟩),
(31, ⟨.struct [0, 1, 2, 3, 4, 5, 6, 11, 15, 16, 17, 18, 19, 20, 21], 24, (.pair (.int .i64) (.pair (.int .i64) (.pair (.int .i64) (.pair (.int .i64) (.pair (.int .i64) (.pair (.int .i64) (.pair (.pair (.int .i64) (.pair (.sl (.int .u8)) (.pair (.int .i64) (.pair (.int .i64) (.sl (.pair (.int .i64) (.int .i64))))))) (.pair (.pair (.int .i64) (.pair (.int .i64) (.pair (.sl (.int .u8)) (.sl (.pair (.int .i64) (.int .u8)))))) (.pair .bool (.pair .bool (.pair .bool (.pair (.int .i64) (.pair (.int .i64) (.pair (.int .i64) (.pair (.int .i64) (.pair (.int .i64) (.int .i64)))))))))))))))))⟩),
(32, ⟨.struct [0, 1, 2, 3, 4, 5, 6, 11, 15, 16, 17, 18, 19, 20, 21], 24, (.pair (.int .i64) (.pair (.int .i64) (.pair (.int .i64) (.pair (.int .i64) (.pair (.int .i64) (.pair (.int .i64) (.pair (.pair (.int .i64) (.pair (.sl (.int .u8)) (.pair (.int .i64) (.pair (.int .i64) (.sl (.pair (.int .i64) (.int .i64))))))) (.pair (.pair (.int .i64) (.pair (.int .i64) (.pair (.sl (.int .u8)) (.sl (.pair (.int .i64) (.int .u8)))))) (.pair .bool (.pair .bool (.pair .bool (.pair (.int .i64) (.pair (.int .i64) (.pair (.int .i64) (.pair (.int .i64) (.pair (.int .i64) (.int .i64)))))))))))))))))⟩),
(37, ⟨.sl 59, 1, (.sl (.pair (.int .i64) (.pair (.int .i64) (.pair (.int .i64) (.pair (.int .i64) (.pair (.int .i64) (.pair .bool (.pair .bool (.pair .bool (.pair .bool (.pair (.sl (.pair (.int .i64) (.int .i64))) (.sl (.int .u8)))))))))))))⟩),
(44, ⟨.ptr 70, 1, .unit⟩),
(58, ⟨.struct [0, 1, 2, 3, 4, 5, 6, 7, 8, 9, 10], 11, (.pair (.int .i64) (.pair (.int .i64) (.pair (.int .i64) (.pair (.int .i64) (.pair (.int .i64) (.pair .bool (.pair .bool (.pair .bool (.pair .bool (.pair (.sl (.pair (.int .i64) (.int .i64))) (.sl (.int .u8))))))))))))⟩),
(59, ⟨.struct [0, 1, 2, 3, 4, 5, 6, 7, 8, 9, 10], 11, (.pair (.int .i64) (.pair (.int .i64) (.pair (.int .i64) (.pair (.int .i64) (.pair (.int .i64) (.pair .bool (.pair .bool (.pair .bool (.pair .bool (.pair (.sl (.pair (.int .i64) (.int .i64))) (.sl (.int .u8))))))))))))⟩),
(69, ⟨.struct [0, 1], 2, (.pair (.sl (.int .u8)) (.int .i64))⟩),
(70, ⟨.struct [0, 1], 2, (.pair (.sl (.int .u8)) (.int .i64))⟩),
(71, ⟨.struct [0, 1], 2, (.pair (.int .i64) (.int .u8))⟩),
(72, ⟨.struct [0, 1], 2, (.pair (.int .i64) (.int .u8))⟩),
(74, ⟨.struct [0, 1], 2, (.pair (.int .i64) (.int .i64))⟩),
(75, ⟨.struct [0, 1], 2, (.pair (.int .i64) (.int .i64))⟩),
(82, ⟨.ptr 32, 1, .unit⟩),
(86, ⟨.sl 3, 1, (.sl (.int .i64))⟩),
(95, ⟨.int .u64, 1, (.int .u64)⟩),
(98, ⟨.sl 22, 1, (.sl (.sl (.int .u8)))⟩),
(100, ⟨.ptr 25, 1, .unit⟩),
(129, ⟨.int .u32, 1, (.int .u32)⟩),
(130, ⟨.int .u8, 1, (.int .u8)⟩),
(131, ⟨.int .u8, 1, (.int .u8)⟩),
(133, ⟨.ptr 5, 1, .unit⟩),
(134, ⟨.int .i32, 1, (.int .i32)⟩),
(135, ⟨.int .i32, 1, (.int .i32)⟩)]
noncomputable def fn_3 : Fun := ⟨Go.Proofs.Try.f3.ntmps, Go.Proofs.Try.f3.body.getD .skip, Go.Proofs.Try.f3.results.toList, []⟩
noncomputable def fn_4 : Fun := ⟨Go.Proofs.Try.f4.ntmps, Go.Proofs.Try.f4.body.getD .skip, Go.Proofs.Try.f4.results.toList, []⟩
noncomputable def fn_5 : Fun := ⟨Go.Proofs.Try.f5.ntmps, Go.Proofs.Try.f5.body.getD .skip, Go.Proofs.Try.f5.results.toList, []⟩
noncomputable def fn_6 : Fun := ⟨Go.Proofs.Try.f6.ntmps, Go.Proofs.Try.f6.body.getD .skip, Go.Proofs.Try.f6.results.toList, []⟩
noncomputable def fn_7 : Fun := ⟨Go.Proofs.Try.f7.ntmps, Go.Proofs.Try.f7.body.getD .skip, Go.Proofs.Try.f7.results.toList, []⟩
noncomputable def fn_8 : Fun := ⟨Go.Proofs.Try.f8.ntmps, Go.Proofs.Try.f8.body.getD .skip, Go.Proofs.Try.f8.results.toList, []⟩
noncomputable def fn_9 : Fun := ⟨Go.Proofs.Try.f9.ntmps, Go.Proofs.Try.f9.body.getD .skip, Go.Proofs.Try.f9.results.toList, []⟩
noncomputable def fn_10 : Fun := ⟨Go.Proofs.Try.f10.ntmps, Go.Proofs.Try.f10.body.getD .skip, Go.Proofs.Try.f10.results.toList, []⟩
noncomputable def fn_11 : Fun := ⟨Go.Proofs.Try.f11.ntmps, Go.Proofs.Try.f11.body.getD .skip, Go.Proofs.Try.f11.results.toList, []⟩
noncomputable def fn_12 : Fun := ⟨Go.Proofs.Try.f12.ntmps, Go.Proofs.Try.f12.body.getD .skip, Go.Proofs.Try.f12.results.toList, []⟩
noncomputable def fn_13 : Fun := ⟨Go.Proofs.Try.f13.ntmps, Go.Proofs.Try.f13.body.getD .skip, Go.Proofs.Try.f13.results.toList, []⟩
noncomputable def fn_14 : Fun := ⟨Go.Proofs.Try.f14.ntmps, Go.Proofs.Try.f14.body.getD .skip, Go.Proofs.Try.f14.results.toList, []⟩
noncomputable def fn_15 : Fun := ⟨Go.Proofs.Try.f15.ntmps, Go.Proofs.Try.f15.body.getD .skip, Go.Proofs.Try.f15.results.toList, []⟩
noncomputable def fn_16 : Fun := ⟨Go.Proofs.Try.f16.ntmps, Go.Proofs.Try.f16.body.getD .skip, Go.Proofs.Try.f16.results.toList, []⟩
noncomputable def fn_17 : Fun := ⟨Go.Proofs.Try.f17.ntmps, Go.Proofs.Try.f17.body.getD .skip, Go.Proofs.Try.f17.results.toList, []⟩
noncomputable def fn_18 : Fun := ⟨Go.Proofs.Try.f18.ntmps, Go.Proofs.Try.f18.body.getD .skip, Go.Proofs.Try.f18.results.toList, []⟩
noncomputable def fn_19 : Fun := ⟨Go.Proofs.Try.f19.ntmps, Go.Proofs.Try.f19.body.getD .skip, Go.Proofs.Try.f19.results.toList, []⟩
noncomputable def fn_20 : Fun := ⟨Go.Proofs.Try.f20.ntmps, Go.Proofs.Try.f20.body.getD .skip, Go.Proofs.Try.f20.results.toList, []⟩
noncomputable def fn_21 : Fun := ⟨Go.Proofs.Try.f21.ntmps, Go.Proofs.Try.f21.body.getD .skip, Go.Proofs.Try.f21.results.toList, []⟩
noncomputable def fn_22 : Fun := ⟨Go.Proofs.Try.f22.ntmps, Go.Proofs.Try.f22.body.getD .skip, Go.Proofs.Try.f22.results.toList, []⟩
noncomputable def fn_23 : Fun := ⟨Go.Proofs.Try.f23.ntmps, Go.Proofs.Try.f23.body.getD .skip, Go.Proofs.Try.f23.results.toList, []⟩
noncomputable def fn_24 : Fun := ⟨Go.Proofs.Try.f24.ntmps, Go.Proofs.Try.f24.body.getD .skip, Go.Proofs.Try.f24.results.toList, []⟩
noncomputable def fn_25 : Fun := ⟨Go.Proofs.Try.f25.ntmps, Go.Proofs.Try.f25.body.getD .skip, Go.Proofs.Try.f25.results.toList, []⟩
noncomputable def fn_26 : Fun := ⟨Go.Proofs.Try.f26.ntmps, Go.Proofs.Try.f26.body.getD .skip, Go.Proofs.Try.f26.results.toList, []⟩
noncomputable def fn_27 : Fun := ⟨Go.Proofs.Try.f27.ntmps, Go.Proofs.Try.f27.body.getD .skip, Go.Proofs.Try.f27.results.toList, []⟩
noncomputable def fn_28 : Fun := ⟨Go.Proofs.Try.f28.ntmps, Go.Proofs.Try.f28.body.getD .skip, Go.Proofs.Try.f28.results.toList, []⟩
noncomputable def fn_29 : Fun := ⟨Go.Proofs.Try.f29.ntmps, Go.Proofs.Try.f29.body.getD .skip, Go.Proofs.Try.f29.results.toList, []⟩
noncomputable def fn_30 : Fun := ⟨Go.Proofs.Try.f30.ntmps, Go.Proofs.Try.f30.body.getD .skip, Go.Proofs.Try.f30.results.toList, []⟩
noncomputable def fn_31 : Fun := ⟨Go.Proofs.Try.f31.ntmps, Go.Proofs.Try.f31.body.getD .skip, Go.Proofs.Try.f31.results.toList, []⟩
noncomputable def fn_32 : Fun := ⟨Go.Proofs.Try.f32.ntmps, Go.Proofs.Try.f32.body.getD .skip, Go.Proofs.Try.f32.results.toList, []⟩
noncomputable def fn_33 : Fun := ⟨Go.Proofs.Try.f33.ntmps, Go.Proofs.Try.f33.body.getD .skip, Go.Proofs.Try.f33.results.toList, []⟩
noncomputable def fn_34 : Fun := ⟨Go.Proofs.Try.f34.ntmps, Go.Proofs.Try.f34.body.getD .skip, Go.Proofs.Try.f34.results.toList, []⟩
noncomputable def fn_35 : Fun := ⟨Go.Proofs.Try.f35.ntmps, Go.Proofs.Try.f35.body.getD .skip, Go.Proofs.Try.f35.results.toList, []⟩
noncomputable def fn_36 : Fun := ⟨Go.Proofs.Try.f36.ntmps, Go.Proofs.Try.f36.body.getD .skip, Go.Proofs.Try.f36.results.toList, []⟩
noncomputable def fn_37 : Fun := ⟨Go.Proofs.Try.f37.ntmps, Go.Proofs.Try.f37.body.getD .skip, Go.Proofs.Try.f37.results.toList, []⟩
noncomputable def fn_38 : Fun := ⟨Go.Proofs.Try.f38.ntmps, Go.Proofs.Try.f38.body.getD .skip, Go.Proofs.Try.f38.results.toList, []⟩
noncomputable def fn_39 : Fun := ⟨Go.Proofs.Try.f39.ntmps, Go.Proofs.Try.f39.body.getD .skip, Go.Proofs.Try.f39.results.toList, []⟩
noncomputable def fn_40 : Fun := ⟨Go.Proofs.Try.f40.ntmps, Go.Proofs.Try.f40.body.getD .skip, Go.Proofs.Try.f40.results.toList, []⟩
noncomputable def fn_41 : Fun := ⟨Go.Proofs.Try.f41.ntmps, Go.Proofs.Try.f41.body.getD .skip, Go.Proofs.Try.f41.results.toList, []⟩
noncomputable def fn_42 : Fun := ⟨Go.Proofs.Try.f42.ntmps, Go.Proofs.Try.f42.body.getD .skip, Go.Proofs.Try.f42.results.toList, []⟩
noncomputable def fn_43 : Fun := ⟨Go.Proofs.Try.f43.ntmps, Go.Proofs.Try.f43.body.getD .skip, Go.Proofs.Try.f43.results.toList, []⟩
noncomputable def fn_44 : Fun := ⟨Go.Proofs.Try.f44.ntmps, Go.Proofs.Try.f44.body.getD .skip, Go.Proofs.Try.f44.results.toList, []⟩
noncomputable def fn_45 : Fun := ⟨Go.Proofs.Try.f45.ntmps, Go.Proofs.Try.f45.body.getD .skip, Go.Proofs.Try.f45.results.toList, []⟩
noncomputable def fn_46 : Fun := ⟨Go.Proofs.Try.f46.ntmps, Go.Proofs.Try.f46.body.getD .skip, Go.Proofs.Try.f46.results.toList, []⟩
noncomputable def fn_47 : Fun := ⟨Go.Proofs.Try.f47.ntmps, Go.Proofs.Try.f47.body.getD .skip, Go.Proofs.Try.f47.results.toList, []⟩
noncomputable def fn_48 : Fun := ⟨Go.Proofs.Try.f48.ntmps, Go.Proofs.Try.f48.body.getD .skip, Go.Proofs.Try.f48.results.toList, []⟩
noncomputable def fn_49 : Fun := ⟨Go.Proofs.Try.f49.ntmps, Go.Proofs.Try.f49.body.getD .skip, Go.Proofs.Try.f49.results.toList, []⟩
noncomputable def fn_50 : Fun := ⟨Go.Proofs.Try.f50.ntmps, Go.Proofs.Try.f50.body.getD .skip, Go.Proofs.Try.f50.results.toList, []⟩
noncomputable def fn_51 : Fun := ⟨Go.Proofs.Try.f51.ntmps, Go.Proofs.Try.f51.body.getD .skip, Go.Proofs.Try.f51.results.toList, []⟩
noncomputable def fn_52 : Fun := ⟨Go.Proofs.Try.f52.ntmps, Go.Proofs.Try.f52.body.getD .skip, Go.Proofs.Try.f52.results.toList, []⟩
noncomputable def fn_53 : Fun := ⟨Go.Proofs.Try.f53.ntmps, Go.Proofs.Try.f53.body.getD .skip, Go.Proofs.Try.f53.results.toList, []⟩
noncomputable def fn_54 : Fun := ⟨Go.Proofs.Try.f54.ntmps, Go.Proofs.Try.f54.body.getD .skip, Go.Proofs.Try.f54.results.toList, []⟩
noncomputable def fn_55 : Fun := ⟨Go.Proofs.Try.f55.ntmps, Go.Proofs.Try.f55.body.getD .skip, Go.Proofs.Try.f55.results.toList, []⟩
noncomputable def fn_56 : Fun := ⟨Go.Proofs.Try.f56.ntmps, Go.Proofs.Try.f56.body.getD .skip, Go.Proofs.Try.f56.results.toList, []⟩
noncomputable def fn_57 : Fun := ⟨Go.Proofs.Try.f57.ntmps, Go.Proofs.Try.f57.body.getD .skip, Go.Proofs.Try.f57.results.toList, []⟩
noncomputable def fn_58 : Fun := ⟨Go.Proofs.Try.f58.ntmps, Go.Proofs.Try.f58.body.getD .skip, Go.Proofs.Try.f58.results.toList, []⟩
noncomputable def fn_59 : Fun := ⟨Go.Proofs.Try.f59.ntmps, Go.Proofs.Try.f59.body.getD .skip, Go.Proofs.Try.f59.results.toList, []⟩
noncomputable def fn_60 : Fun := ⟨Go.Proofs.Try.f60.ntmps, Go.Proofs.Try.f60.body.getD .skip, Go.Proofs.Try.f60.results.toList, []⟩
noncomputable def fn_61 : Fun := ⟨Go.Proofs.Try.f61.ntmps, Go.Proofs.Try.f61.body.getD .skip, Go.Proofs.Try.f61.results.toList, []⟩
noncomputable def fn_62 : Fun := ⟨Go.Proofs.Try.f62.ntmps, Go.Proofs.Try.f62.body.getD .skip, Go.Proofs.Try.f62.results.toList, []⟩
noncomputable def fn_63 : Fun := ⟨Go.Proofs.Try.f63.ntmps, Go.Proofs.Try.f63.body.getD .skip, Go.Proofs.Try.f63.results.toList, []⟩
noncomputable def fn_64 : Fun := ⟨Go.Proofs.Try.f64.ntmps, Go.Proofs.Try.f64.body.getD .skip, Go.Proofs.Try.f64.results.toList, []⟩
noncomputable def fn_65 : Fun := ⟨Go.Proofs.Try.f65.ntmps, Go.Proofs.Try.f65.body.getD .skip, Go.Proofs.Try.f65.results.toList, []⟩
noncomputable def fn_66 : Fun := ⟨Go.Proofs.Try.f66.ntmps, Go.Proofs.Try.f66.body.getD .skip, Go.Proofs.Try.f66.results.toList, []⟩
noncomputable def fn_67 : Fun := ⟨Go.Proofs.Try.f67.ntmps, Go.Proofs.Try.f67.body.getD .skip, Go.Proofs.Try.f67.results.toList, []⟩
noncomputable def fn_68 : Fun := ⟨Go.Proofs.Try.f68.ntmps, Go.Proofs.Try.f68.body.getD .skip, Go.Proofs.Try.f68.results.toList, []⟩
noncomputable def fn_69 : Fun := ⟨Go.Proofs.Try.f69.ntmps, Go.Proofs.Try.f69.body.getD .skip, Go.Proofs.Try.f69.results.toList, []⟩
noncomputable def fn_70 : Fun := ⟨Go.Proofs.Try.f70.ntmps, Go.Proofs.Try.f70.body.getD .skip, Go.Proofs.Try.f70.results.toList, []⟩
noncomputable def fn_71 : Fun := ⟨Go.Proofs.Try.f71.ntmps, Go.Proofs.Try.f71.body.getD .skip, Go.Proofs.Try.f71.results.toList, [5008]⟩
noncomputable def fn_72 : Fun := ⟨Go.Proofs.Try.f72.ntmps, Go.Proofs.Try.f72.body.getD .skip, Go.Proofs.Try.f72.results.toList, []⟩
noncomputable def fn_73 : Fun := ⟨Go.Proofs.Try.f73.ntmps, Go.Proofs.Try.f73.body.getD .skip, Go.Proofs.Try.f73.results.toList, []⟩
noncomputable def fn_74 : Fun := ⟨Go.Proofs.Try.f74.ntmps, Go.Proofs.Try.f74.body.getD .skip, Go.Proofs.Try.f74.results.toList, []⟩
noncomputable def fn_75 : Fun := ⟨Go.Proofs.Try.f75.ntmps, Go.Proofs.Try.f75.body.getD .skip, Go.Proofs.Try.f75.results.toList, []⟩
noncomputable def fn_76 : Fun := ⟨Go.Proofs.Try.f76.ntmps, Go.Proofs.Try.f76.body.getD .skip, Go.Proofs.Try.f76.results.toList, []⟩
noncomputable def fn_77 : Fun := ⟨Go.Proofs.Try.f77.ntmps, Go.Proofs.Try.f77.body.getD .skip, Go.Proofs.Try.f77.results.toList, []⟩
noncomputable def fn_78 : Fun := ⟨Go.Proofs.Try.f78.ntmps, Go.Proofs.Try.f78.body.getD .skip, Go.Proofs.Try.f78.results.toList, []⟩
noncomputable def fn_79 : Fun := ⟨Go.Proofs.Try.f79.ntmps, Go.Proofs.Try.f79.body.getD .skip, Go.Proofs.Try.f79.results.toList, []⟩
noncomputable def fn_80 : Fun := ⟨Go.Proofs.Try.f80.ntmps, Go.Proofs.Try.f80.body.getD .skip, Go.Proofs.Try.f80.results.toList, []⟩
noncomputable def fn_81 : Fun := ⟨Go.Proofs.Try.f81.ntmps, Go.Proofs.Try.f81.body.getD .skip, Go.Proofs.Try.f81.results.toList, []⟩
noncomputable def fn_82 : Fun := ⟨Go.Proofs.Try.f82.ntmps, Go.Proofs.Try.f82.body.getD .skip, Go.Proofs.Try.f82.results.toList, []⟩
noncomputable def fn_83 : Fun := ⟨Go.Proofs.Try.f83.ntmps, Go.Proofs.Try.f83.body.getD .skip, Go.Proofs.Try.f83.results.toList, []⟩
noncomputable def fn_84 : Fun := ⟨Go.Proofs.Try.f84.ntmps, Go.Proofs.Try.f84.body.getD .skip, Go.Proofs.Try.f84.results.toList, []⟩
noncomputable def fn_85 : Fun := ⟨Go.Proofs.Try.f85.ntmps, Go.Proofs.Try.f85.body.getD .skip, Go.Proofs.Try.f85.results.toList, []⟩
noncomputable def fn_86 : Fun := ⟨Go.Proofs.Try.f86.ntmps, Go.Proofs.Try.f86.body.getD .skip, Go.Proofs.Try.f86.results.toList, []⟩
noncomputable def fn_87 : Fun := ⟨Go.Proofs.Try.f87.ntmps, Go.Proofs.Try.f87.body.getD .skip, Go.Proofs.Try.f87.results.toList, []⟩
noncomputable def fn_88 : Fun := ⟨Go.Proofs.Try.f88.ntmps, Go.Proofs.Try.f88.body.getD .skip, Go.Proofs.Try.f88.results.toList, []⟩
noncomputable def fn_89 : Fun := ⟨Go.Proofs.Try.f89.ntmps, Go.Proofs.Try.f89.body.getD .skip, Go.Proofs.Try.f89.results.toList, []⟩
noncomputable def fn_90 : Fun := ⟨Go.Proofs.Try.f90.ntmps, Go.Proofs.Try.f90.body.getD .skip, Go.Proofs.Try.f90.results.toList, []⟩
noncomputable def fn_91 : Fun := ⟨Go.Proofs.Try.f91.ntmps, Go.Proofs.Try.f91.body.getD .skip, Go.Proofs.Try.f91.results.toList, []⟩
noncomputable def fn_92 : Fun := ⟨Go.Proofs.Try.f92.ntmps, Go.Proofs.Try.f92.body.getD .skip, Go.Proofs.Try.f92.results.toList, []⟩
noncomputable def fn_93 : Fun := ⟨Go.Proofs.Try.f93.ntmps, Go.Proofs.Try.f93.body.getD .skip, Go.Proofs.Try.f93.results.toList, []⟩
noncomputable def fn_94 : Fun := ⟨Go.Proofs.Try.f94.ntmps, Go.Proofs.Try.f94.body.getD .skip, Go.Proofs.Try.f94.results.toList, []⟩
noncomputable def fn_95 : Fun := ⟨Go.Proofs.Try.f95.ntmps, Go.Proofs.Try.f95.body.getD .skip, Go.Proofs.Try.f95.results.toList, []⟩
noncomputable def fn_96 : Fun := ⟨Go.Proofs.Try.f96.ntmps, Go.Proofs.Try.f96.body.getD .skip, Go.Proofs.Try.f96.results.toList, []⟩
noncomputable def fn_97 : Fun := ⟨Go.Proofs.Try.f97.ntmps, Go.Proofs.Try.f97.body.getD .skip, Go.Proofs.Try.f97.results.toList, []⟩
noncomputable def fn_98 : Fun := ⟨Go.Proofs.Try.f98.ntmps, Go.Proofs.Try.f98.body.getD .skip, Go.Proofs.Try.f98.results.toList, []⟩
noncomputable def fn_99 : Fun := ⟨Go.Proofs.Try.f99.ntmps, Go.Proofs.Try.f99.body.getD .skip, Go.Proofs.Try.f99.results.toList, []⟩
noncomputable def fn_100 : Fun := ⟨Go.Proofs.Try.f100.ntmps, Go.Proofs.Try.f100.body.getD .skip, Go.Proofs.Try.f100.results.toList, []⟩
noncomputable def fn_101 : Fun := ⟨Go.Proofs.Try.f101.ntmps, Go.Proofs.Try.f101.body.getD .skip, Go.Proofs.Try.f101.results.toList, []⟩
noncomputable def en_spec_l20Rd_pick : En := ⟨37, [.box ts_l20Rd [], .dat (.int .i64)], [.dat (.int .i64)], false, fun x => F_spec_l20Rd_pick x.1 x.2.1⟩
noncomputable def en_spec_l1In : En := ⟨39, [.dat (.int .i64), .dat (.int .i64), .dat (.int .i64)], [.dat .bool], true, fun x => some ((F_spec_l1In x.1 x.2.1 x.2.2.1, ()), ())⟩
noncomputable def en_spec_MouthOk : En := ⟨40, [.agg tMouth []], [.dat .bool], false, fun x => F_spec_MouthOk x.1⟩
noncomputable def en_spec_EarOk : En := ⟨41, [.agg tEar []], [.dat .bool], false, fun x => F_spec_EarOk x.1⟩
noncomputable def en_spec_ClockOk : En := ⟨42, [.agg tClock []], [.dat .bool], true, fun x => some ((F_spec_ClockOk x.1, ()), ())⟩
noncomputable def en_spec_l15Open : En := ⟨43, [.agg tEnd []], [.dat .bool], false, fun x => F_spec_l15Open x.1⟩
noncomputable def en_spec_EndOk : En := ⟨16, [.agg tEnd []], [.dat .bool], false, fun x => F_spec_EndOk x.1⟩
noncomputable def en_spec_ClockNew : En := ⟨72, [.dat (.int .i64)], [.agg tClock []], false, fun x => F_spec_ClockNew x.1⟩
noncomputable def en_spec_EndNew : En := ⟨55, [.dat (.int .i64), .dat (.int .i64), .dat (.int .i64), .dat (.int .i64)], [.agg tEnd [7, 10, 13, 14]], false, fun x => F_spec_EndNew x.1 x.2.1 x.2.2.1 x.2.2.2.1⟩
noncomputable def en_spec_l13Copy : En := ⟨95, [.agg tMouth []], [.agg tMouth [1, 4]], false, fun x => F_spec_l13Copy x.1⟩
noncomputable def en_spec_l15Copy : En := ⟨73, [.agg tEnd []], [.agg tEnd [7, 10, 13, 14]], false, fun x => F_spec_l15Copy x.1⟩
noncomputable def en_spec_EndListen : En := ⟨56, [.agg tEnd []], [.agg tEnd [7, 10, 13, 14], .dat .bool], false, fun x => F_spec_EndListen x.1⟩
noncomputable def en_spec_l15Arm : En := ⟨74, [.agg tEnd [], .dat (.int .i64), .dat .bool], [.agg tEnd []], false, fun x => F_spec_l15Arm x.1 x.2.1 x.2.2.1⟩
noncomputable def en_spec_EarFree : En := ⟨79, [.agg tEar []], [.dat (.int .i64)], false, fun x => F_spec_EarFree x.1⟩
noncomputable def en_spec_SeqOf : En := ⟨86, [.dat (.int .i64)], [.dat (.int .i64)], false, fun x => F_spec_SeqOf x.1⟩
noncomputable def en_spec_l15Wait : En := ⟨87, [.agg tEnd []], [.dat (.int .i64)], false, fun x => F_spec_l15Wait x.1⟩
noncomputable def en_spec_EarRanges : En := ⟨97, [.agg tEar []], [.own tRange], false, fun x => F_spec_EarRanges x.1⟩
noncomputable def en_spec_l15Segment : En := ⟨80, [.agg tEnd [], .dat (.int .i64)], [.agg tSegment [9, 10]], false, fun x => F_spec_l15Segment x.1 x.2.1⟩
noncomputable def en_spec_l15First : En := ⟨75, [.agg tEnd []], [.agg tSegment [9, 10]], false, fun x => F_spec_l15First x.1⟩
noncomputable def en_spec_EndConnect : En := ⟨57, [.agg tEnd [], .dat (.int .i64), .dat (.int .i64), .dat (.int .i64)], [.agg tEnd [], .own tSegment], false, fun x => F_spec_EndConnect x.1 x.2.1 x.2.2.1 x.2.2.2.1⟩
noncomputable def en_spec_MouthWrite : En := ⟨76, [.agg tMouth [], .dat (.sl (.int .u8))], [.agg tMouth [1, 4], .dat (.int .i64)], false, fun x => F_spec_MouthWrite x.1 x.2.1⟩
noncomputable def en_spec_MouthNext : En := ⟨96, [.agg tMouth [], .dat (.int .i64)], [.agg tMouth [1, 4], .dat (.int .i64), .own (.int .u8)], false, fun x => F_spec_MouthNext x.1 x.2.1⟩
noncomputable def en_spec_l15Bytes : En := ⟨77, [.agg tEnd []], [.agg tEnd [], .own tSegment], false, fun x => F_spec_l15Bytes x.1⟩
noncomputable def en_spec_EndWrite : En := ⟨58, [.agg tEnd [], .dat (.sl (.int .u8)), .dat (.int .i64)], [.agg tEnd [], .dat (.int .i64), .own tSegment], false, fun x => F_spec_EndWrite x.1 x.2.1 x.2.2.1⟩
noncomputable def en_spec_l20Rd_bytes : En := ⟨59, [.box ts_l20Rd [], .dat (.int .i64)], [.own (.int .u8)], false, fun x => F_spec_l20Rd_bytes x.1 x.2.1⟩
noncomputable def en_spec_EarRead : En := ⟨78, [.agg tEar [], .dat (.int .i64)], [.agg tEar [2, 3], .own (.int .u8)], false, fun x => F_spec_EarRead x.1 x.2.1⟩
noncomputable def en_spec_l15Told : En := ⟨81, [.agg tEnd []], [.dat (.int .i64)], false, fun x => F_spec_l15Told x.1⟩
noncomputable def en_spec_EndRead : En := ⟨60, [.agg tEnd [], .dat (.int .i64), .dat (.int .i64)], [.agg tEnd [7, 10, 13, 14], .own (.int .u8), .own tSegment], false, fun x => F_spec_EndRead x.1 x.2.1 x.2.2.1⟩
noncomputable def en_spec_ClockLate : En := ⟨82, [.agg tClock []], [.agg tClock []], false, fun x => F_spec_ClockLate x.1⟩
noncomputable def en_spec_MouthAgain : En := ⟨83, [.agg tMouth [], .dat (.int .i64)], [.dat (.int .i64), .own (.int .u8)], false, fun x => F_spec_MouthAgain x.1 x.2.1⟩
noncomputable def en_spec_l15Last : En := ⟨84, [.agg tEnd []], [.agg tSegment [9, 10]], false, fun x => F_spec_l15Last x.1⟩
noncomputable def en_spec_EndTick : En := ⟨61, [.agg tEnd [], .dat (.int .i64)], [.agg tEnd [7, 10, 13, 14], .own tSegment], false, fun x => F_spec_EndTick x.1 x.2.1⟩
noncomputable def en_spec_EndClose : En := ⟨62, [.agg tEnd [], .dat (.int .i64)], [.agg tEnd [], .own tSegment], false, fun x => F_spec_EndClose x.1 x.2.1⟩
noncomputable def en_spec_SegmentOk : En := ⟨85, [.agg tSegment []], [.dat .bool], false, fun x => F_spec_SegmentOk x.1⟩
noncomputable def en_spec_l15Flush : En := ⟨88, [.agg tEnd []], [.agg tEnd [], .own tSegment], false, fun x => F_spec_l15Flush x.1⟩
noncomputable def en_spec_SeqPlace : En := ⟨98, [.dat (.int .i64), .dat (.int .i64)], [.dat (.int .i64)], false, fun x => F_spec_SeqPlace x.1 x.2.1⟩
noncomputable def en_spec_MouthHear : En := ⟨99, [.agg tMouth [], .dat (.int .i64), .dat (.int .i64), .dat (.sl tRange)], [.agg tMouth [1, 4], .dat (.int .i64)], false, fun x => F_spec_MouthHear x.1 x.2.1 x.2.2.1 x.2.2.2.1⟩
noncomputable def en_spec_l15Took : En := ⟨89, [.agg tEnd [], .agg tSegment []], [.agg tEnd [], .dat .bool], false, fun x => F_spec_l15Took x.1 x.2.1⟩
noncomputable def en_spec_l12Put : En := ⟨101, [.dat (.sl tEarly), .agg tEarly []], [.own tEarly], false, fun x => F_spec_l12Put x.1 x.2.1⟩
noncomputable def en_spec_EarHear : En := ⟨100, [.agg tEar [], .dat (.int .i64), .dat (.sl (.int .u8))], [.agg tEar [2, 3]], false, fun x => F_spec_EarHear x.1 x.2.1 x.2.2.1⟩
noncomputable def en_spec_l15Heard : En := ⟨90, [.agg tEnd [], .agg tSegment []], [.agg tEnd []], false, fun x => F_spec_l15Heard x.1 x.2.1⟩
noncomputable def en_spec_SegmentLong : En := ⟨91, [.agg tSegment []], [.dat (.int .i64)], false, fun x => F_spec_SegmentLong x.1⟩
noncomputable def en_spec_SeqLess : En := ⟨92, [.dat (.int .i64), .dat (.int .i64)], [.dat .bool], false, fun x => F_spec_SeqLess x.1 x.2.1⟩
noncomputable def en_spec_EndHear : En := ⟨63, [.agg tEnd [], .dat (.int .i64), .agg tSegment [], .dat (.int .i64)], [.agg tEnd [], .own tSegment], false, fun x => F_spec_EndHear x.1 x.2.1 x.2.2.1 x.2.2.2.1⟩
noncomputable def en_spec_l20Ends : En := ⟨36, [.box ts_l20Rd []], [.agg tEnd [], .agg tEnd [], .own tSegment, .own tSegment], false, fun x => F_spec_l20Ends x.1⟩
noncomputable def en_spec_l20Rd_odd : En := ⟨38, [.box ts_l20Rd [], .dat (.int .i64)], [.dat .bool], false, fun x => F_spec_l20Rd_odd x.1 x.2.1⟩
noncomputable def en_spec_l20End : En := ⟨12, [.box ts_l20Rd [], .dat (.int .i64)], [.agg tEnd []], false, fun x => F_spec_l20End x.1 x.2.1⟩
noncomputable def en_spec_l20Open : En := ⟨13, [.dat (.sl (.int .u8))], [.box ts_l20Rd []], false, fun x => F_spec_l20Open x.1⟩
noncomputable def en_spec_DrawReadyOf : En := ⟨4, [.dat (.sl (.int .u8))], [.agg tEnd []], false, fun x => F_spec_DrawReadyOf x.1⟩
noncomputable def en_impl_in : En := ⟨18, [.dat (.int .i64), .dat (.int .i64), .dat (.int .i64)], [.dat .bool], true, fun x => some ((F_impl_in x.1 x.2.1 x.2.2.1, ()), ())⟩
noncomputable def en_impl_word : En := ⟨19, [.dat (.int .i64)], [.dat .bool], true, fun x => some ((F_impl_word x.1, ()), ())⟩
noncomputable def en_impl_portOk : En := ⟨20, [.dat (.int .i64)], [.dat .bool], true, fun x => some ((F_impl_portOk x.1, ()), ())⟩
noncomputable def en_slices_Equal_impl_Range_impl_Range : En := ⟨44, [.dat (.sl tRange), .dat (.sl tRange)], [.dat .bool], false, fun x => F_slices_Equal_impl_Range_impl_Range x.1 x.2.1⟩
noncomputable def en_slices_Clip_impl_Range_impl_Range : En := ⟨93, [.dat (.sl tRange)], [.dat (.sl tRange)], false, fun x => F_slices_Clip_impl_Range_impl_Range x.1⟩
noncomputable def en_impl_clone_impl_Range : En := ⟨64, [.dat (.sl tRange)], [.dat (.sl tRange)], false, fun x => F_impl_clone_impl_Range x.1⟩
noncomputable def en_impl_rangesOk : En := ⟨45, [.dat (.sl tRange), .dat (.int .i64), .dat (.int .i64)], [.dat (.sl tRange)], false, fun x => F_impl_rangesOk x.1 x.2.1 x.2.2.1⟩
noncomputable def en_impl_MouthOk : En := ⟨21, [.agg tMouth []], [.dat .bool], false, fun x => F_impl_MouthOk x.1⟩
noncomputable def en_impl_Ear_free : En := ⟨30, [.agg tEar []], [.dat (.int .i64)], true, fun x => some ((F_impl_Ear_free x.1, ()), ())⟩
noncomputable def en_impl_EarOk : En := ⟨22, [.agg tEar []], [.dat .bool], false, fun x => F_impl_EarOk x.1⟩
noncomputable def en_impl_ClockOk : En := ⟨23, [.agg tClock []], [.dat .bool], true, fun x => some ((F_impl_ClockOk x.1, ()), ())⟩
noncomputable def en_impl_End_lastOk : En := ⟨24, [.agg tEnd []], [.dat .bool], false, fun x => F_impl_End_lastOk x.1⟩
noncomputable def en_impl_End_goes : En := ⟨25, [.agg tEnd []], [.dat .bool], true, fun x => some ((F_impl_End_goes x.1, ()), ())⟩
noncomputable def en_impl_EndOk : En := ⟨7, [.agg tEnd []], [.dat .bool], false, fun x => F_impl_EndOk x.1⟩
noncomputable def en_impl_bit : En := ⟨14, [.dat .bool, .dat (.int .i64)], [.dat (.int .i64)], false, fun x => F_impl_bit x.1 x.2.1⟩
noncomputable def en_impl_End_over : En := ⟨15, [.agg tEnd []], [.dat .bool], true, fun x => some ((F_impl_End_over x.1, ()), ())⟩
noncomputable def en_impl_ReadyOf : En := ⟨5, [.agg tEnd []], [.dat (.int .i64)], false, fun x => F_impl_ReadyOf x.1⟩
noncomputable def en_spec_EndOver : En := ⟨17, [.agg tEnd []], [.dat .bool], false, fun x => F_spec_EndOver x.1⟩
noncomputable def en_spec_ReadyOf : En := ⟨6, [.agg tEnd []], [.dat (.int .i64)], false, fun x => F_spec_ReadyOf x.1⟩
noncomputable def en_impl_bytesOf : En := ⟨46, [.dat (.int .i64), .dat (.int .i64)], [.own (.int .u8)], false, fun x => F_impl_bytesOf x.1 x.2.1⟩
noncomputable def en_impl_BytesOf : En := ⟨26, [.dat (.int .i64), .dat (.int .i64)], [.own (.int .u8)], false, fun x => F_impl_BytesOf x.1 x.2.1⟩
noncomputable def en_laws_alive : En := ⟨8, [], [.dat .bool], false, fun x => F_laws_alive⟩
noncomputable def en_impl_asked : En := ⟨27, [.agg tEnd [], .dat (.int .i64)], [.dat .bool], false, fun x => F_impl_asked x.1 x.2.1⟩
noncomputable def en_slices_Clip_byte_byte : En := ⟨66, [.dat (.sl (.int .u8))], [.dat (.sl (.int .u8))], false, fun x => F_slices_Clip_byte_byte x.1⟩
noncomputable def en_impl_clone_byte : En := ⟨49, [.dat (.sl (.int .u8))], [.dat (.sl (.int .u8))], false, fun x => F_impl_clone_byte x.1⟩
noncomputable def en_impl_Mouth_copy : En := ⟨47, [.agg tMouth []], [.agg tMouth []], false, fun x => F_impl_Mouth_copy x.1⟩
noncomputable def en_slices_Clip_impl_Early_impl_Early : En := ⟨94, [.dat (.sl tEarly)], [.dat (.sl tEarly)], false, fun x => F_slices_Clip_impl_Early_impl_Early x.1⟩
noncomputable def en_impl_clone_impl_Early : En := ⟨65, [.dat (.sl tEarly)], [.dat (.sl tEarly)], false, fun x => F_impl_clone_impl_Early x.1⟩
noncomputable def en_impl_Ear_copy : En := ⟨48, [.agg tEar []], [.agg tEar []], false, fun x => F_impl_Ear_copy x.1⟩
noncomputable def en_impl_End_copy : En := ⟨28, [.agg tEnd []], [.agg tEnd []], false, fun x => F_impl_End_copy x.1⟩
noncomputable def en_impl_EarRead : En := ⟨29, [.agg tEar [], .dat (.int .i64)], [.agg tEar [], .dat (.sl (.int .u8))], false, fun x => F_impl_EarRead x.1 x.2.1⟩
noncomputable def en_impl_SeqOf : En := ⟨67, [.dat (.int .i64)], [.dat (.int .i64)], false, fun x => F_impl_SeqOf x.1⟩
noncomputable def en_impl_End_waits : En := ⟨68, [.agg tEnd []], [.dat (.int .i64)], false, fun x => F_impl_End_waits x.1⟩
noncomputable def en_impl_Ear_ranges : En := ⟨69, [.agg tEar []], [.dat (.sl tRange)], false, fun x => F_impl_Ear_ranges x.1⟩
noncomputable def en_impl_Segment_copy : En := ⟨70, [.agg tSegment []], [.agg tSegment []], false, fun x => F_impl_Segment_copy x.1⟩
noncomputable def en_impl_End_segment : En := ⟨50, [.agg tEnd [], .dat (.int .i64), .dat (.sl (.int .u8))], [.agg tSegment []], false, fun x => F_impl_End_segment x.1 x.2.1 x.2.2.1⟩
noncomputable def en_impl_End_place : En := ⟨51, [.agg tEnd []], [.dat (.int .i64)], false, fun x => F_impl_End_place x.1⟩
noncomputable def en_impl_End_bare : En := ⟨31, [.agg tEnd []], [.agg tSegment []], false, fun x => F_impl_End_bare x.1⟩
noncomputable def en_impl_EndRead : En := ⟨9, [.agg tEnd [], .dat (.int .i64), .dat (.int .i64)], [.agg tEnd [], .dat (.sl (.int .u8)), .own tSegment], false, fun x => F_impl_EndRead x.1 x.2.1 x.2.2.1⟩
noncomputable def en_slices_Grow_byte_byte : En := ⟨71, [.nil, .dat (.int .i64)], [.own (.int .u8)], false, fun x => F_slices_Grow_byte_byte x.1 x.2.1⟩
noncomputable def en_slices_Concat_byte_byte : En := ⟨52, [.dat (.sl (.sl (.int .u8)))], [.own (.int .u8)], false, fun x => F_slices_Concat_byte_byte x.1⟩
noncomputable def en_impl_MouthWrite : En := ⟨32, [.agg tMouth [], .dat (.sl (.int .u8))], [.agg tMouth [], .dat (.int .i64)], false, fun x => F_impl_MouthWrite x.1 x.2.1⟩
noncomputable def en_impl_Mouth_next : En := ⟨53, [.box tMouth [], .dat (.int .i64)], [.dat (.int .i64), .dat (.sl (.int .u8))], false, fun x => F_impl_Mouth_next x.1 x.2.1⟩
noncomputable def en_impl_End_tellBytes : En := ⟨33, [.box tEnd []], [.own tSegment], false, fun x => F_impl_End_tellBytes x.1⟩
noncomputable def en_impl_End_arm : En := ⟨34, [.box tEnd [], .dat (.int .i64)], [], false, fun x => F_impl_End_arm x.1 x.2.1⟩
noncomputable def en_slices_Clip_impl_Segment_impl_Segment : En := ⟨54, [.dat (.sl tSegment)], [.dat (.sl tSegment)], false, fun x => F_slices_Clip_impl_Segment_impl_Segment x.1⟩
noncomputable def en_impl_clone_impl_Segment : En := ⟨35, [.dat (.sl tSegment)], [.dat (.sl tSegment)], false, fun x => F_impl_clone_impl_Segment x.1⟩
noncomputable def en_impl_EndWrite : En := ⟨10, [.agg tEnd [], .dat (.sl (.int .u8)), .dat (.int .i64)], [.agg tEnd [], .dat (.int .i64), .dat (.sl tSegment)], false, fun x => F_impl_EndWrite x.1 x.2.1 x.2.2.1⟩
noncomputable def en_impl_EndOver : En := ⟨11, [.agg tEnd []], [.dat .bool], false, fun x => F_impl_EndOver x.1⟩
noncomputable def en_laws_FnReadyOf : En := ⟨3, [.dat (.sl (.int .u8))], [.dat .bool], false, fun x => F_laws_FnReadyOf x.1⟩
noncomputable def ens_spec_l20Rd_pick : List En := []
theorem run_spec_l20Rd_pick (x : ShsD [.box ts_l20Rd [], .dat (.int .i64)]) : runF tab ens_spec_l20Rd_pick fn_37 [.box ts_l20Rd [], .dat (.int .i64)] [.dat (.int .i64)] [] x = F_spec_l20Rd_pick x.1 x.2.1 := by kernel_rfl
noncomputable def ens_spec_l1In : List En := []
theorem run_spec_l1In (x : ShsD [.dat (.int .i64), .dat (.int .i64), .dat (.int .i64)]) : runF tab ens_spec_l1In fn_39 [.dat (.int .i64), .dat (.int .i64), .dat (.int .i64)] [.dat .bool] [] x = some ((F_spec_l1In x.1 x.2.1 x.2.2.1, ()), ()) := by kernel_rfl
noncomputable def ens_spec_MouthOk : List En := [en_spec_l1In]
abbrev sl_spec_MouthOk_4 : List (Nat × Sh) := [(1, .ptr 1 0), (3, .dat (.int .i64)), (1, .box tMouth [])]
theorem run_spec_MouthOk_4 (n : Nat) (p : ShsD (mapL (·.2) sl_spec_MouthOk_4)) : runL tab ens_spec_MouthOk fn_40 [.agg tMouth []] [.dat .bool] [⟨4, [.r, .r, .l, .r, .l, .l, .l, .l], sl_spec_MouthOk_4, L_spec_MouthOk_4 n⟩] [.r, .r, .l, .r, .l, .l, .l, .l] sl_spec_MouthOk_4 p = L_spec_MouthOk_4 (n + 1) p := by kernel_rfl
theorem run_spec_MouthOk (x : ShsD [.agg tMouth []]) : runF tab ens_spec_MouthOk fn_40 [.agg tMouth []] [.dat .bool] [⟨4, [.r, .r, .l, .r, .l, .l, .l, .l], sl_spec_MouthOk_4, L_spec_MouthOk_4 fuel⟩] x = F_spec_MouthOk x.1 := by kernel_rfl
noncomputable def ens_spec_EarOk : List En := [en_spec_l1In]
abbrev sl_spec_EarOk_4 : List (Nat × Sh) := [(1, .ptr 1 0), (3, .dat (.int .i64)), (1, .box tEar [])]
theorem run_spec_EarOk_4 (n : Nat) (p : ShsD (mapL (·.2) sl_spec_EarOk_4)) : runL tab ens_spec_EarOk fn_41 [.agg tEar []] [.dat .bool] [⟨4, [.r, .r, .l, .r, .l, .l, .l, .l], sl_spec_EarOk_4, L_spec_EarOk_4 n⟩] [.r, .r, .l, .r, .l, .l, .l, .l] sl_spec_EarOk_4 p = L_spec_EarOk_4 (n + 1) p := by kernel_rfl
theorem run_spec_EarOk (x : ShsD [.agg tEar []]) : runF tab ens_spec_EarOk fn_41 [.agg tEar []] [.dat .bool] [⟨4, [.r, .r, .l, .r, .l, .l, .l, .l], sl_spec_EarOk_4, L_spec_EarOk_4 fuel⟩] x = F_spec_EarOk x.1 := by kernel_rfl
noncomputable def ens_spec_ClockOk : List En := [en_spec_l1In]
theorem run_spec_ClockOk (x : ShsD [.agg tClock []]) : runF tab ens_spec_ClockOk fn_42 [.agg tClock []] [.dat .bool] [] x = some ((F_spec_ClockOk x.1, ()), ()) := by kernel_rfl
noncomputable def ens_spec_l15Open : List En := []
theorem run_spec_l15Open (x : ShsD [.agg tEnd []]) : runF tab ens_spec_l15Open fn_43 [.agg tEnd []] [.dat .bool] [] x = F_spec_l15Open x.1 := by kernel_rfl
noncomputable def ens_spec_EndOk : List En := [en_spec_l1In, en_spec_MouthOk, en_spec_EarOk, en_spec_ClockOk, en_spec_l15Open]
theorem run_spec_EndOk (x : ShsD [.agg tEnd []]) : runF tab ens_spec_EndOk fn_16 [.agg tEnd []] [.dat .bool] [] x = F_spec_EndOk x.1 := by kernel_rfl
noncomputable def ens_spec_ClockNew : List En := []
theorem run_spec_ClockNew (x : ShsD [.dat (.int .i64)]) : runF tab ens_spec_ClockNew fn_72 [.dat (.int .i64)] [.agg tClock []] [] x = F_spec_ClockNew x.1 := by kernel_rfl
noncomputable def ens_spec_EndNew : List En := [en_spec_EndOk, en_spec_ClockNew]
theorem run_spec_EndNew (x : ShsD [.dat (.int .i64), .dat (.int .i64), .dat (.int .i64), .dat (.int .i64)]) : runF tab ens_spec_EndNew fn_55 [.dat (.int .i64), .dat (.int .i64), .dat (.int .i64), .dat (.int .i64)] [.agg tEnd [7, 10, 13, 14]] [] x = F_spec_EndNew x.1 x.2.1 x.2.2.1 x.2.2.2.1 := by kernel_rfl
noncomputable def ens_spec_l13Copy : List En := []
theorem run_spec_l13Copy (x : ShsD [.agg tMouth []]) : runF tab ens_spec_l13Copy fn_95 [.agg tMouth []] [.agg tMouth [1, 4]] [] x = F_spec_l13Copy x.1 := by kernel_rfl
noncomputable def ens_spec_l15Copy : List En := [en_spec_l13Copy]
theorem run_spec_l15Copy (x : ShsD [.agg tEnd []]) : runF tab ens_spec_l15Copy fn_73 [.agg tEnd []] [.agg tEnd [7, 10, 13, 14]] [] x = F_spec_l15Copy x.1 := by kernel_rfl
noncomputable def ens_spec_EndListen : List En := [en_spec_EndOk, en_spec_l15Copy]
theorem run_spec_EndListen (x : ShsD [.agg tEnd []]) : runF tab ens_spec_EndListen fn_56 [.agg tEnd []] [.agg tEnd [7, 10, 13, 14], .dat .bool] [] x = F_spec_EndListen x.1 := by kernel_rfl
noncomputable def ens_spec_l15Arm : List En := [en_spec_l15Open]
theorem run_spec_l15Arm (x : ShsD [.agg tEnd [], .dat (.int .i64), .dat .bool]) : runF tab ens_spec_l15Arm fn_74 [.agg tEnd [], .dat (.int .i64), .dat .bool] [.agg tEnd []] [] x = F_spec_l15Arm x.1 x.2.1 x.2.2.1 := by kernel_rfl
noncomputable def ens_spec_EarFree : List En := [en_spec_EarOk]
theorem run_spec_EarFree (x : ShsD [.agg tEar []]) : runF tab ens_spec_EarFree fn_79 [.agg tEar []] [.dat (.int .i64)] [] x = F_spec_EarFree x.1 := by kernel_rfl
noncomputable def ens_spec_SeqOf : List En := []
theorem run_spec_SeqOf (x : ShsD [.dat (.int .i64)]) : runF tab ens_spec_SeqOf fn_86 [.dat (.int .i64)] [.dat (.int .i64)] [] x = F_spec_SeqOf x.1 := by kernel_rfl
noncomputable def ens_spec_l15Wait : List En := []
theorem run_spec_l15Wait (x : ShsD [.agg tEnd []]) : runF tab ens_spec_l15Wait fn_87 [.agg tEnd []] [.dat (.int .i64)] [] x = F_spec_l15Wait x.1 := by kernel_rfl
noncomputable def ens_spec_EarRanges : List En := [en_spec_EarOk]
abbrev sl_spec_EarRanges_5 : List (Nat × Sh) := [(1, .ptr 1 0), (3, .own tRange), (4, .dat (.int .i64)), (1, .box tEar [])]
theorem run_spec_EarRanges_5 (n : Nat) (p : ShsD (mapL (·.2) sl_spec_EarRanges_5)) : runL tab ens_spec_EarRanges fn_97 [.agg tEar []] [.own tRange] [⟨5, [.r, .r, .r, .l, .r, .l, .l, .l, .l], sl_spec_EarRanges_5, L_spec_EarRanges_5 n⟩] [.r, .r, .r, .l, .r, .l, .l, .l, .l] sl_spec_EarRanges_5 p = L_spec_EarRanges_5 (n + 1) p := by kernel_rfl
theorem run_spec_EarRanges (x : ShsD [.agg tEar []]) : runF tab ens_spec_EarRanges fn_97 [.agg tEar []] [.own tRange] [⟨5, [.r, .r, .r, .l, .r, .l, .l, .l, .l], sl_spec_EarRanges_5, L_spec_EarRanges_5 fuel⟩] x = F_spec_EarRanges x.1 := by kernel_rfl
noncomputable def ens_spec_l15Segment : List En := [en_spec_EarFree, en_spec_SeqOf, en_spec_l15Wait, en_spec_EarRanges]
abbrev sl_spec_l15Segment_9 : List (Nat × Sh) := [(4, .ptr 4 0), (5, .ptr 5 0), (6, .own tRange), (7, .dat (.int .i64)), (4, .box tSegment [9, 10]), (5, .box tSegment [9, 10])]
theorem run_spec_l15Segment_9 (n : Nat) (p : ShsD (mapL (·.2) sl_spec_l15Segment_9)) : runL tab ens_spec_l15Segment fn_80 [.agg tEnd [], .dat (.int .i64)] [.agg tSegment [9, 10]] [⟨9, [.r, .r, .r, .r, .r, .r, .r, .l, .r, .l, .l, .l, .l], sl_spec_l15Segment_9, L_spec_l15Segment_9 n⟩] [.r, .r, .r, .r, .r, .r, .r, .l, .r, .l, .l, .l, .l] sl_spec_l15Segment_9 p = L_spec_l15Segment_9 (n + 1) p := by kernel_rfl
theorem run_spec_l15Segment (x : ShsD [.agg tEnd [], .dat (.int .i64)]) : runF tab ens_spec_l15Segment fn_80 [.agg tEnd [], .dat (.int .i64)] [.agg tSegment [9, 10]] [⟨9, [.r, .r, .r, .r, .r, .r, .r, .l, .r, .l, .l, .l, .l], sl_spec_l15Segment_9, L_spec_l15Segment_9 fuel⟩] x = F_spec_l15Segment x.1 x.2.1 := by kernel_rfl
noncomputable def ens_spec_l15First : List En := [en_spec_l15Segment]
theorem run_spec_l15First (x : ShsD [.agg tEnd []]) : runF tab ens_spec_l15First fn_75 [.agg tEnd []] [.agg tSegment [9, 10]] [] x = F_spec_l15First x.1 := by kernel_rfl
noncomputable def ens_spec_EndConnect : List En := [en_spec_EndOk, en_spec_l1In, en_spec_l15Copy, en_spec_l15Arm, en_spec_l15First]
theorem run_spec_EndConnect (x : ShsD [.agg tEnd [], .dat (.int .i64), .dat (.int .i64), .dat (.int .i64)]) : runF tab ens_spec_EndConnect fn_57 [.agg tEnd [], .dat (.int .i64), .dat (.int .i64), .dat (.int .i64)] [.agg tEnd [], .own tSegment] [] x = F_spec_EndConnect x.1 x.2.1 x.2.2.1 x.2.2.2.1 := by kernel_rfl
noncomputable def ens_spec_MouthWrite : List En := [en_spec_MouthOk, en_spec_l13Copy]
theorem run_spec_MouthWrite (x : ShsD [.agg tMouth [], .dat (.sl (.int .u8))]) : runF tab ens_spec_MouthWrite fn_76 [.agg tMouth [], .dat (.sl (.int .u8))] [.agg tMouth [1, 4], .dat (.int .i64)] [] x = F_spec_MouthWrite x.1 x.2.1 := by kernel_rfl
noncomputable def ens_spec_MouthNext : List En := [en_spec_l1In, en_spec_MouthOk, en_spec_l13Copy]
theorem run_spec_MouthNext (x : ShsD [.agg tMouth [], .dat (.int .i64)]) : runF tab ens_spec_MouthNext fn_96 [.agg tMouth [], .dat (.int .i64)] [.agg tMouth [1, 4], .dat (.int .i64), .own (.int .u8)] [] x = F_spec_MouthNext x.1 x.2.1 := by kernel_rfl
noncomputable def ens_spec_l15Bytes : List En := [en_spec_l15Segment, en_spec_MouthNext]
abbrev sl_spec_l15Bytes_2 : List (Nat × Sh) := [(1, .ptr 1 0), (2, .ptr 2 0), (4, .own tSegment), (1, .box tEnd []), (2, .box tEnd [7, 10, 13, 14])]
theorem run_spec_l15Bytes_2 (n : Nat) (p : ShsD (mapL (·.2) sl_spec_l15Bytes_2)) : runL tab ens_spec_l15Bytes fn_77 [.agg tEnd []] [.agg tEnd [], .own tSegment] [⟨2, [.r, .r, .l, .l, .l, .l, .l], sl_spec_l15Bytes_2, L_spec_l15Bytes_2 n⟩] [.r, .r, .l, .l, .l, .l, .l] sl_spec_l15Bytes_2 p = L_spec_l15Bytes_2 (n + 1) p := by kernel_rfl
theorem run_spec_l15Bytes (x : ShsD [.agg tEnd []]) : runF tab ens_spec_l15Bytes fn_77 [.agg tEnd []] [.agg tEnd [], .own tSegment] [⟨2, [.r, .r, .l, .l, .l, .l, .l], sl_spec_l15Bytes_2, L_spec_l15Bytes_2 fuel⟩] x = F_spec_l15Bytes x.1 := by kernel_rfl
noncomputable def ens_spec_EndWrite : List En := [en_spec_EndOk, en_spec_l1In, en_spec_l15Copy, en_spec_l15Arm, en_spec_MouthWrite, en_spec_l15Bytes]
theorem run_spec_EndWrite (x : ShsD [.agg tEnd [], .dat (.sl (.int .u8)), .dat (.int .i64)]) : runF tab ens_spec_EndWrite fn_58 [.agg tEnd [], .dat (.sl (.int .u8)), .dat (.int .i64)] [.agg tEnd [], .dat (.int .i64), .own tSegment] [] x = F_spec_EndWrite x.1 x.2.1 x.2.2.1 := by kernel_rfl
noncomputable def ens_spec_l20Rd_bytes : List En := [en_spec_l20Rd_pick]
abbrev sl_spec_l20Rd_bytes_2 : List (Nat × Sh) := [(0, .ptr 2000000 0), (1, .dat (.int .i64)), (5, .own (.int .u8)), (2000000, .box ts_l20Rd [])]
theorem run_spec_l20Rd_bytes_2 (n : Nat) (p : ShsD (mapL (·.2) sl_spec_l20Rd_bytes_2)) : runL tab ens_spec_l20Rd_bytes fn_59 [.box ts_l20Rd [], .dat (.int .i64)] [.own (.int .u8)] [⟨2, [.r, .r, .l, .l, .l, .l, .l], sl_spec_l20Rd_bytes_2, L_spec_l20Rd_bytes_2 n⟩] [.r, .r, .l, .l, .l, .l, .l] sl_spec_l20Rd_bytes_2 p = L_spec_l20Rd_bytes_2 (n + 1) p := by kernel_rfl
theorem run_spec_l20Rd_bytes (x : ShsD [.box ts_l20Rd [], .dat (.int .i64)]) : runF tab ens_spec_l20Rd_bytes fn_59 [.box ts_l20Rd [], .dat (.int .i64)] [.own (.int .u8)] [⟨2, [.r, .r, .l, .l, .l, .l, .l], sl_spec_l20Rd_bytes_2, L_spec_l20Rd_bytes_2 fuel⟩] x = F_spec_l20Rd_bytes x.1 x.2.1 := by kernel_rfl
noncomputable def ens_spec_EarRead : List En := [en_spec_EarOk]
theorem run_spec_EarRead (x : ShsD [.agg tEar [], .dat (.int .i64)]) : runF tab ens_spec_EarRead fn_78 [.agg tEar [], .dat (.int .i64)] [.agg tEar [2, 3], .own (.int .u8)] [] x = F_spec_EarRead x.1 x.2.1 := by kernel_rfl
noncomputable def ens_spec_l15Told : List En := []
theorem run_spec_l15Told (x : ShsD [.agg tEnd []]) : runF tab ens_spec_l15Told fn_81 [.agg tEnd []] [.dat (.int .i64)] [] x = F_spec_l15Told x.1 := by kernel_rfl
noncomputable def ens_spec_EndRead : List En := [en_spec_EndOk, en_spec_l1In, en_spec_l15Copy, en_spec_EarRead, en_spec_EarFree, en_spec_l15Segment, en_spec_l15Told]
theorem run_spec_EndRead (x : ShsD [.agg tEnd [], .dat (.int .i64), .dat (.int .i64)]) : runF tab ens_spec_EndRead fn_60 [.agg tEnd [], .dat (.int .i64), .dat (.int .i64)] [.agg tEnd [7, 10, 13, 14], .own (.int .u8), .own tSegment] [] x = F_spec_EndRead x.1 x.2.1 x.2.2.1 := by kernel_rfl
noncomputable def ens_spec_ClockLate : List En := [en_spec_ClockOk]
theorem run_spec_ClockLate (x : ShsD [.agg tClock []]) : runF tab ens_spec_ClockLate fn_82 [.agg tClock []] [.agg tClock []] [] x = F_spec_ClockLate x.1 := by kernel_rfl
noncomputable def ens_spec_MouthAgain : List En := [en_spec_l1In, en_spec_MouthOk]
theorem run_spec_MouthAgain (x : ShsD [.agg tMouth [], .dat (.int .i64)]) : runF tab ens_spec_MouthAgain fn_83 [.agg tMouth [], .dat (.int .i64)] [.dat (.int .i64), .own (.int .u8)] [] x = F_spec_MouthAgain x.1 x.2.1 := by kernel_rfl
noncomputable def ens_spec_l15Last : List En := [en_spec_l15Segment]
theorem run_spec_l15Last (x : ShsD [.agg tEnd []]) : runF tab ens_spec_l15Last fn_84 [.agg tEnd []] [.agg tSegment [9, 10]] [] x = F_spec_l15Last x.1 := by kernel_rfl
noncomputable def ens_spec_EndTick : List En := [en_spec_EndOk, en_spec_l1In, en_spec_l15Copy, en_spec_l15First, en_spec_l15Segment, en_spec_ClockLate, en_spec_MouthAgain, en_spec_l15Last]
theorem run_spec_EndTick (x : ShsD [.agg tEnd [], .dat (.int .i64)]) : runF tab ens_spec_EndTick fn_61 [.agg tEnd [], .dat (.int .i64)] [.agg tEnd [7, 10, 13, 14], .own tSegment] [] x = F_spec_EndTick x.1 x.2.1 := by kernel_rfl
noncomputable def ens_spec_EndClose : List En := [en_spec_EndOk, en_spec_l1In, en_spec_l15Copy, en_spec_l15Arm, en_spec_l15Last]
theorem run_spec_EndClose (x : ShsD [.agg tEnd [], .dat (.int .i64)]) : runF tab ens_spec_EndClose fn_62 [.agg tEnd [], .dat (.int .i64)] [.agg tEnd [], .own tSegment] [] x = F_spec_EndClose x.1 x.2.1 := by kernel_rfl
noncomputable def ens_spec_SegmentOk : List En := [en_spec_l1In]
abbrev sl_spec_SegmentOk_4 : List (Nat × Sh) := [(1, .ptr 1 0), (3, .dat (.int .i64)), (1, .box tSegment [])]
theorem run_spec_SegmentOk_4 (n : Nat) (p : ShsD (mapL (·.2) sl_spec_SegmentOk_4)) : runL tab ens_spec_SegmentOk fn_85 [.agg tSegment []] [.dat .bool] [⟨4, [.r, .r, .l, .r, .l, .l, .l, .l], sl_spec_SegmentOk_4, L_spec_SegmentOk_4 n⟩] [.r, .r, .l, .r, .l, .l, .l, .l] sl_spec_SegmentOk_4 p = L_spec_SegmentOk_4 (n + 1) p := by kernel_rfl
theorem run_spec_SegmentOk (x : ShsD [.agg tSegment []]) : runF tab ens_spec_SegmentOk fn_85 [.agg tSegment []] [.dat .bool] [⟨4, [.r, .r, .l, .r, .l, .l, .l, .l], sl_spec_SegmentOk_4, L_spec_SegmentOk_4 fuel⟩] x = F_spec_SegmentOk x.1 := by kernel_rfl
noncomputable def ens_spec_l15Flush : List En := [en_spec_l15Bytes, en_spec_l15Last]
theorem run_spec_l15Flush (x : ShsD [.agg tEnd []]) : runF tab ens_spec_l15Flush fn_88 [.agg tEnd []] [.agg tEnd [], .own tSegment] [] x = F_spec_l15Flush x.1 := by kernel_rfl
noncomputable def ens_spec_SeqPlace : List En := [en_spec_l1In, en_spec_SeqOf]
theorem run_spec_SeqPlace (x : ShsD [.dat (.int .i64), .dat (.int .i64)]) : runF tab ens_spec_SeqPlace fn_98 [.dat (.int .i64), .dat (.int .i64)] [.dat (.int .i64)] [] x = F_spec_SeqPlace x.1 x.2.1 := by kernel_rfl
noncomputable def ens_spec_MouthHear : List En := [en_spec_l1In, en_spec_MouthOk, en_spec_l13Copy]
abbrev sl_spec_MouthHear_13 : List (Nat × Sh) := [(1, .dat (.int .i64)), (3, .dat (.sl tRange)), (8, .ptr 8 0), (10, .ptr 10 0), (11, .dat (.int .i64)), (12, .dat (.int .i64)), (8, .box tMouth [1, 4]), (10, .box tMouth [1, 4])]
theorem run_spec_MouthHear_13 (n : Nat) (p : ShsD (mapL (·.2) sl_spec_MouthHear_13)) : runL tab ens_spec_MouthHear fn_99 [.agg tMouth [], .dat (.int .i64), .dat (.int .i64), .dat (.sl tRange)] [.agg tMouth [1, 4], .dat (.int .i64)] [⟨13, [.r, .r, .r, .r, .r, .r, .r, .r, .r, .r, .l, .r, .l, .l, .l, .l], sl_spec_MouthHear_13, L_spec_MouthHear_13 n⟩] [.r, .r, .r, .r, .r, .r, .r, .r, .r, .r, .l, .r, .l, .l, .l, .l] sl_spec_MouthHear_13 p = L_spec_MouthHear_13 (n + 1) p := by kernel_rfl
theorem run_spec_MouthHear (x : ShsD [.agg tMouth [], .dat (.int .i64), .dat (.int .i64), .dat (.sl tRange)]) : runF tab ens_spec_MouthHear fn_99 [.agg tMouth [], .dat (.int .i64), .dat (.int .i64), .dat (.sl tRange)] [.agg tMouth [1, 4], .dat (.int .i64)] [⟨13, [.r, .r, .r, .r, .r, .r, .r, .r, .r, .r, .l, .r, .l, .l, .l, .l], sl_spec_MouthHear_13, L_spec_MouthHear_13 fuel⟩] x = F_spec_MouthHear x.1 x.2.1 x.2.2.1 x.2.2.2.1 := by kernel_rfl
noncomputable def ens_spec_l15Took : List En := [en_spec_MouthOk, en_spec_SeqPlace, en_spec_MouthHear]
abbrev sl_spec_l15Took_10 : List (Nat × Sh) := [(2, .ptr 2 0), (3, .ptr 3 0), (4, .ptr 4 0), (6, .dat (.int .i64)), (7, .dat .bool), (9, .own tRange), (10, .dat (.int .i64)), (2, .box tEnd []), (3, .box tSegment []), (4, .box tEnd [7, 10, 13, 14])]
theorem run_spec_l15Took_10 (n : Nat) (p : ShsD (mapL (·.2) sl_spec_l15Took_10)) : runL tab ens_spec_l15Took fn_89 [.agg tEnd [], .agg tSegment []] [.agg tEnd [], .dat .bool] [⟨10, [.r, .r, .r, .r, .r, .r, .l, .r, .l, .l, .l, .l], sl_spec_l15Took_10, L_spec_l15Took_10 n⟩] [.r, .r, .r, .r, .r, .r, .l, .r, .l, .l, .l, .l] sl_spec_l15Took_10 p = L_spec_l15Took_10 (n + 1) p := by kernel_rfl
theorem run_spec_l15Took (x : ShsD [.agg tEnd [], .agg tSegment []]) : runF tab ens_spec_l15Took fn_89 [.agg tEnd [], .agg tSegment []] [.agg tEnd [], .dat .bool] [⟨10, [.r, .r, .r, .r, .r, .r, .l, .r, .l, .l, .l, .l], sl_spec_l15Took_10, L_spec_l15Took_10 fuel⟩] x = F_spec_l15Took x.1 x.2.1 := by kernel_rfl
noncomputable def ens_spec_l12Put : List En := []
abbrev sl_spec_l12Put_4 : List (Nat × Sh) := [(0, .dat (.sl tEarly)), (3, .ptr 3 0), (5, .own tEarly), (6, .dat .bool), (7, .dat (.int .i64)), (3, .box tEarly [])]
theorem run_spec_l12Put_4 (n : Nat) (p : ShsD (mapL (·.2) sl_spec_l12Put_4)) : runL tab ens_spec_l12Put fn_101 [.dat (.sl tEarly), .agg tEarly []] [.own tEarly] [⟨4, [.r, .r, .r, .l, .r, .l, .l, .l, .l], sl_spec_l12Put_4, L_spec_l12Put_4 n⟩] [.r, .r, .r, .l, .r, .l, .l, .l, .l] sl_spec_l12Put_4 p = L_spec_l12Put_4 (n + 1) p := by kernel_rfl
theorem run_spec_l12Put (x : ShsD [.dat (.sl tEarly), .agg tEarly []]) : runF tab ens_spec_l12Put fn_101 [.dat (.sl tEarly), .agg tEarly []] [.own tEarly] [⟨4, [.r, .r, .r, .l, .r, .l, .l, .l, .l], sl_spec_l12Put_4, L_spec_l12Put_4 fuel⟩] x = F_spec_l12Put x.1 x.2.1 := by kernel_rfl
noncomputable def ens_spec_EarHear : List En := [en_spec_l1In, en_spec_EarOk, en_spec_EarFree, en_spec_l12Put]
abbrev sl_spec_EarHear_12 : List (Nat × Sh) := [(6, .ptr 6 0), (8, .own tEarly), (10, .ptr 10 0), (11, .dat (.int .i64)), (6, .box tEar [2, 3]), (10, .box tEar [2, 3])]
abbrev sl_spec_EarHear_6 : List (Nat × Sh) := [(1, .dat (.int .i64)), (2, .dat (.sl (.int .u8))), (3, .ptr 3 0), (6, .ptr 6 0), (7, .dat (.int .i64)), (8, .own tEarly), (9, .dat (.int .i64)), (3, .box tEar []), (6, .box tEar [2, 3])]
theorem run_spec_EarHear_12 (n : Nat) (p : ShsD (mapL (·.2) sl_spec_EarHear_12)) : runL tab ens_spec_EarHear fn_100 [.agg tEar [], .dat (.int .i64), .dat (.sl (.int .u8))] [.agg tEar [2, 3]] [⟨12, [.r, .r, .r, .r, .r, .r, .r, .l, .l, .l, .l, .l], sl_spec_EarHear_12, L_spec_EarHear_12 n⟩] [.r, .r, .r, .r, .r, .r, .r, .l, .l, .l, .l, .l] sl_spec_EarHear_12 p = L_spec_EarHear_12 (n + 1) p := by kernel_rfl
theorem run_spec_EarHear_6 (n : Nat) (p : ShsD (mapL (·.2) sl_spec_EarHear_6)) : runL tab ens_spec_EarHear fn_100 [.agg tEar [], .dat (.int .i64), .dat (.sl (.int .u8))] [.agg tEar [2, 3]] [⟨6, [.r, .r, .r, .r, .l, .r, .l, .l, .l, .l], sl_spec_EarHear_6, L_spec_EarHear_6 n⟩, ⟨12, [.r, .r, .r, .r, .r, .r, .r, .l, .l, .l, .l, .l], sl_spec_EarHear_12, L_spec_EarHear_12 fuel⟩] [.r, .r, .r, .r, .l, .r, .l, .l, .l, .l] sl_spec_EarHear_6 p = L_spec_EarHear_6 (n + 1) p := by kernel_rfl
theorem run_spec_EarHear (x : ShsD [.agg tEar [], .dat (.int .i64), .dat (.sl (.int .u8))]) : runF tab ens_spec_EarHear fn_100 [.agg tEar [], .dat (.int .i64), .dat (.sl (.int .u8))] [.agg tEar [2, 3]] [⟨6, [.r, .r, .r, .r, .l, .r, .l, .l, .l, .l], sl_spec_EarHear_6, L_spec_EarHear_6 fuel⟩] x = F_spec_EarHear x.1 x.2.1 x.2.2.1 := by kernel_rfl
noncomputable def ens_spec_l15Heard : List En := [en_spec_EarOk, en_spec_EarFree, en_spec_SeqPlace, en_spec_EarHear]
theorem run_spec_l15Heard (x : ShsD [.agg tEnd [], .agg tSegment []]) : runF tab ens_spec_l15Heard fn_90 [.agg tEnd [], .agg tSegment []] [.agg tEnd []] [] x = F_spec_l15Heard x.1 x.2.1 := by kernel_rfl
noncomputable def ens_spec_SegmentLong : List En := []
theorem run_spec_SegmentLong (x : ShsD [.agg tSegment []]) : runF tab ens_spec_SegmentLong fn_91 [.agg tSegment []] [.dat (.int .i64)] [] x = F_spec_SegmentLong x.1 := by kernel_rfl
noncomputable def ens_spec_SeqLess : List En := [en_spec_SeqOf]
theorem run_spec_SeqLess (x : ShsD [.dat (.int .i64), .dat (.int .i64)]) : runF tab ens_spec_SeqLess fn_92 [.dat (.int .i64), .dat (.int .i64)] [.dat .bool] [] x = F_spec_SeqLess x.1 x.2.1 := by kernel_rfl
noncomputable def ens_spec_EndHear : List En := [en_spec_EndOk, en_spec_l1In, en_spec_l15Copy, en_spec_l15Arm, en_spec_l15First, en_spec_l15Segment, en_spec_l15Told, en_spec_SegmentOk, en_spec_SeqOf, en_spec_l15Wait, en_spec_l15Flush, en_spec_l15Took, en_spec_l15Heard, en_spec_SegmentLong, en_spec_SeqLess]
abbrev sl_spec_EndHear_12 : List (Nat × Sh) := [(8, .ptr 8 0), (10, .own tSegment), (11, .ptr 11 0), (8, .box tEnd [7, 10, 13, 14]), (11, .box tEnd [7, 10, 13, 14])]
abbrev sl_spec_EndHear_50 : List (Nat × Sh) := [(3, .dat (.int .i64)), (8, .ptr 8 0), (11, .ptr 11 0), (16, .dat .bool), (19, .own tSegment), (8, .box tEnd [7, 10, 13, 14]), (11, .box tEnd [])]
abbrev sl_spec_EndHear_46 : List (Nat × Sh) := [(3, .dat (.int .i64)), (6, .ptr 6 0), (8, .ptr 8 0), (11, .ptr 11 0), (15, .dat (.int .i64)), (16, .dat .bool), (6, .box tSegment []), (8, .box tEnd [7, 10, 13, 14]), (11, .box tEnd [])]
theorem run_spec_EndHear_12 (p : ShsD (mapL (·.2) sl_spec_EndHear_12)) : runL tab ens_spec_EndHear fn_63 [.agg tEnd [], .dat (.int .i64), .agg tSegment [], .dat (.int .i64)] [.agg tEnd [], .own tSegment] [] [.r, .r, .r, .r, .r, .r, .l, .l, .r, .l, .r, .l] sl_spec_EndHear_12 p = L_spec_EndHear_12 p := by kernel_rfl
theorem run_spec_EndHear_50 (p : ShsD (mapL (·.2) sl_spec_EndHear_50)) : runL tab ens_spec_EndHear fn_63 [.agg tEnd [], .dat (.int .i64), .agg tSegment [], .dat (.int .i64)] [.agg tEnd [], .own tSegment] [] [.r, .r, .r, .r, .r, .r, .r, .r, .r, .r, .r, .r, .r, .l] sl_spec_EndHear_50 p = L_spec_EndHear_50 p := by kernel_rfl
theorem run_spec_EndHear_46 (p : ShsD (mapL (·.2) sl_spec_EndHear_46)) : runL tab ens_spec_EndHear fn_63 [.agg tEnd [], .dat (.int .i64), .agg tSegment [], .dat (.int .i64)] [.agg tEnd [], .own tSegment] [⟨50, [.r, .r, .r, .r, .r, .r, .r, .r, .r, .r, .r, .r, .r, .l], sl_spec_EndHear_50, L_spec_EndHear_50⟩] [.r, .r, .r, .r, .r, .r, .r, .r, .r, .r, .l] sl_spec_EndHear_46 p = L_spec_EndHear_46 p := by kernel_rfl
theorem run_spec_EndHear (x : ShsD [.agg tEnd [], .dat (.int .i64), .agg tSegment [], .dat (.int .i64)]) : runF tab ens_spec_EndHear fn_63 [.agg tEnd [], .dat (.int .i64), .agg tSegment [], .dat (.int .i64)] [.agg tEnd [], .own tSegment] [⟨12, [.r, .r, .r, .r, .r, .r, .l, .l, .r, .l, .r, .l], sl_spec_EndHear_12, L_spec_EndHear_12⟩, ⟨46, [.r, .r, .r, .r, .r, .r, .r, .r, .r, .r, .l], sl_spec_EndHear_46, L_spec_EndHear_46⟩] x = F_spec_EndHear x.1 x.2.1 x.2.2.1 x.2.2.2.1 := by kernel_rfl
noncomputable def ens_spec_l20Ends : List En := [en_spec_l20Rd_pick, en_spec_EndNew, en_spec_EndListen, en_spec_EndConnect, en_spec_EndWrite, en_spec_l20Rd_bytes, en_spec_EndRead, en_spec_EndTick, en_spec_EndClose, en_spec_EndHear]
abbrev sl_spec_l20Ends_10 : List (Nat × Sh) := [(0, .ptr 2000000 0), (2, .ptr 2 0), (3, .ptr 3 0), (6, .ptr 6 0), (7, .ptr 7 0), (8, .own tSegment), (9, .own tSegment), (11, .dat (.int .i64)), (2, .box tEnd [7, 10, 13, 14]), (3, .box tEnd [7, 10, 13, 14]), (6, .box tEnd []), (7, .box tEnd []), (2000000, .box ts_l20Rd [])]
theorem run_spec_l20Ends_10 (n : Nat) (p : ShsD (mapL (·.2) sl_spec_l20Ends_10)) : runL tab ens_spec_l20Ends fn_36 [.box ts_l20Rd []] [.agg tEnd [], .agg tEnd [], .own tSegment, .own tSegment] [⟨10, [.r, .r, .r, .r, .r, .r, .r, .r, .r, .l, .r, .l, .l, .l, .l], sl_spec_l20Ends_10, L_spec_l20Ends_10 n⟩] [.r, .r, .r, .r, .r, .r, .r, .r, .r, .l, .r, .l, .l, .l, .l] sl_spec_l20Ends_10 p = L_spec_l20Ends_10 (n + 1) p := by kernel_rfl
theorem run_spec_l20Ends (x : ShsD [.box ts_l20Rd []]) : runF tab ens_spec_l20Ends fn_36 [.box ts_l20Rd []] [.agg tEnd [], .agg tEnd [], .own tSegment, .own tSegment] [⟨10, [.r, .r, .r, .r, .r, .r, .r, .r, .r, .l, .r, .l, .l, .l, .l], sl_spec_l20Ends_10, L_spec_l20Ends_10 fuel⟩] x = F_spec_l20Ends x.1 := by kernel_rfl
noncomputable def ens_spec_l20Rd_odd : List En := [en_spec_l20Rd_pick]
theorem run_spec_l20Rd_odd (x : ShsD [.box ts_l20Rd [], .dat (.int .i64)]) : runF tab ens_spec_l20Rd_odd fn_38 [.box ts_l20Rd [], .dat (.int .i64)] [.dat .bool] [] x = F_spec_l20Rd_odd x.1 x.2.1 := by kernel_rfl
noncomputable def ens_spec_l20End : List En := [en_spec_l20Ends, en_spec_l20Rd_pick, en_spec_l20Rd_odd]
theorem run_spec_l20End (x : ShsD [.box ts_l20Rd [], .dat (.int .i64)]) : runF tab ens_spec_l20End fn_12 [.box ts_l20Rd [], .dat (.int .i64)] [.agg tEnd []] [] x = F_spec_l20End x.1 x.2.1 := by kernel_rfl
noncomputable def ens_spec_l20Open : List En := []
theorem run_spec_l20Open (x : ShsD [.dat (.sl (.int .u8))]) : runF tab ens_spec_l20Open fn_13 [.dat (.sl (.int .u8))] [.box ts_l20Rd []] [] x = F_spec_l20Open x.1 := by kernel_rfl
noncomputable def ens_spec_DrawReadyOf : List En := [en_spec_l20End, en_spec_l20Open]
theorem run_spec_DrawReadyOf (x : ShsD [.dat (.sl (.int .u8))]) : runF tab ens_spec_DrawReadyOf fn_4 [.dat (.sl (.int .u8))] [.agg tEnd []] [] x = F_spec_DrawReadyOf x.1 := by kernel_rfl
noncomputable def ens_impl_in : List En := []
theorem run_impl_in (x : ShsD [.dat (.int .i64), .dat (.int .i64), .dat (.int .i64)]) : runF tab ens_impl_in fn_18 [.dat (.int .i64), .dat (.int .i64), .dat (.int .i64)] [.dat .bool] [] x = some ((F_impl_in x.1 x.2.1 x.2.2.1, ()), ()) := by kernel_rfl
noncomputable def ens_impl_word : List En := [en_impl_in]
theorem run_impl_word (x : ShsD [.dat (.int .i64)]) : runF tab ens_impl_word fn_19 [.dat (.int .i64)] [.dat .bool] [] x = some ((F_impl_word x.1, ()), ()) := by kernel_rfl
noncomputable def ens_impl_portOk : List En := [en_impl_in]
theorem run_impl_portOk (x : ShsD [.dat (.int .i64)]) : runF tab ens_impl_portOk fn_20 [.dat (.int .i64)] [.dat .bool] [] x = some ((F_impl_portOk x.1, ()), ()) := by kernel_rfl
noncomputable def ens_slices_Equal_impl_Range_impl_Range : List En := []
abbrev sl_slices_Equal_impl_Range_impl_Range_4 : List (Nat × Sh) := [(0, .dat (.sl tRange)), (1, .dat (.sl tRange)), (12, .dat (.int .i64)), (13, .dat (.int .i64))]
theorem run_slices_Equal_impl_Range_impl_Range_4 (n : Nat) (p : ShsD (mapL (·.2) sl_slices_Equal_impl_Range_impl_Range_4)) : runL tab ens_slices_Equal_impl_Range_impl_Range fn_44 [.dat (.sl tRange), .dat (.sl tRange)] [.dat .bool] [⟨4, [.r, .r, .l, .r, .l, .l, .l], sl_slices_Equal_impl_Range_impl_Range_4, L_slices_Equal_impl_Range_impl_Range_4 n⟩] [.r, .r, .l, .r, .l, .l, .l] sl_slices_Equal_impl_Range_impl_Range_4 p = L_slices_Equal_impl_Range_impl_Range_4 (n + 1) p := by kernel_rfl
theorem run_slices_Equal_impl_Range_impl_Range (x : ShsD [.dat (.sl tRange), .dat (.sl tRange)]) : runF tab ens_slices_Equal_impl_Range_impl_Range fn_44 [.dat (.sl tRange), .dat (.sl tRange)] [.dat .bool] [⟨4, [.r, .r, .l, .r, .l, .l, .l], sl_slices_Equal_impl_Range_impl_Range_4, L_slices_Equal_impl_Range_impl_Range_4 fuel⟩] x = F_slices_Equal_impl_Range_impl_Range x.1 x.2.1 := by kernel_rfl
noncomputable def ens_slices_Clip_impl_Range_impl_Range : List En := []
theorem run_slices_Clip_impl_Range_impl_Range (x : ShsD [.dat (.sl tRange)]) : runF tab ens_slices_Clip_impl_Range_impl_Range fn_93 [.dat (.sl tRange)] [.dat (.sl tRange)] [] x = F_slices_Clip_impl_Range_impl_Range x.1 := by kernel_rfl
noncomputable def ens_impl_clone_impl_Range : List En := [en_slices_Clip_impl_Range_impl_Range]
theorem run_impl_clone_impl_Range (x : ShsD [.dat (.sl tRange)]) : runF tab ens_impl_clone_impl_Range fn_64 [.dat (.sl tRange)] [.dat (.sl tRange)] [] x = F_impl_clone_impl_Range x.1 := by kernel_rfl
noncomputable def ens_impl_rangesOk : List En := [en_impl_clone_impl_Range]
abbrev sl_impl_rangesOk_4 : List (Nat × Sh) := [(2, .dat (.int .i64)), (7, .own tRange), (8, .dat (.int .i64)), (12, .dat (.sl tRange)), (13, .dat (.int .i64)), (14, .dat (.int .i64))]
theorem run_impl_rangesOk_4 (n : Nat) (p : ShsD (mapL (·.2) sl_impl_rangesOk_4)) : runL tab ens_impl_rangesOk fn_45 [.dat (.sl tRange), .dat (.int .i64), .dat (.int .i64)] [.dat (.sl tRange)] [⟨4, [.r, .r, .r, .l, .r, .l, .l, .l], sl_impl_rangesOk_4, L_impl_rangesOk_4 n⟩] [.r, .r, .r, .l, .r, .l, .l, .l] sl_impl_rangesOk_4 p = L_impl_rangesOk_4 (n + 1) p := by kernel_rfl
theorem run_impl_rangesOk (x : ShsD [.dat (.sl tRange), .dat (.int .i64), .dat (.int .i64)]) : runF tab ens_impl_rangesOk fn_45 [.dat (.sl tRange), .dat (.int .i64), .dat (.int .i64)] [.dat (.sl tRange)] [⟨4, [.r, .r, .r, .l, .r, .l, .l, .l], sl_impl_rangesOk_4, L_impl_rangesOk_4 fuel⟩] x = F_impl_rangesOk x.1 x.2.1 x.2.2.1 := by kernel_rfl
noncomputable def ens_impl_MouthOk : List En := [en_impl_in, en_slices_Equal_impl_Range_impl_Range, en_impl_rangesOk]
theorem run_impl_MouthOk (x : ShsD [.agg tMouth []]) : runF tab ens_impl_MouthOk fn_21 [.agg tMouth []] [.dat .bool] [] x = F_impl_MouthOk x.1 := by kernel_rfl
noncomputable def ens_impl_Ear_free : List En := []
theorem run_impl_Ear_free (x : ShsD [.agg tEar []]) : runF tab ens_impl_Ear_free fn_30 [.agg tEar []] [.dat (.int .i64)] [] x = some ((F_impl_Ear_free x.1, ()), ()) := by kernel_rfl
noncomputable def ens_impl_EarOk : List En := [en_impl_in, en_impl_Ear_free]
abbrev sl_impl_EarOk_4 : List (Nat × Sh) := [(1, .ptr 1 0), (21, .dat (.sl tEarly)), (22, .dat (.int .i64)), (23, .dat (.int .i64)), (1, .box tEar [])]
theorem run_impl_EarOk_4 (n : Nat) (p : ShsD (mapL (·.2) sl_impl_EarOk_4)) : runL tab ens_impl_EarOk fn_22 [.agg tEar []] [.dat .bool] [⟨4, [.r, .r, .l, .r, .l, .l, .l], sl_impl_EarOk_4, L_impl_EarOk_4 n⟩] [.r, .r, .l, .r, .l, .l, .l] sl_impl_EarOk_4 p = L_impl_EarOk_4 (n + 1) p := by kernel_rfl
theorem run_impl_EarOk (x : ShsD [.agg tEar []]) : runF tab ens_impl_EarOk fn_22 [.agg tEar []] [.dat .bool] [⟨4, [.r, .r, .l, .r, .l, .l, .l], sl_impl_EarOk_4, L_impl_EarOk_4 fuel⟩] x = F_impl_EarOk x.1 := by kernel_rfl
noncomputable def ens_impl_ClockOk : List En := [en_impl_in]
theorem run_impl_ClockOk (x : ShsD [.agg tClock []]) : runF tab ens_impl_ClockOk fn_23 [.agg tClock []] [.dat .bool] [] x = some ((F_impl_ClockOk x.1, ()), ()) := by kernel_rfl
noncomputable def ens_impl_End_lastOk : List En := [en_impl_in]
abbrev sl_impl_End_lastOk_6 : List (Nat × Sh) := [(1, .ptr 1 0), (41, .dat (.sl tEarly)), (42, .dat (.int .i64)), (43, .dat (.int .i64)), (1, .box tEnd [])]
theorem run_impl_End_lastOk_6 (n : Nat) (p : ShsD (mapL (·.2) sl_impl_End_lastOk_6)) : runL tab ens_impl_End_lastOk fn_24 [.agg tEnd []] [.dat .bool] [⟨6, [.r, .r, .r, .l, .r, .l, .l, .l], sl_impl_End_lastOk_6, L_impl_End_lastOk_6 n⟩] [.r, .r, .r, .l, .r, .l, .l, .l] sl_impl_End_lastOk_6 p = L_impl_End_lastOk_6 (n + 1) p := by kernel_rfl
theorem run_impl_End_lastOk (x : ShsD [.agg tEnd []]) : runF tab ens_impl_End_lastOk fn_24 [.agg tEnd []] [.dat .bool] [⟨6, [.r, .r, .r, .l, .r, .l, .l, .l], sl_impl_End_lastOk_6, L_impl_End_lastOk_6 fuel⟩] x = F_impl_End_lastOk x.1 := by kernel_rfl
noncomputable def ens_impl_End_goes : List En := []
theorem run_impl_End_goes (x : ShsD [.agg tEnd []]) : runF tab ens_impl_End_goes fn_25 [.agg tEnd []] [.dat .bool] [] x = some ((F_impl_End_goes x.1, ()), ()) := by kernel_rfl
noncomputable def ens_impl_EndOk : List En := [en_impl_in, en_impl_word, en_impl_portOk, en_impl_MouthOk, en_impl_EarOk, en_impl_ClockOk, en_impl_End_lastOk, en_impl_End_goes]
theorem run_impl_EndOk (x : ShsD [.agg tEnd []]) : runF tab ens_impl_EndOk fn_7 [.agg tEnd []] [.dat .bool] [] x = F_impl_EndOk x.1 := by kernel_rfl
noncomputable def ens_impl_bit : List En := []
theorem run_impl_bit (x : ShsD [.dat .bool, .dat (.int .i64)]) : runF tab ens_impl_bit fn_14 [.dat .bool, .dat (.int .i64)] [.dat (.int .i64)] [] x = F_impl_bit x.1 x.2.1 := by kernel_rfl
noncomputable def ens_impl_End_over : List En := []
theorem run_impl_End_over (x : ShsD [.agg tEnd []]) : runF tab ens_impl_End_over fn_15 [.agg tEnd []] [.dat .bool] [] x = some ((F_impl_End_over x.1, ()), ()) := by kernel_rfl
noncomputable def ens_impl_ReadyOf : List En := [en_impl_EndOk, en_impl_bit, en_impl_End_over]
theorem run_impl_ReadyOf (x : ShsD [.agg tEnd []]) : runF tab ens_impl_ReadyOf fn_5 [.agg tEnd []] [.dat (.int .i64)] [] x = F_impl_ReadyOf x.1 := by kernel_rfl
noncomputable def ens_spec_EndOver : List En := [en_spec_EndOk]
theorem run_spec_EndOver (x : ShsD [.agg tEnd []]) : runF tab ens_spec_EndOver fn_17 [.agg tEnd []] [.dat .bool] [] x = F_spec_EndOver x.1 := by kernel_rfl
noncomputable def ens_spec_ReadyOf : List En := [en_spec_EndOk, en_spec_EndOver]
abbrev sl_spec_ReadyOf_10 : List (Nat × Sh) := [(3, .dat (.int .i64))]
theorem run_spec_ReadyOf_10 (p : ShsD (mapL (·.2) sl_spec_ReadyOf_10)) : runL tab ens_spec_ReadyOf fn_6 [.agg tEnd []] [.dat (.int .i64)] [] [.r, .r, .r, .r, .r, .r, .l] sl_spec_ReadyOf_10 p = L_spec_ReadyOf_10 p := by kernel_rfl
theorem run_spec_ReadyOf (x : ShsD [.agg tEnd []]) : runF tab ens_spec_ReadyOf fn_6 [.agg tEnd []] [.dat (.int .i64)] [⟨10, [.r, .r, .r, .r, .r, .r, .l], sl_spec_ReadyOf_10, L_spec_ReadyOf_10⟩] x = F_spec_ReadyOf x.1 := by kernel_rfl
noncomputable def ens_impl_bytesOf : List En := []
abbrev sl_impl_bytesOf_3 : List (Nat × Sh) := [(0, .dat (.int .i64)), (5, .own (.int .u8)), (6, .dat (.int .i64))]
theorem run_impl_bytesOf_3 (n : Nat) (p : ShsD (mapL (·.2) sl_impl_bytesOf_3)) : runL tab ens_impl_bytesOf fn_46 [.dat (.int .i64), .dat (.int .i64)] [.own (.int .u8)] [⟨3, [.r, .r, .l, .r, .l, .l, .l, .l], sl_impl_bytesOf_3, L_impl_bytesOf_3 n⟩] [.r, .r, .l, .r, .l, .l, .l, .l] sl_impl_bytesOf_3 p = L_impl_bytesOf_3 (n + 1) p := by kernel_rfl
theorem run_impl_bytesOf (x : ShsD [.dat (.int .i64), .dat (.int .i64)]) : runF tab ens_impl_bytesOf fn_46 [.dat (.int .i64), .dat (.int .i64)] [.own (.int .u8)] [⟨3, [.r, .r, .l, .r, .l, .l, .l, .l], sl_impl_bytesOf_3, L_impl_bytesOf_3 fuel⟩] x = F_impl_bytesOf x.1 x.2.1 := by kernel_rfl
noncomputable def ens_impl_BytesOf : List En := [en_impl_in, en_impl_bytesOf]
theorem run_impl_BytesOf (x : ShsD [.dat (.int .i64), .dat (.int .i64)]) : runF tab ens_impl_BytesOf fn_26 [.dat (.int .i64), .dat (.int .i64)] [.own (.int .u8)] [] x = F_impl_BytesOf x.1 x.2.1 := by kernel_rfl
noncomputable def ens_laws_alive : List En := [en_impl_BytesOf]
theorem run_laws_alive (x : ShsD []) : runF tab ens_laws_alive fn_8 [] [.dat .bool] [] x = F_laws_alive := by kernel_rfl
noncomputable def ens_impl_asked : List En := [en_impl_EndOk, en_impl_in]
theorem run_impl_asked (x : ShsD [.agg tEnd [], .dat (.int .i64)]) : runF tab ens_impl_asked fn_27 [.agg tEnd [], .dat (.int .i64)] [.dat .bool] [] x = F_impl_asked x.1 x.2.1 := by kernel_rfl
noncomputable def ens_slices_Clip_byte_byte : List En := []
theorem run_slices_Clip_byte_byte (x : ShsD [.dat (.sl (.int .u8))]) : runF tab ens_slices_Clip_byte_byte fn_66 [.dat (.sl (.int .u8))] [.dat (.sl (.int .u8))] [] x = F_slices_Clip_byte_byte x.1 := by kernel_rfl
noncomputable def ens_impl_clone_byte : List En := [en_slices_Clip_byte_byte]
theorem run_impl_clone_byte (x : ShsD [.dat (.sl (.int .u8))]) : runF tab ens_impl_clone_byte fn_49 [.dat (.sl (.int .u8))] [.dat (.sl (.int .u8))] [] x = F_impl_clone_byte x.1 := by kernel_rfl
noncomputable def ens_impl_Mouth_copy : List En := [en_impl_clone_byte, en_impl_clone_impl_Range]
theorem run_impl_Mouth_copy (x : ShsD [.agg tMouth []]) : runF tab ens_impl_Mouth_copy fn_47 [.agg tMouth []] [.agg tMouth []] [] x = F_impl_Mouth_copy x.1 := by kernel_rfl
noncomputable def ens_slices_Clip_impl_Early_impl_Early : List En := []
theorem run_slices_Clip_impl_Early_impl_Early (x : ShsD [.dat (.sl tEarly)]) : runF tab ens_slices_Clip_impl_Early_impl_Early fn_94 [.dat (.sl tEarly)] [.dat (.sl tEarly)] [] x = F_slices_Clip_impl_Early_impl_Early x.1 := by kernel_rfl
noncomputable def ens_impl_clone_impl_Early : List En := [en_slices_Clip_impl_Early_impl_Early]
theorem run_impl_clone_impl_Early (x : ShsD [.dat (.sl tEarly)]) : runF tab ens_impl_clone_impl_Early fn_65 [.dat (.sl tEarly)] [.dat (.sl tEarly)] [] x = F_impl_clone_impl_Early x.1 := by kernel_rfl
noncomputable def ens_impl_Ear_copy : List En := [en_impl_clone_byte, en_impl_clone_impl_Early]
theorem run_impl_Ear_copy (x : ShsD [.agg tEar []]) : runF tab ens_impl_Ear_copy fn_48 [.agg tEar []] [.agg tEar []] [] x = F_impl_Ear_copy x.1 := by kernel_rfl
noncomputable def ens_impl_End_copy : List En := [en_impl_Mouth_copy, en_impl_Ear_copy]
theorem run_impl_End_copy (x : ShsD [.agg tEnd []]) : runF tab ens_impl_End_copy fn_28 [.agg tEnd []] [.agg tEnd []] [] x = F_impl_End_copy x.1 := by kernel_rfl
noncomputable def ens_impl_EarRead : List En := [en_impl_EarOk, en_impl_Ear_copy, en_impl_clone_byte]
theorem run_impl_EarRead (x : ShsD [.agg tEar [], .dat (.int .i64)]) : runF tab ens_impl_EarRead fn_29 [.agg tEar [], .dat (.int .i64)] [.agg tEar [], .dat (.sl (.int .u8))] [] x = F_impl_EarRead x.1 x.2.1 := by kernel_rfl
noncomputable def ens_impl_SeqOf : List En := []
theorem run_impl_SeqOf (x : ShsD [.dat (.int .i64)]) : runF tab ens_impl_SeqOf fn_67 [.dat (.int .i64)] [.dat (.int .i64)] [] x = F_impl_SeqOf x.1 := by kernel_rfl
noncomputable def ens_impl_End_waits : List En := []
theorem run_impl_End_waits (x : ShsD [.agg tEnd []]) : runF tab ens_impl_End_waits fn_68 [.agg tEnd []] [.dat (.int .i64)] [] x = F_impl_End_waits x.1 := by kernel_rfl
noncomputable def ens_impl_Ear_ranges : List En := [en_impl_clone_impl_Range]
abbrev sl_impl_Ear_ranges_3 : List (Nat × Sh) := [(3, .own tRange), (8, .dat (.sl tEarly)), (9, .dat (.int .i64)), (10, .dat (.int .i64))]
theorem run_impl_Ear_ranges_3 (n : Nat) (p : ShsD (mapL (·.2) sl_impl_Ear_ranges_3)) : runL tab ens_impl_Ear_ranges fn_69 [.agg tEar []] [.dat (.sl tRange)] [⟨3, [.r, .r, .l, .r, .l, .l, .l], sl_impl_Ear_ranges_3, L_impl_Ear_ranges_3 n⟩] [.r, .r, .l, .r, .l, .l, .l] sl_impl_Ear_ranges_3 p = L_impl_Ear_ranges_3 (n + 1) p := by kernel_rfl
theorem run_impl_Ear_ranges (x : ShsD [.agg tEar []]) : runF tab ens_impl_Ear_ranges fn_69 [.agg tEar []] [.dat (.sl tRange)] [⟨3, [.r, .r, .l, .r, .l, .l, .l], sl_impl_Ear_ranges_3, L_impl_Ear_ranges_3 fuel⟩] x = F_impl_Ear_ranges x.1 := by kernel_rfl
noncomputable def ens_impl_Segment_copy : List En := [en_impl_clone_byte, en_impl_clone_impl_Range]
theorem run_impl_Segment_copy (x : ShsD [.agg tSegment []]) : runF tab ens_impl_Segment_copy fn_70 [.agg tSegment []] [.agg tSegment []] [] x = F_impl_Segment_copy x.1 := by kernel_rfl
noncomputable def ens_impl_End_segment : List En := [en_impl_Ear_free, en_impl_SeqOf, en_impl_End_waits, en_impl_Ear_ranges, en_impl_Segment_copy]
abbrev sl_impl_End_segment_3 : List (Nat × Sh) := [(6, .ptr 6 0), (7, .ptr 7 0), (26, .dat (.sl tRange)), (27, .dat (.int .i64)), (28, .dat (.int .i64)), (6, .box tSegment [9, 10]), (7, .box tSegment [9])]
theorem run_impl_End_segment_3 (n : Nat) (p : ShsD (mapL (·.2) sl_impl_End_segment_3)) : runL tab ens_impl_End_segment fn_50 [.agg tEnd [], .dat (.int .i64), .dat (.sl (.int .u8))] [.agg tSegment []] [⟨3, [.r, .r, .l, .r, .l, .l, .l], sl_impl_End_segment_3, L_impl_End_segment_3 n⟩] [.r, .r, .l, .r, .l, .l, .l] sl_impl_End_segment_3 p = L_impl_End_segment_3 (n + 1) p := by kernel_rfl
theorem run_impl_End_segment (x : ShsD [.agg tEnd [], .dat (.int .i64), .dat (.sl (.int .u8))]) : runF tab ens_impl_End_segment fn_50 [.agg tEnd [], .dat (.int .i64), .dat (.sl (.int .u8))] [.agg tSegment []] [⟨3, [.r, .r, .l, .r, .l, .l, .l], sl_impl_End_segment_3, L_impl_End_segment_3 fuel⟩] x = F_impl_End_segment x.1 x.2.1 x.2.2.1 := by kernel_rfl
noncomputable def ens_impl_End_place : List En := [en_impl_bit]
theorem run_impl_End_place (x : ShsD [.agg tEnd []]) : runF tab ens_impl_End_place fn_51 [.agg tEnd []] [.dat (.int .i64)] [] x = F_impl_End_place x.1 := by kernel_rfl
noncomputable def ens_impl_End_bare : List En := [en_impl_End_segment, en_impl_End_place]
theorem run_impl_End_bare (x : ShsD [.agg tEnd []]) : runF tab ens_impl_End_bare fn_31 [.agg tEnd []] [.agg tSegment []] [] x = F_impl_End_bare x.1 := by kernel_rfl
noncomputable def ens_impl_EndRead : List En := [en_impl_asked, en_impl_End_copy, en_impl_EarRead, en_impl_Ear_free, en_impl_End_bare]
theorem run_impl_EndRead (x : ShsD [.agg tEnd [], .dat (.int .i64), .dat (.int .i64)]) : runF tab ens_impl_EndRead fn_9 [.agg tEnd [], .dat (.int .i64), .dat (.int .i64)] [.agg tEnd [], .dat (.sl (.int .u8)), .own tSegment] [] x = F_impl_EndRead x.1 x.2.1 x.2.2.1 := by kernel_rfl
noncomputable def ens_slices_Grow_byte_byte : List En := []
theorem run_slices_Grow_byte_byte (x : ShsD [.nil, .dat (.int .i64)]) : runF tab ens_slices_Grow_byte_byte fn_71 [.nil, .dat (.int .i64)] [.own (.int .u8)] [] x = F_slices_Grow_byte_byte x.1 x.2.1 := by kernel_rfl
noncomputable def ens_slices_Concat_byte_byte : List En := [en_slices_Grow_byte_byte]
abbrev sl_slices_Concat_byte_byte_11 : List (Nat × Sh) := [(6, .own (.int .u8)), (25, .dat (.sl (.sl (.int .u8)))), (26, .dat (.int .i64)), (27, .dat (.int .i64))]
abbrev sl_slices_Concat_byte_byte_3 : List (Nat × Sh) := [(0, .dat (.sl (.sl (.int .u8)))), (3, .dat (.int .i64)), (9, .dat (.sl (.sl (.int .u8)))), (10, .dat (.int .i64)), (11, .dat (.int .i64))]
theorem run_slices_Concat_byte_byte_11 (n : Nat) (p : ShsD (mapL (·.2) sl_slices_Concat_byte_byte_11)) : runL tab ens_slices_Concat_byte_byte fn_52 [.dat (.sl (.sl (.int .u8)))] [.own (.int .u8)] [⟨11, [.r, .r, .r, .r, .l, .r, .l, .l, .l], sl_slices_Concat_byte_byte_11, L_slices_Concat_byte_byte_11 n⟩] [.r, .r, .r, .r, .l, .r, .l, .l, .l] sl_slices_Concat_byte_byte_11 p = L_slices_Concat_byte_byte_11 (n + 1) p := by kernel_rfl
theorem run_slices_Concat_byte_byte_3 (n : Nat) (p : ShsD (mapL (·.2) sl_slices_Concat_byte_byte_3)) : runL tab ens_slices_Concat_byte_byte fn_52 [.dat (.sl (.sl (.int .u8)))] [.own (.int .u8)] [⟨3, [.r, .r, .l, .r, .l, .l, .l], sl_slices_Concat_byte_byte_3, L_slices_Concat_byte_byte_3 n⟩, ⟨11, [.r, .r, .r, .r, .l, .r, .l, .l, .l], sl_slices_Concat_byte_byte_11, L_slices_Concat_byte_byte_11 fuel⟩] [.r, .r, .l, .r, .l, .l, .l] sl_slices_Concat_byte_byte_3 p = L_slices_Concat_byte_byte_3 (n + 1) p := by kernel_rfl
theorem run_slices_Concat_byte_byte (x : ShsD [.dat (.sl (.sl (.int .u8)))]) : runF tab ens_slices_Concat_byte_byte fn_52 [.dat (.sl (.sl (.int .u8)))] [.own (.int .u8)] [⟨3, [.r, .r, .l, .r, .l, .l, .l], sl_slices_Concat_byte_byte_3, L_slices_Concat_byte_byte_3 fuel⟩] x = F_slices_Concat_byte_byte x.1 := by kernel_rfl
noncomputable def ens_impl_MouthWrite : List En := [en_impl_MouthOk, en_impl_Mouth_copy, en_slices_Concat_byte_byte]
theorem run_impl_MouthWrite (x : ShsD [.agg tMouth [], .dat (.sl (.int .u8))]) : runF tab ens_impl_MouthWrite fn_32 [.agg tMouth [], .dat (.sl (.int .u8))] [.agg tMouth [], .dat (.int .i64)] [] x = F_impl_MouthWrite x.1 x.2.1 := by kernel_rfl
noncomputable def ens_impl_Mouth_next : List En := [en_impl_clone_byte]
theorem run_impl_Mouth_next (x : ShsD [.box tMouth [], .dat (.int .i64)]) : runF tab ens_impl_Mouth_next fn_53 [.box tMouth [], .dat (.int .i64)] [.dat (.int .i64), .dat (.sl (.int .u8))] [] x = F_impl_Mouth_next x.1 x.2.1 := by kernel_rfl
noncomputable def ens_impl_End_tellBytes : List En := [en_impl_End_segment, en_impl_Mouth_next]
abbrev sl_impl_End_tellBytes_2 : List (Nat × Sh) := [(0, .ptr 2000000 0), (3, .own tSegment), (2000000, .box tEnd [])]
theorem run_impl_End_tellBytes_2 (n : Nat) (p : ShsD (mapL (·.2) sl_impl_End_tellBytes_2)) : runL tab ens_impl_End_tellBytes fn_33 [.box tEnd []] [.own tSegment] [⟨2, [.r, .r, .l, .l, .l, .l, .l], sl_impl_End_tellBytes_2, L_impl_End_tellBytes_2 n⟩] [.r, .r, .l, .l, .l, .l, .l] sl_impl_End_tellBytes_2 p = L_impl_End_tellBytes_2 (n + 1) p := by kernel_rfl
theorem run_impl_End_tellBytes (x : ShsD [.box tEnd []]) : runF tab ens_impl_End_tellBytes fn_33 [.box tEnd []] [.own tSegment] [⟨2, [.r, .r, .l, .l, .l, .l, .l], sl_impl_End_tellBytes_2, L_impl_End_tellBytes_2 fuel⟩] x = F_impl_End_tellBytes x.1 := by kernel_rfl
noncomputable def ens_impl_End_arm : List En := [en_impl_End_goes]
theorem run_impl_End_arm (x : ShsD [.box tEnd [], .dat (.int .i64)]) : runF tab ens_impl_End_arm fn_34 [.box tEnd [], .dat (.int .i64)] [] [] x = F_impl_End_arm x.1 x.2.1 := by kernel_rfl
noncomputable def ens_slices_Clip_impl_Segment_impl_Segment : List En := []
theorem run_slices_Clip_impl_Segment_impl_Segment (x : ShsD [.dat (.sl tSegment)]) : runF tab ens_slices_Clip_impl_Segment_impl_Segment fn_54 [.dat (.sl tSegment)] [.dat (.sl tSegment)] [] x = F_slices_Clip_impl_Segment_impl_Segment x.1 := by kernel_rfl
noncomputable def ens_impl_clone_impl_Segment : List En := [en_slices_Clip_impl_Segment_impl_Segment]
theorem run_impl_clone_impl_Segment (x : ShsD [.dat (.sl tSegment)]) : runF tab ens_impl_clone_impl_Segment fn_35 [.dat (.sl tSegment)] [.dat (.sl tSegment)] [] x = F_impl_clone_impl_Segment x.1 := by kernel_rfl
noncomputable def ens_impl_EndWrite : List En := [en_impl_asked, en_impl_End_copy, en_impl_MouthWrite, en_impl_End_tellBytes, en_impl_End_arm, en_impl_clone_impl_Segment]
theorem run_impl_EndWrite (x : ShsD [.agg tEnd [], .dat (.sl (.int .u8)), .dat (.int .i64)]) : runF tab ens_impl_EndWrite fn_10 [.agg tEnd [], .dat (.sl (.int .u8)), .dat (.int .i64)] [.agg tEnd [], .dat (.int .i64), .dat (.sl tSegment)] [] x = F_impl_EndWrite x.1 x.2.1 x.2.2.1 := by kernel_rfl
noncomputable def ens_impl_EndOver : List En := [en_impl_EndOk, en_impl_End_over]
theorem run_impl_EndOver (x : ShsD [.agg tEnd []]) : runF tab ens_impl_EndOver fn_11 [.agg tEnd []] [.dat .bool] [] x = F_impl_EndOver x.1 := by kernel_rfl
noncomputable def ens_laws_FnReadyOf : List En := [en_spec_DrawReadyOf, en_impl_ReadyOf, en_spec_ReadyOf, en_impl_EndOk, en_laws_alive, en_impl_EndRead, en_impl_EndWrite, en_impl_EndOver]
theorem run_laws_FnReadyOf (x : ShsD [.dat (.sl (.int .u8))]) : runF tab ens_laws_FnReadyOf fn_3 [.dat (.sl (.int .u8))] [.dat .bool] [] x = F_laws_FnReadyOf x.1 := by kernel_rfl
end Go.VI.RdyVi
