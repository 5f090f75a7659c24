/- Each plain function says what the Go function of the program returns. Written by a program of my own. -/
import Derived.Test.YtinlgneijojjmaaVD
import Derived.Test.YtinlgneijojjmaaL
set_option linter.unusedVariables false
set_option maxRecDepth 100000
namespace Go.VI.RdyVi
open Go Go.VI
theorem hmix : Go.Proofs.Try.prog.follows .mixedOrders = true := by kernel_rfl
theorem tabOk : TabOk Go.Proofs.Try.prog tab := tabB_ok (by kernel_rfl)
theorem eqOk : EqOk Go.Proofs.Try.prog tab := eqB_ok (by kernel_rfl)
theorem is_3 : FunIs Go.Proofs.Try.prog 3 fn_3 := ⟨Go.Proofs.Try.f3, Go.Proofs.Try.func3, by kernel_rfl, by kernel_rfl, by kernel_rfl, by kernel_rfl⟩
theorem is_4 : FunIs Go.Proofs.Try.prog 4 fn_4 := ⟨Go.Proofs.Try.f4, Go.Proofs.Try.func4, by kernel_rfl, by kernel_rfl, by kernel_rfl, by kernel_rfl⟩
theorem is_5 : FunIs Go.Proofs.Try.prog 5 fn_5 := ⟨Go.Proofs.Try.f5, Go.Proofs.Try.func5, by kernel_rfl, by kernel_rfl, by kernel_rfl, by kernel_rfl⟩
theorem is_6 : FunIs Go.Proofs.Try.prog 6 fn_6 := ⟨Go.Proofs.Try.f6, Go.Proofs.Try.func6, by kernel_rfl, by kernel_rfl, by kernel_rfl, by kernel_rfl⟩
theorem is_7 : FunIs Go.Proofs.Try.prog 7 fn_7 := ⟨Go.Proofs.Try.f7, Go.Proofs.Try.func7, by kernel_rfl, by kernel_rfl, by kernel_rfl, by kernel_rfl⟩
theorem is_8 : FunIs Go.Proofs.Try.prog 8 fn_8 := ⟨Go.Proofs.Try.f8, Go.Proofs.Try.func8, by kernel_rfl, by kernel_rfl, by kernel_rfl, by kernel_rfl⟩
theorem is_9 : FunIs Go.Proofs.Try.prog 9 fn_9 := ⟨Go.Proofs.Try.f9, Go.Proofs.Try.func9, by kernel_rfl, by kernel_rfl, by kernel_rfl, by kernel_rfl⟩
theorem is_10 : FunIs Go.Proofs.Try.prog 10 fn_10 := ⟨Go.Proofs.Try.f10, Go.Proofs.Try.func10, by kernel_rfl, by kernel_rfl, by kernel_rfl, by kernel_rfl⟩
theorem is_11 : FunIs Go.Proofs.Try.prog 11 fn_11 := ⟨Go.Proofs.Try.f11, Go.Proofs.Try.func11, by kernel_rfl, by kernel_rfl, by kernel_rfl, by kernel_rfl⟩
theorem is_12 : FunIs Go.Proofs.Try.prog 12 fn_12 := ⟨Go.Proofs.Try.f12, Go.Proofs.Try.func12, by kernel_rfl, by kernel_rfl, by kernel_rfl, by kernel_rfl⟩
theorem is_13 : FunIs Go.Proofs.Try.prog 13 fn_13 := ⟨Go.Proofs.Try.f13, Go.Proofs.Try.func13, by kernel_rfl, by kernel_rfl, by kernel_rfl, by kernel_rfl⟩
theorem is_14 : FunIs Go.Proofs.Try.prog 14 fn_14 := ⟨Go.Proofs.Try.f14, Go.Proofs.Try.func14, by kernel_rfl, by kernel_rfl, by kernel_rfl, by kernel_rfl⟩
theorem is_15 : FunIs Go.Proofs.Try.prog 15 fn_15 := ⟨Go.Proofs.Try.f15, Go.Proofs.Try.func15, by kernel_rfl, by kernel_rfl, by kernel_rfl, by kernel_rfl⟩
theorem is_16 : FunIs Go.Proofs.Try.prog 16 fn_16 := ⟨Go.Proofs.Try.f16, Go.Proofs.Try.func16, by kernel_rfl, by kernel_rfl, by kernel_rfl, by kernel_rfl⟩
theorem is_17 : FunIs Go.Proofs.Try.prog 17 fn_17 := ⟨Go.Proofs.Try.f17, Go.Proofs.Try.func17, by kernel_rfl, by kernel_rfl, by kernel_rfl, by kernel_rfl⟩
theorem is_18 : FunIs Go.Proofs.Try.prog 18 fn_18 := ⟨Go.Proofs.Try.f18, Go.Proofs.Try.func18, by kernel_rfl, by kernel_rfl, by kernel_rfl, by kernel_rfl⟩
theorem is_19 : FunIs Go.Proofs.Try.prog 19 fn_19 := ⟨Go.Proofs.Try.f19, Go.Proofs.Try.func19, by kernel_rfl, by kernel_rfl, by kernel_rfl, by kernel_rfl⟩
theorem is_20 : FunIs Go.Proofs.Try.prog 20 fn_20 := ⟨Go.Proofs.Try.f20, Go.Proofs.Try.func20, by kernel_rfl, by kernel_rfl, by kernel_rfl, by kernel_rfl⟩
theorem is_21 : FunIs Go.Proofs.Try.prog 21 fn_21 := ⟨Go.Proofs.Try.f21, Go.Proofs.Try.func21, by kernel_rfl, by kernel_rfl, by kernel_rfl, by kernel_rfl⟩
theorem is_22 : FunIs Go.Proofs.Try.prog 22 fn_22 := ⟨Go.Proofs.Try.f22, Go.Proofs.Try.func22, by kernel_rfl, by kernel_rfl, by kernel_rfl, by kernel_rfl⟩
theorem is_23 : FunIs Go.Proofs.Try.prog 23 fn_23 := ⟨Go.Proofs.Try.f23, Go.Proofs.Try.func23, by kernel_rfl, by kernel_rfl, by kernel_rfl, by kernel_rfl⟩
theorem is_24 : FunIs Go.Proofs.Try.prog 24 fn_24 := ⟨Go.Proofs.Try.f24, Go.Proofs.Try.func24, by kernel_rfl, by kernel_rfl, by kernel_rfl, by kernel_rfl⟩
theorem is_25 : FunIs Go.Proofs.Try.prog 25 fn_25 := ⟨Go.Proofs.Try.f25, Go.Proofs.Try.func25, by kernel_rfl, by kernel_rfl, by kernel_rfl, by kernel_rfl⟩
theorem is_26 : FunIs Go.Proofs.Try.prog 26 fn_26 := ⟨Go.Proofs.Try.f26, Go.Proofs.Try.func26, by kernel_rfl, by kernel_rfl, by kernel_rfl, by kernel_rfl⟩
theorem is_27 : FunIs Go.Proofs.Try.prog 27 fn_27 := ⟨Go.Proofs.Try.f27, Go.Proofs.Try.func27, by kernel_rfl, by kernel_rfl, by kernel_rfl, by kernel_rfl⟩
theorem is_28 : FunIs Go.Proofs.Try.prog 28 fn_28 := ⟨Go.Proofs.Try.f28, Go.Proofs.Try.func28, by kernel_rfl, by kernel_rfl, by kernel_rfl, by kernel_rfl⟩
theorem is_29 : FunIs Go.Proofs.Try.prog 29 fn_29 := ⟨Go.Proofs.Try.f29, Go.Proofs.Try.func29, by kernel_rfl, by kernel_rfl, by kernel_rfl, by kernel_rfl⟩
theorem is_30 : FunIs Go.Proofs.Try.prog 30 fn_30 := ⟨Go.Proofs.Try.f30, Go.Proofs.Try.func30, by kernel_rfl, by kernel_rfl, by kernel_rfl, by kernel_rfl⟩
theorem is_31 : FunIs Go.Proofs.Try.prog 31 fn_31 := ⟨Go.Proofs.Try.f31, Go.Proofs.Try.func31, by kernel_rfl, by kernel_rfl, by kernel_rfl, by kernel_rfl⟩
theorem is_32 : FunIs Go.Proofs.Try.prog 32 fn_32 := ⟨Go.Proofs.Try.f32, Go.Proofs.Try.func32, by kernel_rfl, by kernel_rfl, by kernel_rfl, by kernel_rfl⟩
theorem is_33 : FunIs Go.Proofs.Try.prog 33 fn_33 := ⟨Go.Proofs.Try.f33, Go.Proofs.Try.func33, by kernel_rfl, by kernel_rfl, by kernel_rfl, by kernel_rfl⟩
theorem is_34 : FunIs Go.Proofs.Try.prog 34 fn_34 := ⟨Go.Proofs.Try.f34, Go.Proofs.Try.func34, by kernel_rfl, by kernel_rfl, by kernel_rfl, by kernel_rfl⟩
theorem is_35 : FunIs Go.Proofs.Try.prog 35 fn_35 := ⟨Go.Proofs.Try.f35, Go.Proofs.Try.func35, by kernel_rfl, by kernel_rfl, by kernel_rfl, by kernel_rfl⟩
theorem is_36 : FunIs Go.Proofs.Try.prog 36 fn_36 := ⟨Go.Proofs.Try.f36, Go.Proofs.Try.func36, by kernel_rfl, by kernel_rfl, by kernel_rfl, by kernel_rfl⟩
theorem is_37 : FunIs Go.Proofs.Try.prog 37 fn_37 := ⟨Go.Proofs.Try.f37, Go.Proofs.Try.func37, by kernel_rfl, by kernel_rfl, by kernel_rfl, by kernel_rfl⟩
theorem is_38 : FunIs Go.Proofs.Try.prog 38 fn_38 := ⟨Go.Proofs.Try.f38, Go.Proofs.Try.func38, by kernel_rfl, by kernel_rfl, by kernel_rfl, by kernel_rfl⟩
theorem is_39 : FunIs Go.Proofs.Try.prog 39 fn_39 := ⟨Go.Proofs.Try.f39, Go.Proofs.Try.func39, by kernel_rfl, by kernel_rfl, by kernel_rfl, by kernel_rfl⟩
theorem is_40 : FunIs Go.Proofs.Try.prog 40 fn_40 := ⟨Go.Proofs.Try.f40, Go.Proofs.Try.func40, by kernel_rfl, by kernel_rfl, by kernel_rfl, by kernel_rfl⟩
theorem is_41 : FunIs Go.Proofs.Try.prog 41 fn_41 := ⟨Go.Proofs.Try.f41, Go.Proofs.Try.func41, by kernel_rfl, by kernel_rfl, by kernel_rfl, by kernel_rfl⟩
theorem is_42 : FunIs Go.Proofs.Try.prog 42 fn_42 := ⟨Go.Proofs.Try.f42, Go.Proofs.Try.func42, by kernel_rfl, by kernel_rfl, by kernel_rfl, by kernel_rfl⟩
theorem is_43 : FunIs Go.Proofs.Try.prog 43 fn_43 := ⟨Go.Proofs.Try.f43, Go.Proofs.Try.func43, by kernel_rfl, by kernel_rfl, by kernel_rfl, by kernel_rfl⟩
theorem is_44 : FunIs Go.Proofs.Try.prog 44 fn_44 := ⟨Go.Proofs.Try.f44, Go.Proofs.Try.func44, by kernel_rfl, by kernel_rfl, by kernel_rfl, by kernel_rfl⟩
theorem is_45 : FunIs Go.Proofs.Try.prog 45 fn_45 := ⟨Go.Proofs.Try.f45, Go.Proofs.Try.func45, by kernel_rfl, by kernel_rfl, by kernel_rfl, by kernel_rfl⟩
theorem is_46 : FunIs Go.Proofs.Try.prog 46 fn_46 := ⟨Go.Proofs.Try.f46, Go.Proofs.Try.func46, by kernel_rfl, by kernel_rfl, by kernel_rfl, by kernel_rfl⟩
theorem is_47 : FunIs Go.Proofs.Try.prog 47 fn_47 := ⟨Go.Proofs.Try.f47, Go.Proofs.Try.func47, by kernel_rfl, by kernel_rfl, by kernel_rfl, by kernel_rfl⟩
theorem is_48 : FunIs Go.Proofs.Try.prog 48 fn_48 := ⟨Go.Proofs.Try.f48, Go.Proofs.Try.func48, by kernel_rfl, by kernel_rfl, by kernel_rfl, by kernel_rfl⟩
theorem is_49 : FunIs Go.Proofs.Try.prog 49 fn_49 := ⟨Go.Proofs.Try.f49, Go.Proofs.Try.func49, by kernel_rfl, by kernel_rfl, by kernel_rfl, by kernel_rfl⟩
theorem is_50 : FunIs Go.Proofs.Try.prog 50 fn_50 := ⟨Go.Proofs.Try.f50, Go.Proofs.Try.func50, by kernel_rfl, by kernel_rfl, by kernel_rfl, by kernel_rfl⟩
theorem is_51 : FunIs Go.Proofs.Try.prog 51 fn_51 := ⟨Go.Proofs.Try.f51, Go.Proofs.Try.func51, by kernel_rfl, by kernel_rfl, by kernel_rfl, by kernel_rfl⟩
theorem is_52 : FunIs Go.Proofs.Try.prog 52 fn_52 := ⟨Go.Proofs.Try.f52, Go.Proofs.Try.func52, by kernel_rfl, by kernel_rfl, by kernel_rfl, by kernel_rfl⟩
theorem is_53 : FunIs Go.Proofs.Try.prog 53 fn_53 := ⟨Go.Proofs.Try.f53, Go.Proofs.Try.func53, by kernel_rfl, by kernel_rfl, by kernel_rfl, by kernel_rfl⟩
theorem is_54 : FunIs Go.Proofs.Try.prog 54 fn_54 := ⟨Go.Proofs.Try.f54, Go.Proofs.Try.func54, by kernel_rfl, by kernel_rfl, by kernel_rfl, by kernel_rfl⟩
theorem is_55 : FunIs Go.Proofs.Try.prog 55 fn_55 := ⟨Go.Proofs.Try.f55, Go.Proofs.Try.func55, by kernel_rfl, by kernel_rfl, by kernel_rfl, by kernel_rfl⟩
theorem is_56 : FunIs Go.Proofs.Try.prog 56 fn_56 := ⟨Go.Proofs.Try.f56, Go.Proofs.Try.func56, by kernel_rfl, by kernel_rfl, by kernel_rfl, by kernel_rfl⟩
theorem is_57 : FunIs Go.Proofs.Try.prog 57 fn_57 := ⟨Go.Proofs.Try.f57, Go.Proofs.Try.func57, by kernel_rfl, by kernel_rfl, by kernel_rfl, by kernel_rfl⟩
theorem is_58 : FunIs Go.Proofs.Try.prog 58 fn_58 := ⟨Go.Proofs.Try.f58, Go.Proofs.Try.func58, by kernel_rfl, by kernel_rfl, by kernel_rfl, by kernel_rfl⟩
theorem is_59 : FunIs Go.Proofs.Try.prog 59 fn_59 := ⟨Go.Proofs.Try.f59, Go.Proofs.Try.func59, by kernel_rfl, by kernel_rfl, by kernel_rfl, by kernel_rfl⟩
theorem is_60 : FunIs Go.Proofs.Try.prog 60 fn_60 := ⟨Go.Proofs.Try.f60, Go.Proofs.Try.func60, by kernel_rfl, by kernel_rfl, by kernel_rfl, by kernel_rfl⟩
theorem is_61 : FunIs Go.Proofs.Try.prog 61 fn_61 := ⟨Go.Proofs.Try.f61, Go.Proofs.Try.func61, by kernel_rfl, by kernel_rfl, by kernel_rfl, by kernel_rfl⟩
theorem is_62 : FunIs Go.Proofs.Try.prog 62 fn_62 := ⟨Go.Proofs.Try.f62, Go.Proofs.Try.func62, by kernel_rfl, by kernel_rfl, by kernel_rfl, by kernel_rfl⟩
theorem is_63 : FunIs Go.Proofs.Try.prog 63 fn_63 := ⟨Go.Proofs.Try.f63, Go.Proofs.Try.func63, by kernel_rfl, by kernel_rfl, by kernel_rfl, by kernel_rfl⟩
theorem is_64 : FunIs Go.Proofs.Try.prog 64 fn_64 := ⟨Go.Proofs.Try.f64, Go.Proofs.Try.func64, by kernel_rfl, by kernel_rfl, by kernel_rfl, by kernel_rfl⟩
theorem is_65 : FunIs Go.Proofs.Try.prog 65 fn_65 := ⟨Go.Proofs.Try.f65, Go.Proofs.Try.func65, by kernel_rfl, by kernel_rfl, by kernel_rfl, by kernel_rfl⟩
theorem is_66 : FunIs Go.Proofs.Try.prog 66 fn_66 := ⟨Go.Proofs.Try.f66, Go.Proofs.Try.func66, by kernel_rfl, by kernel_rfl, by kernel_rfl, by kernel_rfl⟩
theorem is_67 : FunIs Go.Proofs.Try.prog 67 fn_67 := ⟨Go.Proofs.Try.f67, Go.Proofs.Try.func67, by kernel_rfl, by kernel_rfl, by kernel_rfl, by kernel_rfl⟩
theorem is_68 : FunIs Go.Proofs.Try.prog 68 fn_68 := ⟨Go.Proofs.Try.f68, Go.Proofs.Try.func68, by kernel_rfl, by kernel_rfl, by kernel_rfl, by kernel_rfl⟩
theorem is_69 : FunIs Go.Proofs.Try.prog 69 fn_69 := ⟨Go.Proofs.Try.f69, Go.Proofs.Try.func69, by kernel_rfl, by kernel_rfl, by kernel_rfl, by kernel_rfl⟩
theorem is_70 : FunIs Go.Proofs.Try.prog 70 fn_70 := ⟨Go.Proofs.Try.f70, Go.Proofs.Try.func70, by kernel_rfl, by kernel_rfl, by kernel_rfl, by kernel_rfl⟩
theorem is_71 : FunIs Go.Proofs.Try.prog 71 fn_71 := ⟨Go.Proofs.Try.f71, Go.Proofs.Try.func71, by kernel_rfl, by kernel_rfl, by kernel_rfl, by kernel_rfl⟩
theorem is_72 : FunIs Go.Proofs.Try.prog 72 fn_72 := ⟨Go.Proofs.Try.f72, Go.Proofs.Try.func72, by kernel_rfl, by kernel_rfl, by kernel_rfl, by kernel_rfl⟩
theorem is_73 : FunIs Go.Proofs.Try.prog 73 fn_73 := ⟨Go.Proofs.Try.f73, Go.Proofs.Try.func73, by kernel_rfl, by kernel_rfl, by kernel_rfl, by kernel_rfl⟩
theorem is_74 : FunIs Go.Proofs.Try.prog 74 fn_74 := ⟨Go.Proofs.Try.f74, Go.Proofs.Try.func74, by kernel_rfl, by kernel_rfl, by kernel_rfl, by kernel_rfl⟩
theorem is_75 : FunIs Go.Proofs.Try.prog 75 fn_75 := ⟨Go.Proofs.Try.f75, Go.Proofs.Try.func75, by kernel_rfl, by kernel_rfl, by kernel_rfl, by kernel_rfl⟩
theorem is_76 : FunIs Go.Proofs.Try.prog 76 fn_76 := ⟨Go.Proofs.Try.f76, Go.Proofs.Try.func76, by kernel_rfl, by kernel_rfl, by kernel_rfl, by kernel_rfl⟩
theorem is_77 : FunIs Go.Proofs.Try.prog 77 fn_77 := ⟨Go.Proofs.Try.f77, Go.Proofs.Try.func77, by kernel_rfl, by kernel_rfl, by kernel_rfl, by kernel_rfl⟩
theorem is_78 : FunIs Go.Proofs.Try.prog 78 fn_78 := ⟨Go.Proofs.Try.f78, Go.Proofs.Try.func78, by kernel_rfl, by kernel_rfl, by kernel_rfl, by kernel_rfl⟩
theorem is_79 : FunIs Go.Proofs.Try.prog 79 fn_79 := ⟨Go.Proofs.Try.f79, Go.Proofs.Try.func79, by kernel_rfl, by kernel_rfl, by kernel_rfl, by kernel_rfl⟩
theorem is_80 : FunIs Go.Proofs.Try.prog 80 fn_80 := ⟨Go.Proofs.Try.f80, Go.Proofs.Try.func80, by kernel_rfl, by kernel_rfl, by kernel_rfl, by kernel_rfl⟩
theorem is_81 : FunIs Go.Proofs.Try.prog 81 fn_81 := ⟨Go.Proofs.Try.f81, Go.Proofs.Try.func81, by kernel_rfl, by kernel_rfl, by kernel_rfl, by kernel_rfl⟩
theorem is_82 : FunIs Go.Proofs.Try.prog 82 fn_82 := ⟨Go.Proofs.Try.f82, Go.Proofs.Try.func82, by kernel_rfl, by kernel_rfl, by kernel_rfl, by kernel_rfl⟩
theorem is_83 : FunIs Go.Proofs.Try.prog 83 fn_83 := ⟨Go.Proofs.Try.f83, Go.Proofs.Try.func83, by kernel_rfl, by kernel_rfl, by kernel_rfl, by kernel_rfl⟩
theorem is_84 : FunIs Go.Proofs.Try.prog 84 fn_84 := ⟨Go.Proofs.Try.f84, Go.Proofs.Try.func84, by kernel_rfl, by kernel_rfl, by kernel_rfl, by kernel_rfl⟩
theorem is_85 : FunIs Go.Proofs.Try.prog 85 fn_85 := ⟨Go.Proofs.Try.f85, Go.Proofs.Try.func85, by kernel_rfl, by kernel_rfl, by kernel_rfl, by kernel_rfl⟩
theorem is_86 : FunIs Go.Proofs.Try.prog 86 fn_86 := ⟨Go.Proofs.Try.f86, Go.Proofs.Try.func86, by kernel_rfl, by kernel_rfl, by kernel_rfl, by kernel_rfl⟩
theorem is_87 : FunIs Go.Proofs.Try.prog 87 fn_87 := ⟨Go.Proofs.Try.f87, Go.Proofs.Try.func87, by kernel_rfl, by kernel_rfl, by kernel_rfl, by kernel_rfl⟩
theorem is_88 : FunIs Go.Proofs.Try.prog 88 fn_88 := ⟨Go.Proofs.Try.f88, Go.Proofs.Try.func88, by kernel_rfl, by kernel_rfl, by kernel_rfl, by kernel_rfl⟩
theorem is_89 : FunIs Go.Proofs.Try.prog 89 fn_89 := ⟨Go.Proofs.Try.f89, Go.Proofs.Try.func89, by kernel_rfl, by kernel_rfl, by kernel_rfl, by kernel_rfl⟩
theorem is_90 : FunIs Go.Proofs.Try.prog 90 fn_90 := ⟨Go.Proofs.Try.f90, Go.Proofs.Try.func90, by kernel_rfl, by kernel_rfl, by kernel_rfl, by kernel_rfl⟩
theorem is_91 : FunIs Go.Proofs.Try.prog 91 fn_91 := ⟨Go.Proofs.Try.f91, Go.Proofs.Try.func91, by kernel_rfl, by kernel_rfl, by kernel_rfl, by kernel_rfl⟩
theorem is_92 : FunIs Go.Proofs.Try.prog 92 fn_92 := ⟨Go.Proofs.Try.f92, Go.Proofs.Try.func92, by kernel_rfl, by kernel_rfl, by kernel_rfl, by kernel_rfl⟩
theorem is_93 : FunIs Go.Proofs.Try.prog 93 fn_93 := ⟨Go.Proofs.Try.f93, Go.Proofs.Try.func93, by kernel_rfl, by kernel_rfl, by kernel_rfl, by kernel_rfl⟩
theorem is_94 : FunIs Go.Proofs.Try.prog 94 fn_94 := ⟨Go.Proofs.Try.f94, Go.Proofs.Try.func94, by kernel_rfl, by kernel_rfl, by kernel_rfl, by kernel_rfl⟩
theorem is_95 : FunIs Go.Proofs.Try.prog 95 fn_95 := ⟨Go.Proofs.Try.f95, Go.Proofs.Try.func95, by kernel_rfl, by kernel_rfl, by kernel_rfl, by kernel_rfl⟩
theorem is_96 : FunIs Go.Proofs.Try.prog 96 fn_96 := ⟨Go.Proofs.Try.f96, Go.Proofs.Try.func96, by kernel_rfl, by kernel_rfl, by kernel_rfl, by kernel_rfl⟩
theorem is_97 : FunIs Go.Proofs.Try.prog 97 fn_97 := ⟨Go.Proofs.Try.f97, Go.Proofs.Try.func97, by kernel_rfl, by kernel_rfl, by kernel_rfl, by kernel_rfl⟩
theorem is_98 : FunIs Go.Proofs.Try.prog 98 fn_98 := ⟨Go.Proofs.Try.f98, Go.Proofs.Try.func98, by kernel_rfl, by kernel_rfl, by kernel_rfl, by kernel_rfl⟩
theorem is_99 : FunIs Go.Proofs.Try.prog 99 fn_99 := ⟨Go.Proofs.Try.f99, Go.Proofs.Try.func99, by kernel_rfl, by kernel_rfl, by kernel_rfl, by kernel_rfl⟩
theorem is_100 : FunIs Go.Proofs.Try.prog 100 fn_100 := ⟨Go.Proofs.Try.f100, Go.Proofs.Try.func100, by kernel_rfl, by kernel_rfl, by kernel_rfl, by kernel_rfl⟩
theorem is_101 : FunIs Go.Proofs.Try.prog 101 fn_101 := ⟨Go.Proofs.Try.f101, Go.Proofs.Try.func101, by kernel_rfl, by kernel_rfl, by kernel_rfl, by kernel_rfl⟩
theorem oks_spec_l20Rd_pick : ∀ en ∈ ens_spec_l20Rd_pick, FnOk Go.Proofs.Try.prog en := List.forall_mem_nil _
theorem sane_spec_l20Rd_pick : saneA fn_37.nt [.box ts_l20Rd [], .dat (.int .i64)] [.dat (.int .i64)] = true := by kernel_rfl
theorem ok_spec_l20Rd_pick : FnOk Go.Proofs.Try.prog en_spec_l20Rd_pick := fn_ok tabOk eqOk oks_spec_l20Rd_pick hmix is_37 sane_spec_l20Rd_pick (List.forall_mem_nil _) run_spec_l20Rd_pick
theorem oks_spec_l1In : ∀ en ∈ ens_spec_l1In, FnOk Go.Proofs.Try.prog en := List.forall_mem_nil _
theorem sane_spec_l1In : saneA fn_39.nt [.dat (.int .i64), .dat (.int .i64), .dat (.int .i64)] [.dat .bool] = true := by kernel_rfl
theorem ok_spec_l1In : FnOk Go.Proofs.Try.prog en_spec_l1In := fn_ok tabOk eqOk oks_spec_l1In hmix is_39 sane_spec_l1In (List.forall_mem_nil _) run_spec_l1In
theorem oks_spec_MouthOk : ∀ en ∈ ens_spec_MouthOk, FnOk Go.Proofs.Try.prog en := List.forall_mem_cons.2 ⟨ok_spec_l1In, List.forall_mem_nil _⟩
theorem sane_spec_MouthOk : saneA fn_40.nt [.agg tMouth []] [.dat .bool] = true := by kernel_rfl
theorem lab_spec_MouthOk_4 : ∀ n : Nat, LabOk Go.Proofs.Try.prog 40 fn_40 [.agg tMouth []] [.dat .bool] ⟨4, [.r, .r, .l, .r, .l, .l, .l, .l], sl_spec_MouthOk_4, L_spec_MouthOk_4 n⟩
  | 0 => ⟨by kernel_rfl, fun _ _ _ _ _ _ _ _ _ h => by cases h⟩
  | n + 1 => by
    have ih := lab_spec_MouthOk_4 n
    exact lab_run tabOk eqOk oks_spec_MouthOk hmix is_40 sane_spec_MouthOk (List.forall_mem_cons.2 ⟨ih, List.forall_mem_nil _⟩) (by kernel_rfl) (run_spec_MouthOk_4 n)
theorem ok_spec_MouthOk : FnOk Go.Proofs.Try.prog en_spec_MouthOk := fn_ok tabOk eqOk oks_spec_MouthOk hmix is_40 sane_spec_MouthOk (List.forall_mem_cons.2 ⟨lab_spec_MouthOk_4 fuel, List.forall_mem_nil _⟩) run_spec_MouthOk
theorem oks_spec_EarOk : ∀ en ∈ ens_spec_EarOk, FnOk Go.Proofs.Try.prog en := List.forall_mem_cons.2 ⟨ok_spec_l1In, List.forall_mem_nil _⟩
theorem sane_spec_EarOk : saneA fn_41.nt [.agg tEar []] [.dat .bool] = true := by kernel_rfl
theorem lab_spec_EarOk_4 : ∀ n : Nat, LabOk Go.Proofs.Try.prog 41 fn_41 [.agg tEar []] [.dat .bool] ⟨4, [.r, .r, .l, .r, .l, .l, .l, .l], sl_spec_EarOk_4, L_spec_EarOk_4 n⟩
  | 0 => ⟨by kernel_rfl, fun _ _ _ _ _ _ _ _ _ h => by cases h⟩
  | n + 1 => by
    have ih := lab_spec_EarOk_4 n
    exact lab_run tabOk eqOk oks_spec_EarOk hmix is_41 sane_spec_EarOk (List.forall_mem_cons.2 ⟨ih, List.forall_mem_nil _⟩) (by kernel_rfl) (run_spec_EarOk_4 n)
theorem ok_spec_EarOk : FnOk Go.Proofs.Try.prog en_spec_EarOk := fn_ok tabOk eqOk oks_spec_EarOk hmix is_41 sane_spec_EarOk (List.forall_mem_cons.2 ⟨lab_spec_EarOk_4 fuel, List.forall_mem_nil _⟩) run_spec_EarOk
theorem oks_spec_ClockOk : ∀ en ∈ ens_spec_ClockOk, FnOk Go.Proofs.Try.prog en := List.forall_mem_cons.2 ⟨ok_spec_l1In, List.forall_mem_nil _⟩
theorem sane_spec_ClockOk : saneA fn_42.nt [.agg tClock []] [.dat .bool] = true := by kernel_rfl
theorem ok_spec_ClockOk : FnOk Go.Proofs.Try.prog en_spec_ClockOk := fn_ok tabOk eqOk oks_spec_ClockOk hmix is_42 sane_spec_ClockOk (List.forall_mem_nil _) run_spec_ClockOk
theorem oks_spec_l15Open : ∀ en ∈ ens_spec_l15Open, FnOk Go.Proofs.Try.prog en := List.forall_mem_nil _
theorem sane_spec_l15Open : saneA fn_43.nt [.agg tEnd []] [.dat .bool] = true := by kernel_rfl
theorem ok_spec_l15Open : FnOk Go.Proofs.Try.prog en_spec_l15Open := fn_ok tabOk eqOk oks_spec_l15Open hmix is_43 sane_spec_l15Open (List.forall_mem_nil _) run_spec_l15Open
theorem oks_spec_EndOk : ∀ en ∈ ens_spec_EndOk, FnOk Go.Proofs.Try.prog en := List.forall_mem_cons.2 ⟨ok_spec_l1In, List.forall_mem_cons.2 ⟨ok_spec_MouthOk, List.forall_mem_cons.2 ⟨ok_spec_EarOk, List.forall_mem_cons.2 ⟨ok_spec_ClockOk, List.forall_mem_cons.2 ⟨ok_spec_l15Open, List.forall_mem_nil _⟩⟩⟩⟩⟩
theorem sane_spec_EndOk : saneA fn_16.nt [.agg tEnd []] [.dat .bool] = true := by kernel_rfl
theorem ok_spec_EndOk : FnOk Go.Proofs.Try.prog en_spec_EndOk := fn_ok tabOk eqOk oks_spec_EndOk hmix is_16 sane_spec_EndOk (List.forall_mem_nil _) run_spec_EndOk
theorem oks_spec_ClockNew : ∀ en ∈ ens_spec_ClockNew, FnOk Go.Proofs.Try.prog en := List.forall_mem_nil _
theorem sane_spec_ClockNew : saneA fn_72.nt [.dat (.int .i64)] [.agg tClock []] = true := by kernel_rfl
theorem ok_spec_ClockNew : FnOk Go.Proofs.Try.prog en_spec_ClockNew := fn_ok tabOk eqOk oks_spec_ClockNew hmix is_72 sane_spec_ClockNew (List.forall_mem_nil _) run_spec_ClockNew
theorem oks_spec_EndNew : ∀ en ∈ ens_spec_EndNew, FnOk Go.Proofs.Try.prog en := List.forall_mem_cons.2 ⟨ok_spec_EndOk, List.forall_mem_cons.2 ⟨ok_spec_ClockNew, List.forall_mem_nil _⟩⟩
theorem sane_spec_EndNew : saneA fn_55.nt [.dat (.int .i64), .dat (.int .i64), .dat (.int .i64), .dat (.int .i64)] [.agg tEnd [7, 10, 13, 14]] = true := by kernel_rfl
theorem ok_spec_EndNew : FnOk Go.Proofs.Try.prog en_spec_EndNew := fn_ok tabOk eqOk oks_spec_EndNew hmix is_55 sane_spec_EndNew (List.forall_mem_nil _) run_spec_EndNew
theorem oks_spec_l13Copy : ∀ en ∈ ens_spec_l13Copy, FnOk Go.Proofs.Try.prog en := List.forall_mem_nil _
theorem sane_spec_l13Copy : saneA fn_95.nt [.agg tMouth []] [.agg tMouth [1, 4]] = true := by kernel_rfl
theorem ok_spec_l13Copy : FnOk Go.Proofs.Try.prog en_spec_l13Copy := fn_ok tabOk eqOk oks_spec_l13Copy hmix is_95 sane_spec_l13Copy (List.forall_mem_nil _) run_spec_l13Copy
theorem oks_spec_l15Copy : ∀ en ∈ ens_spec_l15Copy, FnOk Go.Proofs.Try.prog en := List.forall_mem_cons.2 ⟨ok_spec_l13Copy, List.forall_mem_nil _⟩
theorem sane_spec_l15Copy : saneA fn_73.nt [.agg tEnd []] [.agg tEnd [7, 10, 13, 14]] = true := by kernel_rfl
theorem ok_spec_l15Copy : FnOk Go.Proofs.Try.prog en_spec_l15Copy := fn_ok tabOk eqOk oks_spec_l15Copy hmix is_73 sane_spec_l15Copy (List.forall_mem_nil _) run_spec_l15Copy
theorem oks_spec_EndListen : ∀ en ∈ ens_spec_EndListen, FnOk Go.Proofs.Try.prog en := List.forall_mem_cons.2 ⟨ok_spec_EndOk, List.forall_mem_cons.2 ⟨ok_spec_l15Copy, List.forall_mem_nil _⟩⟩
theorem sane_spec_EndListen : saneA fn_56.nt [.agg tEnd []] [.agg tEnd [7, 10, 13, 14], .dat .bool] = true := by kernel_rfl
theorem ok_spec_EndListen : FnOk Go.Proofs.Try.prog en_spec_EndListen := fn_ok tabOk eqOk oks_spec_EndListen hmix is_56 sane_spec_EndListen (List.forall_mem_nil _) run_spec_EndListen
theorem oks_spec_l15Arm : ∀ en ∈ ens_spec_l15Arm, FnOk Go.Proofs.Try.prog en := List.forall_mem_cons.2 ⟨ok_spec_l15Open, List.forall_mem_nil _⟩
theorem sane_spec_l15Arm : saneA fn_74.nt [.agg tEnd [], .dat (.int .i64), .dat .bool] [.agg tEnd []] = true := by kernel_rfl
theorem ok_spec_l15Arm : FnOk Go.Proofs.Try.prog en_spec_l15Arm := fn_ok tabOk eqOk oks_spec_l15Arm hmix is_74 sane_spec_l15Arm (List.forall_mem_nil _) run_spec_l15Arm
theorem oks_spec_EarFree : ∀ en ∈ ens_spec_EarFree, FnOk Go.Proofs.Try.prog en := List.forall_mem_cons.2 ⟨ok_spec_EarOk, List.forall_mem_nil _⟩
theorem sane_spec_EarFree : saneA fn_79.nt [.agg tEar []] [.dat (.int .i64)] = true := by kernel_rfl
theorem ok_spec_EarFree : FnOk Go.Proofs.Try.prog en_spec_EarFree := fn_ok tabOk eqOk oks_spec_EarFree hmix is_79 sane_spec_EarFree (List.forall_mem_nil _) run_spec_EarFree
theorem oks_spec_SeqOf : ∀ en ∈ ens_spec_SeqOf, FnOk Go.Proofs.Try.prog en := List.forall_mem_nil _
theorem sane_spec_SeqOf : saneA fn_86.nt [.dat (.int .i64)] [.dat (.int .i64)] = true := by kernel_rfl
theorem ok_spec_SeqOf : FnOk Go.Proofs.Try.prog en_spec_SeqOf := fn_ok tabOk eqOk oks_spec_SeqOf hmix is_86 sane_spec_SeqOf (List.forall_mem_nil _) run_spec_SeqOf
theorem oks_spec_l15Wait : ∀ en ∈ ens_spec_l15Wait, FnOk Go.Proofs.Try.prog en := List.forall_mem_nil _
theorem sane_spec_l15Wait : saneA fn_87.nt [.agg tEnd []] [.dat (.int .i64)] = true := by kernel_rfl
theorem ok_spec_l15Wait : FnOk Go.Proofs.Try.prog en_spec_l15Wait := fn_ok tabOk eqOk oks_spec_l15Wait hmix is_87 sane_spec_l15Wait (List.forall_mem_nil _) run_spec_l15Wait
theorem oks_spec_EarRanges : ∀ en ∈ ens_spec_EarRanges, FnOk Go.Proofs.Try.prog en := List.forall_mem_cons.2 ⟨ok_spec_EarOk, List.forall_mem_nil _⟩
theorem sane_spec_EarRanges : saneA fn_97.nt [.agg tEar []] [.own tRange] = true := by kernel_rfl
theorem lab_spec_EarRanges_5 : ∀ n : Nat, LabOk Go.Proofs.Try.prog 97 fn_97 [.agg tEar []] [.own tRange] ⟨5, [.r, .r, .r, .l, .r, .l, .l, .l, .l], sl_spec_EarRanges_5, L_spec_EarRanges_5 n⟩
  | 0 => ⟨by kernel_rfl, fun _ _ _ _ _ _ _ _ _ h => by cases h⟩
  | n + 1 => by
    have ih := lab_spec_EarRanges_5 n
    exact lab_run tabOk eqOk oks_spec_EarRanges hmix is_97 sane_spec_EarRanges (List.forall_mem_cons.2 ⟨ih, List.forall_mem_nil _⟩) (by kernel_rfl) (run_spec_EarRanges_5 n)
theorem ok_spec_EarRanges : FnOk Go.Proofs.Try.prog en_spec_EarRanges := fn_ok tabOk eqOk oks_spec_EarRanges hmix is_97 sane_spec_EarRanges (List.forall_mem_cons.2 ⟨lab_spec_EarRanges_5 fuel, List.forall_mem_nil _⟩) run_spec_EarRanges
theorem oks_spec_l15Segment : ∀ en ∈ ens_spec_l15Segment, FnOk Go.Proofs.Try.prog en := List.forall_mem_cons.2 ⟨ok_spec_EarFree, List.forall_mem_cons.2 ⟨ok_spec_SeqOf, List.forall_mem_cons.2 ⟨ok_spec_l15Wait, List.forall_mem_cons.2 ⟨ok_spec_EarRanges, List.forall_mem_nil _⟩⟩⟩⟩
theorem sane_spec_l15Segment : saneA fn_80.nt [.agg tEnd [], .dat (.int .i64)] [.agg tSegment [9, 10]] = true := by kernel_rfl
theorem lab_spec_l15Segment_9 : ∀ n : Nat, LabOk Go.Proofs.Try.prog 80 fn_80 [.agg tEnd [], .dat (.int .i64)] [.agg tSegment [9, 10]] ⟨9, [.r, .r, .r, .r, .r, .r, .r, .l, .r, .l, .l, .l, .l], sl_spec_l15Segment_9, L_spec_l15Segment_9 n⟩
  | 0 => ⟨by kernel_rfl, fun _ _ _ _ _ _ _ _ _ h => by cases h⟩
  | n + 1 => by
    have ih := lab_spec_l15Segment_9 n
    exact lab_run tabOk eqOk oks_spec_l15Segment hmix is_80 sane_spec_l15Segment (List.forall_mem_cons.2 ⟨ih, List.forall_mem_nil _⟩) (by kernel_rfl) (run_spec_l15Segment_9 n)
theorem ok_spec_l15Segment : FnOk Go.Proofs.Try.prog en_spec_l15Segment := fn_ok tabOk eqOk oks_spec_l15Segment hmix is_80 sane_spec_l15Segment (List.forall_mem_cons.2 ⟨lab_spec_l15Segment_9 fuel, List.forall_mem_nil _⟩) run_spec_l15Segment
theorem oks_spec_l15First : ∀ en ∈ ens_spec_l15First, FnOk Go.Proofs.Try.prog en := List.forall_mem_cons.2 ⟨ok_spec_l15Segment, List.forall_mem_nil _⟩
theorem sane_spec_l15First : saneA fn_75.nt [.agg tEnd []] [.agg tSegment [9, 10]] = true := by kernel_rfl
theorem ok_spec_l15First : FnOk Go.Proofs.Try.prog en_spec_l15First := fn_ok tabOk eqOk oks_spec_l15First hmix is_75 sane_spec_l15First (List.forall_mem_nil _) run_spec_l15First
theorem oks_spec_EndConnect : ∀ en ∈ ens_spec_EndConnect, FnOk Go.Proofs.Try.prog en := List.forall_mem_cons.2 ⟨ok_spec_EndOk, List.forall_mem_cons.2 ⟨ok_spec_l1In, List.forall_mem_cons.2 ⟨ok_spec_l15Copy, List.forall_mem_cons.2 ⟨ok_spec_l15Arm, List.forall_mem_cons.2 ⟨ok_spec_l15First, List.forall_mem_nil _⟩⟩⟩⟩⟩
theorem sane_spec_EndConnect : saneA fn_57.nt [.agg tEnd [], .dat (.int .i64), .dat (.int .i64), .dat (.int .i64)] [.agg tEnd [], .own tSegment] = true := by kernel_rfl
theorem ok_spec_EndConnect : FnOk Go.Proofs.Try.prog en_spec_EndConnect := fn_ok tabOk eqOk oks_spec_EndConnect hmix is_57 sane_spec_EndConnect (List.forall_mem_nil _) run_spec_EndConnect
theorem oks_spec_MouthWrite : ∀ en ∈ ens_spec_MouthWrite, FnOk Go.Proofs.Try.prog en := List.forall_mem_cons.2 ⟨ok_spec_MouthOk, List.forall_mem_cons.2 ⟨ok_spec_l13Copy, List.forall_mem_nil _⟩⟩
theorem sane_spec_MouthWrite : saneA fn_76.nt [.agg tMouth [], .dat (.sl (.int .u8))] [.agg tMouth [1, 4], .dat (.int .i64)] = true := by kernel_rfl
theorem ok_spec_MouthWrite : FnOk Go.Proofs.Try.prog en_spec_MouthWrite := fn_ok tabOk eqOk oks_spec_MouthWrite hmix is_76 sane_spec_MouthWrite (List.forall_mem_nil _) run_spec_MouthWrite
theorem oks_spec_MouthNext : ∀ en ∈ ens_spec_MouthNext, FnOk Go.Proofs.Try.prog en := List.forall_mem_cons.2 ⟨ok_spec_l1In, List.forall_mem_cons.2 ⟨ok_spec_MouthOk, List.forall_mem_cons.2 ⟨ok_spec_l13Copy, List.forall_mem_nil _⟩⟩⟩
theorem sane_spec_MouthNext : saneA fn_96.nt [.agg tMouth [], .dat (.int .i64)] [.agg tMouth [1, 4], .dat (.int .i64), .own (.int .u8)] = true := by kernel_rfl
theorem ok_spec_MouthNext : FnOk Go.Proofs.Try.prog en_spec_MouthNext := fn_ok tabOk eqOk oks_spec_MouthNext hmix is_96 sane_spec_MouthNext (List.forall_mem_nil _) run_spec_MouthNext
theorem oks_spec_l15Bytes : ∀ en ∈ ens_spec_l15Bytes, FnOk Go.Proofs.Try.prog en := List.forall_mem_cons.2 ⟨ok_spec_l15Segment, List.forall_mem_cons.2 ⟨ok_spec_MouthNext, List.forall_mem_nil _⟩⟩
theorem sane_spec_l15Bytes : saneA fn_77.nt [.agg tEnd []] [.agg tEnd [], .own tSegment] = true := by kernel_rfl
theorem lab_spec_l15Bytes_2 : ∀ n : Nat, LabOk Go.Proofs.Try.prog 77 fn_77 [.agg tEnd []] [.agg tEnd [], .own tSegment] ⟨2, [.r, .r, .l, .l, .l, .l, .l], sl_spec_l15Bytes_2, L_spec_l15Bytes_2 n⟩
  | 0 => ⟨by kernel_rfl, fun _ _ _ _ _ _ _ _ _ h => by cases h⟩
  | n + 1 => by
    have ih := lab_spec_l15Bytes_2 n
    exact lab_run tabOk eqOk oks_spec_l15Bytes hmix is_77 sane_spec_l15Bytes (List.forall_mem_cons.2 ⟨ih, List.forall_mem_nil _⟩) (by kernel_rfl) (run_spec_l15Bytes_2 n)
theorem ok_spec_l15Bytes : FnOk Go.Proofs.Try.prog en_spec_l15Bytes := fn_ok tabOk eqOk oks_spec_l15Bytes hmix is_77 sane_spec_l15Bytes (List.forall_mem_cons.2 ⟨lab_spec_l15Bytes_2 fuel, List.forall_mem_nil _⟩) run_spec_l15Bytes
theorem oks_spec_EndWrite : ∀ en ∈ ens_spec_EndWrite, FnOk Go.Proofs.Try.prog en := List.forall_mem_cons.2 ⟨ok_spec_EndOk, List.forall_mem_cons.2 ⟨ok_spec_l1In, List.forall_mem_cons.2 ⟨ok_spec_l15Copy, List.forall_mem_cons.2 ⟨ok_spec_l15Arm, List.forall_mem_cons.2 ⟨ok_spec_MouthWrite, List.forall_mem_cons.2 ⟨ok_spec_l15Bytes, List.forall_mem_nil _⟩⟩⟩⟩⟩⟩
theorem sane_spec_EndWrite : saneA fn_58.nt [.agg tEnd [], .dat (.sl (.int .u8)), .dat (.int .i64)] [.agg tEnd [], .dat (.int .i64), .own tSegment] = true := by kernel_rfl
theorem ok_spec_EndWrite : FnOk Go.Proofs.Try.prog en_spec_EndWrite := fn_ok tabOk eqOk oks_spec_EndWrite hmix is_58 sane_spec_EndWrite (List.forall_mem_nil _) run_spec_EndWrite
theorem oks_spec_l20Rd_bytes : ∀ en ∈ ens_spec_l20Rd_bytes, FnOk Go.Proofs.Try.prog en := List.forall_mem_cons.2 ⟨ok_spec_l20Rd_pick, List.forall_mem_nil _⟩
theorem sane_spec_l20Rd_bytes : saneA fn_59.nt [.box ts_l20Rd [], .dat (.int .i64)] [.own (.int .u8)] = true := by kernel_rfl
theorem lab_spec_l20Rd_bytes_2 : ∀ n : Nat, LabOk Go.Proofs.Try.prog 59 fn_59 [.box ts_l20Rd [], .dat (.int .i64)] [.own (.int .u8)] ⟨2, [.r, .r, .l, .l, .l, .l, .l], sl_spec_l20Rd_bytes_2, L_spec_l20Rd_bytes_2 n⟩
  | 0 => ⟨by kernel_rfl, fun _ _ _ _ _ _ _ _ _ h => by cases h⟩
  | n + 1 => by
    have ih := lab_spec_l20Rd_bytes_2 n
    exact lab_run tabOk eqOk oks_spec_l20Rd_bytes hmix is_59 sane_spec_l20Rd_bytes (List.forall_mem_cons.2 ⟨ih, List.forall_mem_nil _⟩) (by kernel_rfl) (run_spec_l20Rd_bytes_2 n)
theorem ok_spec_l20Rd_bytes : FnOk Go.Proofs.Try.prog en_spec_l20Rd_bytes := fn_ok tabOk eqOk oks_spec_l20Rd_bytes hmix is_59 sane_spec_l20Rd_bytes (List.forall_mem_cons.2 ⟨lab_spec_l20Rd_bytes_2 fuel, List.forall_mem_nil _⟩) run_spec_l20Rd_bytes
theorem oks_spec_EarRead : ∀ en ∈ ens_spec_EarRead, FnOk Go.Proofs.Try.prog en := List.forall_mem_cons.2 ⟨ok_spec_EarOk, List.forall_mem_nil _⟩
theorem sane_spec_EarRead : saneA fn_78.nt [.agg tEar [], .dat (.int .i64)] [.agg tEar [2, 3], .own (.int .u8)] = true := by kernel_rfl
theorem ok_spec_EarRead : FnOk Go.Proofs.Try.prog en_spec_EarRead := fn_ok tabOk eqOk oks_spec_EarRead hmix is_78 sane_spec_EarRead (List.forall_mem_nil _) run_spec_EarRead
theorem oks_spec_l15Told : ∀ en ∈ ens_spec_l15Told, FnOk Go.Proofs.Try.prog en := List.forall_mem_nil _
theorem sane_spec_l15Told : saneA fn_81.nt [.agg tEnd []] [.dat (.int .i64)] = true := by kernel_rfl
theorem ok_spec_l15Told : FnOk Go.Proofs.Try.prog en_spec_l15Told := fn_ok tabOk eqOk oks_spec_l15Told hmix is_81 sane_spec_l15Told (List.forall_mem_nil _) run_spec_l15Told
theorem oks_spec_EndRead : ∀ en ∈ ens_spec_EndRead, FnOk Go.Proofs.Try.prog en := List.forall_mem_cons.2 ⟨ok_spec_EndOk, List.forall_mem_cons.2 ⟨ok_spec_l1In, List.forall_mem_cons.2 ⟨ok_spec_l15Copy, List.forall_mem_cons.2 ⟨ok_spec_EarRead, List.forall_mem_cons.2 ⟨ok_spec_EarFree, List.forall_mem_cons.2 ⟨ok_spec_l15Segment, List.forall_mem_cons.2 ⟨ok_spec_l15Told, List.forall_mem_nil _⟩⟩⟩⟩⟩⟩⟩
theorem sane_spec_EndRead : saneA fn_60.nt [.agg tEnd [], .dat (.int .i64), .dat (.int .i64)] [.agg tEnd [7, 10, 13, 14], .own (.int .u8), .own tSegment] = true := by kernel_rfl
theorem ok_spec_EndRead : FnOk Go.Proofs.Try.prog en_spec_EndRead := fn_ok tabOk eqOk oks_spec_EndRead hmix is_60 sane_spec_EndRead (List.forall_mem_nil _) run_spec_EndRead
theorem oks_spec_ClockLate : ∀ en ∈ ens_spec_ClockLate, FnOk Go.Proofs.Try.prog en := List.forall_mem_cons.2 ⟨ok_spec_ClockOk, List.forall_mem_nil _⟩
theorem sane_spec_ClockLate : saneA fn_82.nt [.agg tClock []] [.agg tClock []] = true := by kernel_rfl
theorem ok_spec_ClockLate : FnOk Go.Proofs.Try.prog en_spec_ClockLate := fn_ok tabOk eqOk oks_spec_ClockLate hmix is_82 sane_spec_ClockLate (List.forall_mem_nil _) run_spec_ClockLate
theorem oks_spec_MouthAgain : ∀ en ∈ ens_spec_MouthAgain, FnOk Go.Proofs.Try.prog en := List.forall_mem_cons.2 ⟨ok_spec_l1In, List.forall_mem_cons.2 ⟨ok_spec_MouthOk, List.forall_mem_nil _⟩⟩
theorem sane_spec_MouthAgain : saneA fn_83.nt [.agg tMouth [], .dat (.int .i64)] [.dat (.int .i64), .own (.int .u8)] = true := by kernel_rfl
theorem ok_spec_MouthAgain : FnOk Go.Proofs.Try.prog en_spec_MouthAgain := fn_ok tabOk eqOk oks_spec_MouthAgain hmix is_83 sane_spec_MouthAgain (List.forall_mem_nil _) run_spec_MouthAgain
theorem oks_spec_l15Last : ∀ en ∈ ens_spec_l15Last, FnOk Go.Proofs.Try.prog en := List.forall_mem_cons.2 ⟨ok_spec_l15Segment, List.forall_mem_nil _⟩
theorem sane_spec_l15Last : saneA fn_84.nt [.agg tEnd []] [.agg tSegment [9, 10]] = true := by kernel_rfl
theorem ok_spec_l15Last : FnOk Go.Proofs.Try.prog en_spec_l15Last := fn_ok tabOk eqOk oks_spec_l15Last hmix is_84 sane_spec_l15Last (List.forall_mem_nil _) run_spec_l15Last
theorem oks_spec_EndTick : ∀ en ∈ ens_spec_EndTick, FnOk Go.Proofs.Try.prog en := List.forall_mem_cons.2 ⟨ok_spec_EndOk, List.forall_mem_cons.2 ⟨ok_spec_l1In, List.forall_mem_cons.2 ⟨ok_spec_l15Copy, List.forall_mem_cons.2 ⟨ok_spec_l15First, List.forall_mem_cons.2 ⟨ok_spec_l15Segment, List.forall_mem_cons.2 ⟨ok_spec_ClockLate, List.forall_mem_cons.2 ⟨ok_spec_MouthAgain, List.forall_mem_cons.2 ⟨ok_spec_l15Last, List.forall_mem_nil _⟩⟩⟩⟩⟩⟩⟩⟩
theorem sane_spec_EndTick : saneA fn_61.nt [.agg tEnd [], .dat (.int .i64)] [.agg tEnd [7, 10, 13, 14], .own tSegment] = true := by kernel_rfl
theorem ok_spec_EndTick : FnOk Go.Proofs.Try.prog en_spec_EndTick := fn_ok tabOk eqOk oks_spec_EndTick hmix is_61 sane_spec_EndTick (List.forall_mem_nil _) run_spec_EndTick
theorem oks_spec_EndClose : ∀ en ∈ ens_spec_EndClose, FnOk Go.Proofs.Try.prog en := List.forall_mem_cons.2 ⟨ok_spec_EndOk, List.forall_mem_cons.2 ⟨ok_spec_l1In, List.forall_mem_cons.2 ⟨ok_spec_l15Copy, List.forall_mem_cons.2 ⟨ok_spec_l15Arm, List.forall_mem_cons.2 ⟨ok_spec_l15Last, List.forall_mem_nil _⟩⟩⟩⟩⟩
theorem sane_spec_EndClose : saneA fn_62.nt [.agg tEnd [], .dat (.int .i64)] [.agg tEnd [], .own tSegment] = true := by kernel_rfl
theorem ok_spec_EndClose : FnOk Go.Proofs.Try.prog en_spec_EndClose := fn_ok tabOk eqOk oks_spec_EndClose hmix is_62 sane_spec_EndClose (List.forall_mem_nil _) run_spec_EndClose
theorem oks_spec_SegmentOk : ∀ en ∈ ens_spec_SegmentOk, FnOk Go.Proofs.Try.prog en := List.forall_mem_cons.2 ⟨ok_spec_l1In, List.forall_mem_nil _⟩
theorem sane_spec_SegmentOk : saneA fn_85.nt [.agg tSegment []] [.dat .bool] = true := by kernel_rfl
theorem lab_spec_SegmentOk_4 : ∀ n : Nat, LabOk Go.Proofs.Try.prog 85 fn_85 [.agg tSegment []] [.dat .bool] ⟨4, [.r, .r, .l, .r, .l, .l, .l, .l], sl_spec_SegmentOk_4, L_spec_SegmentOk_4 n⟩
  | 0 => ⟨by kernel_rfl, fun _ _ _ _ _ _ _ _ _ h => by cases h⟩
  | n + 1 => by
    have ih := lab_spec_SegmentOk_4 n
    exact lab_run tabOk eqOk oks_spec_SegmentOk hmix is_85 sane_spec_SegmentOk (List.forall_mem_cons.2 ⟨ih, List.forall_mem_nil _⟩) (by kernel_rfl) (run_spec_SegmentOk_4 n)
theorem ok_spec_SegmentOk : FnOk Go.Proofs.Try.prog en_spec_SegmentOk := fn_ok tabOk eqOk oks_spec_SegmentOk hmix is_85 sane_spec_SegmentOk (List.forall_mem_cons.2 ⟨lab_spec_SegmentOk_4 fuel, List.forall_mem_nil _⟩) run_spec_SegmentOk
theorem oks_spec_l15Flush : ∀ en ∈ ens_spec_l15Flush, FnOk Go.Proofs.Try.prog en := List.forall_mem_cons.2 ⟨ok_spec_l15Bytes, List.forall_mem_cons.2 ⟨ok_spec_l15Last, List.forall_mem_nil _⟩⟩
theorem sane_spec_l15Flush : saneA fn_88.nt [.agg tEnd []] [.agg tEnd [], .own tSegment] = true := by kernel_rfl
theorem ok_spec_l15Flush : FnOk Go.Proofs.Try.prog en_spec_l15Flush := fn_ok tabOk eqOk oks_spec_l15Flush hmix is_88 sane_spec_l15Flush (List.forall_mem_nil _) run_spec_l15Flush
theorem oks_spec_SeqPlace : ∀ en ∈ ens_spec_SeqPlace, FnOk Go.Proofs.Try.prog en := List.forall_mem_cons.2 ⟨ok_spec_l1In, List.forall_mem_cons.2 ⟨ok_spec_SeqOf, List.forall_mem_nil _⟩⟩
theorem sane_spec_SeqPlace : saneA fn_98.nt [.dat (.int .i64), .dat (.int .i64)] [.dat (.int .i64)] = true := by kernel_rfl
theorem ok_spec_SeqPlace : FnOk Go.Proofs.Try.prog en_spec_SeqPlace := fn_ok tabOk eqOk oks_spec_SeqPlace hmix is_98 sane_spec_SeqPlace (List.forall_mem_nil _) run_spec_SeqPlace
theorem oks_spec_MouthHear : ∀ en ∈ ens_spec_MouthHear, FnOk Go.Proofs.Try.prog en := List.forall_mem_cons.2 ⟨ok_spec_l1In, List.forall_mem_cons.2 ⟨ok_spec_MouthOk, List.forall_mem_cons.2 ⟨ok_spec_l13Copy, List.forall_mem_nil _⟩⟩⟩
theorem sane_spec_MouthHear : saneA fn_99.nt [.agg tMouth [], .dat (.int .i64), .dat (.int .i64), .dat (.sl tRange)] [.agg tMouth [1, 4], .dat (.int .i64)] = true := by kernel_rfl
theorem lab_spec_MouthHear_13 : ∀ n : Nat, LabOk Go.Proofs.Try.prog 99 fn_99 [.agg tMouth [], .dat (.int .i64), .dat (.int .i64), .dat (.sl tRange)] [.agg tMouth [1, 4], .dat (.int .i64)] ⟨13, [.r, .r, .r, .r, .r, .r, .r, .r, .r, .r, .l, .r, .l, .l, .l, .l], sl_spec_MouthHear_13, L_spec_MouthHear_13 n⟩
  | 0 => ⟨by kernel_rfl, fun _ _ _ _ _ _ _ _ _ h => by cases h⟩
  | n + 1 => by
    have ih := lab_spec_MouthHear_13 n
    exact lab_run tabOk eqOk oks_spec_MouthHear hmix is_99 sane_spec_MouthHear (List.forall_mem_cons.2 ⟨ih, List.forall_mem_nil _⟩) (by kernel_rfl) (run_spec_MouthHear_13 n)
theorem ok_spec_MouthHear : FnOk Go.Proofs.Try.prog en_spec_MouthHear := fn_ok tabOk eqOk oks_spec_MouthHear hmix is_99 sane_spec_MouthHear (List.forall_mem_cons.2 ⟨lab_spec_MouthHear_13 fuel, List.forall_mem_nil _⟩) run_spec_MouthHear
theorem oks_spec_l15Took : ∀ en ∈ ens_spec_l15Took, FnOk Go.Proofs.Try.prog en := List.forall_mem_cons.2 ⟨ok_spec_MouthOk, List.forall_mem_cons.2 ⟨ok_spec_SeqPlace, List.forall_mem_cons.2 ⟨ok_spec_MouthHear, List.forall_mem_nil _⟩⟩⟩
theorem sane_spec_l15Took : saneA fn_89.nt [.agg tEnd [], .agg tSegment []] [.agg tEnd [], .dat .bool] = true := by kernel_rfl
theorem lab_spec_l15Took_10 : ∀ n : Nat, LabOk Go.Proofs.Try.prog 89 fn_89 [.agg tEnd [], .agg tSegment []] [.agg tEnd [], .dat .bool] ⟨10, [.r, .r, .r, .r, .r, .r, .l, .r, .l, .l, .l, .l], sl_spec_l15Took_10, L_spec_l15Took_10 n⟩
  | 0 => ⟨by kernel_rfl, fun _ _ _ _ _ _ _ _ _ h => by cases h⟩
  | n + 1 => by
    have ih := lab_spec_l15Took_10 n
    exact lab_run tabOk eqOk oks_spec_l15Took hmix is_89 sane_spec_l15Took (List.forall_mem_cons.2 ⟨ih, List.forall_mem_nil _⟩) (by kernel_rfl) (run_spec_l15Took_10 n)
theorem ok_spec_l15Took : FnOk Go.Proofs.Try.prog en_spec_l15Took := fn_ok tabOk eqOk oks_spec_l15Took hmix is_89 sane_spec_l15Took (List.forall_mem_cons.2 ⟨lab_spec_l15Took_10 fuel, List.forall_mem_nil _⟩) run_spec_l15Took
theorem oks_spec_l12Put : ∀ en ∈ ens_spec_l12Put, FnOk Go.Proofs.Try.prog en := List.forall_mem_nil _
theorem sane_spec_l12Put : saneA fn_101.nt [.dat (.sl tEarly), .agg tEarly []] [.own tEarly] = true := by kernel_rfl
theorem lab_spec_l12Put_4 : ∀ n : Nat, LabOk Go.Proofs.Try.prog 101 fn_101 [.dat (.sl tEarly), .agg tEarly []] [.own tEarly] ⟨4, [.r, .r, .r, .l, .r, .l, .l, .l, .l], sl_spec_l12Put_4, L_spec_l12Put_4 n⟩
  | 0 => ⟨by kernel_rfl, fun _ _ _ _ _ _ _ _ _ h => by cases h⟩
  | n + 1 => by
    have ih := lab_spec_l12Put_4 n
    exact lab_run tabOk eqOk oks_spec_l12Put hmix is_101 sane_spec_l12Put (List.forall_mem_cons.2 ⟨ih, List.forall_mem_nil _⟩) (by kernel_rfl) (run_spec_l12Put_4 n)
theorem ok_spec_l12Put : FnOk Go.Proofs.Try.prog en_spec_l12Put := fn_ok tabOk eqOk oks_spec_l12Put hmix is_101 sane_spec_l12Put (List.forall_mem_cons.2 ⟨lab_spec_l12Put_4 fuel, List.forall_mem_nil _⟩) run_spec_l12Put
theorem oks_spec_EarHear : ∀ en ∈ ens_spec_EarHear, FnOk Go.Proofs.Try.prog en := List.forall_mem_cons.2 ⟨ok_spec_l1In, List.forall_mem_cons.2 ⟨ok_spec_EarOk, List.forall_mem_cons.2 ⟨ok_spec_EarFree, List.forall_mem_cons.2 ⟨ok_spec_l12Put, List.forall_mem_nil _⟩⟩⟩⟩
theorem sane_spec_EarHear : saneA fn_100.nt [.agg tEar [], .dat (.int .i64), .dat (.sl (.int .u8))] [.agg tEar [2, 3]] = true := by kernel_rfl
theorem lab_spec_EarHear_12 : ∀ n : Nat, LabOk Go.Proofs.Try.prog 100 fn_100 [.agg tEar [], .dat (.int .i64), .dat (.sl (.int .u8))] [.agg tEar [2, 3]] ⟨12, [.r, .r, .r, .r, .r, .r, .r, .l, .l, .l, .l, .l], sl_spec_EarHear_12, L_spec_EarHear_12 n⟩
  | 0 => ⟨by kernel_rfl, fun _ _ _ _ _ _ _ _ _ h => by cases h⟩
  | n + 1 => by
    have ih := lab_spec_EarHear_12 n
    exact lab_run tabOk eqOk oks_spec_EarHear hmix is_100 sane_spec_EarHear (List.forall_mem_cons.2 ⟨ih, List.forall_mem_nil _⟩) (by kernel_rfl) (run_spec_EarHear_12 n)
theorem lab_spec_EarHear_6 : ∀ n : Nat, LabOk Go.Proofs.Try.prog 100 fn_100 [.agg tEar [], .dat (.int .i64), .dat (.sl (.int .u8))] [.agg tEar [2, 3]] ⟨6, [.r, .r, .r, .r, .l, .r, .l, .l, .l, .l], sl_spec_EarHear_6, L_spec_EarHear_6 n⟩
  | 0 => ⟨by kernel_rfl, fun _ _ _ _ _ _ _ _ _ h => by cases h⟩
  | n + 1 => by
    have ih := lab_spec_EarHear_6 n
    exact lab_run tabOk eqOk oks_spec_EarHear hmix is_100 sane_spec_EarHear (List.forall_mem_cons.2 ⟨ih, List.forall_mem_cons.2 ⟨lab_spec_EarHear_12 fuel, List.forall_mem_nil _⟩⟩) (by kernel_rfl) (run_spec_EarHear_6 n)
theorem ok_spec_EarHear : FnOk Go.Proofs.Try.prog en_spec_EarHear := fn_ok tabOk eqOk oks_spec_EarHear hmix is_100 sane_spec_EarHear (List.forall_mem_cons.2 ⟨lab_spec_EarHear_6 fuel, List.forall_mem_nil _⟩) run_spec_EarHear
theorem oks_spec_l15Heard : ∀ en ∈ ens_spec_l15Heard, FnOk Go.Proofs.Try.prog en := List.forall_mem_cons.2 ⟨ok_spec_EarOk, List.forall_mem_cons.2 ⟨ok_spec_EarFree, List.forall_mem_cons.2 ⟨ok_spec_SeqPlace, List.forall_mem_cons.2 ⟨ok_spec_EarHear, List.forall_mem_nil _⟩⟩⟩⟩
theorem sane_spec_l15Heard : saneA fn_90.nt [.agg tEnd [], .agg tSegment []] [.agg tEnd []] = true := by kernel_rfl
theorem ok_spec_l15Heard : FnOk Go.Proofs.Try.prog en_spec_l15Heard := fn_ok tabOk eqOk oks_spec_l15Heard hmix is_90 sane_spec_l15Heard (List.forall_mem_nil _) run_spec_l15Heard
theorem oks_spec_SegmentLong : ∀ en ∈ ens_spec_SegmentLong, FnOk Go.Proofs.Try.prog en := List.forall_mem_nil _
theorem sane_spec_SegmentLong : saneA fn_91.nt [.agg tSegment []] [.dat (.int .i64)] = true := by kernel_rfl
theorem ok_spec_SegmentLong : FnOk Go.Proofs.Try.prog en_spec_SegmentLong := fn_ok tabOk eqOk oks_spec_SegmentLong hmix is_91 sane_spec_SegmentLong (List.forall_mem_nil _) run_spec_SegmentLong
theorem oks_spec_SeqLess : ∀ en ∈ ens_spec_SeqLess, FnOk Go.Proofs.Try.prog en := List.forall_mem_cons.2 ⟨ok_spec_SeqOf, List.forall_mem_nil _⟩
theorem sane_spec_SeqLess : saneA fn_92.nt [.dat (.int .i64), .dat (.int .i64)] [.dat .bool] = true := by kernel_rfl
theorem ok_spec_SeqLess : FnOk Go.Proofs.Try.prog en_spec_SeqLess := fn_ok tabOk eqOk oks_spec_SeqLess hmix is_92 sane_spec_SeqLess (List.forall_mem_nil _) run_spec_SeqLess
theorem oks_spec_EndHear : ∀ en ∈ ens_spec_EndHear, FnOk Go.Proofs.Try.prog en := List.forall_mem_cons.2 ⟨ok_spec_EndOk, List.forall_mem_cons.2 ⟨ok_spec_l1In, List.forall_mem_cons.2 ⟨ok_spec_l15Copy, List.forall_mem_cons.2 ⟨ok_spec_l15Arm, List.forall_mem_cons.2 ⟨ok_spec_l15First, List.forall_mem_cons.2 ⟨ok_spec_l15Segment, List.forall_mem_cons.2 ⟨ok_spec_l15Told, List.forall_mem_cons.2 ⟨ok_spec_SegmentOk, List.forall_mem_cons.2 ⟨ok_spec_SeqOf, List.forall_mem_cons.2 ⟨ok_spec_l15Wait, List.forall_mem_cons.2 ⟨ok_spec_l15Flush, List.forall_mem_cons.2 ⟨ok_spec_l15Took, List.forall_mem_cons.2 ⟨ok_spec_l15Heard, List.forall_mem_cons.2 ⟨ok_spec_SegmentLong, List.forall_mem_cons.2 ⟨ok_spec_SeqLess, List.forall_mem_nil _⟩⟩⟩⟩⟩⟩⟩⟩⟩⟩⟩⟩⟩⟩⟩
theorem sane_spec_EndHear : saneA fn_63.nt [.agg tEnd [], .dat (.int .i64), .agg tSegment [], .dat (.int .i64)] [.agg tEnd [], .own tSegment] = true := by kernel_rfl
theorem lab_spec_EndHear_12 : LabOk Go.Proofs.Try.prog 63 fn_63 [.agg tEnd [], .dat (.int .i64), .agg tSegment [], .dat (.int .i64)] [.agg tEnd [], .own tSegment] ⟨12, [.r, .r, .r, .r, .r, .r, .l, .l, .r, .l, .r, .l], sl_spec_EndHear_12, L_spec_EndHear_12⟩ := lab_run tabOk eqOk oks_spec_EndHear hmix is_63 sane_spec_EndHear (List.forall_mem_nil _) (by kernel_rfl) (run_spec_EndHear_12)
theorem lab_spec_EndHear_50 : LabOk Go.Proofs.Try.prog 63 fn_63 [.agg tEnd [], .dat (.int .i64), .agg tSegment [], .dat (.int .i64)] [.agg tEnd [], .own tSegment] ⟨50, [.r, .r, .r, .r, .r, .r, .r, .r, .r, .r, .r, .r, .r, .l], sl_spec_EndHear_50, L_spec_EndHear_50⟩ := lab_run tabOk eqOk oks_spec_EndHear hmix is_63 sane_spec_EndHear (List.forall_mem_nil _) (by kernel_rfl) (run_spec_EndHear_50)
theorem lab_spec_EndHear_46 : LabOk Go.Proofs.Try.prog 63 fn_63 [.agg tEnd [], .dat (.int .i64), .agg tSegment [], .dat (.int .i64)] [.agg tEnd [], .own tSegment] ⟨46, [.r, .r, .r, .r, .r, .r, .r, .r, .r, .r, .l], sl_spec_EndHear_46, L_spec_EndHear_46⟩ := lab_run tabOk eqOk oks_spec_EndHear hmix is_63 sane_spec_EndHear (List.forall_mem_cons.2 ⟨lab_spec_EndHear_50, List.forall_mem_nil _⟩) (by kernel_rfl) (run_spec_EndHear_46)
theorem ok_spec_EndHear : FnOk Go.Proofs.Try.prog en_spec_EndHear := fn_ok tabOk eqOk oks_spec_EndHear hmix is_63 sane_spec_EndHear (List.forall_mem_cons.2 ⟨lab_spec_EndHear_12, List.forall_mem_cons.2 ⟨lab_spec_EndHear_46, List.forall_mem_nil _⟩⟩) run_spec_EndHear
theorem oks_spec_l20Ends : ∀ en ∈ ens_spec_l20Ends, FnOk Go.Proofs.Try.prog en := List.forall_mem_cons.2 ⟨ok_spec_l20Rd_pick, List.forall_mem_cons.2 ⟨ok_spec_EndNew, List.forall_mem_cons.2 ⟨ok_spec_EndListen, List.forall_mem_cons.2 ⟨ok_spec_EndConnect, List.forall_mem_cons.2 ⟨ok_spec_EndWrite, List.forall_mem_cons.2 ⟨ok_spec_l20Rd_bytes, List.forall_mem_cons.2 ⟨ok_spec_EndRead, List.forall_mem_cons.2 ⟨ok_spec_EndTick, List.forall_mem_cons.2 ⟨ok_spec_EndClose, List.forall_mem_cons.2 ⟨ok_spec_EndHear, List.forall_mem_nil _⟩⟩⟩⟩⟩⟩⟩⟩⟩⟩
theorem sane_spec_l20Ends : saneA fn_36.nt [.box ts_l20Rd []] [.agg tEnd [], .agg tEnd [], .own tSegment, .own tSegment] = true := by kernel_rfl
theorem lab_spec_l20Ends_10 : ∀ n : Nat, LabOk Go.Proofs.Try.prog 36 fn_36 [.box ts_l20Rd []] [.agg tEnd [], .agg tEnd [], .own tSegment, .own tSegment] ⟨10, [.r, .r, .r, .r, .r, .r, .r, .r, .r, .l, .r, .l, .l, .l, .l], sl_spec_l20Ends_10, L_spec_l20Ends_10 n⟩
  | 0 => ⟨by kernel_rfl, fun _ _ _ _ _ _ _ _ _ h => by cases h⟩
  | n + 1 => by
    have ih := lab_spec_l20Ends_10 n
    exact lab_run tabOk eqOk oks_spec_l20Ends hmix is_36 sane_spec_l20Ends (List.forall_mem_cons.2 ⟨ih, List.forall_mem_nil _⟩) (by kernel_rfl) (run_spec_l20Ends_10 n)
theorem ok_spec_l20Ends : FnOk Go.Proofs.Try.prog en_spec_l20Ends := fn_ok tabOk eqOk oks_spec_l20Ends hmix is_36 sane_spec_l20Ends (List.forall_mem_cons.2 ⟨lab_spec_l20Ends_10 fuel, List.forall_mem_nil _⟩) run_spec_l20Ends
theorem oks_spec_l20Rd_odd : ∀ en ∈ ens_spec_l20Rd_odd, FnOk Go.Proofs.Try.prog en := List.forall_mem_cons.2 ⟨ok_spec_l20Rd_pick, List.forall_mem_nil _⟩
theorem sane_spec_l20Rd_odd : saneA fn_38.nt [.box ts_l20Rd [], .dat (.int .i64)] [.dat .bool] = true := by kernel_rfl
theorem ok_spec_l20Rd_odd : FnOk Go.Proofs.Try.prog en_spec_l20Rd_odd := fn_ok tabOk eqOk oks_spec_l20Rd_odd hmix is_38 sane_spec_l20Rd_odd (List.forall_mem_nil _) run_spec_l20Rd_odd
theorem oks_spec_l20End : ∀ en ∈ ens_spec_l20End, FnOk Go.Proofs.Try.prog en := List.forall_mem_cons.2 ⟨ok_spec_l20Ends, List.forall_mem_cons.2 ⟨ok_spec_l20Rd_pick, List.forall_mem_cons.2 ⟨ok_spec_l20Rd_odd, List.forall_mem_nil _⟩⟩⟩
theorem sane_spec_l20End : saneA fn_12.nt [.box ts_l20Rd [], .dat (.int .i64)] [.agg tEnd []] = true := by kernel_rfl
theorem ok_spec_l20End : FnOk Go.Proofs.Try.prog en_spec_l20End := fn_ok tabOk eqOk oks_spec_l20End hmix is_12 sane_spec_l20End (List.forall_mem_nil _) run_spec_l20End
theorem oks_spec_l20Open : ∀ en ∈ ens_spec_l20Open, FnOk Go.Proofs.Try.prog en := List.forall_mem_nil _
theorem sane_spec_l20Open : saneA fn_13.nt [.dat (.sl (.int .u8))] [.box ts_l20Rd []] = true := by kernel_rfl
theorem ok_spec_l20Open : FnOk Go.Proofs.Try.prog en_spec_l20Open := fn_ok tabOk eqOk oks_spec_l20Open hmix is_13 sane_spec_l20Open (List.forall_mem_nil _) run_spec_l20Open
theorem oks_spec_DrawReadyOf : ∀ en ∈ ens_spec_DrawReadyOf, FnOk Go.Proofs.Try.prog en := List.forall_mem_cons.2 ⟨ok_spec_l20End, List.forall_mem_cons.2 ⟨ok_spec_l20Open, List.forall_mem_nil _⟩⟩
theorem sane_spec_DrawReadyOf : saneA fn_4.nt [.dat (.sl (.int .u8))] [.agg tEnd []] = true := by kernel_rfl
theorem ok_spec_DrawReadyOf : FnOk Go.Proofs.Try.prog en_spec_DrawReadyOf := fn_ok tabOk eqOk oks_spec_DrawReadyOf hmix is_4 sane_spec_DrawReadyOf (List.forall_mem_nil _) run_spec_DrawReadyOf
theorem oks_impl_in : ∀ en ∈ ens_impl_in, FnOk Go.Proofs.Try.prog en := List.forall_mem_nil _
theorem sane_impl_in : saneA fn_18.nt [.dat (.int .i64), .dat (.int .i64), .dat (.int .i64)] [.dat .bool] = true := by kernel_rfl
theorem ok_impl_in : FnOk Go.Proofs.Try.prog en_impl_in := fn_ok tabOk eqOk oks_impl_in hmix is_18 sane_impl_in (List.forall_mem_nil _) run_impl_in
theorem oks_impl_word : ∀ en ∈ ens_impl_word, FnOk Go.Proofs.Try.prog en := List.forall_mem_cons.2 ⟨ok_impl_in, List.forall_mem_nil _⟩
theorem sane_impl_word : saneA fn_19.nt [.dat (.int .i64)] [.dat .bool] = true := by kernel_rfl
theorem ok_impl_word : FnOk Go.Proofs.Try.prog en_impl_word := fn_ok tabOk eqOk oks_impl_word hmix is_19 sane_impl_word (List.forall_mem_nil _) run_impl_word
theorem oks_impl_portOk : ∀ en ∈ ens_impl_portOk, FnOk Go.Proofs.Try.prog en := List.forall_mem_cons.2 ⟨ok_impl_in, List.forall_mem_nil _⟩
theorem sane_impl_portOk : saneA fn_20.nt [.dat (.int .i64)] [.dat .bool] = true := by kernel_rfl
theorem ok_impl_portOk : FnOk Go.Proofs.Try.prog en_impl_portOk := fn_ok tabOk eqOk oks_impl_portOk hmix is_20 sane_impl_portOk (List.forall_mem_nil _) run_impl_portOk
theorem oks_slices_Equal_impl_Range_impl_Range : ∀ en ∈ ens_slices_Equal_impl_Range_impl_Range, FnOk Go.Proofs.Try.prog en := List.forall_mem_nil _
theorem sane_slices_Equal_impl_Range_impl_Range : saneA fn_44.nt [.dat (.sl tRange), .dat (.sl tRange)] [.dat .bool] = true := by kernel_rfl
theorem lab_slices_Equal_impl_Range_impl_Range_4 : ∀ n : Nat, LabOk Go.Proofs.Try.prog 44 fn_44 [.dat (.sl tRange), .dat (.sl tRange)] [.dat .bool] ⟨4, [.r, .r, .l, .r, .l, .l, .l], sl_slices_Equal_impl_Range_impl_Range_4, L_slices_Equal_impl_Range_impl_Range_4 n⟩
  | 0 => ⟨by kernel_rfl, fun _ _ _ _ _ _ _ _ _ h => by cases h⟩
  | n + 1 => by
    have ih := lab_slices_Equal_impl_Range_impl_Range_4 n
    exact lab_run tabOk eqOk oks_slices_Equal_impl_Range_impl_Range hmix is_44 sane_slices_Equal_impl_Range_impl_Range (List.forall_mem_cons.2 ⟨ih, List.forall_mem_nil _⟩) (by kernel_rfl) (run_slices_Equal_impl_Range_impl_Range_4 n)
theorem ok_slices_Equal_impl_Range_impl_Range : FnOk Go.Proofs.Try.prog en_slices_Equal_impl_Range_impl_Range := fn_ok tabOk eqOk oks_slices_Equal_impl_Range_impl_Range hmix is_44 sane_slices_Equal_impl_Range_impl_Range (List.forall_mem_cons.2 ⟨lab_slices_Equal_impl_Range_impl_Range_4 fuel, List.forall_mem_nil _⟩) run_slices_Equal_impl_Range_impl_Range
theorem oks_slices_Clip_impl_Range_impl_Range : ∀ en ∈ ens_slices_Clip_impl_Range_impl_Range, FnOk Go.Proofs.Try.prog en := List.forall_mem_nil _
theorem sane_slices_Clip_impl_Range_impl_Range : saneA fn_93.nt [.dat (.sl tRange)] [.dat (.sl tRange)] = true := by kernel_rfl
theorem ok_slices_Clip_impl_Range_impl_Range : FnOk Go.Proofs.Try.prog en_slices_Clip_impl_Range_impl_Range := fn_ok tabOk eqOk oks_slices_Clip_impl_Range_impl_Range hmix is_93 sane_slices_Clip_impl_Range_impl_Range (List.forall_mem_nil _) run_slices_Clip_impl_Range_impl_Range
theorem oks_impl_clone_impl_Range : ∀ en ∈ ens_impl_clone_impl_Range, FnOk Go.Proofs.Try.prog en := List.forall_mem_cons.2 ⟨ok_slices_Clip_impl_Range_impl_Range, List.forall_mem_nil _⟩
theorem sane_impl_clone_impl_Range : saneA fn_64.nt [.dat (.sl tRange)] [.dat (.sl tRange)] = true := by kernel_rfl
theorem ok_impl_clone_impl_Range : FnOk Go.Proofs.Try.prog en_impl_clone_impl_Range := fn_ok tabOk eqOk oks_impl_clone_impl_Range hmix is_64 sane_impl_clone_impl_Range (List.forall_mem_nil _) run_impl_clone_impl_Range
theorem oks_impl_rangesOk : ∀ en ∈ ens_impl_rangesOk, FnOk Go.Proofs.Try.prog en := List.forall_mem_cons.2 ⟨ok_impl_clone_impl_Range, List.forall_mem_nil _⟩
theorem sane_impl_rangesOk : saneA fn_45.nt [.dat (.sl tRange), .dat (.int .i64), .dat (.int .i64)] [.dat (.sl tRange)] = true := by kernel_rfl
theorem lab_impl_rangesOk_4 : ∀ n : Nat, LabOk Go.Proofs.Try.prog 45 fn_45 [.dat (.sl tRange), .dat (.int .i64), .dat (.int .i64)] [.dat (.sl tRange)] ⟨4, [.r, .r, .r, .l, .r, .l, .l, .l], sl_impl_rangesOk_4, L_impl_rangesOk_4 n⟩
  | 0 => ⟨by kernel_rfl, fun _ _ _ _ _ _ _ _ _ h => by cases h⟩
  | n + 1 => by
    have ih := lab_impl_rangesOk_4 n
    exact lab_run tabOk eqOk oks_impl_rangesOk hmix is_45 sane_impl_rangesOk (List.forall_mem_cons.2 ⟨ih, List.forall_mem_nil _⟩) (by kernel_rfl) (run_impl_rangesOk_4 n)
theorem ok_impl_rangesOk : FnOk Go.Proofs.Try.prog en_impl_rangesOk := fn_ok tabOk eqOk oks_impl_rangesOk hmix is_45 sane_impl_rangesOk (List.forall_mem_cons.2 ⟨lab_impl_rangesOk_4 fuel, List.forall_mem_nil _⟩) run_impl_rangesOk
theorem oks_impl_MouthOk : ∀ en ∈ ens_impl_MouthOk, FnOk Go.Proofs.Try.prog en := List.forall_mem_cons.2 ⟨ok_impl_in, List.forall_mem_cons.2 ⟨ok_slices_Equal_impl_Range_impl_Range, List.forall_mem_cons.2 ⟨ok_impl_rangesOk, List.forall_mem_nil _⟩⟩⟩
theorem sane_impl_MouthOk : saneA fn_21.nt [.agg tMouth []] [.dat .bool] = true := by kernel_rfl
theorem ok_impl_MouthOk : FnOk Go.Proofs.Try.prog en_impl_MouthOk := fn_ok tabOk eqOk oks_impl_MouthOk hmix is_21 sane_impl_MouthOk (List.forall_mem_nil _) run_impl_MouthOk
theorem oks_impl_Ear_free : ∀ en ∈ ens_impl_Ear_free, FnOk Go.Proofs.Try.prog en := List.forall_mem_nil _
theorem sane_impl_Ear_free : saneA fn_30.nt [.agg tEar []] [.dat (.int .i64)] = true := by kernel_rfl
theorem ok_impl_Ear_free : FnOk Go.Proofs.Try.prog en_impl_Ear_free := fn_ok tabOk eqOk oks_impl_Ear_free hmix is_30 sane_impl_Ear_free (List.forall_mem_nil _) run_impl_Ear_free
theorem oks_impl_EarOk : ∀ en ∈ ens_impl_EarOk, FnOk Go.Proofs.Try.prog en := List.forall_mem_cons.2 ⟨ok_impl_in, List.forall_mem_cons.2 ⟨ok_impl_Ear_free, List.forall_mem_nil _⟩⟩
theorem sane_impl_EarOk : saneA fn_22.nt [.agg tEar []] [.dat .bool] = true := by kernel_rfl
theorem lab_impl_EarOk_4 : ∀ n : Nat, LabOk Go.Proofs.Try.prog 22 fn_22 [.agg tEar []] [.dat .bool] ⟨4, [.r, .r, .l, .r, .l, .l, .l], sl_impl_EarOk_4, L_impl_EarOk_4 n⟩
  | 0 => ⟨by kernel_rfl, fun _ _ _ _ _ _ _ _ _ h => by cases h⟩
  | n + 1 => by
    have ih := lab_impl_EarOk_4 n
    exact lab_run tabOk eqOk oks_impl_EarOk hmix is_22 sane_impl_EarOk (List.forall_mem_cons.2 ⟨ih, List.forall_mem_nil _⟩) (by kernel_rfl) (run_impl_EarOk_4 n)
theorem ok_impl_EarOk : FnOk Go.Proofs.Try.prog en_impl_EarOk := fn_ok tabOk eqOk oks_impl_EarOk hmix is_22 sane_impl_EarOk (List.forall_mem_cons.2 ⟨lab_impl_EarOk_4 fuel, List.forall_mem_nil _⟩) run_impl_EarOk
theorem oks_impl_ClockOk : ∀ en ∈ ens_impl_ClockOk, FnOk Go.Proofs.Try.prog en := List.forall_mem_cons.2 ⟨ok_impl_in, List.forall_mem_nil _⟩
theorem sane_impl_ClockOk : saneA fn_23.nt [.agg tClock []] [.dat .bool] = true := by kernel_rfl
theorem ok_impl_ClockOk : FnOk Go.Proofs.Try.prog en_impl_ClockOk := fn_ok tabOk eqOk oks_impl_ClockOk hmix is_23 sane_impl_ClockOk (List.forall_mem_nil _) run_impl_ClockOk
theorem oks_impl_End_lastOk : ∀ en ∈ ens_impl_End_lastOk, FnOk Go.Proofs.Try.prog en := List.forall_mem_cons.2 ⟨ok_impl_in, List.forall_mem_nil _⟩
theorem sane_impl_End_lastOk : saneA fn_24.nt [.agg tEnd []] [.dat .bool] = true := by kernel_rfl
theorem lab_impl_End_lastOk_6 : ∀ n : Nat, LabOk Go.Proofs.Try.prog 24 fn_24 [.agg tEnd []] [.dat .bool] ⟨6, [.r, .r, .r, .l, .r, .l, .l, .l], sl_impl_End_lastOk_6, L_impl_End_lastOk_6 n⟩
  | 0 => ⟨by kernel_rfl, fun _ _ _ _ _ _ _ _ _ h => by cases h⟩
  | n + 1 => by
    have ih := lab_impl_End_lastOk_6 n
    exact lab_run tabOk eqOk oks_impl_End_lastOk hmix is_24 sane_impl_End_lastOk (List.forall_mem_cons.2 ⟨ih, List.forall_mem_nil _⟩) (by kernel_rfl) (run_impl_End_lastOk_6 n)
theorem ok_impl_End_lastOk : FnOk Go.Proofs.Try.prog en_impl_End_lastOk := fn_ok tabOk eqOk oks_impl_End_lastOk hmix is_24 sane_impl_End_lastOk (List.forall_mem_cons.2 ⟨lab_impl_End_lastOk_6 fuel, List.forall_mem_nil _⟩) run_impl_End_lastOk
theorem oks_impl_End_goes : ∀ en ∈ ens_impl_End_goes, FnOk Go.Proofs.Try.prog en := List.forall_mem_nil _
theorem sane_impl_End_goes : saneA fn_25.nt [.agg tEnd []] [.dat .bool] = true := by kernel_rfl
theorem ok_impl_End_goes : FnOk Go.Proofs.Try.prog en_impl_End_goes := fn_ok tabOk eqOk oks_impl_End_goes hmix is_25 sane_impl_End_goes (List.forall_mem_nil _) run_impl_End_goes
theorem oks_impl_EndOk : ∀ en ∈ ens_impl_EndOk, FnOk Go.Proofs.Try.prog en := List.forall_mem_cons.2 ⟨ok_impl_in, List.forall_mem_cons.2 ⟨ok_impl_word, List.forall_mem_cons.2 ⟨ok_impl_portOk, List.forall_mem_cons.2 ⟨ok_impl_MouthOk, List.forall_mem_cons.2 ⟨ok_impl_EarOk, List.forall_mem_cons.2 ⟨ok_impl_ClockOk, List.forall_mem_cons.2 ⟨ok_impl_End_lastOk, List.forall_mem_cons.2 ⟨ok_impl_End_goes, List.forall_mem_nil _⟩⟩⟩⟩⟩⟩⟩⟩
theorem sane_impl_EndOk : saneA fn_7.nt [.agg tEnd []] [.dat .bool] = true := by kernel_rfl
theorem ok_impl_EndOk : FnOk Go.Proofs.Try.prog en_impl_EndOk := fn_ok tabOk eqOk oks_impl_EndOk hmix is_7 sane_impl_EndOk (List.forall_mem_nil _) run_impl_EndOk
theorem oks_impl_bit : ∀ en ∈ ens_impl_bit, FnOk Go.Proofs.Try.prog en := List.forall_mem_nil _
theorem sane_impl_bit : saneA fn_14.nt [.dat .bool, .dat (.int .i64)] [.dat (.int .i64)] = true := by kernel_rfl
theorem ok_impl_bit : FnOk Go.Proofs.Try.prog en_impl_bit := fn_ok tabOk eqOk oks_impl_bit hmix is_14 sane_impl_bit (List.forall_mem_nil _) run_impl_bit
theorem oks_impl_End_over : ∀ en ∈ ens_impl_End_over, FnOk Go.Proofs.Try.prog en := List.forall_mem_nil _
theorem sane_impl_End_over : saneA fn_15.nt [.agg tEnd []] [.dat .bool] = true := by kernel_rfl
theorem ok_impl_End_over : FnOk Go.Proofs.Try.prog en_impl_End_over := fn_ok tabOk eqOk oks_impl_End_over hmix is_15 sane_impl_End_over (List.forall_mem_nil _) run_impl_End_over
theorem oks_impl_ReadyOf : ∀ en ∈ ens_impl_ReadyOf, FnOk Go.Proofs.Try.prog en := List.forall_mem_cons.2 ⟨ok_impl_EndOk, List.forall_mem_cons.2 ⟨ok_impl_bit, List.forall_mem_cons.2 ⟨ok_impl_End_over, List.forall_mem_nil _⟩⟩⟩
theorem sane_impl_ReadyOf : saneA fn_5.nt [.agg tEnd []] [.dat (.int .i64)] = true := by kernel_rfl
theorem ok_impl_ReadyOf : FnOk Go.Proofs.Try.prog en_impl_ReadyOf := fn_ok tabOk eqOk oks_impl_ReadyOf hmix is_5 sane_impl_ReadyOf (List.forall_mem_nil _) run_impl_ReadyOf
theorem oks_spec_EndOver : ∀ en ∈ ens_spec_EndOver, FnOk Go.Proofs.Try.prog en := List.forall_mem_cons.2 ⟨ok_spec_EndOk, List.forall_mem_nil _⟩
theorem sane_spec_EndOver : saneA fn_17.nt [.agg tEnd []] [.dat .bool] = true := by kernel_rfl
theorem ok_spec_EndOver : FnOk Go.Proofs.Try.prog en_spec_EndOver := fn_ok tabOk eqOk oks_spec_EndOver hmix is_17 sane_spec_EndOver (List.forall_mem_nil _) run_spec_EndOver
theorem oks_spec_ReadyOf : ∀ en ∈ ens_spec_ReadyOf, FnOk Go.Proofs.Try.prog en := List.forall_mem_cons.2 ⟨ok_spec_EndOk, List.forall_mem_cons.2 ⟨ok_spec_EndOver, List.forall_mem_nil _⟩⟩
theorem sane_spec_ReadyOf : saneA fn_6.nt [.agg tEnd []] [.dat (.int .i64)] = true := by kernel_rfl
theorem lab_spec_ReadyOf_10 : LabOk Go.Proofs.Try.prog 6 fn_6 [.agg tEnd []] [.dat (.int .i64)] ⟨10, [.r, .r, .r, .r, .r, .r, .l], sl_spec_ReadyOf_10, L_spec_ReadyOf_10⟩ := lab_run tabOk eqOk oks_spec_ReadyOf hmix is_6 sane_spec_ReadyOf (List.forall_mem_nil _) (by kernel_rfl) (run_spec_ReadyOf_10)
theorem ok_spec_ReadyOf : FnOk Go.Proofs.Try.prog en_spec_ReadyOf := fn_ok tabOk eqOk oks_spec_ReadyOf hmix is_6 sane_spec_ReadyOf (List.forall_mem_cons.2 ⟨lab_spec_ReadyOf_10, List.forall_mem_nil _⟩) run_spec_ReadyOf
theorem oks_impl_bytesOf : ∀ en ∈ ens_impl_bytesOf, FnOk Go.Proofs.Try.prog en := List.forall_mem_nil _
theorem sane_impl_bytesOf : saneA fn_46.nt [.dat (.int .i64), .dat (.int .i64)] [.own (.int .u8)] = true := by kernel_rfl
theorem lab_impl_bytesOf_3 : ∀ n : Nat, LabOk Go.Proofs.Try.prog 46 fn_46 [.dat (.int .i64), .dat (.int .i64)] [.own (.int .u8)] ⟨3, [.r, .r, .l, .r, .l, .l, .l, .l], sl_impl_bytesOf_3, L_impl_bytesOf_3 n⟩
  | 0 => ⟨by kernel_rfl, fun _ _ _ _ _ _ _ _ _ h => by cases h⟩
  | n + 1 => by
    have ih := lab_impl_bytesOf_3 n
    exact lab_run tabOk eqOk oks_impl_bytesOf hmix is_46 sane_impl_bytesOf (List.forall_mem_cons.2 ⟨ih, List.forall_mem_nil _⟩) (by kernel_rfl) (run_impl_bytesOf_3 n)
theorem ok_impl_bytesOf : FnOk Go.Proofs.Try.prog en_impl_bytesOf := fn_ok tabOk eqOk oks_impl_bytesOf hmix is_46 sane_impl_bytesOf (List.forall_mem_cons.2 ⟨lab_impl_bytesOf_3 fuel, List.forall_mem_nil _⟩) run_impl_bytesOf
theorem oks_impl_BytesOf : ∀ en ∈ ens_impl_BytesOf, FnOk Go.Proofs.Try.prog en := List.forall_mem_cons.2 ⟨ok_impl_in, List.forall_mem_cons.2 ⟨ok_impl_bytesOf, List.forall_mem_nil _⟩⟩
theorem sane_impl_BytesOf : saneA fn_26.nt [.dat (.int .i64), .dat (.int .i64)] [.own (.int .u8)] = true := by kernel_rfl
theorem ok_impl_BytesOf : FnOk Go.Proofs.Try.prog en_impl_BytesOf := fn_ok tabOk eqOk oks_impl_BytesOf hmix is_26 sane_impl_BytesOf (List.forall_mem_nil _) run_impl_BytesOf
theorem oks_laws_alive : ∀ en ∈ ens_laws_alive, FnOk Go.Proofs.Try.prog en := List.forall_mem_cons.2 ⟨ok_impl_BytesOf, List.forall_mem_nil _⟩
theorem sane_laws_alive : saneA fn_8.nt [] [.dat .bool] = true := by kernel_rfl
theorem ok_laws_alive : FnOk Go.Proofs.Try.prog en_laws_alive := fn_ok tabOk eqOk oks_laws_alive hmix is_8 sane_laws_alive (List.forall_mem_nil _) run_laws_alive
theorem oks_impl_asked : ∀ en ∈ ens_impl_asked, FnOk Go.Proofs.Try.prog en := List.forall_mem_cons.2 ⟨ok_impl_EndOk, List.forall_mem_cons.2 ⟨ok_impl_in, List.forall_mem_nil _⟩⟩
theorem sane_impl_asked : saneA fn_27.nt [.agg tEnd [], .dat (.int .i64)] [.dat .bool] = true := by kernel_rfl
theorem ok_impl_asked : FnOk Go.Proofs.Try.prog en_impl_asked := fn_ok tabOk eqOk oks_impl_asked hmix is_27 sane_impl_asked (List.forall_mem_nil _) run_impl_asked
theorem oks_slices_Clip_byte_byte : ∀ en ∈ ens_slices_Clip_byte_byte, FnOk Go.Proofs.Try.prog en := List.forall_mem_nil _
theorem sane_slices_Clip_byte_byte : saneA fn_66.nt [.dat (.sl (.int .u8))] [.dat (.sl (.int .u8))] = true := by kernel_rfl
theorem ok_slices_Clip_byte_byte : FnOk Go.Proofs.Try.prog en_slices_Clip_byte_byte := fn_ok tabOk eqOk oks_slices_Clip_byte_byte hmix is_66 sane_slices_Clip_byte_byte (List.forall_mem_nil _) run_slices_Clip_byte_byte
theorem oks_impl_clone_byte : ∀ en ∈ ens_impl_clone_byte, FnOk Go.Proofs.Try.prog en := List.forall_mem_cons.2 ⟨ok_slices_Clip_byte_byte, List.forall_mem_nil _⟩
theorem sane_impl_clone_byte : saneA fn_49.nt [.dat (.sl (.int .u8))] [.dat (.sl (.int .u8))] = true := by kernel_rfl
theorem ok_impl_clone_byte : FnOk Go.Proofs.Try.prog en_impl_clone_byte := fn_ok tabOk eqOk oks_impl_clone_byte hmix is_49 sane_impl_clone_byte (List.forall_mem_nil _) run_impl_clone_byte
theorem oks_impl_Mouth_copy : ∀ en ∈ ens_impl_Mouth_copy, FnOk Go.Proofs.Try.prog en := List.forall_mem_cons.2 ⟨ok_impl_clone_byte, List.forall_mem_cons.2 ⟨ok_impl_clone_impl_Range, List.forall_mem_nil _⟩⟩
theorem sane_impl_Mouth_copy : saneA fn_47.nt [.agg tMouth []] [.agg tMouth []] = true := by kernel_rfl
theorem ok_impl_Mouth_copy : FnOk Go.Proofs.Try.prog en_impl_Mouth_copy := fn_ok tabOk eqOk oks_impl_Mouth_copy hmix is_47 sane_impl_Mouth_copy (List.forall_mem_nil _) run_impl_Mouth_copy
theorem oks_slices_Clip_impl_Early_impl_Early : ∀ en ∈ ens_slices_Clip_impl_Early_impl_Early, FnOk Go.Proofs.Try.prog en := List.forall_mem_nil _
theorem sane_slices_Clip_impl_Early_impl_Early : saneA fn_94.nt [.dat (.sl tEarly)] [.dat (.sl tEarly)] = true := by kernel_rfl
theorem ok_slices_Clip_impl_Early_impl_Early : FnOk Go.Proofs.Try.prog en_slices_Clip_impl_Early_impl_Early := fn_ok tabOk eqOk oks_slices_Clip_impl_Early_impl_Early hmix is_94 sane_slices_Clip_impl_Early_impl_Early (List.forall_mem_nil _) run_slices_Clip_impl_Early_impl_Early
theorem oks_impl_clone_impl_Early : ∀ en ∈ ens_impl_clone_impl_Early, FnOk Go.Proofs.Try.prog en := List.forall_mem_cons.2 ⟨ok_slices_Clip_impl_Early_impl_Early, List.forall_mem_nil _⟩
theorem sane_impl_clone_impl_Early : saneA fn_65.nt [.dat (.sl tEarly)] [.dat (.sl tEarly)] = true := by kernel_rfl
theorem ok_impl_clone_impl_Early : FnOk Go.Proofs.Try.prog en_impl_clone_impl_Early := fn_ok tabOk eqOk oks_impl_clone_impl_Early hmix is_65 sane_impl_clone_impl_Early (List.forall_mem_nil _) run_impl_clone_impl_Early
theorem oks_impl_Ear_copy : ∀ en ∈ ens_impl_Ear_copy, FnOk Go.Proofs.Try.prog en := List.forall_mem_cons.2 ⟨ok_impl_clone_byte, List.forall_mem_cons.2 ⟨ok_impl_clone_impl_Early, List.forall_mem_nil _⟩⟩
theorem sane_impl_Ear_copy : saneA fn_48.nt [.agg tEar []] [.agg tEar []] = true := by kernel_rfl
theorem ok_impl_Ear_copy : FnOk Go.Proofs.Try.prog en_impl_Ear_copy := fn_ok tabOk eqOk oks_impl_Ear_copy hmix is_48 sane_impl_Ear_copy (List.forall_mem_nil _) run_impl_Ear_copy
theorem oks_impl_End_copy : ∀ en ∈ ens_impl_End_copy, FnOk Go.Proofs.Try.prog en := List.forall_mem_cons.2 ⟨ok_impl_Mouth_copy, List.forall_mem_cons.2 ⟨ok_impl_Ear_copy, List.forall_mem_nil _⟩⟩
theorem sane_impl_End_copy : saneA fn_28.nt [.agg tEnd []] [.agg tEnd []] = true := by kernel_rfl
theorem ok_impl_End_copy : FnOk Go.Proofs.Try.prog en_impl_End_copy := fn_ok tabOk eqOk oks_impl_End_copy hmix is_28 sane_impl_End_copy (List.forall_mem_nil _) run_impl_End_copy
theorem oks_impl_EarRead : ∀ en ∈ ens_impl_EarRead, FnOk Go.Proofs.Try.prog en := List.forall_mem_cons.2 ⟨ok_impl_EarOk, List.forall_mem_cons.2 ⟨ok_impl_Ear_copy, List.forall_mem_cons.2 ⟨ok_impl_clone_byte, List.forall_mem_nil _⟩⟩⟩
theorem sane_impl_EarRead : saneA fn_29.nt [.agg tEar [], .dat (.int .i64)] [.agg tEar [], .dat (.sl (.int .u8))] = true := by kernel_rfl
theorem ok_impl_EarRead : FnOk Go.Proofs.Try.prog en_impl_EarRead := fn_ok tabOk eqOk oks_impl_EarRead hmix is_29 sane_impl_EarRead (List.forall_mem_nil _) run_impl_EarRead
theorem oks_impl_SeqOf : ∀ en ∈ ens_impl_SeqOf, FnOk Go.Proofs.Try.prog en := List.forall_mem_nil _
theorem sane_impl_SeqOf : saneA fn_67.nt [.dat (.int .i64)] [.dat (.int .i64)] = true := by kernel_rfl
theorem ok_impl_SeqOf : FnOk Go.Proofs.Try.prog en_impl_SeqOf := fn_ok tabOk eqOk oks_impl_SeqOf hmix is_67 sane_impl_SeqOf (List.forall_mem_nil _) run_impl_SeqOf
theorem oks_impl_End_waits : ∀ en ∈ ens_impl_End_waits, FnOk Go.Proofs.Try.prog en := List.forall_mem_nil _
theorem sane_impl_End_waits : saneA fn_68.nt [.agg tEnd []] [.dat (.int .i64)] = true := by kernel_rfl
theorem ok_impl_End_waits : FnOk Go.Proofs.Try.prog en_impl_End_waits := fn_ok tabOk eqOk oks_impl_End_waits hmix is_68 sane_impl_End_waits (List.forall_mem_nil _) run_impl_End_waits
theorem oks_impl_Ear_ranges : ∀ en ∈ ens_impl_Ear_ranges, FnOk Go.Proofs.Try.prog en := List.forall_mem_cons.2 ⟨ok_impl_clone_impl_Range, List.forall_mem_nil _⟩
theorem sane_impl_Ear_ranges : saneA fn_69.nt [.agg tEar []] [.dat (.sl tRange)] = true := by kernel_rfl
theorem lab_impl_Ear_ranges_3 : ∀ n : Nat, LabOk Go.Proofs.Try.prog 69 fn_69 [.agg tEar []] [.dat (.sl tRange)] ⟨3, [.r, .r, .l, .r, .l, .l, .l], sl_impl_Ear_ranges_3, L_impl_Ear_ranges_3 n⟩
  | 0 => ⟨by kernel_rfl, fun _ _ _ _ _ _ _ _ _ h => by cases h⟩
  | n + 1 => by
    have ih := lab_impl_Ear_ranges_3 n
    exact lab_run tabOk eqOk oks_impl_Ear_ranges hmix is_69 sane_impl_Ear_ranges (List.forall_mem_cons.2 ⟨ih, List.forall_mem_nil _⟩) (by kernel_rfl) (run_impl_Ear_ranges_3 n)
theorem ok_impl_Ear_ranges : FnOk Go.Proofs.Try.prog en_impl_Ear_ranges := fn_ok tabOk eqOk oks_impl_Ear_ranges hmix is_69 sane_impl_Ear_ranges (List.forall_mem_cons.2 ⟨lab_impl_Ear_ranges_3 fuel, List.forall_mem_nil _⟩) run_impl_Ear_ranges
theorem oks_impl_Segment_copy : ∀ en ∈ ens_impl_Segment_copy, FnOk Go.Proofs.Try.prog en := List.forall_mem_cons.2 ⟨ok_impl_clone_byte, List.forall_mem_cons.2 ⟨ok_impl_clone_impl_Range, List.forall_mem_nil _⟩⟩
theorem sane_impl_Segment_copy : saneA fn_70.nt [.agg tSegment []] [.agg tSegment []] = true := by kernel_rfl
theorem ok_impl_Segment_copy : FnOk Go.Proofs.Try.prog en_impl_Segment_copy := fn_ok tabOk eqOk oks_impl_Segment_copy hmix is_70 sane_impl_Segment_copy (List.forall_mem_nil _) run_impl_Segment_copy
theorem oks_impl_End_segment : ∀ en ∈ ens_impl_End_segment, FnOk Go.Proofs.Try.prog en := List.forall_mem_cons.2 ⟨ok_impl_Ear_free, List.forall_mem_cons.2 ⟨ok_impl_SeqOf, List.forall_mem_cons.2 ⟨ok_impl_End_waits, List.forall_mem_cons.2 ⟨ok_impl_Ear_ranges, List.forall_mem_cons.2 ⟨ok_impl_Segment_copy, List.forall_mem_nil _⟩⟩⟩⟩⟩
theorem sane_impl_End_segment : saneA fn_50.nt [.agg tEnd [], .dat (.int .i64), .dat (.sl (.int .u8))] [.agg tSegment []] = true := by kernel_rfl
theorem lab_impl_End_segment_3 : ∀ n : Nat, LabOk Go.Proofs.Try.prog 50 fn_50 [.agg tEnd [], .dat (.int .i64), .dat (.sl (.int .u8))] [.agg tSegment []] ⟨3, [.r, .r, .l, .r, .l, .l, .l], sl_impl_End_segment_3, L_impl_End_segment_3 n⟩
  | 0 => ⟨by kernel_rfl, fun _ _ _ _ _ _ _ _ _ h => by cases h⟩
  | n + 1 => by
    have ih := lab_impl_End_segment_3 n
    exact lab_run tabOk eqOk oks_impl_End_segment hmix is_50 sane_impl_End_segment (List.forall_mem_cons.2 ⟨ih, List.forall_mem_nil _⟩) (by kernel_rfl) (run_impl_End_segment_3 n)
theorem ok_impl_End_segment : FnOk Go.Proofs.Try.prog en_impl_End_segment := fn_ok tabOk eqOk oks_impl_End_segment hmix is_50 sane_impl_End_segment (List.forall_mem_cons.2 ⟨lab_impl_End_segment_3 fuel, List.forall_mem_nil _⟩) run_impl_End_segment
theorem oks_impl_End_place : ∀ en ∈ ens_impl_End_place, FnOk Go.Proofs.Try.prog en := List.forall_mem_cons.2 ⟨ok_impl_bit, List.forall_mem_nil _⟩
theorem sane_impl_End_place : saneA fn_51.nt [.agg tEnd []] [.dat (.int .i64)] = true := by kernel_rfl
theorem ok_impl_End_place : FnOk Go.Proofs.Try.prog en_impl_End_place := fn_ok tabOk eqOk oks_impl_End_place hmix is_51 sane_impl_End_place (List.forall_mem_nil _) run_impl_End_place
theorem oks_impl_End_bare : ∀ en ∈ ens_impl_End_bare, FnOk Go.Proofs.Try.prog en := List.forall_mem_cons.2 ⟨ok_impl_End_segment, List.forall_mem_cons.2 ⟨ok_impl_End_place, List.forall_mem_nil _⟩⟩
theorem sane_impl_End_bare : saneA fn_31.nt [.agg tEnd []] [.agg tSegment []] = true := by kernel_rfl
theorem ok_impl_End_bare : FnOk Go.Proofs.Try.prog en_impl_End_bare := fn_ok tabOk eqOk oks_impl_End_bare hmix is_31 sane_impl_End_bare (List.forall_mem_nil _) run_impl_End_bare
theorem oks_impl_EndRead : ∀ en ∈ ens_impl_EndRead, FnOk Go.Proofs.Try.prog en := List.forall_mem_cons.2 ⟨ok_impl_asked, List.forall_mem_cons.2 ⟨ok_impl_End_copy, List.forall_mem_cons.2 ⟨ok_impl_EarRead, List.forall_mem_cons.2 ⟨ok_impl_Ear_free, List.forall_mem_cons.2 ⟨ok_impl_End_bare, List.forall_mem_nil _⟩⟩⟩⟩⟩
theorem sane_impl_EndRead : saneA fn_9.nt [.agg tEnd [], .dat (.int .i64), .dat (.int .i64)] [.agg tEnd [], .dat (.sl (.int .u8)), .own tSegment] = true := by kernel_rfl
theorem ok_impl_EndRead : FnOk Go.Proofs.Try.prog en_impl_EndRead := fn_ok tabOk eqOk oks_impl_EndRead hmix is_9 sane_impl_EndRead (List.forall_mem_nil _) run_impl_EndRead
theorem oks_slices_Grow_byte_byte : ∀ en ∈ ens_slices_Grow_byte_byte, FnOk Go.Proofs.Try.prog en := List.forall_mem_nil _
theorem sane_slices_Grow_byte_byte : saneA fn_71.nt [.nil, .dat (.int .i64)] [.own (.int .u8)] = true := by kernel_rfl
theorem ok_slices_Grow_byte_byte : FnOk Go.Proofs.Try.prog en_slices_Grow_byte_byte := fn_ok tabOk eqOk oks_slices_Grow_byte_byte hmix is_71 sane_slices_Grow_byte_byte (List.forall_mem_nil _) run_slices_Grow_byte_byte
theorem oks_slices_Concat_byte_byte : ∀ en ∈ ens_slices_Concat_byte_byte, FnOk Go.Proofs.Try.prog en := List.forall_mem_cons.2 ⟨ok_slices_Grow_byte_byte, List.forall_mem_nil _⟩
theorem sane_slices_Concat_byte_byte : saneA fn_52.nt [.dat (.sl (.sl (.int .u8)))] [.own (.int .u8)] = true := by kernel_rfl
theorem lab_slices_Concat_byte_byte_11 : ∀ n : Nat, LabOk Go.Proofs.Try.prog 52 fn_52 [.dat (.sl (.sl (.int .u8)))] [.own (.int .u8)] ⟨11, [.r, .r, .r, .r, .l, .r, .l, .l, .l], sl_slices_Concat_byte_byte_11, L_slices_Concat_byte_byte_11 n⟩
  | 0 => ⟨by kernel_rfl, fun _ _ _ _ _ _ _ _ _ h => by cases h⟩
  | n + 1 => by
    have ih := lab_slices_Concat_byte_byte_11 n
    exact lab_run tabOk eqOk oks_slices_Concat_byte_byte hmix is_52 sane_slices_Concat_byte_byte (List.forall_mem_cons.2 ⟨ih, List.forall_mem_nil _⟩) (by kernel_rfl) (run_slices_Concat_byte_byte_11 n)
theorem lab_slices_Concat_byte_byte_3 : ∀ n : Nat, LabOk Go.Proofs.Try.prog 52 fn_52 [.dat (.sl (.sl (.int .u8)))] [.own (.int .u8)] ⟨3, [.r, .r, .l, .r, .l, .l, .l], sl_slices_Concat_byte_byte_3, L_slices_Concat_byte_byte_3 n⟩
  | 0 => ⟨by kernel_rfl, fun _ _ _ _ _ _ _ _ _ h => by cases h⟩
  | n + 1 => by
    have ih := lab_slices_Concat_byte_byte_3 n
    exact lab_run tabOk eqOk oks_slices_Concat_byte_byte hmix is_52 sane_slices_Concat_byte_byte (List.forall_mem_cons.2 ⟨ih, List.forall_mem_cons.2 ⟨lab_slices_Concat_byte_byte_11 fuel, List.forall_mem_nil _⟩⟩) (by kernel_rfl) (run_slices_Concat_byte_byte_3 n)
theorem ok_slices_Concat_byte_byte : FnOk Go.Proofs.Try.prog en_slices_Concat_byte_byte := fn_ok tabOk eqOk oks_slices_Concat_byte_byte hmix is_52 sane_slices_Concat_byte_byte (List.forall_mem_cons.2 ⟨lab_slices_Concat_byte_byte_3 fuel, List.forall_mem_nil _⟩) run_slices_Concat_byte_byte
theorem oks_impl_MouthWrite : ∀ en ∈ ens_impl_MouthWrite, FnOk Go.Proofs.Try.prog en := List.forall_mem_cons.2 ⟨ok_impl_MouthOk, List.forall_mem_cons.2 ⟨ok_impl_Mouth_copy, List.forall_mem_cons.2 ⟨ok_slices_Concat_byte_byte, List.forall_mem_nil _⟩⟩⟩
theorem sane_impl_MouthWrite : saneA fn_32.nt [.agg tMouth [], .dat (.sl (.int .u8))] [.agg tMouth [], .dat (.int .i64)] = true := by kernel_rfl
theorem ok_impl_MouthWrite : FnOk Go.Proofs.Try.prog en_impl_MouthWrite := fn_ok tabOk eqOk oks_impl_MouthWrite hmix is_32 sane_impl_MouthWrite (List.forall_mem_nil _) run_impl_MouthWrite
theorem oks_impl_Mouth_next : ∀ en ∈ ens_impl_Mouth_next, FnOk Go.Proofs.Try.prog en := List.forall_mem_cons.2 ⟨ok_impl_clone_byte, List.forall_mem_nil _⟩
theorem sane_impl_Mouth_next : saneA fn_53.nt [.box tMouth [], .dat (.int .i64)] [.dat (.int .i64), .dat (.sl (.int .u8))] = true := by kernel_rfl
theorem ok_impl_Mouth_next : FnOk Go.Proofs.Try.prog en_impl_Mouth_next := fn_ok tabOk eqOk oks_impl_Mouth_next hmix is_53 sane_impl_Mouth_next (List.forall_mem_nil _) run_impl_Mouth_next
theorem oks_impl_End_tellBytes : ∀ en ∈ ens_impl_End_tellBytes, FnOk Go.Proofs.Try.prog en := List.forall_mem_cons.2 ⟨ok_impl_End_segment, List.forall_mem_cons.2 ⟨ok_impl_Mouth_next, List.forall_mem_nil _⟩⟩
theorem sane_impl_End_tellBytes : saneA fn_33.nt [.box tEnd []] [.own tSegment] = true := by kernel_rfl
theorem lab_impl_End_tellBytes_2 : ∀ n : Nat, LabOk Go.Proofs.Try.prog 33 fn_33 [.box tEnd []] [.own tSegment] ⟨2, [.r, .r, .l, .l, .l, .l, .l], sl_impl_End_tellBytes_2, L_impl_End_tellBytes_2 n⟩
  | 0 => ⟨by kernel_rfl, fun _ _ _ _ _ _ _ _ _ h => by cases h⟩
  | n + 1 => by
    have ih := lab_impl_End_tellBytes_2 n
    exact lab_run tabOk eqOk oks_impl_End_tellBytes hmix is_33 sane_impl_End_tellBytes (List.forall_mem_cons.2 ⟨ih, List.forall_mem_nil _⟩) (by kernel_rfl) (run_impl_End_tellBytes_2 n)
theorem ok_impl_End_tellBytes : FnOk Go.Proofs.Try.prog en_impl_End_tellBytes := fn_ok tabOk eqOk oks_impl_End_tellBytes hmix is_33 sane_impl_End_tellBytes (List.forall_mem_cons.2 ⟨lab_impl_End_tellBytes_2 fuel, List.forall_mem_nil _⟩) run_impl_End_tellBytes
theorem oks_impl_End_arm : ∀ en ∈ ens_impl_End_arm, FnOk Go.Proofs.Try.prog en := List.forall_mem_cons.2 ⟨ok_impl_End_goes, List.forall_mem_nil _⟩
theorem sane_impl_End_arm : saneA fn_34.nt [.box tEnd [], .dat (.int .i64)] [] = true := by kernel_rfl
theorem ok_impl_End_arm : FnOk Go.Proofs.Try.prog en_impl_End_arm := fn_ok tabOk eqOk oks_impl_End_arm hmix is_34 sane_impl_End_arm (List.forall_mem_nil _) run_impl_End_arm
theorem oks_slices_Clip_impl_Segment_impl_Segment : ∀ en ∈ ens_slices_Clip_impl_Segment_impl_Segment, FnOk Go.Proofs.Try.prog en := List.forall_mem_nil _
theorem sane_slices_Clip_impl_Segment_impl_Segment : saneA fn_54.nt [.dat (.sl tSegment)] [.dat (.sl tSegment)] = true := by kernel_rfl
theorem ok_slices_Clip_impl_Segment_impl_Segment : FnOk Go.Proofs.Try.prog en_slices_Clip_impl_Segment_impl_Segment := fn_ok tabOk eqOk oks_slices_Clip_impl_Segment_impl_Segment hmix is_54 sane_slices_Clip_impl_Segment_impl_Segment (List.forall_mem_nil _) run_slices_Clip_impl_Segment_impl_Segment
theorem oks_impl_clone_impl_Segment : ∀ en ∈ ens_impl_clone_impl_Segment, FnOk Go.Proofs.Try.prog en := List.forall_mem_cons.2 ⟨ok_slices_Clip_impl_Segment_impl_Segment, List.forall_mem_nil _⟩
theorem sane_impl_clone_impl_Segment : saneA fn_35.nt [.dat (.sl tSegment)] [.dat (.sl tSegment)] = true := by kernel_rfl
theorem ok_impl_clone_impl_Segment : FnOk Go.Proofs.Try.prog en_impl_clone_impl_Segment := fn_ok tabOk eqOk oks_impl_clone_impl_Segment hmix is_35 sane_impl_clone_impl_Segment (List.forall_mem_nil _) run_impl_clone_impl_Segment
theorem oks_impl_EndWrite : ∀ en ∈ ens_impl_EndWrite, FnOk Go.Proofs.Try.prog en := List.forall_mem_cons.2 ⟨ok_impl_asked, List.forall_mem_cons.2 ⟨ok_impl_End_copy, List.forall_mem_cons.2 ⟨ok_impl_MouthWrite, List.forall_mem_cons.2 ⟨ok_impl_End_tellBytes, List.forall_mem_cons.2 ⟨ok_impl_End_arm, List.forall_mem_cons.2 ⟨ok_impl_clone_impl_Segment, List.forall_mem_nil _⟩⟩⟩⟩⟩⟩
theorem sane_impl_EndWrite : saneA fn_10.nt [.agg tEnd [], .dat (.sl (.int .u8)), .dat (.int .i64)] [.agg tEnd [], .dat (.int .i64), .dat (.sl tSegment)] = true := by kernel_rfl
theorem ok_impl_EndWrite : FnOk Go.Proofs.Try.prog en_impl_EndWrite := fn_ok tabOk eqOk oks_impl_EndWrite hmix is_10 sane_impl_EndWrite (List.forall_mem_nil _) run_impl_EndWrite
theorem oks_impl_EndOver : ∀ en ∈ ens_impl_EndOver, FnOk Go.Proofs.Try.prog en := List.forall_mem_cons.2 ⟨ok_impl_EndOk, List.forall_mem_cons.2 ⟨ok_impl_End_over, List.forall_mem_nil _⟩⟩
theorem sane_impl_EndOver : saneA fn_11.nt [.agg tEnd []] [.dat .bool] = true := by kernel_rfl
theorem ok_impl_EndOver : FnOk Go.Proofs.Try.prog en_impl_EndOver := fn_ok tabOk eqOk oks_impl_EndOver hmix is_11 sane_impl_EndOver (List.forall_mem_nil _) run_impl_EndOver
theorem oks_laws_FnReadyOf : ∀ en ∈ ens_laws_FnReadyOf, FnOk Go.Proofs.Try.prog en := List.forall_mem_cons.2 ⟨ok_spec_DrawReadyOf, List.forall_mem_cons.2 ⟨ok_impl_ReadyOf, List.forall_mem_cons.2 ⟨ok_spec_ReadyOf, List.forall_mem_cons.2 ⟨ok_impl_EndOk, List.forall_mem_cons.2 ⟨ok_laws_alive, List.forall_mem_cons.2 ⟨ok_impl_EndRead, List.forall_mem_cons.2 ⟨ok_impl_EndWrite, List.forall_mem_cons.2 ⟨ok_impl_EndOver, List.forall_mem_nil _⟩⟩⟩⟩⟩⟩⟩⟩
theorem sane_laws_FnReadyOf : saneA fn_3.nt [.dat (.sl (.int .u8))] [.dat .bool] = true := by kernel_rfl
theorem ok_laws_FnReadyOf : FnOk Go.Proofs.Try.prog en_laws_FnReadyOf := fn_ok tabOk eqOk oks_laws_FnReadyOf hmix is_3 sane_laws_FnReadyOf (List.forall_mem_nil _) run_laws_FnReadyOf
end Go.VI.RdyVi
