/- Each plain function says what the Go function of the program returns. Written by a program of my own. -/
import Derived.Test.YtinlgneijojjmaaGreatVD
import Derived.Test.YtinlgneijojjmaaGreatL
set_option linter.unusedVariables false
set_option maxRecDepth 100000
namespace Go.VI.EwcVi
open Go Go.VI
theorem hmix : Go.Proofs.Tryz.prog.follows .mixedOrders = true := by kernel_rfl
theorem tabOk : TabOk Go.Proofs.Tryz.prog tab := tabB_ok (by kernel_rfl)
theorem eqOk : EqOk Go.Proofs.Tryz.prog tab := eqB_ok (by kernel_rfl)
theorem is_4 : FunIs Go.Proofs.Tryz.prog 4 fn_4 := ⟨Go.Proofs.Tryz.f4, Go.Proofs.Tryz.func4, by kernel_rfl, by kernel_rfl, by kernel_rfl, by kernel_rfl⟩
theorem is_5 : FunIs Go.Proofs.Tryz.prog 5 fn_5 := ⟨Go.Proofs.Tryz.f5, Go.Proofs.Tryz.func5, by kernel_rfl, by kernel_rfl, by kernel_rfl, by kernel_rfl⟩
theorem is_6 : FunIs Go.Proofs.Tryz.prog 6 fn_6 := ⟨Go.Proofs.Tryz.f6, Go.Proofs.Tryz.func6, by kernel_rfl, by kernel_rfl, by kernel_rfl, by kernel_rfl⟩
theorem is_14 : FunIs Go.Proofs.Tryz.prog 14 fn_14 := ⟨Go.Proofs.Tryz.f14, Go.Proofs.Tryz.func14, by kernel_rfl, by kernel_rfl, by kernel_rfl, by kernel_rfl⟩
theorem is_17 : FunIs Go.Proofs.Tryz.prog 17 fn_17 := ⟨Go.Proofs.Tryz.f17, Go.Proofs.Tryz.func17, by kernel_rfl, by kernel_rfl, by kernel_rfl, by kernel_rfl⟩
theorem is_18 : FunIs Go.Proofs.Tryz.prog 18 fn_18 := ⟨Go.Proofs.Tryz.f18, Go.Proofs.Tryz.func18, by kernel_rfl, by kernel_rfl, by kernel_rfl, by kernel_rfl⟩
theorem is_19 : FunIs Go.Proofs.Tryz.prog 19 fn_19 := ⟨Go.Proofs.Tryz.f19, Go.Proofs.Tryz.func19, by kernel_rfl, by kernel_rfl, by kernel_rfl, by kernel_rfl⟩
theorem is_20 : FunIs Go.Proofs.Tryz.prog 20 fn_20 := ⟨Go.Proofs.Tryz.f20, Go.Proofs.Tryz.func20, by kernel_rfl, by kernel_rfl, by kernel_rfl, by kernel_rfl⟩
theorem is_21 : FunIs Go.Proofs.Tryz.prog 21 fn_21 := ⟨Go.Proofs.Tryz.f21, Go.Proofs.Tryz.func21, by kernel_rfl, by kernel_rfl, by kernel_rfl, by kernel_rfl⟩
theorem is_22 : FunIs Go.Proofs.Tryz.prog 22 fn_22 := ⟨Go.Proofs.Tryz.f22, Go.Proofs.Tryz.func22, by kernel_rfl, by kernel_rfl, by kernel_rfl, by kernel_rfl⟩
theorem is_23 : FunIs Go.Proofs.Tryz.prog 23 fn_23 := ⟨Go.Proofs.Tryz.f23, Go.Proofs.Tryz.func23, by kernel_rfl, by kernel_rfl, by kernel_rfl, by kernel_rfl⟩
theorem is_24 : FunIs Go.Proofs.Tryz.prog 24 fn_24 := ⟨Go.Proofs.Tryz.f24, Go.Proofs.Tryz.func24, by kernel_rfl, by kernel_rfl, by kernel_rfl, by kernel_rfl⟩
theorem is_25 : FunIs Go.Proofs.Tryz.prog 25 fn_25 := ⟨Go.Proofs.Tryz.f25, Go.Proofs.Tryz.func25, by kernel_rfl, by kernel_rfl, by kernel_rfl, by kernel_rfl⟩
theorem is_26 : FunIs Go.Proofs.Tryz.prog 26 fn_26 := ⟨Go.Proofs.Tryz.f26, Go.Proofs.Tryz.func26, by kernel_rfl, by kernel_rfl, by kernel_rfl, by kernel_rfl⟩
theorem is_27 : FunIs Go.Proofs.Tryz.prog 27 fn_27 := ⟨Go.Proofs.Tryz.f27, Go.Proofs.Tryz.func27, by kernel_rfl, by kernel_rfl, by kernel_rfl, by kernel_rfl⟩
theorem is_28 : FunIs Go.Proofs.Tryz.prog 28 fn_28 := ⟨Go.Proofs.Tryz.f28, Go.Proofs.Tryz.func28, by kernel_rfl, by kernel_rfl, by kernel_rfl, by kernel_rfl⟩
theorem is_29 : FunIs Go.Proofs.Tryz.prog 29 fn_29 := ⟨Go.Proofs.Tryz.f29, Go.Proofs.Tryz.func29, by kernel_rfl, by kernel_rfl, by kernel_rfl, by kernel_rfl⟩
theorem is_30 : FunIs Go.Proofs.Tryz.prog 30 fn_30 := ⟨Go.Proofs.Tryz.f30, Go.Proofs.Tryz.func30, by kernel_rfl, by kernel_rfl, by kernel_rfl, by kernel_rfl⟩
theorem is_31 : FunIs Go.Proofs.Tryz.prog 31 fn_31 := ⟨Go.Proofs.Tryz.f31, Go.Proofs.Tryz.func31, by kernel_rfl, by kernel_rfl, by kernel_rfl, by kernel_rfl⟩
theorem is_32 : FunIs Go.Proofs.Tryz.prog 32 fn_32 := ⟨Go.Proofs.Tryz.f32, Go.Proofs.Tryz.func32, by kernel_rfl, by kernel_rfl, by kernel_rfl, by kernel_rfl⟩
theorem is_47 : FunIs Go.Proofs.Tryz.prog 47 fn_47 := ⟨Go.Proofs.Tryz.f47, Go.Proofs.Tryz.func47, by kernel_rfl, by kernel_rfl, by kernel_rfl, by kernel_rfl⟩
theorem is_49 : FunIs Go.Proofs.Tryz.prog 49 fn_49 := ⟨Go.Proofs.Tryz.f49, Go.Proofs.Tryz.func49, by kernel_rfl, by kernel_rfl, by kernel_rfl, by kernel_rfl⟩
theorem is_52 : FunIs Go.Proofs.Tryz.prog 52 fn_52 := ⟨Go.Proofs.Tryz.f52, Go.Proofs.Tryz.func52, by kernel_rfl, by kernel_rfl, by kernel_rfl, by kernel_rfl⟩
theorem is_63 : FunIs Go.Proofs.Tryz.prog 63 fn_63 := ⟨Go.Proofs.Tryz.f63, Go.Proofs.Tryz.func63, by kernel_rfl, by kernel_rfl, by kernel_rfl, by kernel_rfl⟩
theorem is_65 : FunIs Go.Proofs.Tryz.prog 65 fn_65 := ⟨Go.Proofs.Tryz.f65, Go.Proofs.Tryz.func65, by kernel_rfl, by kernel_rfl, by kernel_rfl, by kernel_rfl⟩
theorem is_66 : FunIs Go.Proofs.Tryz.prog 66 fn_66 := ⟨Go.Proofs.Tryz.f66, Go.Proofs.Tryz.func66, by kernel_rfl, by kernel_rfl, by kernel_rfl, by kernel_rfl⟩
theorem is_70 : FunIs Go.Proofs.Tryz.prog 70 fn_70 := ⟨Go.Proofs.Tryz.f70, Go.Proofs.Tryz.func70, by kernel_rfl, by kernel_rfl, by kernel_rfl, by kernel_rfl⟩
theorem is_71 : FunIs Go.Proofs.Tryz.prog 71 fn_71 := ⟨Go.Proofs.Tryz.f71, Go.Proofs.Tryz.func71, by kernel_rfl, by kernel_rfl, by kernel_rfl, by kernel_rfl⟩
theorem is_72 : FunIs Go.Proofs.Tryz.prog 72 fn_72 := ⟨Go.Proofs.Tryz.f72, Go.Proofs.Tryz.func72, by kernel_rfl, by kernel_rfl, by kernel_rfl, by kernel_rfl⟩
theorem is_73 : FunIs Go.Proofs.Tryz.prog 73 fn_73 := ⟨Go.Proofs.Tryz.f73, Go.Proofs.Tryz.func73, by kernel_rfl, by kernel_rfl, by kernel_rfl, by kernel_rfl⟩
theorem is_74 : FunIs Go.Proofs.Tryz.prog 74 fn_74 := ⟨Go.Proofs.Tryz.f74, Go.Proofs.Tryz.func74, by kernel_rfl, by kernel_rfl, by kernel_rfl, by kernel_rfl⟩
theorem is_75 : FunIs Go.Proofs.Tryz.prog 75 fn_75 := ⟨Go.Proofs.Tryz.f75, Go.Proofs.Tryz.func75, by kernel_rfl, by kernel_rfl, by kernel_rfl, by kernel_rfl⟩
theorem is_76 : FunIs Go.Proofs.Tryz.prog 76 fn_76 := ⟨Go.Proofs.Tryz.f76, Go.Proofs.Tryz.func76, by kernel_rfl, by kernel_rfl, by kernel_rfl, by kernel_rfl⟩
theorem is_77 : FunIs Go.Proofs.Tryz.prog 77 fn_77 := ⟨Go.Proofs.Tryz.f77, Go.Proofs.Tryz.func77, by kernel_rfl, by kernel_rfl, by kernel_rfl, by kernel_rfl⟩
theorem is_78 : FunIs Go.Proofs.Tryz.prog 78 fn_78 := ⟨Go.Proofs.Tryz.f78, Go.Proofs.Tryz.func78, by kernel_rfl, by kernel_rfl, by kernel_rfl, by kernel_rfl⟩
theorem is_79 : FunIs Go.Proofs.Tryz.prog 79 fn_79 := ⟨Go.Proofs.Tryz.f79, Go.Proofs.Tryz.func79, by kernel_rfl, by kernel_rfl, by kernel_rfl, by kernel_rfl⟩
theorem is_80 : FunIs Go.Proofs.Tryz.prog 80 fn_80 := ⟨Go.Proofs.Tryz.f80, Go.Proofs.Tryz.func80, by kernel_rfl, by kernel_rfl, by kernel_rfl, by kernel_rfl⟩
theorem is_81 : FunIs Go.Proofs.Tryz.prog 81 fn_81 := ⟨Go.Proofs.Tryz.f81, Go.Proofs.Tryz.func81, by kernel_rfl, by kernel_rfl, by kernel_rfl, by kernel_rfl⟩
theorem is_82 : FunIs Go.Proofs.Tryz.prog 82 fn_82 := ⟨Go.Proofs.Tryz.f82, Go.Proofs.Tryz.func82, by kernel_rfl, by kernel_rfl, by kernel_rfl, by kernel_rfl⟩
theorem is_83 : FunIs Go.Proofs.Tryz.prog 83 fn_83 := ⟨Go.Proofs.Tryz.f83, Go.Proofs.Tryz.func83, by kernel_rfl, by kernel_rfl, by kernel_rfl, by kernel_rfl⟩
theorem is_84 : FunIs Go.Proofs.Tryz.prog 84 fn_84 := ⟨Go.Proofs.Tryz.f84, Go.Proofs.Tryz.func84, by kernel_rfl, by kernel_rfl, by kernel_rfl, by kernel_rfl⟩
theorem is_85 : FunIs Go.Proofs.Tryz.prog 85 fn_85 := ⟨Go.Proofs.Tryz.f85, Go.Proofs.Tryz.func85, by kernel_rfl, by kernel_rfl, by kernel_rfl, by kernel_rfl⟩
theorem is_86 : FunIs Go.Proofs.Tryz.prog 86 fn_86 := ⟨Go.Proofs.Tryz.f86, Go.Proofs.Tryz.func86, by kernel_rfl, by kernel_rfl, by kernel_rfl, by kernel_rfl⟩
theorem is_87 : FunIs Go.Proofs.Tryz.prog 87 fn_87 := ⟨Go.Proofs.Tryz.f87, Go.Proofs.Tryz.func87, by kernel_rfl, by kernel_rfl, by kernel_rfl, by kernel_rfl⟩
theorem is_88 : FunIs Go.Proofs.Tryz.prog 88 fn_88 := ⟨Go.Proofs.Tryz.f88, Go.Proofs.Tryz.func88, by kernel_rfl, by kernel_rfl, by kernel_rfl, by kernel_rfl⟩
theorem is_89 : FunIs Go.Proofs.Tryz.prog 89 fn_89 := ⟨Go.Proofs.Tryz.f89, Go.Proofs.Tryz.func89, by kernel_rfl, by kernel_rfl, by kernel_rfl, by kernel_rfl⟩
theorem is_90 : FunIs Go.Proofs.Tryz.prog 90 fn_90 := ⟨Go.Proofs.Tryz.f90, Go.Proofs.Tryz.func90, by kernel_rfl, by kernel_rfl, by kernel_rfl, by kernel_rfl⟩
theorem is_91 : FunIs Go.Proofs.Tryz.prog 91 fn_91 := ⟨Go.Proofs.Tryz.f91, Go.Proofs.Tryz.func91, by kernel_rfl, by kernel_rfl, by kernel_rfl, by kernel_rfl⟩
theorem is_92 : FunIs Go.Proofs.Tryz.prog 92 fn_92 := ⟨Go.Proofs.Tryz.f92, Go.Proofs.Tryz.func92, by kernel_rfl, by kernel_rfl, by kernel_rfl, by kernel_rfl⟩
theorem is_93 : FunIs Go.Proofs.Tryz.prog 93 fn_93 := ⟨Go.Proofs.Tryz.f93, Go.Proofs.Tryz.func93, by kernel_rfl, by kernel_rfl, by kernel_rfl, by kernel_rfl⟩
theorem is_94 : FunIs Go.Proofs.Tryz.prog 94 fn_94 := ⟨Go.Proofs.Tryz.f94, Go.Proofs.Tryz.func94, by kernel_rfl, by kernel_rfl, by kernel_rfl, by kernel_rfl⟩
theorem is_95 : FunIs Go.Proofs.Tryz.prog 95 fn_95 := ⟨Go.Proofs.Tryz.f95, Go.Proofs.Tryz.func95, by kernel_rfl, by kernel_rfl, by kernel_rfl, by kernel_rfl⟩
theorem is_96 : FunIs Go.Proofs.Tryz.prog 96 fn_96 := ⟨Go.Proofs.Tryz.f96, Go.Proofs.Tryz.func96, by kernel_rfl, by kernel_rfl, by kernel_rfl, by kernel_rfl⟩
theorem is_97 : FunIs Go.Proofs.Tryz.prog 97 fn_97 := ⟨Go.Proofs.Tryz.f97, Go.Proofs.Tryz.func97, by kernel_rfl, by kernel_rfl, by kernel_rfl, by kernel_rfl⟩
theorem is_98 : FunIs Go.Proofs.Tryz.prog 98 fn_98 := ⟨Go.Proofs.Tryz.f98, Go.Proofs.Tryz.func98, by kernel_rfl, by kernel_rfl, by kernel_rfl, by kernel_rfl⟩
theorem is_99 : FunIs Go.Proofs.Tryz.prog 99 fn_99 := ⟨Go.Proofs.Tryz.f99, Go.Proofs.Tryz.func99, by kernel_rfl, by kernel_rfl, by kernel_rfl, by kernel_rfl⟩
theorem is_100 : FunIs Go.Proofs.Tryz.prog 100 fn_100 := ⟨Go.Proofs.Tryz.f100, Go.Proofs.Tryz.func100, by kernel_rfl, by kernel_rfl, by kernel_rfl, by kernel_rfl⟩
theorem is_101 : FunIs Go.Proofs.Tryz.prog 101 fn_101 := ⟨Go.Proofs.Tryz.f101, Go.Proofs.Tryz.func101, by kernel_rfl, by kernel_rfl, by kernel_rfl, by kernel_rfl⟩
theorem is_116 : FunIs Go.Proofs.Tryz.prog 116 fn_116 := ⟨Go.Proofs.Tryz.f116, Go.Proofs.Tryz.func116, by kernel_rfl, by kernel_rfl, by kernel_rfl, by kernel_rfl⟩
theorem is_128 : FunIs Go.Proofs.Tryz.prog 128 fn_128 := ⟨Go.Proofs.Tryz.f128, Go.Proofs.Tryz.func128, by kernel_rfl, by kernel_rfl, by kernel_rfl, by kernel_rfl⟩
theorem is_132 : FunIs Go.Proofs.Tryz.prog 132 fn_132 := ⟨Go.Proofs.Tryz.f132, Go.Proofs.Tryz.func132, by kernel_rfl, by kernel_rfl, by kernel_rfl, by kernel_rfl⟩
theorem is_137 : FunIs Go.Proofs.Tryz.prog 137 fn_137 := ⟨Go.Proofs.Tryz.f137, Go.Proofs.Tryz.func137, by kernel_rfl, by kernel_rfl, by kernel_rfl, by kernel_rfl⟩
theorem is_138 : FunIs Go.Proofs.Tryz.prog 138 fn_138 := ⟨Go.Proofs.Tryz.f138, Go.Proofs.Tryz.func138, by kernel_rfl, by kernel_rfl, by kernel_rfl, by kernel_rfl⟩
theorem is_139 : FunIs Go.Proofs.Tryz.prog 139 fn_139 := ⟨Go.Proofs.Tryz.f139, Go.Proofs.Tryz.func139, by kernel_rfl, by kernel_rfl, by kernel_rfl, by kernel_rfl⟩
theorem is_140 : FunIs Go.Proofs.Tryz.prog 140 fn_140 := ⟨Go.Proofs.Tryz.f140, Go.Proofs.Tryz.func140, by kernel_rfl, by kernel_rfl, by kernel_rfl, by kernel_rfl⟩
theorem is_141 : FunIs Go.Proofs.Tryz.prog 141 fn_141 := ⟨Go.Proofs.Tryz.f141, Go.Proofs.Tryz.func141, by kernel_rfl, by kernel_rfl, by kernel_rfl, by kernel_rfl⟩
theorem is_142 : FunIs Go.Proofs.Tryz.prog 142 fn_142 := ⟨Go.Proofs.Tryz.f142, Go.Proofs.Tryz.func142, by kernel_rfl, by kernel_rfl, by kernel_rfl, by kernel_rfl⟩
theorem is_143 : FunIs Go.Proofs.Tryz.prog 143 fn_143 := ⟨Go.Proofs.Tryz.f143, Go.Proofs.Tryz.func143, by kernel_rfl, by kernel_rfl, by kernel_rfl, by kernel_rfl⟩
theorem is_144 : FunIs Go.Proofs.Tryz.prog 144 fn_144 := ⟨Go.Proofs.Tryz.f144, Go.Proofs.Tryz.func144, by kernel_rfl, by kernel_rfl, by kernel_rfl, by kernel_rfl⟩
theorem is_145 : FunIs Go.Proofs.Tryz.prog 145 fn_145 := ⟨Go.Proofs.Tryz.f145, Go.Proofs.Tryz.func145, by kernel_rfl, by kernel_rfl, by kernel_rfl, by kernel_rfl⟩
theorem is_146 : FunIs Go.Proofs.Tryz.prog 146 fn_146 := ⟨Go.Proofs.Tryz.f146, Go.Proofs.Tryz.func146, by kernel_rfl, by kernel_rfl, by kernel_rfl, by kernel_rfl⟩
theorem is_147 : FunIs Go.Proofs.Tryz.prog 147 fn_147 := ⟨Go.Proofs.Tryz.f147, Go.Proofs.Tryz.func147, by kernel_rfl, by kernel_rfl, by kernel_rfl, by kernel_rfl⟩
theorem is_148 : FunIs Go.Proofs.Tryz.prog 148 fn_148 := ⟨Go.Proofs.Tryz.f148, Go.Proofs.Tryz.func148, by kernel_rfl, by kernel_rfl, by kernel_rfl, by kernel_rfl⟩
theorem is_149 : FunIs Go.Proofs.Tryz.prog 149 fn_149 := ⟨Go.Proofs.Tryz.f149, Go.Proofs.Tryz.func149, by kernel_rfl, by kernel_rfl, by kernel_rfl, by kernel_rfl⟩
theorem is_150 : FunIs Go.Proofs.Tryz.prog 150 fn_150 := ⟨Go.Proofs.Tryz.f150, Go.Proofs.Tryz.func150, by kernel_rfl, by kernel_rfl, by kernel_rfl, by kernel_rfl⟩
theorem is_151 : FunIs Go.Proofs.Tryz.prog 151 fn_151 := ⟨Go.Proofs.Tryz.f151, Go.Proofs.Tryz.func151, by kernel_rfl, by kernel_rfl, by kernel_rfl, by kernel_rfl⟩
theorem is_152 : FunIs Go.Proofs.Tryz.prog 152 fn_152 := ⟨Go.Proofs.Tryz.f152, Go.Proofs.Tryz.func152, by kernel_rfl, by kernel_rfl, by kernel_rfl, by kernel_rfl⟩
theorem is_153 : FunIs Go.Proofs.Tryz.prog 153 fn_153 := ⟨Go.Proofs.Tryz.f153, Go.Proofs.Tryz.func153, by kernel_rfl, by kernel_rfl, by kernel_rfl, by kernel_rfl⟩
theorem is_154 : FunIs Go.Proofs.Tryz.prog 154 fn_154 := ⟨Go.Proofs.Tryz.f154, Go.Proofs.Tryz.func154, by kernel_rfl, by kernel_rfl, by kernel_rfl, by kernel_rfl⟩
theorem is_155 : FunIs Go.Proofs.Tryz.prog 155 fn_155 := ⟨Go.Proofs.Tryz.f155, Go.Proofs.Tryz.func155, by kernel_rfl, by kernel_rfl, by kernel_rfl, by kernel_rfl⟩
theorem is_156 : FunIs Go.Proofs.Tryz.prog 156 fn_156 := ⟨Go.Proofs.Tryz.f156, Go.Proofs.Tryz.func156, by kernel_rfl, by kernel_rfl, by kernel_rfl, by kernel_rfl⟩
theorem is_157 : FunIs Go.Proofs.Tryz.prog 157 fn_157 := ⟨Go.Proofs.Tryz.f157, Go.Proofs.Tryz.func157, by kernel_rfl, by kernel_rfl, by kernel_rfl, by kernel_rfl⟩
theorem is_158 : FunIs Go.Proofs.Tryz.prog 158 fn_158 := ⟨Go.Proofs.Tryz.f158, Go.Proofs.Tryz.func158, by kernel_rfl, by kernel_rfl, by kernel_rfl, by kernel_rfl⟩
theorem is_159 : FunIs Go.Proofs.Tryz.prog 159 fn_159 := ⟨Go.Proofs.Tryz.f159, Go.Proofs.Tryz.func159, by kernel_rfl, by kernel_rfl, by kernel_rfl, by kernel_rfl⟩
theorem is_198 : FunIs Go.Proofs.Tryz.prog 198 fn_198 := ⟨Go.Proofs.Tryz.f198, Go.Proofs.Tryz.func198, by kernel_rfl, by kernel_rfl, by kernel_rfl, by kernel_rfl⟩
theorem is_200 : FunIs Go.Proofs.Tryz.prog 200 fn_200 := ⟨Go.Proofs.Tryz.f200, Go.Proofs.Tryz.func200, by kernel_rfl, by kernel_rfl, by kernel_rfl, by kernel_rfl⟩
theorem is_201 : FunIs Go.Proofs.Tryz.prog 201 fn_201 := ⟨Go.Proofs.Tryz.f201, Go.Proofs.Tryz.func201, by kernel_rfl, by kernel_rfl, by kernel_rfl, by kernel_rfl⟩
theorem is_202 : FunIs Go.Proofs.Tryz.prog 202 fn_202 := ⟨Go.Proofs.Tryz.f202, Go.Proofs.Tryz.func202, by kernel_rfl, by kernel_rfl, by kernel_rfl, by kernel_rfl⟩
theorem is_203 : FunIs Go.Proofs.Tryz.prog 203 fn_203 := ⟨Go.Proofs.Tryz.f203, Go.Proofs.Tryz.func203, by kernel_rfl, by kernel_rfl, by kernel_rfl, by kernel_rfl⟩
theorem is_204 : FunIs Go.Proofs.Tryz.prog 204 fn_204 := ⟨Go.Proofs.Tryz.f204, Go.Proofs.Tryz.func204, by kernel_rfl, by kernel_rfl, by kernel_rfl, by kernel_rfl⟩
theorem is_205 : FunIs Go.Proofs.Tryz.prog 205 fn_205 := ⟨Go.Proofs.Tryz.f205, Go.Proofs.Tryz.func205, by kernel_rfl, by kernel_rfl, by kernel_rfl, by kernel_rfl⟩
theorem is_206 : FunIs Go.Proofs.Tryz.prog 206 fn_206 := ⟨Go.Proofs.Tryz.f206, Go.Proofs.Tryz.func206, by kernel_rfl, by kernel_rfl, by kernel_rfl, by kernel_rfl⟩
theorem is_207 : FunIs Go.Proofs.Tryz.prog 207 fn_207 := ⟨Go.Proofs.Tryz.f207, Go.Proofs.Tryz.func207, by kernel_rfl, by kernel_rfl, by kernel_rfl, by kernel_rfl⟩
theorem is_208 : FunIs Go.Proofs.Tryz.prog 208 fn_208 := ⟨Go.Proofs.Tryz.f208, Go.Proofs.Tryz.func208, by kernel_rfl, by kernel_rfl, by kernel_rfl, by kernel_rfl⟩
theorem is_209 : FunIs Go.Proofs.Tryz.prog 209 fn_209 := ⟨Go.Proofs.Tryz.f209, Go.Proofs.Tryz.func209, by kernel_rfl, by kernel_rfl, by kernel_rfl, by kernel_rfl⟩
theorem is_210 : FunIs Go.Proofs.Tryz.prog 210 fn_210 := ⟨Go.Proofs.Tryz.f210, Go.Proofs.Tryz.func210, by kernel_rfl, by kernel_rfl, by kernel_rfl, by kernel_rfl⟩
theorem is_211 : FunIs Go.Proofs.Tryz.prog 211 fn_211 := ⟨Go.Proofs.Tryz.f211, Go.Proofs.Tryz.func211, by kernel_rfl, by kernel_rfl, by kernel_rfl, by kernel_rfl⟩
theorem is_212 : FunIs Go.Proofs.Tryz.prog 212 fn_212 := ⟨Go.Proofs.Tryz.f212, Go.Proofs.Tryz.func212, by kernel_rfl, by kernel_rfl, by kernel_rfl, by kernel_rfl⟩
theorem is_213 : FunIs Go.Proofs.Tryz.prog 213 fn_213 := ⟨Go.Proofs.Tryz.f213, Go.Proofs.Tryz.func213, by kernel_rfl, by kernel_rfl, by kernel_rfl, by kernel_rfl⟩
theorem is_214 : FunIs Go.Proofs.Tryz.prog 214 fn_214 := ⟨Go.Proofs.Tryz.f214, Go.Proofs.Tryz.func214, by kernel_rfl, by kernel_rfl, by kernel_rfl, by kernel_rfl⟩
theorem is_244 : FunIs Go.Proofs.Tryz.prog 244 fn_244 := ⟨Go.Proofs.Tryz.f244, Go.Proofs.Tryz.func244, by kernel_rfl, by kernel_rfl, by kernel_rfl, by kernel_rfl⟩
theorem is_245 : FunIs Go.Proofs.Tryz.prog 245 fn_245 := ⟨Go.Proofs.Tryz.f245, Go.Proofs.Tryz.func245, by kernel_rfl, by kernel_rfl, by kernel_rfl, by kernel_rfl⟩
theorem is_246 : FunIs Go.Proofs.Tryz.prog 246 fn_246 := ⟨Go.Proofs.Tryz.f246, Go.Proofs.Tryz.func246, by kernel_rfl, by kernel_rfl, by kernel_rfl, by kernel_rfl⟩
theorem is_247 : FunIs Go.Proofs.Tryz.prog 247 fn_247 := ⟨Go.Proofs.Tryz.f247, Go.Proofs.Tryz.func247, by kernel_rfl, by kernel_rfl, by kernel_rfl, by kernel_rfl⟩
theorem is_248 : FunIs Go.Proofs.Tryz.prog 248 fn_248 := ⟨Go.Proofs.Tryz.f248, Go.Proofs.Tryz.func248, by kernel_rfl, by kernel_rfl, by kernel_rfl, by kernel_rfl⟩
theorem is_249 : FunIs Go.Proofs.Tryz.prog 249 fn_249 := ⟨Go.Proofs.Tryz.f249, Go.Proofs.Tryz.func249, by kernel_rfl, by kernel_rfl, by kernel_rfl, by kernel_rfl⟩
theorem is_250 : FunIs Go.Proofs.Tryz.prog 250 fn_250 := ⟨Go.Proofs.Tryz.f250, Go.Proofs.Tryz.func250, by kernel_rfl, by kernel_rfl, by kernel_rfl, by kernel_rfl⟩
theorem is_251 : FunIs Go.Proofs.Tryz.prog 251 fn_251 := ⟨Go.Proofs.Tryz.f251, Go.Proofs.Tryz.func251, by kernel_rfl, by kernel_rfl, by kernel_rfl, by kernel_rfl⟩
theorem is_252 : FunIs Go.Proofs.Tryz.prog 252 fn_252 := ⟨Go.Proofs.Tryz.f252, Go.Proofs.Tryz.func252, by kernel_rfl, by kernel_rfl, by kernel_rfl, by kernel_rfl⟩
theorem is_253 : FunIs Go.Proofs.Tryz.prog 253 fn_253 := ⟨Go.Proofs.Tryz.f253, Go.Proofs.Tryz.func253, by kernel_rfl, by kernel_rfl, by kernel_rfl, by kernel_rfl⟩
theorem is_254 : FunIs Go.Proofs.Tryz.prog 254 fn_254 := ⟨Go.Proofs.Tryz.f254, Go.Proofs.Tryz.func254, by kernel_rfl, by kernel_rfl, by kernel_rfl, by kernel_rfl⟩
theorem is_255 : FunIs Go.Proofs.Tryz.prog 255 fn_255 := ⟨Go.Proofs.Tryz.f255, Go.Proofs.Tryz.func255, by kernel_rfl, by kernel_rfl, by kernel_rfl, by kernel_rfl⟩
theorem is_266 : FunIs Go.Proofs.Tryz.prog 266 fn_266 := ⟨Go.Proofs.Tryz.f266, Go.Proofs.Tryz.func266, by kernel_rfl, by kernel_rfl, by kernel_rfl, by kernel_rfl⟩
theorem is_267 : FunIs Go.Proofs.Tryz.prog 267 fn_267 := ⟨Go.Proofs.Tryz.f267, Go.Proofs.Tryz.func267, by kernel_rfl, by kernel_rfl, by kernel_rfl, by kernel_rfl⟩
theorem is_268 : FunIs Go.Proofs.Tryz.prog 268 fn_268 := ⟨Go.Proofs.Tryz.f268, Go.Proofs.Tryz.func268, by kernel_rfl, by kernel_rfl, by kernel_rfl, by kernel_rfl⟩
theorem is_281 : FunIs Go.Proofs.Tryz.prog 281 fn_281 := ⟨Go.Proofs.Tryz.f281, Go.Proofs.Tryz.func281, by kernel_rfl, by kernel_rfl, by kernel_rfl, by kernel_rfl⟩
theorem oks_impl_in : ∀ en ∈ ens_impl_in, FnOk Go.Proofs.Tryz.prog en := List.forall_mem_nil _
theorem sane_impl_in : saneA fn_65.nt [.dat (.int .i64), .dat (.int .i64), .dat (.int .i64)] [.dat .bool] = true := by kernel_rfl
theorem ok_impl_in : FnOk Go.Proofs.Tryz.prog en_impl_in := fn_ok tabOk eqOk oks_impl_in hmix is_65 sane_impl_in (List.forall_mem_nil _) run_impl_in
theorem oks_impl_bytesOf : ∀ en ∈ ens_impl_bytesOf, FnOk Go.Proofs.Tryz.prog en := List.forall_mem_nil _
theorem sane_impl_bytesOf : saneA fn_128.nt [.dat (.int .i64), .dat (.int .i64)] [.own (.int .u8)] = true := by kernel_rfl
theorem lab_impl_bytesOf_3 : ∀ n : Nat, LabOk Go.Proofs.Tryz.prog 128 fn_128 [.dat (.int .i64), .dat (.int .i64)] [.own (.int .u8)] ⟨3, [.r, .r, .l, .r, .l, .l, .l, .l], sl_impl_bytesOf_3, L_impl_bytesOf_3 n⟩
  | 0 => ⟨by kernel_rfl, fun _ _ _ _ _ _ _ _ _ h => by cases h⟩
  | n + 1 => by
    have ih := lab_impl_bytesOf_3 n
    exact lab_run tabOk eqOk oks_impl_bytesOf hmix is_128 sane_impl_bytesOf (List.forall_mem_cons.2 ⟨ih, List.forall_mem_nil _⟩) (by kernel_rfl) (run_impl_bytesOf_3 n)
theorem ok_impl_bytesOf : FnOk Go.Proofs.Tryz.prog en_impl_bytesOf := fn_ok tabOk eqOk oks_impl_bytesOf hmix is_128 sane_impl_bytesOf (List.forall_mem_cons.2 ⟨lab_impl_bytesOf_3 fuel, List.forall_mem_nil _⟩) run_impl_bytesOf
theorem oks_impl_BytesOf : ∀ en ∈ ens_impl_BytesOf, FnOk Go.Proofs.Tryz.prog en := List.forall_mem_cons.2 ⟨ok_impl_in, List.forall_mem_cons.2 ⟨ok_impl_bytesOf, List.forall_mem_nil _⟩⟩
theorem sane_impl_BytesOf : saneA fn_63.nt [.dat (.int .i64), .dat (.int .i64)] [.own (.int .u8)] = true := by kernel_rfl
theorem ok_impl_BytesOf : FnOk Go.Proofs.Tryz.prog en_impl_BytesOf := fn_ok tabOk eqOk oks_impl_BytesOf hmix is_63 sane_impl_BytesOf (List.forall_mem_nil _) run_impl_BytesOf
theorem oks_laws_alive : ∀ en ∈ ens_laws_alive, FnOk Go.Proofs.Tryz.prog en := List.forall_mem_cons.2 ⟨ok_impl_BytesOf, List.forall_mem_nil _⟩
theorem sane_laws_alive : saneA fn_14.nt [] [.dat .bool] = true := by kernel_rfl
theorem ok_laws_alive : FnOk Go.Proofs.Tryz.prog en_laws_alive := fn_ok tabOk eqOk oks_laws_alive hmix is_14 sane_laws_alive (List.forall_mem_nil _) run_laws_alive
theorem oks_spec_l20Open : ∀ en ∈ ens_spec_l20Open, FnOk Go.Proofs.Tryz.prog en := List.forall_mem_nil _
theorem sane_spec_l20Open : saneA fn_47.nt [.dat (.sl (.int .u8))] [.box ts_l20Rd []] = true := by kernel_rfl
theorem ok_spec_l20Open : FnOk Go.Proofs.Tryz.prog en_spec_l20Open := fn_ok tabOk eqOk oks_spec_l20Open hmix is_47 sane_spec_l20Open (List.forall_mem_nil _) run_spec_l20Open
theorem oks_spec_l20Rd_pick : ∀ en ∈ ens_spec_l20Rd_pick, FnOk Go.Proofs.Tryz.prog en := List.forall_mem_nil _
theorem sane_spec_l20Rd_pick : saneA fn_49.nt [.box ts_l20Rd [], .dat (.int .i64)] [.dat (.int .i64)] = true := by kernel_rfl
theorem ok_spec_l20Rd_pick : FnOk Go.Proofs.Tryz.prog en_spec_l20Rd_pick := fn_ok tabOk eqOk oks_spec_l20Rd_pick hmix is_49 sane_spec_l20Rd_pick (List.forall_mem_nil _) run_spec_l20Rd_pick
theorem oks_spec_l1In : ∀ en ∈ ens_spec_l1In, FnOk Go.Proofs.Tryz.prog en := List.forall_mem_nil _
theorem sane_spec_l1In : saneA fn_79.nt [.dat (.int .i64), .dat (.int .i64), .dat (.int .i64)] [.dat .bool] = true := by kernel_rfl
theorem ok_spec_l1In : FnOk Go.Proofs.Tryz.prog en_spec_l1In := fn_ok tabOk eqOk oks_spec_l1In hmix is_79 sane_spec_l1In (List.forall_mem_nil _) run_spec_l1In
theorem oks_spec_MouthOk : ∀ en ∈ ens_spec_MouthOk, FnOk Go.Proofs.Tryz.prog en := List.forall_mem_cons.2 ⟨ok_spec_l1In, List.forall_mem_nil _⟩
theorem sane_spec_MouthOk : saneA fn_142.nt [.agg tMouth []] [.dat .bool] = true := by kernel_rfl
theorem lab_spec_MouthOk_4 : ∀ n : Nat, LabOk Go.Proofs.Tryz.prog 142 fn_142 [.agg tMouth []] [.dat .bool] ⟨4, [.r, .r, .l, .r, .l, .l, .l, .l], sl_spec_MouthOk_4, L_spec_MouthOk_4 n⟩
  | 0 => ⟨by kernel_rfl, fun _ _ _ _ _ _ _ _ _ h => by cases h⟩
  | n + 1 => by
    have ih := lab_spec_MouthOk_4 n
    exact lab_run tabOk eqOk oks_spec_MouthOk hmix is_142 sane_spec_MouthOk (List.forall_mem_cons.2 ⟨ih, List.forall_mem_nil _⟩) (by kernel_rfl) (run_spec_MouthOk_4 n)
theorem ok_spec_MouthOk : FnOk Go.Proofs.Tryz.prog en_spec_MouthOk := fn_ok tabOk eqOk oks_spec_MouthOk hmix is_142 sane_spec_MouthOk (List.forall_mem_cons.2 ⟨lab_spec_MouthOk_4 fuel, List.forall_mem_nil _⟩) run_spec_MouthOk
theorem oks_spec_EarOk : ∀ en ∈ ens_spec_EarOk, FnOk Go.Proofs.Tryz.prog en := List.forall_mem_cons.2 ⟨ok_spec_l1In, List.forall_mem_nil _⟩
theorem sane_spec_EarOk : saneA fn_143.nt [.agg tEar []] [.dat .bool] = true := by kernel_rfl
theorem lab_spec_EarOk_4 : ∀ n : Nat, LabOk Go.Proofs.Tryz.prog 143 fn_143 [.agg tEar []] [.dat .bool] ⟨4, [.r, .r, .l, .r, .l, .l, .l, .l], sl_spec_EarOk_4, L_spec_EarOk_4 n⟩
  | 0 => ⟨by kernel_rfl, fun _ _ _ _ _ _ _ _ _ h => by cases h⟩
  | n + 1 => by
    have ih := lab_spec_EarOk_4 n
    exact lab_run tabOk eqOk oks_spec_EarOk hmix is_143 sane_spec_EarOk (List.forall_mem_cons.2 ⟨ih, List.forall_mem_nil _⟩) (by kernel_rfl) (run_spec_EarOk_4 n)
theorem ok_spec_EarOk : FnOk Go.Proofs.Tryz.prog en_spec_EarOk := fn_ok tabOk eqOk oks_spec_EarOk hmix is_143 sane_spec_EarOk (List.forall_mem_cons.2 ⟨lab_spec_EarOk_4 fuel, List.forall_mem_nil _⟩) run_spec_EarOk
theorem oks_spec_ClockOk : ∀ en ∈ ens_spec_ClockOk, FnOk Go.Proofs.Tryz.prog en := List.forall_mem_cons.2 ⟨ok_spec_l1In, List.forall_mem_nil _⟩
theorem sane_spec_ClockOk : saneA fn_144.nt [.agg tClock []] [.dat .bool] = true := by kernel_rfl
theorem ok_spec_ClockOk : FnOk Go.Proofs.Tryz.prog en_spec_ClockOk := fn_ok tabOk eqOk oks_spec_ClockOk hmix is_144 sane_spec_ClockOk (List.forall_mem_nil _) run_spec_ClockOk
theorem oks_spec_l15Open : ∀ en ∈ ens_spec_l15Open, FnOk Go.Proofs.Tryz.prog en := List.forall_mem_nil _
theorem sane_spec_l15Open : saneA fn_145.nt [.agg tEnd []] [.dat .bool] = true := by kernel_rfl
theorem ok_spec_l15Open : FnOk Go.Proofs.Tryz.prog en_spec_l15Open := fn_ok tabOk eqOk oks_spec_l15Open hmix is_145 sane_spec_l15Open (List.forall_mem_nil _) run_spec_l15Open
theorem oks_spec_EndOk : ∀ en ∈ ens_spec_EndOk, FnOk Go.Proofs.Tryz.prog en := List.forall_mem_cons.2 ⟨ok_spec_l1In, List.forall_mem_cons.2 ⟨ok_spec_MouthOk, List.forall_mem_cons.2 ⟨ok_spec_EarOk, List.forall_mem_cons.2 ⟨ok_spec_ClockOk, List.forall_mem_cons.2 ⟨ok_spec_l15Open, List.forall_mem_nil _⟩⟩⟩⟩⟩
theorem sane_spec_EndOk : saneA fn_78.nt [.agg tEnd []] [.dat .bool] = true := by kernel_rfl
theorem ok_spec_EndOk : FnOk Go.Proofs.Tryz.prog en_spec_EndOk := fn_ok tabOk eqOk oks_spec_EndOk hmix is_78 sane_spec_EndOk (List.forall_mem_nil _) run_spec_EndOk
theorem oks_spec_ClockNew : ∀ en ∈ ens_spec_ClockNew, FnOk Go.Proofs.Tryz.prog en := List.forall_mem_nil _
theorem sane_spec_ClockNew : saneA fn_137.nt [.dat (.int .i64)] [.agg tClock []] = true := by kernel_rfl
theorem ok_spec_ClockNew : FnOk Go.Proofs.Tryz.prog en_spec_ClockNew := fn_ok tabOk eqOk oks_spec_ClockNew hmix is_137 sane_spec_ClockNew (List.forall_mem_nil _) run_spec_ClockNew
theorem oks_spec_EndNew : ∀ en ∈ ens_spec_EndNew, FnOk Go.Proofs.Tryz.prog en := List.forall_mem_cons.2 ⟨ok_spec_EndOk, List.forall_mem_cons.2 ⟨ok_spec_ClockNew, List.forall_mem_nil _⟩⟩
theorem sane_spec_EndNew : saneA fn_70.nt [.dat (.int .i64), .dat (.int .i64), .dat (.int .i64), .dat (.int .i64)] [.agg tEnd [7, 10, 13, 14]] = true := by kernel_rfl
theorem ok_spec_EndNew : FnOk Go.Proofs.Tryz.prog en_spec_EndNew := fn_ok tabOk eqOk oks_spec_EndNew hmix is_70 sane_spec_EndNew (List.forall_mem_nil _) run_spec_EndNew
theorem oks_spec_l20Rd_seq : ∀ en ∈ ens_spec_l20Rd_seq, FnOk Go.Proofs.Tryz.prog en := List.forall_mem_cons.2 ⟨ok_spec_l20Rd_pick, List.forall_mem_nil _⟩
theorem sane_spec_l20Rd_seq : saneA fn_71.nt [.box ts_l20Rd []] [.dat (.int .i64)] = true := by kernel_rfl
theorem ok_spec_l20Rd_seq : FnOk Go.Proofs.Tryz.prog en_spec_l20Rd_seq := fn_ok tabOk eqOk oks_spec_l20Rd_seq hmix is_71 sane_spec_l20Rd_seq (List.forall_mem_nil _) run_spec_l20Rd_seq
theorem oks_spec_l20Rd_odd : ∀ en ∈ ens_spec_l20Rd_odd, FnOk Go.Proofs.Tryz.prog en := List.forall_mem_cons.2 ⟨ok_spec_l20Rd_pick, List.forall_mem_nil _⟩
theorem sane_spec_l20Rd_odd : saneA fn_116.nt [.box ts_l20Rd [], .dat (.int .i64)] [.dat .bool] = true := by kernel_rfl
theorem ok_spec_l20Rd_odd : FnOk Go.Proofs.Tryz.prog en_spec_l20Rd_odd := fn_ok tabOk eqOk oks_spec_l20Rd_odd hmix is_116 sane_spec_l20Rd_odd (List.forall_mem_nil _) run_spec_l20Rd_odd
theorem oks_spec_l13Copy : ∀ en ∈ ens_spec_l13Copy, FnOk Go.Proofs.Tryz.prog en := List.forall_mem_nil _
theorem sane_spec_l13Copy : saneA fn_146.nt [.agg tMouth []] [.agg tMouth [1, 4]] = true := by kernel_rfl
theorem ok_spec_l13Copy : FnOk Go.Proofs.Tryz.prog en_spec_l13Copy := fn_ok tabOk eqOk oks_spec_l13Copy hmix is_146 sane_spec_l13Copy (List.forall_mem_nil _) run_spec_l13Copy
theorem oks_spec_l15Copy : ∀ en ∈ ens_spec_l15Copy, FnOk Go.Proofs.Tryz.prog en := List.forall_mem_cons.2 ⟨ok_spec_l13Copy, List.forall_mem_nil _⟩
theorem sane_spec_l15Copy : saneA fn_80.nt [.agg tEnd []] [.agg tEnd [7, 10, 13, 14]] = true := by kernel_rfl
theorem ok_spec_l15Copy : FnOk Go.Proofs.Tryz.prog en_spec_l15Copy := fn_ok tabOk eqOk oks_spec_l15Copy hmix is_80 sane_spec_l15Copy (List.forall_mem_nil _) run_spec_l15Copy
theorem oks_spec_l15Arm : ∀ en ∈ ens_spec_l15Arm, FnOk Go.Proofs.Tryz.prog en := List.forall_mem_cons.2 ⟨ok_spec_l15Open, List.forall_mem_nil _⟩
theorem sane_spec_l15Arm : saneA fn_81.nt [.agg tEnd [], .dat (.int .i64), .dat .bool] [.agg tEnd []] = true := by kernel_rfl
theorem ok_spec_l15Arm : FnOk Go.Proofs.Tryz.prog en_spec_l15Arm := fn_ok tabOk eqOk oks_spec_l15Arm hmix is_81 sane_spec_l15Arm (List.forall_mem_nil _) run_spec_l15Arm
theorem oks_spec_SeqOf : ∀ en ∈ ens_spec_SeqOf, FnOk Go.Proofs.Tryz.prog en := List.forall_mem_nil _
theorem sane_spec_SeqOf : saneA fn_209.nt [.dat (.int .i64)] [.dat (.int .i64)] = true := by kernel_rfl
theorem ok_spec_SeqOf : FnOk Go.Proofs.Tryz.prog en_spec_SeqOf := fn_ok tabOk eqOk oks_spec_SeqOf hmix is_209 sane_spec_SeqOf (List.forall_mem_nil _) run_spec_SeqOf
theorem oks_spec_l15Wait : ∀ en ∈ ens_spec_l15Wait, FnOk Go.Proofs.Tryz.prog en := List.forall_mem_nil _
theorem sane_spec_l15Wait : saneA fn_210.nt [.agg tEnd []] [.dat (.int .i64)] = true := by kernel_rfl
theorem ok_spec_l15Wait : FnOk Go.Proofs.Tryz.prog en_spec_l15Wait := fn_ok tabOk eqOk oks_spec_l15Wait hmix is_210 sane_spec_l15Wait (List.forall_mem_nil _) run_spec_l15Wait
theorem oks_spec_EarFree : ∀ en ∈ ens_spec_EarFree, FnOk Go.Proofs.Tryz.prog en := List.forall_mem_cons.2 ⟨ok_spec_EarOk, List.forall_mem_nil _⟩
theorem sane_spec_EarFree : saneA fn_211.nt [.agg tEar []] [.dat (.int .i64)] = true := by kernel_rfl
theorem ok_spec_EarFree : FnOk Go.Proofs.Tryz.prog en_spec_EarFree := fn_ok tabOk eqOk oks_spec_EarFree hmix is_211 sane_spec_EarFree (List.forall_mem_nil _) run_spec_EarFree
theorem oks_spec_EarRanges : ∀ en ∈ ens_spec_EarRanges, FnOk Go.Proofs.Tryz.prog en := List.forall_mem_cons.2 ⟨ok_spec_EarOk, List.forall_mem_nil _⟩
theorem sane_spec_EarRanges : saneA fn_212.nt [.agg tEar []] [.own tRange] = true := by kernel_rfl
theorem lab_spec_EarRanges_5 : ∀ n : Nat, LabOk Go.Proofs.Tryz.prog 212 fn_212 [.agg tEar []] [.own tRange] ⟨5, [.r, .r, .r, .l, .r, .l, .l, .l, .l], sl_spec_EarRanges_5, L_spec_EarRanges_5 n⟩
  | 0 => ⟨by kernel_rfl, fun _ _ _ _ _ _ _ _ _ h => by cases h⟩
  | n + 1 => by
    have ih := lab_spec_EarRanges_5 n
    exact lab_run tabOk eqOk oks_spec_EarRanges hmix is_212 sane_spec_EarRanges (List.forall_mem_cons.2 ⟨ih, List.forall_mem_nil _⟩) (by kernel_rfl) (run_spec_EarRanges_5 n)
theorem ok_spec_EarRanges : FnOk Go.Proofs.Tryz.prog en_spec_EarRanges := fn_ok tabOk eqOk oks_spec_EarRanges hmix is_212 sane_spec_EarRanges (List.forall_mem_cons.2 ⟨lab_spec_EarRanges_5 fuel, List.forall_mem_nil _⟩) run_spec_EarRanges
theorem oks_spec_l15Segment : ∀ en ∈ ens_spec_l15Segment, FnOk Go.Proofs.Tryz.prog en := List.forall_mem_cons.2 ⟨ok_spec_SeqOf, List.forall_mem_cons.2 ⟨ok_spec_l15Wait, List.forall_mem_cons.2 ⟨ok_spec_EarFree, List.forall_mem_cons.2 ⟨ok_spec_EarRanges, List.forall_mem_nil _⟩⟩⟩⟩
theorem sane_spec_l15Segment : saneA fn_147.nt [.agg tEnd [], .dat (.int .i64)] [.agg tSegment [9, 10]] = true := by kernel_rfl
theorem lab_spec_l15Segment_9 : ∀ n : Nat, LabOk Go.Proofs.Tryz.prog 147 fn_147 [.agg tEnd [], .dat (.int .i64)] [.agg tSegment [9, 10]] ⟨9, [.r, .r, .r, .r, .r, .r, .r, .l, .r, .l, .l, .l, .l], sl_spec_l15Segment_9, L_spec_l15Segment_9 n⟩
  | 0 => ⟨by kernel_rfl, fun _ _ _ _ _ _ _ _ _ h => by cases h⟩
  | n + 1 => by
    have ih := lab_spec_l15Segment_9 n
    exact lab_run tabOk eqOk oks_spec_l15Segment hmix is_147 sane_spec_l15Segment (List.forall_mem_cons.2 ⟨ih, List.forall_mem_nil _⟩) (by kernel_rfl) (run_spec_l15Segment_9 n)
theorem ok_spec_l15Segment : FnOk Go.Proofs.Tryz.prog en_spec_l15Segment := fn_ok tabOk eqOk oks_spec_l15Segment hmix is_147 sane_spec_l15Segment (List.forall_mem_cons.2 ⟨lab_spec_l15Segment_9 fuel, List.forall_mem_nil _⟩) run_spec_l15Segment
theorem oks_spec_l15First : ∀ en ∈ ens_spec_l15First, FnOk Go.Proofs.Tryz.prog en := List.forall_mem_cons.2 ⟨ok_spec_l15Segment, List.forall_mem_nil _⟩
theorem sane_spec_l15First : saneA fn_82.nt [.agg tEnd []] [.agg tSegment [9, 10]] = true := by kernel_rfl
theorem ok_spec_l15First : FnOk Go.Proofs.Tryz.prog en_spec_l15First := fn_ok tabOk eqOk oks_spec_l15First hmix is_82 sane_spec_l15First (List.forall_mem_nil _) run_spec_l15First
theorem oks_spec_EndConnect : ∀ en ∈ ens_spec_EndConnect, FnOk Go.Proofs.Tryz.prog en := List.forall_mem_cons.2 ⟨ok_spec_EndOk, List.forall_mem_cons.2 ⟨ok_spec_l1In, List.forall_mem_cons.2 ⟨ok_spec_l15Copy, List.forall_mem_cons.2 ⟨ok_spec_l15Arm, List.forall_mem_cons.2 ⟨ok_spec_l15First, List.forall_mem_nil _⟩⟩⟩⟩⟩
theorem sane_spec_EndConnect : saneA fn_20.nt [.agg tEnd [], .dat (.int .i64), .dat (.int .i64), .dat (.int .i64)] [.agg tEnd [], .own tSegment] = true := by kernel_rfl
theorem ok_spec_EndConnect : FnOk Go.Proofs.Tryz.prog en_spec_EndConnect := fn_ok tabOk eqOk oks_spec_EndConnect hmix is_20 sane_spec_EndConnect (List.forall_mem_nil _) run_spec_EndConnect
theorem oks_spec_MouthWrite : ∀ en ∈ ens_spec_MouthWrite, FnOk Go.Proofs.Tryz.prog en := List.forall_mem_cons.2 ⟨ok_spec_MouthOk, List.forall_mem_cons.2 ⟨ok_spec_l13Copy, List.forall_mem_nil _⟩⟩
theorem sane_spec_MouthWrite : saneA fn_97.nt [.agg tMouth [], .dat (.sl (.int .u8))] [.agg tMouth [1, 4], .dat (.int .i64)] = true := by kernel_rfl
theorem ok_spec_MouthWrite : FnOk Go.Proofs.Tryz.prog en_spec_MouthWrite := fn_ok tabOk eqOk oks_spec_MouthWrite hmix is_97 sane_spec_MouthWrite (List.forall_mem_nil _) run_spec_MouthWrite
theorem oks_spec_MouthNext : ∀ en ∈ ens_spec_MouthNext, FnOk Go.Proofs.Tryz.prog en := List.forall_mem_cons.2 ⟨ok_spec_l1In, List.forall_mem_cons.2 ⟨ok_spec_MouthOk, List.forall_mem_cons.2 ⟨ok_spec_l13Copy, List.forall_mem_nil _⟩⟩⟩
theorem sane_spec_MouthNext : saneA fn_158.nt [.agg tMouth [], .dat (.int .i64)] [.agg tMouth [1, 4], .dat (.int .i64), .own (.int .u8)] = true := by kernel_rfl
theorem ok_spec_MouthNext : FnOk Go.Proofs.Tryz.prog en_spec_MouthNext := fn_ok tabOk eqOk oks_spec_MouthNext hmix is_158 sane_spec_MouthNext (List.forall_mem_nil _) run_spec_MouthNext
theorem oks_spec_l15Bytes : ∀ en ∈ ens_spec_l15Bytes, FnOk Go.Proofs.Tryz.prog en := List.forall_mem_cons.2 ⟨ok_spec_l15Segment, List.forall_mem_cons.2 ⟨ok_spec_MouthNext, List.forall_mem_nil _⟩⟩
theorem sane_spec_l15Bytes : saneA fn_98.nt [.agg tEnd []] [.agg tEnd [], .own tSegment] = true := by kernel_rfl
theorem lab_spec_l15Bytes_2 : ∀ n : Nat, LabOk Go.Proofs.Tryz.prog 98 fn_98 [.agg tEnd []] [.agg tEnd [], .own tSegment] ⟨2, [.r, .r, .l, .l, .l, .l, .l], sl_spec_l15Bytes_2, L_spec_l15Bytes_2 n⟩
  | 0 => ⟨by kernel_rfl, fun _ _ _ _ _ _ _ _ _ h => by cases h⟩
  | n + 1 => by
    have ih := lab_spec_l15Bytes_2 n
    exact lab_run tabOk eqOk oks_spec_l15Bytes hmix is_98 sane_spec_l15Bytes (List.forall_mem_cons.2 ⟨ih, List.forall_mem_nil _⟩) (by kernel_rfl) (run_spec_l15Bytes_2 n)
theorem ok_spec_l15Bytes : FnOk Go.Proofs.Tryz.prog en_spec_l15Bytes := fn_ok tabOk eqOk oks_spec_l15Bytes hmix is_98 sane_spec_l15Bytes (List.forall_mem_cons.2 ⟨lab_spec_l15Bytes_2 fuel, List.forall_mem_nil _⟩) run_spec_l15Bytes
theorem oks_spec_EndWrite : ∀ en ∈ ens_spec_EndWrite, FnOk Go.Proofs.Tryz.prog en := List.forall_mem_cons.2 ⟨ok_spec_EndOk, List.forall_mem_cons.2 ⟨ok_spec_l1In, List.forall_mem_cons.2 ⟨ok_spec_l15Copy, List.forall_mem_cons.2 ⟨ok_spec_l15Arm, List.forall_mem_cons.2 ⟨ok_spec_MouthWrite, List.forall_mem_cons.2 ⟨ok_spec_l15Bytes, List.forall_mem_nil _⟩⟩⟩⟩⟩⟩
theorem sane_spec_EndWrite : saneA fn_28.nt [.agg tEnd [], .dat (.sl (.int .u8)), .dat (.int .i64)] [.agg tEnd [], .dat (.int .i64), .own tSegment] = true := by kernel_rfl
theorem ok_spec_EndWrite : FnOk Go.Proofs.Tryz.prog en_spec_EndWrite := fn_ok tabOk eqOk oks_spec_EndWrite hmix is_28 sane_spec_EndWrite (List.forall_mem_nil _) run_spec_EndWrite
theorem oks_spec_l15Last : ∀ en ∈ ens_spec_l15Last, FnOk Go.Proofs.Tryz.prog en := List.forall_mem_cons.2 ⟨ok_spec_l15Segment, List.forall_mem_nil _⟩
theorem sane_spec_l15Last : saneA fn_101.nt [.agg tEnd []] [.agg tSegment [9, 10]] = true := by kernel_rfl
theorem ok_spec_l15Last : FnOk Go.Proofs.Tryz.prog en_spec_l15Last := fn_ok tabOk eqOk oks_spec_l15Last hmix is_101 sane_spec_l15Last (List.forall_mem_nil _) run_spec_l15Last
theorem oks_spec_EndClose : ∀ en ∈ ens_spec_EndClose, FnOk Go.Proofs.Tryz.prog en := List.forall_mem_cons.2 ⟨ok_spec_EndOk, List.forall_mem_cons.2 ⟨ok_spec_l1In, List.forall_mem_cons.2 ⟨ok_spec_l15Copy, List.forall_mem_cons.2 ⟨ok_spec_l15Arm, List.forall_mem_cons.2 ⟨ok_spec_l15Last, List.forall_mem_nil _⟩⟩⟩⟩⟩
theorem sane_spec_EndClose : saneA fn_32.nt [.agg tEnd [], .dat (.int .i64)] [.agg tEnd [], .own tSegment] = true := by kernel_rfl
theorem ok_spec_EndClose : FnOk Go.Proofs.Tryz.prog en_spec_EndClose := fn_ok tabOk eqOk oks_spec_EndClose hmix is_32 sane_spec_EndClose (List.forall_mem_nil _) run_spec_EndClose
theorem oks_spec_l20Rd_bytes : ∀ en ∈ ens_spec_l20Rd_bytes, FnOk Go.Proofs.Tryz.prog en := List.forall_mem_cons.2 ⟨ok_spec_l20Rd_pick, List.forall_mem_nil _⟩
theorem sane_spec_l20Rd_bytes : saneA fn_52.nt [.box ts_l20Rd [], .dat (.int .i64)] [.own (.int .u8)] = true := by kernel_rfl
theorem lab_spec_l20Rd_bytes_2 : ∀ n : Nat, LabOk Go.Proofs.Tryz.prog 52 fn_52 [.box ts_l20Rd [], .dat (.int .i64)] [.own (.int .u8)] ⟨2, [.r, .r, .l, .l, .l, .l, .l], sl_spec_l20Rd_bytes_2, L_spec_l20Rd_bytes_2 n⟩
  | 0 => ⟨by kernel_rfl, fun _ _ _ _ _ _ _ _ _ h => by cases h⟩
  | n + 1 => by
    have ih := lab_spec_l20Rd_bytes_2 n
    exact lab_run tabOk eqOk oks_spec_l20Rd_bytes hmix is_52 sane_spec_l20Rd_bytes (List.forall_mem_cons.2 ⟨ih, List.forall_mem_nil _⟩) (by kernel_rfl) (run_spec_l20Rd_bytes_2 n)
theorem ok_spec_l20Rd_bytes : FnOk Go.Proofs.Tryz.prog en_spec_l20Rd_bytes := fn_ok tabOk eqOk oks_spec_l20Rd_bytes hmix is_52 sane_spec_l20Rd_bytes (List.forall_mem_cons.2 ⟨lab_spec_l20Rd_bytes_2 fuel, List.forall_mem_nil _⟩) run_spec_l20Rd_bytes
theorem oks_spec_EndListen : ∀ en ∈ ens_spec_EndListen, FnOk Go.Proofs.Tryz.prog en := List.forall_mem_cons.2 ⟨ok_spec_EndOk, List.forall_mem_cons.2 ⟨ok_spec_l15Copy, List.forall_mem_nil _⟩⟩
theorem sane_spec_EndListen : saneA fn_200.nt [.agg tEnd []] [.agg tEnd [7, 10, 13, 14], .dat .bool] = true := by kernel_rfl
theorem ok_spec_EndListen : FnOk Go.Proofs.Tryz.prog en_spec_EndListen := fn_ok tabOk eqOk oks_spec_EndListen hmix is_200 sane_spec_EndListen (List.forall_mem_nil _) run_spec_EndListen
theorem oks_spec_EarRead : ∀ en ∈ ens_spec_EarRead, FnOk Go.Proofs.Tryz.prog en := List.forall_mem_cons.2 ⟨ok_spec_EarOk, List.forall_mem_nil _⟩
theorem sane_spec_EarRead : saneA fn_244.nt [.agg tEar [], .dat (.int .i64)] [.agg tEar [2, 3], .own (.int .u8)] = true := by kernel_rfl
theorem ok_spec_EarRead : FnOk Go.Proofs.Tryz.prog en_spec_EarRead := fn_ok tabOk eqOk oks_spec_EarRead hmix is_244 sane_spec_EarRead (List.forall_mem_nil _) run_spec_EarRead
theorem oks_spec_l15Told : ∀ en ∈ ens_spec_l15Told, FnOk Go.Proofs.Tryz.prog en := List.forall_mem_nil _
theorem sane_spec_l15Told : saneA fn_245.nt [.agg tEnd []] [.dat (.int .i64)] = true := by kernel_rfl
theorem ok_spec_l15Told : FnOk Go.Proofs.Tryz.prog en_spec_l15Told := fn_ok tabOk eqOk oks_spec_l15Told hmix is_245 sane_spec_l15Told (List.forall_mem_nil _) run_spec_l15Told
theorem oks_spec_EndRead : ∀ en ∈ ens_spec_EndRead, FnOk Go.Proofs.Tryz.prog en := List.forall_mem_cons.2 ⟨ok_spec_EndOk, List.forall_mem_cons.2 ⟨ok_spec_l1In, List.forall_mem_cons.2 ⟨ok_spec_l15Copy, List.forall_mem_cons.2 ⟨ok_spec_l15Segment, List.forall_mem_cons.2 ⟨ok_spec_EarFree, List.forall_mem_cons.2 ⟨ok_spec_EarRead, List.forall_mem_cons.2 ⟨ok_spec_l15Told, List.forall_mem_nil _⟩⟩⟩⟩⟩⟩⟩
theorem sane_spec_EndRead : saneA fn_201.nt [.agg tEnd [], .dat (.int .i64), .dat (.int .i64)] [.agg tEnd [7, 10, 13, 14], .own (.int .u8), .own tSegment] = true := by kernel_rfl
theorem ok_spec_EndRead : FnOk Go.Proofs.Tryz.prog en_spec_EndRead := fn_ok tabOk eqOk oks_spec_EndRead hmix is_201 sane_spec_EndRead (List.forall_mem_nil _) run_spec_EndRead
theorem oks_spec_ClockLate : ∀ en ∈ ens_spec_ClockLate, FnOk Go.Proofs.Tryz.prog en := List.forall_mem_cons.2 ⟨ok_spec_ClockOk, List.forall_mem_nil _⟩
theorem sane_spec_ClockLate : saneA fn_246.nt [.agg tClock []] [.agg tClock []] = true := by kernel_rfl
theorem ok_spec_ClockLate : FnOk Go.Proofs.Tryz.prog en_spec_ClockLate := fn_ok tabOk eqOk oks_spec_ClockLate hmix is_246 sane_spec_ClockLate (List.forall_mem_nil _) run_spec_ClockLate
theorem oks_spec_MouthAgain : ∀ en ∈ ens_spec_MouthAgain, FnOk Go.Proofs.Tryz.prog en := List.forall_mem_cons.2 ⟨ok_spec_l1In, List.forall_mem_cons.2 ⟨ok_spec_MouthOk, List.forall_mem_nil _⟩⟩
theorem sane_spec_MouthAgain : saneA fn_247.nt [.agg tMouth [], .dat (.int .i64)] [.dat (.int .i64), .own (.int .u8)] = true := by kernel_rfl
theorem ok_spec_MouthAgain : FnOk Go.Proofs.Tryz.prog en_spec_MouthAgain := fn_ok tabOk eqOk oks_spec_MouthAgain hmix is_247 sane_spec_MouthAgain (List.forall_mem_nil _) run_spec_MouthAgain
theorem oks_spec_EndTick : ∀ en ∈ ens_spec_EndTick, FnOk Go.Proofs.Tryz.prog en := List.forall_mem_cons.2 ⟨ok_spec_EndOk, List.forall_mem_cons.2 ⟨ok_spec_l1In, List.forall_mem_cons.2 ⟨ok_spec_l15Copy, List.forall_mem_cons.2 ⟨ok_spec_l15First, List.forall_mem_cons.2 ⟨ok_spec_l15Last, List.forall_mem_cons.2 ⟨ok_spec_l15Segment, List.forall_mem_cons.2 ⟨ok_spec_ClockLate, List.forall_mem_cons.2 ⟨ok_spec_MouthAgain, List.forall_mem_nil _⟩⟩⟩⟩⟩⟩⟩⟩
theorem sane_spec_EndTick : saneA fn_202.nt [.agg tEnd [], .dat (.int .i64)] [.agg tEnd [7, 10, 13, 14], .own tSegment] = true := by kernel_rfl
theorem ok_spec_EndTick : FnOk Go.Proofs.Tryz.prog en_spec_EndTick := fn_ok tabOk eqOk oks_spec_EndTick hmix is_202 sane_spec_EndTick (List.forall_mem_nil _) run_spec_EndTick
theorem oks_spec_SegmentOk : ∀ en ∈ ens_spec_SegmentOk, FnOk Go.Proofs.Tryz.prog en := List.forall_mem_cons.2 ⟨ok_spec_l1In, List.forall_mem_nil _⟩
theorem sane_spec_SegmentOk : saneA fn_248.nt [.agg tSegment []] [.dat .bool] = true := by kernel_rfl
theorem lab_spec_SegmentOk_4 : ∀ n : Nat, LabOk Go.Proofs.Tryz.prog 248 fn_248 [.agg tSegment []] [.dat .bool] ⟨4, [.r, .r, .l, .r, .l, .l, .l, .l], sl_spec_SegmentOk_4, L_spec_SegmentOk_4 n⟩
  | 0 => ⟨by kernel_rfl, fun _ _ _ _ _ _ _ _ _ h => by cases h⟩
  | n + 1 => by
    have ih := lab_spec_SegmentOk_4 n
    exact lab_run tabOk eqOk oks_spec_SegmentOk hmix is_248 sane_spec_SegmentOk (List.forall_mem_cons.2 ⟨ih, List.forall_mem_nil _⟩) (by kernel_rfl) (run_spec_SegmentOk_4 n)
theorem ok_spec_SegmentOk : FnOk Go.Proofs.Tryz.prog en_spec_SegmentOk := fn_ok tabOk eqOk oks_spec_SegmentOk hmix is_248 sane_spec_SegmentOk (List.forall_mem_cons.2 ⟨lab_spec_SegmentOk_4 fuel, List.forall_mem_nil _⟩) run_spec_SegmentOk
theorem oks_spec_l15Flush : ∀ en ∈ ens_spec_l15Flush, FnOk Go.Proofs.Tryz.prog en := List.forall_mem_cons.2 ⟨ok_spec_l15Bytes, List.forall_mem_cons.2 ⟨ok_spec_l15Last, List.forall_mem_nil _⟩⟩
theorem sane_spec_l15Flush : saneA fn_249.nt [.agg tEnd []] [.agg tEnd [], .own tSegment] = true := by kernel_rfl
theorem ok_spec_l15Flush : FnOk Go.Proofs.Tryz.prog en_spec_l15Flush := fn_ok tabOk eqOk oks_spec_l15Flush hmix is_249 sane_spec_l15Flush (List.forall_mem_nil _) run_spec_l15Flush
theorem oks_spec_SeqPlace : ∀ en ∈ ens_spec_SeqPlace, FnOk Go.Proofs.Tryz.prog en := List.forall_mem_cons.2 ⟨ok_spec_l1In, List.forall_mem_cons.2 ⟨ok_spec_SeqOf, List.forall_mem_nil _⟩⟩
theorem sane_spec_SeqPlace : saneA fn_266.nt [.dat (.int .i64), .dat (.int .i64)] [.dat (.int .i64)] = true := by kernel_rfl
theorem ok_spec_SeqPlace : FnOk Go.Proofs.Tryz.prog en_spec_SeqPlace := fn_ok tabOk eqOk oks_spec_SeqPlace hmix is_266 sane_spec_SeqPlace (List.forall_mem_nil _) run_spec_SeqPlace
theorem oks_spec_MouthHear : ∀ en ∈ ens_spec_MouthHear, FnOk Go.Proofs.Tryz.prog en := List.forall_mem_cons.2 ⟨ok_spec_l1In, List.forall_mem_cons.2 ⟨ok_spec_MouthOk, List.forall_mem_cons.2 ⟨ok_spec_l13Copy, List.forall_mem_nil _⟩⟩⟩
theorem sane_spec_MouthHear : saneA fn_267.nt [.agg tMouth [], .dat (.int .i64), .dat (.int .i64), .dat (.sl tRange)] [.agg tMouth [1, 4], .dat (.int .i64)] = true := by kernel_rfl
theorem lab_spec_MouthHear_13 : ∀ n : Nat, LabOk Go.Proofs.Tryz.prog 267 fn_267 [.agg tMouth [], .dat (.int .i64), .dat (.int .i64), .dat (.sl tRange)] [.agg tMouth [1, 4], .dat (.int .i64)] ⟨13, [.r, .r, .r, .r, .r, .r, .r, .r, .r, .r, .l, .r, .l, .l, .l, .l], sl_spec_MouthHear_13, L_spec_MouthHear_13 n⟩
  | 0 => ⟨by kernel_rfl, fun _ _ _ _ _ _ _ _ _ h => by cases h⟩
  | n + 1 => by
    have ih := lab_spec_MouthHear_13 n
    exact lab_run tabOk eqOk oks_spec_MouthHear hmix is_267 sane_spec_MouthHear (List.forall_mem_cons.2 ⟨ih, List.forall_mem_nil _⟩) (by kernel_rfl) (run_spec_MouthHear_13 n)
theorem ok_spec_MouthHear : FnOk Go.Proofs.Tryz.prog en_spec_MouthHear := fn_ok tabOk eqOk oks_spec_MouthHear hmix is_267 sane_spec_MouthHear (List.forall_mem_cons.2 ⟨lab_spec_MouthHear_13 fuel, List.forall_mem_nil _⟩) run_spec_MouthHear
theorem oks_spec_l15Took : ∀ en ∈ ens_spec_l15Took, FnOk Go.Proofs.Tryz.prog en := List.forall_mem_cons.2 ⟨ok_spec_MouthOk, List.forall_mem_cons.2 ⟨ok_spec_SeqPlace, List.forall_mem_cons.2 ⟨ok_spec_MouthHear, List.forall_mem_nil _⟩⟩⟩
theorem sane_spec_l15Took : saneA fn_250.nt [.agg tEnd [], .agg tSegment []] [.agg tEnd [], .dat .bool] = true := by kernel_rfl
theorem lab_spec_l15Took_10 : ∀ n : Nat, LabOk Go.Proofs.Tryz.prog 250 fn_250 [.agg tEnd [], .agg tSegment []] [.agg tEnd [], .dat .bool] ⟨10, [.r, .r, .r, .r, .r, .r, .l, .r, .l, .l, .l, .l], sl_spec_l15Took_10, L_spec_l15Took_10 n⟩
  | 0 => ⟨by kernel_rfl, fun _ _ _ _ _ _ _ _ _ h => by cases h⟩
  | n + 1 => by
    have ih := lab_spec_l15Took_10 n
    exact lab_run tabOk eqOk oks_spec_l15Took hmix is_250 sane_spec_l15Took (List.forall_mem_cons.2 ⟨ih, List.forall_mem_nil _⟩) (by kernel_rfl) (run_spec_l15Took_10 n)
theorem ok_spec_l15Took : FnOk Go.Proofs.Tryz.prog en_spec_l15Took := fn_ok tabOk eqOk oks_spec_l15Took hmix is_250 sane_spec_l15Took (List.forall_mem_cons.2 ⟨lab_spec_l15Took_10 fuel, List.forall_mem_nil _⟩) run_spec_l15Took
theorem oks_spec_l12Put : ∀ en ∈ ens_spec_l12Put, FnOk Go.Proofs.Tryz.prog en := List.forall_mem_nil _
theorem sane_spec_l12Put : saneA fn_281.nt [.dat (.sl tEarly), .agg tEarly []] [.own tEarly] = true := by kernel_rfl
theorem lab_spec_l12Put_4 : ∀ n : Nat, LabOk Go.Proofs.Tryz.prog 281 fn_281 [.dat (.sl tEarly), .agg tEarly []] [.own tEarly] ⟨4, [.r, .r, .r, .l, .r, .l, .l, .l, .l], sl_spec_l12Put_4, L_spec_l12Put_4 n⟩
  | 0 => ⟨by kernel_rfl, fun _ _ _ _ _ _ _ _ _ h => by cases h⟩
  | n + 1 => by
    have ih := lab_spec_l12Put_4 n
    exact lab_run tabOk eqOk oks_spec_l12Put hmix is_281 sane_spec_l12Put (List.forall_mem_cons.2 ⟨ih, List.forall_mem_nil _⟩) (by kernel_rfl) (run_spec_l12Put_4 n)
theorem ok_spec_l12Put : FnOk Go.Proofs.Tryz.prog en_spec_l12Put := fn_ok tabOk eqOk oks_spec_l12Put hmix is_281 sane_spec_l12Put (List.forall_mem_cons.2 ⟨lab_spec_l12Put_4 fuel, List.forall_mem_nil _⟩) run_spec_l12Put
theorem oks_spec_EarHear : ∀ en ∈ ens_spec_EarHear, FnOk Go.Proofs.Tryz.prog en := List.forall_mem_cons.2 ⟨ok_spec_l1In, List.forall_mem_cons.2 ⟨ok_spec_EarOk, List.forall_mem_cons.2 ⟨ok_spec_EarFree, List.forall_mem_cons.2 ⟨ok_spec_l12Put, List.forall_mem_nil _⟩⟩⟩⟩
theorem sane_spec_EarHear : saneA fn_268.nt [.agg tEar [], .dat (.int .i64), .dat (.sl (.int .u8))] [.agg tEar [2, 3]] = true := by kernel_rfl
theorem lab_spec_EarHear_12 : ∀ n : Nat, LabOk Go.Proofs.Tryz.prog 268 fn_268 [.agg tEar [], .dat (.int .i64), .dat (.sl (.int .u8))] [.agg tEar [2, 3]] ⟨12, [.r, .r, .r, .r, .r, .r, .r, .l, .l, .l, .l, .l], sl_spec_EarHear_12, L_spec_EarHear_12 n⟩
  | 0 => ⟨by kernel_rfl, fun _ _ _ _ _ _ _ _ _ h => by cases h⟩
  | n + 1 => by
    have ih := lab_spec_EarHear_12 n
    exact lab_run tabOk eqOk oks_spec_EarHear hmix is_268 sane_spec_EarHear (List.forall_mem_cons.2 ⟨ih, List.forall_mem_nil _⟩) (by kernel_rfl) (run_spec_EarHear_12 n)
theorem lab_spec_EarHear_6 : ∀ n : Nat, LabOk Go.Proofs.Tryz.prog 268 fn_268 [.agg tEar [], .dat (.int .i64), .dat (.sl (.int .u8))] [.agg tEar [2, 3]] ⟨6, [.r, .r, .r, .r, .l, .r, .l, .l, .l, .l], sl_spec_EarHear_6, L_spec_EarHear_6 n⟩
  | 0 => ⟨by kernel_rfl, fun _ _ _ _ _ _ _ _ _ h => by cases h⟩
  | n + 1 => by
    have ih := lab_spec_EarHear_6 n
    exact lab_run tabOk eqOk oks_spec_EarHear hmix is_268 sane_spec_EarHear (List.forall_mem_cons.2 ⟨ih, List.forall_mem_cons.2 ⟨lab_spec_EarHear_12 fuel, List.forall_mem_nil _⟩⟩) (by kernel_rfl) (run_spec_EarHear_6 n)
theorem ok_spec_EarHear : FnOk Go.Proofs.Tryz.prog en_spec_EarHear := fn_ok tabOk eqOk oks_spec_EarHear hmix is_268 sane_spec_EarHear (List.forall_mem_cons.2 ⟨lab_spec_EarHear_6 fuel, List.forall_mem_nil _⟩) run_spec_EarHear
theorem oks_spec_l15Heard : ∀ en ∈ ens_spec_l15Heard, FnOk Go.Proofs.Tryz.prog en := List.forall_mem_cons.2 ⟨ok_spec_EarOk, List.forall_mem_cons.2 ⟨ok_spec_EarFree, List.forall_mem_cons.2 ⟨ok_spec_SeqPlace, List.forall_mem_cons.2 ⟨ok_spec_EarHear, List.forall_mem_nil _⟩⟩⟩⟩
theorem sane_spec_l15Heard : saneA fn_251.nt [.agg tEnd [], .agg tSegment []] [.agg tEnd []] = true := by kernel_rfl
theorem ok_spec_l15Heard : FnOk Go.Proofs.Tryz.prog en_spec_l15Heard := fn_ok tabOk eqOk oks_spec_l15Heard hmix is_251 sane_spec_l15Heard (List.forall_mem_nil _) run_spec_l15Heard
theorem oks_spec_SegmentLong : ∀ en ∈ ens_spec_SegmentLong, FnOk Go.Proofs.Tryz.prog en := List.forall_mem_nil _
theorem sane_spec_SegmentLong : saneA fn_252.nt [.agg tSegment []] [.dat (.int .i64)] = true := by kernel_rfl
theorem ok_spec_SegmentLong : FnOk Go.Proofs.Tryz.prog en_spec_SegmentLong := fn_ok tabOk eqOk oks_spec_SegmentLong hmix is_252 sane_spec_SegmentLong (List.forall_mem_nil _) run_spec_SegmentLong
theorem oks_spec_SeqLess : ∀ en ∈ ens_spec_SeqLess, FnOk Go.Proofs.Tryz.prog en := List.forall_mem_cons.2 ⟨ok_spec_SeqOf, List.forall_mem_nil _⟩
theorem sane_spec_SeqLess : saneA fn_253.nt [.dat (.int .i64), .dat (.int .i64)] [.dat .bool] = true := by kernel_rfl
theorem ok_spec_SeqLess : FnOk Go.Proofs.Tryz.prog en_spec_SeqLess := fn_ok tabOk eqOk oks_spec_SeqLess hmix is_253 sane_spec_SeqLess (List.forall_mem_nil _) run_spec_SeqLess
theorem oks_spec_EndHear : ∀ en ∈ ens_spec_EndHear, FnOk Go.Proofs.Tryz.prog en := List.forall_mem_cons.2 ⟨ok_spec_EndOk, List.forall_mem_cons.2 ⟨ok_spec_l1In, List.forall_mem_cons.2 ⟨ok_spec_l15Copy, List.forall_mem_cons.2 ⟨ok_spec_l15Arm, List.forall_mem_cons.2 ⟨ok_spec_l15First, List.forall_mem_cons.2 ⟨ok_spec_l15Segment, List.forall_mem_cons.2 ⟨ok_spec_SeqOf, List.forall_mem_cons.2 ⟨ok_spec_l15Wait, List.forall_mem_cons.2 ⟨ok_spec_l15Told, List.forall_mem_cons.2 ⟨ok_spec_SegmentOk, List.forall_mem_cons.2 ⟨ok_spec_l15Flush, List.forall_mem_cons.2 ⟨ok_spec_l15Took, List.forall_mem_cons.2 ⟨ok_spec_l15Heard, List.forall_mem_cons.2 ⟨ok_spec_SegmentLong, List.forall_mem_cons.2 ⟨ok_spec_SeqLess, List.forall_mem_nil _⟩⟩⟩⟩⟩⟩⟩⟩⟩⟩⟩⟩⟩⟩⟩
theorem sane_spec_EndHear : saneA fn_203.nt [.agg tEnd [], .dat (.int .i64), .agg tSegment [], .dat (.int .i64)] [.agg tEnd [], .own tSegment] = true := by kernel_rfl
theorem lab_spec_EndHear_12 : LabOk Go.Proofs.Tryz.prog 203 fn_203 [.agg tEnd [], .dat (.int .i64), .agg tSegment [], .dat (.int .i64)] [.agg tEnd [], .own tSegment] ⟨12, [.r, .r, .r, .r, .r, .r, .l, .l, .r, .l, .r, .l], sl_spec_EndHear_12, L_spec_EndHear_12⟩ := lab_run tabOk eqOk oks_spec_EndHear hmix is_203 sane_spec_EndHear (List.forall_mem_nil _) (by kernel_rfl) (run_spec_EndHear_12)
theorem lab_spec_EndHear_50 : LabOk Go.Proofs.Tryz.prog 203 fn_203 [.agg tEnd [], .dat (.int .i64), .agg tSegment [], .dat (.int .i64)] [.agg tEnd [], .own tSegment] ⟨50, [.r, .r, .r, .r, .r, .r, .r, .r, .r, .r, .r, .r, .r, .l], sl_spec_EndHear_50, L_spec_EndHear_50⟩ := lab_run tabOk eqOk oks_spec_EndHear hmix is_203 sane_spec_EndHear (List.forall_mem_nil _) (by kernel_rfl) (run_spec_EndHear_50)
theorem lab_spec_EndHear_46 : LabOk Go.Proofs.Tryz.prog 203 fn_203 [.agg tEnd [], .dat (.int .i64), .agg tSegment [], .dat (.int .i64)] [.agg tEnd [], .own tSegment] ⟨46, [.r, .r, .r, .r, .r, .r, .r, .r, .r, .r, .l], sl_spec_EndHear_46, L_spec_EndHear_46⟩ := lab_run tabOk eqOk oks_spec_EndHear hmix is_203 sane_spec_EndHear (List.forall_mem_cons.2 ⟨lab_spec_EndHear_50, List.forall_mem_nil _⟩) (by kernel_rfl) (run_spec_EndHear_46)
theorem ok_spec_EndHear : FnOk Go.Proofs.Tryz.prog en_spec_EndHear := fn_ok tabOk eqOk oks_spec_EndHear hmix is_203 sane_spec_EndHear (List.forall_mem_cons.2 ⟨lab_spec_EndHear_12, List.forall_mem_cons.2 ⟨lab_spec_EndHear_46, List.forall_mem_nil _⟩⟩) run_spec_EndHear
theorem oks_spec_l20Ends : ∀ en ∈ ens_spec_l20Ends, FnOk Go.Proofs.Tryz.prog en := List.forall_mem_cons.2 ⟨ok_spec_EndConnect, List.forall_mem_cons.2 ⟨ok_spec_EndWrite, List.forall_mem_cons.2 ⟨ok_spec_EndClose, List.forall_mem_cons.2 ⟨ok_spec_l20Rd_pick, List.forall_mem_cons.2 ⟨ok_spec_l20Rd_bytes, List.forall_mem_cons.2 ⟨ok_spec_EndNew, List.forall_mem_cons.2 ⟨ok_spec_EndListen, List.forall_mem_cons.2 ⟨ok_spec_EndRead, List.forall_mem_cons.2 ⟨ok_spec_EndTick, List.forall_mem_cons.2 ⟨ok_spec_EndHear, List.forall_mem_nil _⟩⟩⟩⟩⟩⟩⟩⟩⟩⟩
theorem sane_spec_l20Ends : saneA fn_138.nt [.box ts_l20Rd []] [.agg tEnd [], .agg tEnd [], .own tSegment, .own tSegment] = true := by kernel_rfl
theorem lab_spec_l20Ends_10 : ∀ n : Nat, LabOk Go.Proofs.Tryz.prog 138 fn_138 [.box ts_l20Rd []] [.agg tEnd [], .agg tEnd [], .own tSegment, .own tSegment] ⟨10, [.r, .r, .r, .r, .r, .r, .r, .r, .r, .l, .r, .l, .l, .l, .l], sl_spec_l20Ends_10, L_spec_l20Ends_10 n⟩
  | 0 => ⟨by kernel_rfl, fun _ _ _ _ _ _ _ _ _ h => by cases h⟩
  | n + 1 => by
    have ih := lab_spec_l20Ends_10 n
    exact lab_run tabOk eqOk oks_spec_l20Ends hmix is_138 sane_spec_l20Ends (List.forall_mem_cons.2 ⟨ih, List.forall_mem_nil _⟩) (by kernel_rfl) (run_spec_l20Ends_10 n)
theorem ok_spec_l20Ends : FnOk Go.Proofs.Tryz.prog en_spec_l20Ends := fn_ok tabOk eqOk oks_spec_l20Ends hmix is_138 sane_spec_l20Ends (List.forall_mem_cons.2 ⟨lab_spec_l20Ends_10 fuel, List.forall_mem_nil _⟩) run_spec_l20Ends
theorem oks_spec_l20End : ∀ en ∈ ens_spec_l20End, FnOk Go.Proofs.Tryz.prog en := List.forall_mem_cons.2 ⟨ok_spec_l20Rd_pick, List.forall_mem_cons.2 ⟨ok_spec_l20Rd_odd, List.forall_mem_cons.2 ⟨ok_spec_l20Ends, List.forall_mem_nil _⟩⟩⟩
theorem sane_spec_l20End : saneA fn_72.nt [.box ts_l20Rd [], .dat (.int .i64)] [.agg tEnd []] = true := by kernel_rfl
theorem ok_spec_l20End : FnOk Go.Proofs.Tryz.prog en_spec_l20End := fn_ok tabOk eqOk oks_spec_l20End hmix is_72 sane_spec_l20End (List.forall_mem_nil _) run_spec_l20End
theorem oks_spec_DrawEndConnect : ∀ en ∈ ens_spec_DrawEndConnect, FnOk Go.Proofs.Tryz.prog en := List.forall_mem_cons.2 ⟨ok_spec_l20Open, List.forall_mem_cons.2 ⟨ok_spec_l20Rd_pick, List.forall_mem_cons.2 ⟨ok_spec_EndNew, List.forall_mem_cons.2 ⟨ok_spec_l20Rd_seq, List.forall_mem_cons.2 ⟨ok_spec_l20End, List.forall_mem_nil _⟩⟩⟩⟩⟩
theorem sane_spec_DrawEndConnect : saneA fn_18.nt [.dat (.sl (.int .u8))] [.agg tEnd [], .dat (.int .i64), .dat (.int .i64), .dat (.int .i64)] = true := by kernel_rfl
theorem ok_spec_DrawEndConnect : FnOk Go.Proofs.Tryz.prog en_spec_DrawEndConnect := fn_ok tabOk eqOk oks_spec_DrawEndConnect hmix is_18 sane_spec_DrawEndConnect (List.forall_mem_nil _) run_spec_DrawEndConnect
theorem oks_impl_word : ∀ en ∈ ens_impl_word, FnOk Go.Proofs.Tryz.prog en := List.forall_mem_cons.2 ⟨ok_impl_in, List.forall_mem_nil _⟩
theorem sane_impl_word : saneA fn_66.nt [.dat (.int .i64)] [.dat .bool] = true := by kernel_rfl
theorem ok_impl_word : FnOk Go.Proofs.Tryz.prog en_impl_word := fn_ok tabOk eqOk oks_impl_word hmix is_66 sane_impl_word (List.forall_mem_nil _) run_impl_word
theorem oks_impl_portOk : ∀ en ∈ ens_impl_portOk, FnOk Go.Proofs.Tryz.prog en := List.forall_mem_cons.2 ⟨ok_impl_in, List.forall_mem_nil _⟩
theorem sane_impl_portOk : saneA fn_74.nt [.dat (.int .i64)] [.dat .bool] = true := by kernel_rfl
theorem ok_impl_portOk : FnOk Go.Proofs.Tryz.prog en_impl_portOk := fn_ok tabOk eqOk oks_impl_portOk hmix is_74 sane_impl_portOk (List.forall_mem_nil _) run_impl_portOk
theorem oks_slices_Equal_impl_Range_impl_Range : ∀ en ∈ ens_slices_Equal_impl_Range_impl_Range, FnOk Go.Proofs.Tryz.prog en := List.forall_mem_nil _
theorem sane_slices_Equal_impl_Range_impl_Range : saneA fn_149.nt [.dat (.sl tRange), .dat (.sl tRange)] [.dat .bool] = true := by kernel_rfl
theorem lab_slices_Equal_impl_Range_impl_Range_4 : ∀ n : Nat, LabOk Go.Proofs.Tryz.prog 149 fn_149 [.dat (.sl tRange), .dat (.sl tRange)] [.dat .bool] ⟨4, [.r, .r, .l, .r, .l, .l, .l], sl_slices_Equal_impl_Range_impl_Range_4, L_slices_Equal_impl_Range_impl_Range_4 n⟩
  | 0 => ⟨by kernel_rfl, fun _ _ _ _ _ _ _ _ _ h => by cases h⟩
  | n + 1 => by
    have ih := lab_slices_Equal_impl_Range_impl_Range_4 n
    exact lab_run tabOk eqOk oks_slices_Equal_impl_Range_impl_Range hmix is_149 sane_slices_Equal_impl_Range_impl_Range (List.forall_mem_cons.2 ⟨ih, List.forall_mem_nil _⟩) (by kernel_rfl) (run_slices_Equal_impl_Range_impl_Range_4 n)
theorem ok_slices_Equal_impl_Range_impl_Range : FnOk Go.Proofs.Tryz.prog en_slices_Equal_impl_Range_impl_Range := fn_ok tabOk eqOk oks_slices_Equal_impl_Range_impl_Range hmix is_149 sane_slices_Equal_impl_Range_impl_Range (List.forall_mem_cons.2 ⟨lab_slices_Equal_impl_Range_impl_Range_4 fuel, List.forall_mem_nil _⟩) run_slices_Equal_impl_Range_impl_Range
theorem oks_slices_Clip_impl_Range_impl_Range : ∀ en ∈ ens_slices_Clip_impl_Range_impl_Range, FnOk Go.Proofs.Tryz.prog en := List.forall_mem_nil _
theorem sane_slices_Clip_impl_Range_impl_Range : saneA fn_254.nt [.dat (.sl tRange)] [.dat (.sl tRange)] = true := by kernel_rfl
theorem ok_slices_Clip_impl_Range_impl_Range : FnOk Go.Proofs.Tryz.prog en_slices_Clip_impl_Range_impl_Range := fn_ok tabOk eqOk oks_slices_Clip_impl_Range_impl_Range hmix is_254 sane_slices_Clip_impl_Range_impl_Range (List.forall_mem_nil _) run_slices_Clip_impl_Range_impl_Range
theorem oks_impl_clone_impl_Range : ∀ en ∈ ens_impl_clone_impl_Range, FnOk Go.Proofs.Tryz.prog en := List.forall_mem_cons.2 ⟨ok_slices_Clip_impl_Range_impl_Range, List.forall_mem_nil _⟩
theorem sane_impl_clone_impl_Range : saneA fn_204.nt [.dat (.sl tRange)] [.dat (.sl tRange)] = true := by kernel_rfl
theorem ok_impl_clone_impl_Range : FnOk Go.Proofs.Tryz.prog en_impl_clone_impl_Range := fn_ok tabOk eqOk oks_impl_clone_impl_Range hmix is_204 sane_impl_clone_impl_Range (List.forall_mem_nil _) run_impl_clone_impl_Range
theorem oks_impl_rangesOk : ∀ en ∈ ens_impl_rangesOk, FnOk Go.Proofs.Tryz.prog en := List.forall_mem_cons.2 ⟨ok_impl_clone_impl_Range, List.forall_mem_nil _⟩
theorem sane_impl_rangesOk : saneA fn_150.nt [.dat (.sl tRange), .dat (.int .i64), .dat (.int .i64)] [.dat (.sl tRange)] = true := by kernel_rfl
theorem lab_impl_rangesOk_4 : ∀ n : Nat, LabOk Go.Proofs.Tryz.prog 150 fn_150 [.dat (.sl tRange), .dat (.int .i64), .dat (.int .i64)] [.dat (.sl tRange)] ⟨4, [.r, .r, .r, .l, .r, .l, .l, .l], sl_impl_rangesOk_4, L_impl_rangesOk_4 n⟩
  | 0 => ⟨by kernel_rfl, fun _ _ _ _ _ _ _ _ _ h => by cases h⟩
  | n + 1 => by
    have ih := lab_impl_rangesOk_4 n
    exact lab_run tabOk eqOk oks_impl_rangesOk hmix is_150 sane_impl_rangesOk (List.forall_mem_cons.2 ⟨ih, List.forall_mem_nil _⟩) (by kernel_rfl) (run_impl_rangesOk_4 n)
theorem ok_impl_rangesOk : FnOk Go.Proofs.Tryz.prog en_impl_rangesOk := fn_ok tabOk eqOk oks_impl_rangesOk hmix is_150 sane_impl_rangesOk (List.forall_mem_cons.2 ⟨lab_impl_rangesOk_4 fuel, List.forall_mem_nil _⟩) run_impl_rangesOk
theorem oks_impl_MouthOk : ∀ en ∈ ens_impl_MouthOk, FnOk Go.Proofs.Tryz.prog en := List.forall_mem_cons.2 ⟨ok_impl_in, List.forall_mem_cons.2 ⟨ok_slices_Equal_impl_Range_impl_Range, List.forall_mem_cons.2 ⟨ok_impl_rangesOk, List.forall_mem_nil _⟩⟩⟩
theorem sane_impl_MouthOk : saneA fn_86.nt [.agg tMouth []] [.dat .bool] = true := by kernel_rfl
theorem ok_impl_MouthOk : FnOk Go.Proofs.Tryz.prog en_impl_MouthOk := fn_ok tabOk eqOk oks_impl_MouthOk hmix is_86 sane_impl_MouthOk (List.forall_mem_nil _) run_impl_MouthOk
theorem oks_impl_Ear_free : ∀ en ∈ ens_impl_Ear_free, FnOk Go.Proofs.Tryz.prog en := List.forall_mem_nil _
theorem sane_impl_Ear_free : saneA fn_151.nt [.agg tEar []] [.dat (.int .i64)] = true := by kernel_rfl
theorem ok_impl_Ear_free : FnOk Go.Proofs.Tryz.prog en_impl_Ear_free := fn_ok tabOk eqOk oks_impl_Ear_free hmix is_151 sane_impl_Ear_free (List.forall_mem_nil _) run_impl_Ear_free
theorem oks_impl_EarOk : ∀ en ∈ ens_impl_EarOk, FnOk Go.Proofs.Tryz.prog en := List.forall_mem_cons.2 ⟨ok_impl_in, List.forall_mem_cons.2 ⟨ok_impl_Ear_free, List.forall_mem_nil _⟩⟩
theorem sane_impl_EarOk : saneA fn_87.nt [.agg tEar []] [.dat .bool] = true := by kernel_rfl
theorem lab_impl_EarOk_4 : ∀ n : Nat, LabOk Go.Proofs.Tryz.prog 87 fn_87 [.agg tEar []] [.dat .bool] ⟨4, [.r, .r, .l, .r, .l, .l, .l], sl_impl_EarOk_4, L_impl_EarOk_4 n⟩
  | 0 => ⟨by kernel_rfl, fun _ _ _ _ _ _ _ _ _ h => by cases h⟩
  | n + 1 => by
    have ih := lab_impl_EarOk_4 n
    exact lab_run tabOk eqOk oks_impl_EarOk hmix is_87 sane_impl_EarOk (List.forall_mem_cons.2 ⟨ih, List.forall_mem_nil _⟩) (by kernel_rfl) (run_impl_EarOk_4 n)
theorem ok_impl_EarOk : FnOk Go.Proofs.Tryz.prog en_impl_EarOk := fn_ok tabOk eqOk oks_impl_EarOk hmix is_87 sane_impl_EarOk (List.forall_mem_cons.2 ⟨lab_impl_EarOk_4 fuel, List.forall_mem_nil _⟩) run_impl_EarOk
theorem oks_impl_ClockOk : ∀ en ∈ ens_impl_ClockOk, FnOk Go.Proofs.Tryz.prog en := List.forall_mem_cons.2 ⟨ok_impl_in, List.forall_mem_nil _⟩
theorem sane_impl_ClockOk : saneA fn_88.nt [.agg tClock []] [.dat .bool] = true := by kernel_rfl
theorem ok_impl_ClockOk : FnOk Go.Proofs.Tryz.prog en_impl_ClockOk := fn_ok tabOk eqOk oks_impl_ClockOk hmix is_88 sane_impl_ClockOk (List.forall_mem_nil _) run_impl_ClockOk
theorem oks_impl_End_lastOk : ∀ en ∈ ens_impl_End_lastOk, FnOk Go.Proofs.Tryz.prog en := List.forall_mem_cons.2 ⟨ok_impl_in, List.forall_mem_nil _⟩
theorem sane_impl_End_lastOk : saneA fn_89.nt [.agg tEnd []] [.dat .bool] = true := by kernel_rfl
theorem lab_impl_End_lastOk_6 : ∀ n : Nat, LabOk Go.Proofs.Tryz.prog 89 fn_89 [.agg tEnd []] [.dat .bool] ⟨6, [.r, .r, .r, .l, .r, .l, .l, .l], sl_impl_End_lastOk_6, L_impl_End_lastOk_6 n⟩
  | 0 => ⟨by kernel_rfl, fun _ _ _ _ _ _ _ _ _ h => by cases h⟩
  | n + 1 => by
    have ih := lab_impl_End_lastOk_6 n
    exact lab_run tabOk eqOk oks_impl_End_lastOk hmix is_89 sane_impl_End_lastOk (List.forall_mem_cons.2 ⟨ih, List.forall_mem_nil _⟩) (by kernel_rfl) (run_impl_End_lastOk_6 n)
theorem ok_impl_End_lastOk : FnOk Go.Proofs.Tryz.prog en_impl_End_lastOk := fn_ok tabOk eqOk oks_impl_End_lastOk hmix is_89 sane_impl_End_lastOk (List.forall_mem_cons.2 ⟨lab_impl_End_lastOk_6 fuel, List.forall_mem_nil _⟩) run_impl_End_lastOk
theorem oks_impl_End_goes : ∀ en ∈ ens_impl_End_goes, FnOk Go.Proofs.Tryz.prog en := List.forall_mem_nil _
theorem sane_impl_End_goes : saneA fn_90.nt [.agg tEnd []] [.dat .bool] = true := by kernel_rfl
theorem ok_impl_End_goes : FnOk Go.Proofs.Tryz.prog en_impl_End_goes := fn_ok tabOk eqOk oks_impl_End_goes hmix is_90 sane_impl_End_goes (List.forall_mem_nil _) run_impl_End_goes
theorem oks_impl_EndOk : ∀ en ∈ ens_impl_EndOk, FnOk Go.Proofs.Tryz.prog en := List.forall_mem_cons.2 ⟨ok_impl_in, List.forall_mem_cons.2 ⟨ok_impl_word, List.forall_mem_cons.2 ⟨ok_impl_portOk, List.forall_mem_cons.2 ⟨ok_impl_MouthOk, List.forall_mem_cons.2 ⟨ok_impl_EarOk, List.forall_mem_cons.2 ⟨ok_impl_ClockOk, List.forall_mem_cons.2 ⟨ok_impl_End_lastOk, List.forall_mem_cons.2 ⟨ok_impl_End_goes, List.forall_mem_nil _⟩⟩⟩⟩⟩⟩⟩⟩
theorem sane_impl_EndOk : saneA fn_23.nt [.agg tEnd []] [.dat .bool] = true := by kernel_rfl
theorem ok_impl_EndOk : FnOk Go.Proofs.Tryz.prog en_impl_EndOk := fn_ok tabOk eqOk oks_impl_EndOk hmix is_23 sane_impl_EndOk (List.forall_mem_nil _) run_impl_EndOk
theorem oks_impl_asked : ∀ en ∈ ens_impl_asked, FnOk Go.Proofs.Tryz.prog en := List.forall_mem_cons.2 ⟨ok_impl_EndOk, List.forall_mem_cons.2 ⟨ok_impl_in, List.forall_mem_nil _⟩⟩
theorem sane_impl_asked : saneA fn_73.nt [.agg tEnd [], .dat (.int .i64)] [.dat .bool] = true := by kernel_rfl
theorem ok_impl_asked : FnOk Go.Proofs.Tryz.prog en_impl_asked := fn_ok tabOk eqOk oks_impl_asked hmix is_73 sane_impl_asked (List.forall_mem_nil _) run_impl_asked
theorem oks_slices_Clip_byte_byte : ∀ en ∈ ens_slices_Clip_byte_byte, FnOk Go.Proofs.Tryz.prog en := List.forall_mem_nil _
theorem sane_slices_Clip_byte_byte : saneA fn_198.nt [.dat (.sl (.int .u8))] [.dat (.sl (.int .u8))] = true := by kernel_rfl
theorem ok_slices_Clip_byte_byte : FnOk Go.Proofs.Tryz.prog en_slices_Clip_byte_byte := fn_ok tabOk eqOk oks_slices_Clip_byte_byte hmix is_198 sane_slices_Clip_byte_byte (List.forall_mem_nil _) run_slices_Clip_byte_byte
theorem oks_impl_clone_byte : ∀ en ∈ ens_impl_clone_byte, FnOk Go.Proofs.Tryz.prog en := List.forall_mem_cons.2 ⟨ok_slices_Clip_byte_byte, List.forall_mem_nil _⟩
theorem sane_impl_clone_byte : saneA fn_132.nt [.dat (.sl (.int .u8))] [.dat (.sl (.int .u8))] = true := by kernel_rfl
theorem ok_impl_clone_byte : FnOk Go.Proofs.Tryz.prog en_impl_clone_byte := fn_ok tabOk eqOk oks_impl_clone_byte hmix is_132 sane_impl_clone_byte (List.forall_mem_nil _) run_impl_clone_byte
theorem oks_impl_Mouth_copy : ∀ en ∈ ens_impl_Mouth_copy, FnOk Go.Proofs.Tryz.prog en := List.forall_mem_cons.2 ⟨ok_impl_clone_byte, List.forall_mem_cons.2 ⟨ok_impl_clone_impl_Range, List.forall_mem_nil _⟩⟩
theorem sane_impl_Mouth_copy : saneA fn_139.nt [.agg tMouth []] [.agg tMouth []] = true := by kernel_rfl
theorem ok_impl_Mouth_copy : FnOk Go.Proofs.Tryz.prog en_impl_Mouth_copy := fn_ok tabOk eqOk oks_impl_Mouth_copy hmix is_139 sane_impl_Mouth_copy (List.forall_mem_nil _) run_impl_Mouth_copy
theorem oks_slices_Clip_impl_Early_impl_Early : ∀ en ∈ ens_slices_Clip_impl_Early_impl_Early, FnOk Go.Proofs.Tryz.prog en := List.forall_mem_nil _
theorem sane_slices_Clip_impl_Early_impl_Early : saneA fn_255.nt [.dat (.sl tEarly)] [.dat (.sl tEarly)] = true := by kernel_rfl
theorem ok_slices_Clip_impl_Early_impl_Early : FnOk Go.Proofs.Tryz.prog en_slices_Clip_impl_Early_impl_Early := fn_ok tabOk eqOk oks_slices_Clip_impl_Early_impl_Early hmix is_255 sane_slices_Clip_impl_Early_impl_Early (List.forall_mem_nil _) run_slices_Clip_impl_Early_impl_Early
theorem oks_impl_clone_impl_Early : ∀ en ∈ ens_impl_clone_impl_Early, FnOk Go.Proofs.Tryz.prog en := List.forall_mem_cons.2 ⟨ok_slices_Clip_impl_Early_impl_Early, List.forall_mem_nil _⟩
theorem sane_impl_clone_impl_Early : saneA fn_205.nt [.dat (.sl tEarly)] [.dat (.sl tEarly)] = true := by kernel_rfl
theorem ok_impl_clone_impl_Early : FnOk Go.Proofs.Tryz.prog en_impl_clone_impl_Early := fn_ok tabOk eqOk oks_impl_clone_impl_Early hmix is_205 sane_impl_clone_impl_Early (List.forall_mem_nil _) run_impl_clone_impl_Early
theorem oks_impl_Ear_copy : ∀ en ∈ ens_impl_Ear_copy, FnOk Go.Proofs.Tryz.prog en := List.forall_mem_cons.2 ⟨ok_impl_clone_byte, List.forall_mem_cons.2 ⟨ok_impl_clone_impl_Early, List.forall_mem_nil _⟩⟩
theorem sane_impl_Ear_copy : saneA fn_140.nt [.agg tEar []] [.agg tEar []] = true := by kernel_rfl
theorem ok_impl_Ear_copy : FnOk Go.Proofs.Tryz.prog en_impl_Ear_copy := fn_ok tabOk eqOk oks_impl_Ear_copy hmix is_140 sane_impl_Ear_copy (List.forall_mem_nil _) run_impl_Ear_copy
theorem oks_impl_End_copy : ∀ en ∈ ens_impl_End_copy, FnOk Go.Proofs.Tryz.prog en := List.forall_mem_cons.2 ⟨ok_impl_Mouth_copy, List.forall_mem_cons.2 ⟨ok_impl_Ear_copy, List.forall_mem_nil _⟩⟩
theorem sane_impl_End_copy : saneA fn_75.nt [.agg tEnd []] [.agg tEnd []] = true := by kernel_rfl
theorem ok_impl_End_copy : FnOk Go.Proofs.Tryz.prog en_impl_End_copy := fn_ok tabOk eqOk oks_impl_End_copy hmix is_75 sane_impl_End_copy (List.forall_mem_nil _) run_impl_End_copy
theorem oks_impl_End_arm : ∀ en ∈ ens_impl_End_arm, FnOk Go.Proofs.Tryz.prog en := List.forall_mem_cons.2 ⟨ok_impl_End_goes, List.forall_mem_nil _⟩
theorem sane_impl_End_arm : saneA fn_76.nt [.box tEnd [], .dat (.int .i64)] [] = true := by kernel_rfl
theorem ok_impl_End_arm : FnOk Go.Proofs.Tryz.prog en_impl_End_arm := fn_ok tabOk eqOk oks_impl_End_arm hmix is_76 sane_impl_End_arm (List.forall_mem_nil _) run_impl_End_arm
theorem oks_impl_SeqOf : ∀ en ∈ ens_impl_SeqOf, FnOk Go.Proofs.Tryz.prog en := List.forall_mem_nil _
theorem sane_impl_SeqOf : saneA fn_159.nt [.dat (.int .i64)] [.dat (.int .i64)] = true := by kernel_rfl
theorem ok_impl_SeqOf : FnOk Go.Proofs.Tryz.prog en_impl_SeqOf := fn_ok tabOk eqOk oks_impl_SeqOf hmix is_159 sane_impl_SeqOf (List.forall_mem_nil _) run_impl_SeqOf
theorem oks_impl_End_waits : ∀ en ∈ ens_impl_End_waits, FnOk Go.Proofs.Tryz.prog en := List.forall_mem_nil _
theorem sane_impl_End_waits : saneA fn_206.nt [.agg tEnd []] [.dat (.int .i64)] = true := by kernel_rfl
theorem ok_impl_End_waits : FnOk Go.Proofs.Tryz.prog en_impl_End_waits := fn_ok tabOk eqOk oks_impl_End_waits hmix is_206 sane_impl_End_waits (List.forall_mem_nil _) run_impl_End_waits
theorem oks_impl_Ear_ranges : ∀ en ∈ ens_impl_Ear_ranges, FnOk Go.Proofs.Tryz.prog en := List.forall_mem_cons.2 ⟨ok_impl_clone_impl_Range, List.forall_mem_nil _⟩
theorem sane_impl_Ear_ranges : saneA fn_207.nt [.agg tEar []] [.dat (.sl tRange)] = true := by kernel_rfl
theorem lab_impl_Ear_ranges_3 : ∀ n : Nat, LabOk Go.Proofs.Tryz.prog 207 fn_207 [.agg tEar []] [.dat (.sl tRange)] ⟨3, [.r, .r, .l, .r, .l, .l, .l], sl_impl_Ear_ranges_3, L_impl_Ear_ranges_3 n⟩
  | 0 => ⟨by kernel_rfl, fun _ _ _ _ _ _ _ _ _ h => by cases h⟩
  | n + 1 => by
    have ih := lab_impl_Ear_ranges_3 n
    exact lab_run tabOk eqOk oks_impl_Ear_ranges hmix is_207 sane_impl_Ear_ranges (List.forall_mem_cons.2 ⟨ih, List.forall_mem_nil _⟩) (by kernel_rfl) (run_impl_Ear_ranges_3 n)
theorem ok_impl_Ear_ranges : FnOk Go.Proofs.Tryz.prog en_impl_Ear_ranges := fn_ok tabOk eqOk oks_impl_Ear_ranges hmix is_207 sane_impl_Ear_ranges (List.forall_mem_cons.2 ⟨lab_impl_Ear_ranges_3 fuel, List.forall_mem_nil _⟩) run_impl_Ear_ranges
theorem oks_impl_Segment_copy : ∀ en ∈ ens_impl_Segment_copy, FnOk Go.Proofs.Tryz.prog en := List.forall_mem_cons.2 ⟨ok_impl_clone_byte, List.forall_mem_cons.2 ⟨ok_impl_clone_impl_Range, List.forall_mem_nil _⟩⟩
theorem sane_impl_Segment_copy : saneA fn_208.nt [.agg tSegment []] [.agg tSegment []] = true := by kernel_rfl
theorem ok_impl_Segment_copy : FnOk Go.Proofs.Tryz.prog en_impl_Segment_copy := fn_ok tabOk eqOk oks_impl_Segment_copy hmix is_208 sane_impl_Segment_copy (List.forall_mem_nil _) run_impl_Segment_copy
theorem oks_impl_End_segment : ∀ en ∈ ens_impl_End_segment, FnOk Go.Proofs.Tryz.prog en := List.forall_mem_cons.2 ⟨ok_impl_Ear_free, List.forall_mem_cons.2 ⟨ok_impl_SeqOf, List.forall_mem_cons.2 ⟨ok_impl_End_waits, List.forall_mem_cons.2 ⟨ok_impl_Ear_ranges, List.forall_mem_cons.2 ⟨ok_impl_Segment_copy, List.forall_mem_nil _⟩⟩⟩⟩⟩
theorem sane_impl_End_segment : saneA fn_141.nt [.agg tEnd [], .dat (.int .i64), .dat (.sl (.int .u8))] [.agg tSegment []] = true := by kernel_rfl
theorem lab_impl_End_segment_3 : ∀ n : Nat, LabOk Go.Proofs.Tryz.prog 141 fn_141 [.agg tEnd [], .dat (.int .i64), .dat (.sl (.int .u8))] [.agg tSegment []] ⟨3, [.r, .r, .l, .r, .l, .l, .l], sl_impl_End_segment_3, L_impl_End_segment_3 n⟩
  | 0 => ⟨by kernel_rfl, fun _ _ _ _ _ _ _ _ _ h => by cases h⟩
  | n + 1 => by
    have ih := lab_impl_End_segment_3 n
    exact lab_run tabOk eqOk oks_impl_End_segment hmix is_141 sane_impl_End_segment (List.forall_mem_cons.2 ⟨ih, List.forall_mem_nil _⟩) (by kernel_rfl) (run_impl_End_segment_3 n)
theorem ok_impl_End_segment : FnOk Go.Proofs.Tryz.prog en_impl_End_segment := fn_ok tabOk eqOk oks_impl_End_segment hmix is_141 sane_impl_End_segment (List.forall_mem_cons.2 ⟨lab_impl_End_segment_3 fuel, List.forall_mem_nil _⟩) run_impl_End_segment
theorem oks_impl_End_first : ∀ en ∈ ens_impl_End_first, FnOk Go.Proofs.Tryz.prog en := List.forall_mem_cons.2 ⟨ok_impl_End_segment, List.forall_mem_nil _⟩
theorem sane_impl_End_first : saneA fn_77.nt [.agg tEnd []] [.agg tSegment []] = true := by kernel_rfl
theorem ok_impl_End_first : FnOk Go.Proofs.Tryz.prog en_impl_End_first := fn_ok tabOk eqOk oks_impl_End_first hmix is_77 sane_impl_End_first (List.forall_mem_nil _) run_impl_End_first
theorem oks_impl_EndConnect : ∀ en ∈ ens_impl_EndConnect, FnOk Go.Proofs.Tryz.prog en := List.forall_mem_cons.2 ⟨ok_impl_word, List.forall_mem_cons.2 ⟨ok_impl_asked, List.forall_mem_cons.2 ⟨ok_impl_portOk, List.forall_mem_cons.2 ⟨ok_impl_End_copy, List.forall_mem_cons.2 ⟨ok_impl_End_arm, List.forall_mem_cons.2 ⟨ok_impl_End_first, List.forall_mem_nil _⟩⟩⟩⟩⟩⟩
theorem sane_impl_EndConnect : saneA fn_19.nt [.agg tEnd [], .dat (.int .i64), .dat (.int .i64), .dat (.int .i64)] [.agg tEnd [], .own tSegment] = true := by kernel_rfl
theorem ok_impl_EndConnect : FnOk Go.Proofs.Tryz.prog en_impl_EndConnect := fn_ok tabOk eqOk oks_impl_EndConnect hmix is_19 sane_impl_EndConnect (List.forall_mem_nil _) run_impl_EndConnect
theorem oks_laws_sameBytes : ∀ en ∈ ens_laws_sameBytes, FnOk Go.Proofs.Tryz.prog en := List.forall_mem_nil _
theorem sane_laws_sameBytes : saneA fn_17.nt [.dat (.sl (.int .u8)), .dat (.sl (.int .u8))] [.dat .bool] = true := by kernel_rfl
theorem ok_laws_sameBytes : FnOk Go.Proofs.Tryz.prog en_laws_sameBytes := fn_ok tabOk eqOk oks_laws_sameBytes hmix is_17 sane_laws_sameBytes (List.forall_mem_nil _) run_laws_sameBytes
theorem oks_laws_sameRanges : ∀ en ∈ ens_laws_sameRanges, FnOk Go.Proofs.Tryz.prog en := List.forall_mem_nil _
theorem sane_laws_sameRanges : saneA fn_148.nt [.dat (.sl tRange), .dat (.sl tRange)] [.dat .bool] = true := by kernel_rfl
theorem lab_laws_sameRanges_4 : ∀ n : Nat, LabOk Go.Proofs.Tryz.prog 148 fn_148 [.dat (.sl tRange), .dat (.sl tRange)] [.dat .bool] ⟨4, [.r, .r, .l, .r, .l, .l, .l, .l], sl_laws_sameRanges_4, L_laws_sameRanges_4 n⟩
  | 0 => ⟨by kernel_rfl, fun _ _ _ _ _ _ _ _ _ h => by cases h⟩
  | n + 1 => by
    have ih := lab_laws_sameRanges_4 n
    exact lab_run tabOk eqOk oks_laws_sameRanges hmix is_148 sane_laws_sameRanges (List.forall_mem_cons.2 ⟨ih, List.forall_mem_nil _⟩) (by kernel_rfl) (run_laws_sameRanges_4 n)
theorem ok_laws_sameRanges : FnOk Go.Proofs.Tryz.prog en_laws_sameRanges := fn_ok tabOk eqOk oks_laws_sameRanges hmix is_148 sane_laws_sameRanges (List.forall_mem_cons.2 ⟨lab_laws_sameRanges_4 fuel, List.forall_mem_nil _⟩) run_laws_sameRanges
theorem oks_laws_sameMouth : ∀ en ∈ ens_laws_sameMouth, FnOk Go.Proofs.Tryz.prog en := List.forall_mem_cons.2 ⟨ok_laws_sameBytes, List.forall_mem_cons.2 ⟨ok_laws_sameRanges, List.forall_mem_nil _⟩⟩
theorem sane_laws_sameMouth : saneA fn_83.nt [.agg tMouth [], .agg tMouth []] [.dat .bool] = true := by kernel_rfl
theorem ok_laws_sameMouth : FnOk Go.Proofs.Tryz.prog en_laws_sameMouth := fn_ok tabOk eqOk oks_laws_sameMouth hmix is_83 sane_laws_sameMouth (List.forall_mem_nil _) run_laws_sameMouth
theorem oks_laws_sameEar : ∀ en ∈ ens_laws_sameEar, FnOk Go.Proofs.Tryz.prog en := List.forall_mem_cons.2 ⟨ok_laws_sameBytes, List.forall_mem_nil _⟩
theorem sane_laws_sameEar : saneA fn_84.nt [.agg tEar [], .agg tEar []] [.dat .bool] = true := by kernel_rfl
theorem lab_laws_sameEar_4 : ∀ n : Nat, LabOk Go.Proofs.Tryz.prog 84 fn_84 [.agg tEar [], .agg tEar []] [.dat .bool] ⟨4, [.r, .r, .l, .r, .l, .l, .l, .l], sl_laws_sameEar_4, L_laws_sameEar_4 n⟩
  | 0 => ⟨by kernel_rfl, fun _ _ _ _ _ _ _ _ _ h => by cases h⟩
  | n + 1 => by
    have ih := lab_laws_sameEar_4 n
    exact lab_run tabOk eqOk oks_laws_sameEar hmix is_84 sane_laws_sameEar (List.forall_mem_cons.2 ⟨ih, List.forall_mem_nil _⟩) (by kernel_rfl) (run_laws_sameEar_4 n)
theorem ok_laws_sameEar : FnOk Go.Proofs.Tryz.prog en_laws_sameEar := fn_ok tabOk eqOk oks_laws_sameEar hmix is_84 sane_laws_sameEar (List.forall_mem_cons.2 ⟨lab_laws_sameEar_4 fuel, List.forall_mem_nil _⟩) run_laws_sameEar
theorem oks_laws_sameEnd : ∀ en ∈ ens_laws_sameEnd, FnOk Go.Proofs.Tryz.prog en := List.forall_mem_cons.2 ⟨ok_laws_sameMouth, List.forall_mem_cons.2 ⟨ok_laws_sameEar, List.forall_mem_nil _⟩⟩
theorem sane_laws_sameEnd : saneA fn_21.nt [.agg tEnd [], .agg tEnd []] [.dat .bool] = true := by kernel_rfl
theorem ok_laws_sameEnd : FnOk Go.Proofs.Tryz.prog en_laws_sameEnd := fn_ok tabOk eqOk oks_laws_sameEnd hmix is_21 sane_laws_sameEnd (List.forall_mem_nil _) run_laws_sameEnd
theorem oks_laws_sameSegment : ∀ en ∈ ens_laws_sameSegment, FnOk Go.Proofs.Tryz.prog en := List.forall_mem_cons.2 ⟨ok_laws_sameBytes, List.forall_mem_cons.2 ⟨ok_laws_sameRanges, List.forall_mem_nil _⟩⟩
theorem sane_laws_sameSegment : saneA fn_85.nt [.agg tSegment [], .agg tSegment []] [.dat .bool] = true := by kernel_rfl
theorem ok_laws_sameSegment : FnOk Go.Proofs.Tryz.prog en_laws_sameSegment := fn_ok tabOk eqOk oks_laws_sameSegment hmix is_85 sane_laws_sameSegment (List.forall_mem_nil _) run_laws_sameSegment
theorem oks_laws_sameSegments : ∀ en ∈ ens_laws_sameSegments, FnOk Go.Proofs.Tryz.prog en := List.forall_mem_cons.2 ⟨ok_laws_sameSegment, List.forall_mem_nil _⟩
theorem sane_laws_sameSegments : saneA fn_22.nt [.dat (.sl tSegment), .dat (.sl tSegment)] [.dat .bool] = true := by kernel_rfl
theorem lab_laws_sameSegments_4 : ∀ n : Nat, LabOk Go.Proofs.Tryz.prog 22 fn_22 [.dat (.sl tSegment), .dat (.sl tSegment)] [.dat .bool] ⟨4, [.r, .r, .l, .r, .l, .l, .l, .l], sl_laws_sameSegments_4, L_laws_sameSegments_4 n⟩
  | 0 => ⟨by kernel_rfl, fun _ _ _ _ _ _ _ _ _ h => by cases h⟩
  | n + 1 => by
    have ih := lab_laws_sameSegments_4 n
    exact lab_run tabOk eqOk oks_laws_sameSegments hmix is_22 sane_laws_sameSegments (List.forall_mem_cons.2 ⟨ih, List.forall_mem_nil _⟩) (by kernel_rfl) (run_laws_sameSegments_4 n)
theorem ok_laws_sameSegments : FnOk Go.Proofs.Tryz.prog en_laws_sameSegments := fn_ok tabOk eqOk oks_laws_sameSegments hmix is_22 sane_laws_sameSegments (List.forall_mem_cons.2 ⟨lab_laws_sameSegments_4 fuel, List.forall_mem_nil _⟩) run_laws_sameSegments
theorem oks_impl_ClockLate : ∀ en ∈ ens_impl_ClockLate, FnOk Go.Proofs.Tryz.prog en := List.forall_mem_cons.2 ⟨ok_impl_ClockOk, List.forall_mem_nil _⟩
theorem sane_impl_ClockLate : saneA fn_91.nt [.agg tClock []] [.agg tClock []] = true := by kernel_rfl
theorem ok_impl_ClockLate : FnOk Go.Proofs.Tryz.prog en_impl_ClockLate := fn_ok tabOk eqOk oks_impl_ClockLate hmix is_91 sane_impl_ClockLate (List.forall_mem_nil _) run_impl_ClockLate
theorem oks_impl_End_last : ∀ en ∈ ens_impl_End_last, FnOk Go.Proofs.Tryz.prog en := List.forall_mem_cons.2 ⟨ok_impl_End_segment, List.forall_mem_nil _⟩
theorem sane_impl_End_last : saneA fn_100.nt [.agg tEnd []] [.agg tSegment []] = true := by kernel_rfl
theorem ok_impl_End_last : FnOk Go.Proofs.Tryz.prog en_impl_End_last := fn_ok tabOk eqOk oks_impl_End_last hmix is_100 sane_impl_End_last (List.forall_mem_nil _) run_impl_End_last
theorem oks_impl_Mouth_again : ∀ en ∈ ens_impl_Mouth_again, FnOk Go.Proofs.Tryz.prog en := List.forall_mem_cons.2 ⟨ok_impl_clone_byte, List.forall_mem_nil _⟩
theorem sane_impl_Mouth_again : saneA fn_152.nt [.agg tMouth [], .dat (.int .i64)] [.dat (.sl (.int .u8))] = true := by kernel_rfl
theorem ok_impl_Mouth_again : FnOk Go.Proofs.Tryz.prog en_impl_Mouth_again := fn_ok tabOk eqOk oks_impl_Mouth_again hmix is_152 sane_impl_Mouth_again (List.forall_mem_nil _) run_impl_Mouth_again
theorem oks_impl_End_again : ∀ en ∈ ens_impl_End_again, FnOk Go.Proofs.Tryz.prog en := List.forall_mem_cons.2 ⟨ok_impl_End_first, List.forall_mem_cons.2 ⟨ok_impl_End_last, List.forall_mem_cons.2 ⟨ok_impl_End_segment, List.forall_mem_cons.2 ⟨ok_impl_Mouth_again, List.forall_mem_nil _⟩⟩⟩⟩
theorem sane_impl_End_again : saneA fn_92.nt [.agg tEnd []] [.agg tSegment []] = true := by kernel_rfl
theorem ok_impl_End_again : FnOk Go.Proofs.Tryz.prog en_impl_End_again := fn_ok tabOk eqOk oks_impl_End_again hmix is_92 sane_impl_End_again (List.forall_mem_nil _) run_impl_End_again
theorem oks_impl_EndTick : ∀ en ∈ ens_impl_EndTick, FnOk Go.Proofs.Tryz.prog en := List.forall_mem_cons.2 ⟨ok_impl_asked, List.forall_mem_cons.2 ⟨ok_impl_End_copy, List.forall_mem_cons.2 ⟨ok_impl_ClockLate, List.forall_mem_cons.2 ⟨ok_impl_End_again, List.forall_mem_nil _⟩⟩⟩⟩
theorem sane_impl_EndTick : saneA fn_24.nt [.agg tEnd [], .dat (.int .i64)] [.agg tEnd [], .own tSegment] = true := by kernel_rfl
theorem ok_impl_EndTick : FnOk Go.Proofs.Tryz.prog en_impl_EndTick := fn_ok tabOk eqOk oks_impl_EndTick hmix is_24 sane_impl_EndTick (List.forall_mem_nil _) run_impl_EndTick
theorem oks_impl_SegmentOk_1 : ∀ en ∈ ens_impl_SegmentOk_1, FnOk Go.Proofs.Tryz.prog en := List.forall_mem_cons.2 ⟨ok_impl_word, List.forall_mem_nil _⟩
theorem sane_impl_SegmentOk_1 : saneA fn_154.nt [.agg tRange []] [.dat .bool] = true := by kernel_rfl
theorem ok_impl_SegmentOk_1 : FnOk Go.Proofs.Tryz.prog en_impl_SegmentOk_1 := fn_ok tabOk eqOk oks_impl_SegmentOk_1 hmix is_154 sane_impl_SegmentOk_1 (List.forall_mem_nil _) run_impl_SegmentOk_1
theorem oks_slices_IndexFunc_impl_Range_impl_Range_impl_SegmentOk_1 : ∀ en ∈ ens_slices_IndexFunc_impl_Range_impl_Range_impl_SegmentOk_1, FnOk Go.Proofs.Tryz.prog en := List.forall_mem_cons.2 ⟨ok_impl_SegmentOk_1, List.forall_mem_nil _⟩
theorem sane_slices_IndexFunc_impl_Range_impl_Range_impl_SegmentOk_1 : saneA fn_213.nt [.dat (.sl tRange), .fn 154 []] [.dat (.int .i64)] = true := by kernel_rfl
theorem lab_slices_IndexFunc_impl_Range_impl_Range_impl_SegmentOk_1_2 : ∀ n : Nat, LabOk Go.Proofs.Tryz.prog 213 fn_213 [.dat (.sl tRange), .fn 154 []] [.dat (.int .i64)] ⟨2, [.r, .l, .r, .l, .l, .l], sl_slices_IndexFunc_impl_Range_impl_Range_impl_SegmentOk_1_2, L_slices_IndexFunc_impl_Range_impl_Range_impl_SegmentOk_1_2 n⟩
  | 0 => ⟨by kernel_rfl, fun _ _ _ _ _ _ _ _ _ h => by cases h⟩
  | n + 1 => by
    have ih := lab_slices_IndexFunc_impl_Range_impl_Range_impl_SegmentOk_1_2 n
    exact lab_run tabOk eqOk oks_slices_IndexFunc_impl_Range_impl_Range_impl_SegmentOk_1 hmix is_213 sane_slices_IndexFunc_impl_Range_impl_Range_impl_SegmentOk_1 (List.forall_mem_cons.2 ⟨ih, List.forall_mem_nil _⟩) (by kernel_rfl) (run_slices_IndexFunc_impl_Range_impl_Range_impl_SegmentOk_1_2 n)
theorem ok_slices_IndexFunc_impl_Range_impl_Range_impl_SegmentOk_1 : FnOk Go.Proofs.Tryz.prog en_slices_IndexFunc_impl_Range_impl_Range_impl_SegmentOk_1 := fn_ok tabOk eqOk oks_slices_IndexFunc_impl_Range_impl_Range_impl_SegmentOk_1 hmix is_213 sane_slices_IndexFunc_impl_Range_impl_Range_impl_SegmentOk_1 (List.forall_mem_cons.2 ⟨lab_slices_IndexFunc_impl_Range_impl_Range_impl_SegmentOk_1_2 fuel, List.forall_mem_nil _⟩) run_slices_IndexFunc_impl_Range_impl_Range_impl_SegmentOk_1
theorem oks_slices_ContainsFunc_impl_Range_impl_Range_impl_SegmentOk_1 : ∀ en ∈ ens_slices_ContainsFunc_impl_Range_impl_Range_impl_SegmentOk_1, FnOk Go.Proofs.Tryz.prog en := List.forall_mem_cons.2 ⟨ok_slices_IndexFunc_impl_Range_impl_Range_impl_SegmentOk_1, List.forall_mem_nil _⟩
theorem sane_slices_ContainsFunc_impl_Range_impl_Range_impl_SegmentOk_1 : saneA fn_153.nt [.dat (.sl tRange), .fn 154 []] [.dat .bool] = true := by kernel_rfl
theorem ok_slices_ContainsFunc_impl_Range_impl_Range_impl_SegmentOk_1 : FnOk Go.Proofs.Tryz.prog en_slices_ContainsFunc_impl_Range_impl_Range_impl_SegmentOk_1 := fn_ok tabOk eqOk oks_slices_ContainsFunc_impl_Range_impl_Range_impl_SegmentOk_1 hmix is_153 sane_slices_ContainsFunc_impl_Range_impl_Range_impl_SegmentOk_1 (List.forall_mem_nil _) run_slices_ContainsFunc_impl_Range_impl_Range_impl_SegmentOk_1
theorem oks_impl_SegmentOk : ∀ en ∈ ens_impl_SegmentOk, FnOk Go.Proofs.Tryz.prog en := List.forall_mem_cons.2 ⟨ok_impl_in, List.forall_mem_cons.2 ⟨ok_impl_word, List.forall_mem_cons.2 ⟨ok_impl_portOk, List.forall_mem_cons.2 ⟨ok_slices_ContainsFunc_impl_Range_impl_Range_impl_SegmentOk_1, List.forall_mem_nil _⟩⟩⟩⟩
theorem sane_impl_SegmentOk : saneA fn_93.nt [.agg tSegment []] [.dat .bool] = true := by kernel_rfl
theorem ok_impl_SegmentOk : FnOk Go.Proofs.Tryz.prog en_impl_SegmentOk := fn_ok tabOk eqOk oks_impl_SegmentOk hmix is_93 sane_impl_SegmentOk (List.forall_mem_nil _) run_impl_SegmentOk
theorem oks_laws_goodSegments : ∀ en ∈ ens_laws_goodSegments, FnOk Go.Proofs.Tryz.prog en := List.forall_mem_cons.2 ⟨ok_impl_SegmentOk, List.forall_mem_nil _⟩
theorem sane_laws_goodSegments : saneA fn_25.nt [.dat (.sl tSegment)] [.dat .bool] = true := by kernel_rfl
theorem lab_laws_goodSegments_2 : ∀ n : Nat, LabOk Go.Proofs.Tryz.prog 25 fn_25 [.dat (.sl tSegment)] [.dat .bool] ⟨2, [.r, .l, .r, .l, .l, .l, .l], sl_laws_goodSegments_2, L_laws_goodSegments_2 n⟩
  | 0 => ⟨by kernel_rfl, fun _ _ _ _ _ _ _ _ _ h => by cases h⟩
  | n + 1 => by
    have ih := lab_laws_goodSegments_2 n
    exact lab_run tabOk eqOk oks_laws_goodSegments hmix is_25 sane_laws_goodSegments (List.forall_mem_cons.2 ⟨ih, List.forall_mem_nil _⟩) (by kernel_rfl) (run_laws_goodSegments_2 n)
theorem ok_laws_goodSegments : FnOk Go.Proofs.Tryz.prog en_laws_goodSegments := fn_ok tabOk eqOk oks_laws_goodSegments hmix is_25 sane_laws_goodSegments (List.forall_mem_cons.2 ⟨lab_laws_goodSegments_2 fuel, List.forall_mem_nil _⟩) run_laws_goodSegments
theorem oks_laws_FnEndConnect : ∀ en ∈ ens_laws_FnEndConnect, FnOk Go.Proofs.Tryz.prog en := List.forall_mem_cons.2 ⟨ok_laws_alive, List.forall_mem_cons.2 ⟨ok_spec_DrawEndConnect, List.forall_mem_cons.2 ⟨ok_impl_EndConnect, List.forall_mem_cons.2 ⟨ok_spec_EndConnect, List.forall_mem_cons.2 ⟨ok_laws_sameEnd, List.forall_mem_cons.2 ⟨ok_laws_sameSegments, List.forall_mem_cons.2 ⟨ok_impl_EndOk, List.forall_mem_cons.2 ⟨ok_impl_EndTick, List.forall_mem_cons.2 ⟨ok_laws_goodSegments, List.forall_mem_nil _⟩⟩⟩⟩⟩⟩⟩⟩⟩
theorem sane_laws_FnEndConnect : saneA fn_4.nt [.dat (.sl (.int .u8))] [.dat .bool] = true := by kernel_rfl
theorem ok_laws_FnEndConnect : FnOk Go.Proofs.Tryz.prog en_laws_FnEndConnect := fn_ok tabOk eqOk oks_laws_FnEndConnect hmix is_4 sane_laws_FnEndConnect (List.forall_mem_nil _) run_laws_FnEndConnect
theorem oks_spec_DrawEndWrite : ∀ en ∈ ens_spec_DrawEndWrite, FnOk Go.Proofs.Tryz.prog en := List.forall_mem_cons.2 ⟨ok_spec_l20Open, List.forall_mem_cons.2 ⟨ok_spec_l20Rd_pick, List.forall_mem_cons.2 ⟨ok_spec_l20Rd_bytes, List.forall_mem_cons.2 ⟨ok_spec_l20End, List.forall_mem_nil _⟩⟩⟩⟩
theorem sane_spec_DrawEndWrite : saneA fn_26.nt [.dat (.sl (.int .u8))] [.agg tEnd [], .own (.int .u8), .dat (.int .i64)] = true := by kernel_rfl
theorem ok_spec_DrawEndWrite : FnOk Go.Proofs.Tryz.prog en_spec_DrawEndWrite := fn_ok tabOk eqOk oks_spec_DrawEndWrite hmix is_26 sane_spec_DrawEndWrite (List.forall_mem_nil _) run_spec_DrawEndWrite
theorem oks_slices_Grow_byte_byte : ∀ en ∈ ens_slices_Grow_byte_byte, FnOk Go.Proofs.Tryz.prog en := List.forall_mem_nil _
theorem sane_slices_Grow_byte_byte : saneA fn_214.nt [.nil, .dat (.int .i64)] [.own (.int .u8)] = true := by kernel_rfl
theorem ok_slices_Grow_byte_byte : FnOk Go.Proofs.Tryz.prog en_slices_Grow_byte_byte := fn_ok tabOk eqOk oks_slices_Grow_byte_byte hmix is_214 sane_slices_Grow_byte_byte (List.forall_mem_nil _) run_slices_Grow_byte_byte
theorem oks_slices_Concat_byte_byte : ∀ en ∈ ens_slices_Concat_byte_byte, FnOk Go.Proofs.Tryz.prog en := List.forall_mem_cons.2 ⟨ok_slices_Grow_byte_byte, List.forall_mem_nil _⟩
theorem sane_slices_Concat_byte_byte : saneA fn_155.nt [.dat (.sl (.sl (.int .u8)))] [.own (.int .u8)] = true := by kernel_rfl
theorem lab_slices_Concat_byte_byte_11 : ∀ n : Nat, LabOk Go.Proofs.Tryz.prog 155 fn_155 [.dat (.sl (.sl (.int .u8)))] [.own (.int .u8)] ⟨11, [.r, .r, .r, .r, .l, .r, .l, .l, .l], sl_slices_Concat_byte_byte_11, L_slices_Concat_byte_byte_11 n⟩
  | 0 => ⟨by kernel_rfl, fun _ _ _ _ _ _ _ _ _ h => by cases h⟩
  | n + 1 => by
    have ih := lab_slices_Concat_byte_byte_11 n
    exact lab_run tabOk eqOk oks_slices_Concat_byte_byte hmix is_155 sane_slices_Concat_byte_byte (List.forall_mem_cons.2 ⟨ih, List.forall_mem_nil _⟩) (by kernel_rfl) (run_slices_Concat_byte_byte_11 n)
theorem lab_slices_Concat_byte_byte_3 : ∀ n : Nat, LabOk Go.Proofs.Tryz.prog 155 fn_155 [.dat (.sl (.sl (.int .u8)))] [.own (.int .u8)] ⟨3, [.r, .r, .l, .r, .l, .l, .l], sl_slices_Concat_byte_byte_3, L_slices_Concat_byte_byte_3 n⟩
  | 0 => ⟨by kernel_rfl, fun _ _ _ _ _ _ _ _ _ h => by cases h⟩
  | n + 1 => by
    have ih := lab_slices_Concat_byte_byte_3 n
    exact lab_run tabOk eqOk oks_slices_Concat_byte_byte hmix is_155 sane_slices_Concat_byte_byte (List.forall_mem_cons.2 ⟨ih, List.forall_mem_cons.2 ⟨lab_slices_Concat_byte_byte_11 fuel, List.forall_mem_nil _⟩⟩) (by kernel_rfl) (run_slices_Concat_byte_byte_3 n)
theorem ok_slices_Concat_byte_byte : FnOk Go.Proofs.Tryz.prog en_slices_Concat_byte_byte := fn_ok tabOk eqOk oks_slices_Concat_byte_byte hmix is_155 sane_slices_Concat_byte_byte (List.forall_mem_cons.2 ⟨lab_slices_Concat_byte_byte_3 fuel, List.forall_mem_nil _⟩) run_slices_Concat_byte_byte
theorem oks_impl_MouthWrite : ∀ en ∈ ens_impl_MouthWrite, FnOk Go.Proofs.Tryz.prog en := List.forall_mem_cons.2 ⟨ok_impl_MouthOk, List.forall_mem_cons.2 ⟨ok_impl_Mouth_copy, List.forall_mem_cons.2 ⟨ok_slices_Concat_byte_byte, List.forall_mem_nil _⟩⟩⟩
theorem sane_impl_MouthWrite : saneA fn_94.nt [.agg tMouth [], .dat (.sl (.int .u8))] [.agg tMouth [], .dat (.int .i64)] = true := by kernel_rfl
theorem ok_impl_MouthWrite : FnOk Go.Proofs.Tryz.prog en_impl_MouthWrite := fn_ok tabOk eqOk oks_impl_MouthWrite hmix is_94 sane_impl_MouthWrite (List.forall_mem_nil _) run_impl_MouthWrite
theorem oks_impl_Mouth_next : ∀ en ∈ ens_impl_Mouth_next, FnOk Go.Proofs.Tryz.prog en := List.forall_mem_cons.2 ⟨ok_impl_clone_byte, List.forall_mem_nil _⟩
theorem sane_impl_Mouth_next : saneA fn_156.nt [.box tMouth [], .dat (.int .i64)] [.dat (.int .i64), .dat (.sl (.int .u8))] = true := by kernel_rfl
theorem ok_impl_Mouth_next : FnOk Go.Proofs.Tryz.prog en_impl_Mouth_next := fn_ok tabOk eqOk oks_impl_Mouth_next hmix is_156 sane_impl_Mouth_next (List.forall_mem_nil _) run_impl_Mouth_next
theorem oks_impl_End_tellBytes : ∀ en ∈ ens_impl_End_tellBytes, FnOk Go.Proofs.Tryz.prog en := List.forall_mem_cons.2 ⟨ok_impl_End_segment, List.forall_mem_cons.2 ⟨ok_impl_Mouth_next, List.forall_mem_nil _⟩⟩
theorem sane_impl_End_tellBytes : saneA fn_95.nt [.box tEnd []] [.own tSegment] = true := by kernel_rfl
theorem lab_impl_End_tellBytes_2 : ∀ n : Nat, LabOk Go.Proofs.Tryz.prog 95 fn_95 [.box tEnd []] [.own tSegment] ⟨2, [.r, .r, .l, .l, .l, .l, .l], sl_impl_End_tellBytes_2, L_impl_End_tellBytes_2 n⟩
  | 0 => ⟨by kernel_rfl, fun _ _ _ _ _ _ _ _ _ h => by cases h⟩
  | n + 1 => by
    have ih := lab_impl_End_tellBytes_2 n
    exact lab_run tabOk eqOk oks_impl_End_tellBytes hmix is_95 sane_impl_End_tellBytes (List.forall_mem_cons.2 ⟨ih, List.forall_mem_nil _⟩) (by kernel_rfl) (run_impl_End_tellBytes_2 n)
theorem ok_impl_End_tellBytes : FnOk Go.Proofs.Tryz.prog en_impl_End_tellBytes := fn_ok tabOk eqOk oks_impl_End_tellBytes hmix is_95 sane_impl_End_tellBytes (List.forall_mem_cons.2 ⟨lab_impl_End_tellBytes_2 fuel, List.forall_mem_nil _⟩) run_impl_End_tellBytes
theorem oks_slices_Clip_impl_Segment_impl_Segment : ∀ en ∈ ens_slices_Clip_impl_Segment_impl_Segment, FnOk Go.Proofs.Tryz.prog en := List.forall_mem_nil _
theorem sane_slices_Clip_impl_Segment_impl_Segment : saneA fn_157.nt [.dat (.sl tSegment)] [.dat (.sl tSegment)] = true := by kernel_rfl
theorem ok_slices_Clip_impl_Segment_impl_Segment : FnOk Go.Proofs.Tryz.prog en_slices_Clip_impl_Segment_impl_Segment := fn_ok tabOk eqOk oks_slices_Clip_impl_Segment_impl_Segment hmix is_157 sane_slices_Clip_impl_Segment_impl_Segment (List.forall_mem_nil _) run_slices_Clip_impl_Segment_impl_Segment
theorem oks_impl_clone_impl_Segment : ∀ en ∈ ens_impl_clone_impl_Segment, FnOk Go.Proofs.Tryz.prog en := List.forall_mem_cons.2 ⟨ok_slices_Clip_impl_Segment_impl_Segment, List.forall_mem_nil _⟩
theorem sane_impl_clone_impl_Segment : saneA fn_96.nt [.dat (.sl tSegment)] [.dat (.sl tSegment)] = true := by kernel_rfl
theorem ok_impl_clone_impl_Segment : FnOk Go.Proofs.Tryz.prog en_impl_clone_impl_Segment := fn_ok tabOk eqOk oks_impl_clone_impl_Segment hmix is_96 sane_impl_clone_impl_Segment (List.forall_mem_nil _) run_impl_clone_impl_Segment
theorem oks_impl_EndWrite : ∀ en ∈ ens_impl_EndWrite, FnOk Go.Proofs.Tryz.prog en := List.forall_mem_cons.2 ⟨ok_impl_asked, List.forall_mem_cons.2 ⟨ok_impl_End_copy, List.forall_mem_cons.2 ⟨ok_impl_End_arm, List.forall_mem_cons.2 ⟨ok_impl_MouthWrite, List.forall_mem_cons.2 ⟨ok_impl_End_tellBytes, List.forall_mem_cons.2 ⟨ok_impl_clone_impl_Segment, List.forall_mem_nil _⟩⟩⟩⟩⟩⟩
theorem sane_impl_EndWrite : saneA fn_27.nt [.agg tEnd [], .dat (.sl (.int .u8)), .dat (.int .i64)] [.agg tEnd [], .dat (.int .i64), .dat (.sl tSegment)] = true := by kernel_rfl
theorem ok_impl_EndWrite : FnOk Go.Proofs.Tryz.prog en_impl_EndWrite := fn_ok tabOk eqOk oks_impl_EndWrite hmix is_27 sane_impl_EndWrite (List.forall_mem_nil _) run_impl_EndWrite
theorem oks_impl_seqPlace : ∀ en ∈ ens_impl_seqPlace, FnOk Go.Proofs.Tryz.prog en := List.forall_mem_cons.2 ⟨ok_impl_SeqOf, List.forall_mem_nil _⟩
theorem sane_impl_seqPlace : saneA fn_99.nt [.dat (.int .i64), .dat (.int .i64)] [.dat (.int .i64)] = true := by kernel_rfl
theorem ok_impl_seqPlace : FnOk Go.Proofs.Tryz.prog en_impl_seqPlace := fn_ok tabOk eqOk oks_impl_seqPlace hmix is_99 sane_impl_seqPlace (List.forall_mem_nil _) run_impl_seqPlace
theorem oks_impl_SeqPlace : ∀ en ∈ ens_impl_SeqPlace, FnOk Go.Proofs.Tryz.prog en := List.forall_mem_cons.2 ⟨ok_impl_in, List.forall_mem_cons.2 ⟨ok_impl_seqPlace, List.forall_mem_nil _⟩⟩
theorem sane_impl_SeqPlace : saneA fn_29.nt [.dat (.int .i64), .dat (.int .i64)] [.dat (.int .i64)] = true := by kernel_rfl
theorem ok_impl_SeqPlace : FnOk Go.Proofs.Tryz.prog en_impl_SeqPlace := fn_ok tabOk eqOk oks_impl_SeqPlace hmix is_29 sane_impl_SeqPlace (List.forall_mem_nil _) run_impl_SeqPlace
theorem oks_laws_FnEndWrite : ∀ en ∈ ens_laws_FnEndWrite, FnOk Go.Proofs.Tryz.prog en := List.forall_mem_cons.2 ⟨ok_laws_alive, List.forall_mem_cons.2 ⟨ok_laws_sameBytes, List.forall_mem_cons.2 ⟨ok_laws_sameEnd, List.forall_mem_cons.2 ⟨ok_laws_sameSegments, List.forall_mem_cons.2 ⟨ok_impl_EndOk, List.forall_mem_cons.2 ⟨ok_laws_goodSegments, List.forall_mem_cons.2 ⟨ok_spec_DrawEndWrite, List.forall_mem_cons.2 ⟨ok_impl_EndWrite, List.forall_mem_cons.2 ⟨ok_spec_EndWrite, List.forall_mem_cons.2 ⟨ok_impl_SeqPlace, List.forall_mem_nil _⟩⟩⟩⟩⟩⟩⟩⟩⟩⟩
theorem sane_laws_FnEndWrite : saneA fn_5.nt [.dat (.sl (.int .u8))] [.dat .bool] = true := by kernel_rfl
theorem lab_laws_FnEndWrite_11 : ∀ n : Nat, LabOk Go.Proofs.Tryz.prog 5 fn_5 [.dat (.sl (.int .u8))] [.dat .bool] ⟨11, [.r, .r, .r, .r, .r, .r, .r, .l, .r, .l, .l, .l, .l], sl_laws_FnEndWrite_11, L_laws_FnEndWrite_11 n⟩
  | 0 => ⟨by kernel_rfl, fun _ _ _ _ _ _ _ _ _ h => by cases h⟩
  | n + 1 => by
    have ih := lab_laws_FnEndWrite_11 n
    exact lab_run tabOk eqOk oks_laws_FnEndWrite hmix is_5 sane_laws_FnEndWrite (List.forall_mem_cons.2 ⟨ih, List.forall_mem_nil _⟩) (by kernel_rfl) (run_laws_FnEndWrite_11 n)
theorem ok_laws_FnEndWrite : FnOk Go.Proofs.Tryz.prog en_laws_FnEndWrite := fn_ok tabOk eqOk oks_laws_FnEndWrite hmix is_5 sane_laws_FnEndWrite (List.forall_mem_cons.2 ⟨lab_laws_FnEndWrite_11 fuel, List.forall_mem_nil _⟩) run_laws_FnEndWrite
theorem oks_spec_DrawEndClose : ∀ en ∈ ens_spec_DrawEndClose, FnOk Go.Proofs.Tryz.prog en := List.forall_mem_cons.2 ⟨ok_spec_l20Open, List.forall_mem_cons.2 ⟨ok_spec_l20Rd_pick, List.forall_mem_cons.2 ⟨ok_spec_l20End, List.forall_mem_nil _⟩⟩⟩
theorem sane_spec_DrawEndClose : saneA fn_30.nt [.dat (.sl (.int .u8))] [.agg tEnd [], .dat (.int .i64)] = true := by kernel_rfl
theorem ok_spec_DrawEndClose : FnOk Go.Proofs.Tryz.prog en_spec_DrawEndClose := fn_ok tabOk eqOk oks_spec_DrawEndClose hmix is_30 sane_spec_DrawEndClose (List.forall_mem_nil _) run_spec_DrawEndClose
theorem oks_impl_EndClose : ∀ en ∈ ens_impl_EndClose, FnOk Go.Proofs.Tryz.prog en := List.forall_mem_cons.2 ⟨ok_impl_asked, List.forall_mem_cons.2 ⟨ok_impl_End_copy, List.forall_mem_cons.2 ⟨ok_impl_End_arm, List.forall_mem_cons.2 ⟨ok_impl_End_last, List.forall_mem_nil _⟩⟩⟩⟩
theorem sane_impl_EndClose : saneA fn_31.nt [.agg tEnd [], .dat (.int .i64)] [.agg tEnd [], .own tSegment] = true := by kernel_rfl
theorem ok_impl_EndClose : FnOk Go.Proofs.Tryz.prog en_impl_EndClose := fn_ok tabOk eqOk oks_impl_EndClose hmix is_31 sane_impl_EndClose (List.forall_mem_nil _) run_impl_EndClose
theorem oks_laws_FnEndClose : ∀ en ∈ ens_laws_FnEndClose, FnOk Go.Proofs.Tryz.prog en := List.forall_mem_cons.2 ⟨ok_laws_alive, List.forall_mem_cons.2 ⟨ok_laws_sameEnd, List.forall_mem_cons.2 ⟨ok_laws_sameSegments, List.forall_mem_cons.2 ⟨ok_impl_EndOk, List.forall_mem_cons.2 ⟨ok_laws_goodSegments, List.forall_mem_cons.2 ⟨ok_impl_EndWrite, List.forall_mem_cons.2 ⟨ok_spec_DrawEndClose, List.forall_mem_cons.2 ⟨ok_impl_EndClose, List.forall_mem_cons.2 ⟨ok_spec_EndClose, List.forall_mem_nil _⟩⟩⟩⟩⟩⟩⟩⟩⟩
theorem sane_laws_FnEndClose : saneA fn_6.nt [.dat (.sl (.int .u8))] [.dat .bool] = true := by kernel_rfl
theorem ok_laws_FnEndClose : FnOk Go.Proofs.Tryz.prog en_laws_FnEndClose := fn_ok tabOk eqOk oks_laws_FnEndClose hmix is_6 sane_laws_FnEndClose (List.forall_mem_nil _) run_laws_FnEndClose
end Go.VI.EwcVi
