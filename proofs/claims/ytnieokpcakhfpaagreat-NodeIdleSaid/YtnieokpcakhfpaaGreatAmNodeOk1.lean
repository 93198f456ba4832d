/-
  The code is the program's own: checked by the kernel.
-/
import Derived.Test.YtnieokpcakhfpaaGreatAmNode1
import Derived.Test.YtnieokpcakhfpaaGreatAmFunc
import Derived.KernelRfl
import Derived.Test.YtnieokpcakhfpaaGreatProg
namespace Go.AM

theorem ok_14 : okFunc Go.Proofs.Tryz.prog 14 c_14 = true := by kernel_rfl
theorem ok_50 : okFunc Go.Proofs.Tryz.prog 50 c_50 = true := by kernel_rfl
theorem ok_52 : okFunc Go.Proofs.Tryz.prog 52 c_52 = true := by kernel_rfl
theorem ok_53 : okFunc Go.Proofs.Tryz.prog 53 c_53 = true := by kernel_rfl
theorem ok_54 : okFunc Go.Proofs.Tryz.prog 54 c_54 = true := by kernel_rfl
theorem ok_55 : okFunc Go.Proofs.Tryz.prog 55 c_55 = true := by kernel_rfl
theorem ok_56 : okFunc Go.Proofs.Tryz.prog 56 c_56 = true := by kernel_rfl
theorem ok_59 : okFunc Go.Proofs.Tryz.prog 59 c_59 = true := by kernel_rfl
theorem ok_60 : okFunc Go.Proofs.Tryz.prog 60 c_60 = true := by kernel_rfl
theorem ok_65 : okFunc Go.Proofs.Tryz.prog 65 c_65 = true := by kernel_rfl
theorem ok_94 : okFunc Go.Proofs.Tryz.prog 94 c_94 = true := by kernel_rfl
theorem ok_97 : okFunc Go.Proofs.Tryz.prog 97 c_97 = true := by kernel_rfl
theorem ok_100 : okFunc Go.Proofs.Tryz.prog 100 c_100 = true := by kernel_rfl
theorem ok_103 : okFunc Go.Proofs.Tryz.prog 103 c_103 = true := by kernel_rfl
theorem ok_111 : okFunc Go.Proofs.Tryz.prog 111 c_111 = true := by kernel_rfl
theorem ok_116 : okFunc Go.Proofs.Tryz.prog 116 c_116 = true := by kernel_rfl
theorem ok_120 : okFunc Go.Proofs.Tryz.prog 120 c_120 = true := by kernel_rfl
theorem ok_125 : okFunc Go.Proofs.Tryz.prog 125 c_125 = true := by kernel_rfl
theorem ok_131 : okFunc Go.Proofs.Tryz.prog 131 c_131 = true := by kernel_rfl
theorem ok_132 : okFunc Go.Proofs.Tryz.prog 132 c_132 = true := by kernel_rfl
theorem ok_133 : okFunc Go.Proofs.Tryz.prog 133 c_133 = true := by kernel_rfl
theorem ok_134 : okFunc Go.Proofs.Tryz.prog 134 c_134 = true := by kernel_rfl
theorem ok_135 : okFunc Go.Proofs.Tryz.prog 135 c_135 = true := by kernel_rfl
theorem ok_136 : okFunc Go.Proofs.Tryz.prog 136 c_136 = true := by kernel_rfl
theorem ok_137 : okFunc Go.Proofs.Tryz.prog 137 c_137 = true := by kernel_rfl
theorem ok_138 : okFunc Go.Proofs.Tryz.prog 138 c_138 = true := by kernel_rfl
theorem ok_139 : okFunc Go.Proofs.Tryz.prog 139 c_139 = true := by kernel_rfl
theorem ok_140 : okFunc Go.Proofs.Tryz.prog 140 c_140 = true := by kernel_rfl
theorem ok_141 : okFunc Go.Proofs.Tryz.prog 141 c_141 = true := by kernel_rfl
theorem ok_142 : okFunc Go.Proofs.Tryz.prog 142 c_142 = true := by kernel_rfl
theorem ok_143 : okFunc Go.Proofs.Tryz.prog 143 c_143 = true := by kernel_rfl
theorem ok_144 : okFunc Go.Proofs.Tryz.prog 144 c_144 = true := by kernel_rfl
theorem ok_145 : okFunc Go.Proofs.Tryz.prog 145 c_145 = true := by kernel_rfl
theorem ok_146 : okFunc Go.Proofs.Tryz.prog 146 c_146 = true := by kernel_rfl
theorem ok_147 : okFunc Go.Proofs.Tryz.prog 147 c_147 = true := by kernel_rfl
theorem ok_148 : okFunc Go.Proofs.Tryz.prog 148 c_148 = true := by kernel_rfl
theorem ok_149 : okFunc Go.Proofs.Tryz.prog 149 c_149 = true := by kernel_rfl
theorem ok_150 : okFunc Go.Proofs.Tryz.prog 150 c_150 = true := by kernel_rfl
theorem ok_152 : okFunc Go.Proofs.Tryz.prog 152 c_152 = true := by kernel_rfl
theorem ok_153 : okFunc Go.Proofs.Tryz.prog 153 c_153 = true := by kernel_rfl
theorem ok_172 : okFunc Go.Proofs.Tryz.prog 172 c_172 = true := by kernel_rfl
theorem ok_179 : okFunc Go.Proofs.Tryz.prog 179 c_179 = true := by kernel_rfl
theorem ok_186 : okFunc Go.Proofs.Tryz.prog 186 c_186 = true := by kernel_rfl
theorem ok_187 : okFunc Go.Proofs.Tryz.prog 187 c_187 = true := by kernel_rfl
theorem ok_188 : okFunc Go.Proofs.Tryz.prog 188 c_188 = true := by kernel_rfl
theorem ok_193 : okFunc Go.Proofs.Tryz.prog 193 c_193 = true := by kernel_rfl
theorem ok_194 : okFunc Go.Proofs.Tryz.prog 194 c_194 = true := by kernel_rfl
theorem ok_196 : okFunc Go.Proofs.Tryz.prog 196 c_196 = true := by kernel_rfl
theorem ok_203 : okFunc Go.Proofs.Tryz.prog 203 c_203 = true := by kernel_rfl
theorem ok_204 : okFunc Go.Proofs.Tryz.prog 204 c_204 = true := by kernel_rfl
theorem ok_205 : okFunc Go.Proofs.Tryz.prog 205 c_205 = true := by kernel_rfl
theorem ok_206 : okFunc Go.Proofs.Tryz.prog 206 c_206 = true := by kernel_rfl
theorem ok_207 : okFunc Go.Proofs.Tryz.prog 207 c_207 = true := by kernel_rfl
theorem ok_208 : okFunc Go.Proofs.Tryz.prog 208 c_208 = true := by kernel_rfl
theorem ok_209 : okFunc Go.Proofs.Tryz.prog 209 c_209 = true := by kernel_rfl
theorem ok_212 : okFunc Go.Proofs.Tryz.prog 212 c_212 = true := by kernel_rfl
theorem ok_238 : okFunc Go.Proofs.Tryz.prog 238 c_238 = true := by kernel_rfl
theorem ok_239 : okFunc Go.Proofs.Tryz.prog 239 c_239 = true := by kernel_rfl
theorem ok_240 : okFunc Go.Proofs.Tryz.prog 240 c_240 = true := by kernel_rfl
theorem ok_241 : okFunc Go.Proofs.Tryz.prog 241 c_241 = true := by kernel_rfl
theorem ok_242 : okFunc Go.Proofs.Tryz.prog 242 c_242 = true := by kernel_rfl
theorem ok_243 : okFunc Go.Proofs.Tryz.prog 243 c_243 = true := by kernel_rfl
theorem ok_244 : okFunc Go.Proofs.Tryz.prog 244 c_244 = true := by kernel_rfl
theorem ok_245 : okFunc Go.Proofs.Tryz.prog 245 c_245 = true := by kernel_rfl
theorem ok_246 : okFunc Go.Proofs.Tryz.prog 246 c_246 = true := by kernel_rfl
theorem ok_247 : okFunc Go.Proofs.Tryz.prog 247 c_247 = true := by kernel_rfl
theorem ok_248 : okFunc Go.Proofs.Tryz.prog 248 c_248 = true := by kernel_rfl
theorem ok_249 : okFunc Go.Proofs.Tryz.prog 249 c_249 = true := by kernel_rfl
theorem ok_250 : okFunc Go.Proofs.Tryz.prog 250 c_250 = true := by kernel_rfl
theorem ok_252 : okFunc Go.Proofs.Tryz.prog 252 c_252 = true := by kernel_rfl
theorem ok_255 : okFunc Go.Proofs.Tryz.prog 255 c_255 = true := by kernel_rfl
theorem ok_256 : okFunc Go.Proofs.Tryz.prog 256 c_256 = true := by kernel_rfl
theorem ok_257 : okFunc Go.Proofs.Tryz.prog 257 c_257 = true := by kernel_rfl
theorem ok_258 : okFunc Go.Proofs.Tryz.prog 258 c_258 = true := by kernel_rfl
theorem ok_259 : okFunc Go.Proofs.Tryz.prog 259 c_259 = true := by kernel_rfl
theorem ok_284 : okFunc Go.Proofs.Tryz.prog 284 c_284 = true := by kernel_rfl
theorem ok_285 : okFunc Go.Proofs.Tryz.prog 285 c_285 = true := by kernel_rfl
theorem ok_298 : okFunc Go.Proofs.Tryz.prog 298 c_298 = true := by kernel_rfl
theorem ok_299 : okFunc Go.Proofs.Tryz.prog 299 c_299 = true := by kernel_rfl
theorem ok_300 : okFunc Go.Proofs.Tryz.prog 300 c_300 = true := by kernel_rfl
theorem ok_302 : okFunc Go.Proofs.Tryz.prog 302 c_302 = true := by kernel_rfl
theorem ok_303 : okFunc Go.Proofs.Tryz.prog 303 c_303 = true := by kernel_rfl
theorem ok_306 : okFunc Go.Proofs.Tryz.prog 306 c_306 = true := by kernel_rfl
theorem ok_307 : okFunc Go.Proofs.Tryz.prog 307 c_307 = true := by kernel_rfl
theorem ok_308 : okFunc Go.Proofs.Tryz.prog 308 c_308 = true := by kernel_rfl
theorem ok_309 : okFunc Go.Proofs.Tryz.prog 309 c_309 = true := by kernel_rfl
theorem ok_310 : okFunc Go.Proofs.Tryz.prog 310 c_310 = true := by kernel_rfl
theorem ok_311 : okFunc Go.Proofs.Tryz.prog 311 c_311 = true := by kernel_rfl
theorem ok_312 : okFunc Go.Proofs.Tryz.prog 312 c_312 = true := by kernel_rfl
theorem ok_335 : okFunc Go.Proofs.Tryz.prog 335 c_335 = true := by kernel_rfl
theorem ok_336 : okFunc Go.Proofs.Tryz.prog 336 c_336 = true := by kernel_rfl
theorem ok_337 : okFunc Go.Proofs.Tryz.prog 337 c_337 = true := by kernel_rfl
theorem ok_338 : okFunc Go.Proofs.Tryz.prog 338 c_338 = true := by kernel_rfl
theorem ok_339 : okFunc Go.Proofs.Tryz.prog 339 c_339 = true := by kernel_rfl
theorem ok_340 : okFunc Go.Proofs.Tryz.prog 340 c_340 = true := by kernel_rfl
theorem ok_341 : okFunc Go.Proofs.Tryz.prog 341 c_341 = true := by kernel_rfl
theorem ok_342 : okFunc Go.Proofs.Tryz.prog 342 c_342 = true := by kernel_rfl
end Go.AM
