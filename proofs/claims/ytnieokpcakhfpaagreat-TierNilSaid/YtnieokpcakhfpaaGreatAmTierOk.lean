/-
  The table is the program's own.
-/
import Derived.Test.YtnieokpcakhfpaaGreatAmTier1
import Derived.Test.YtnieokpcakhfpaaGreatAmFunc
import Derived.KernelRfl
import Derived.Test.YtnieokpcakhfpaaGreatProg
import Derived.Test.YtnieokpcakhfpaaGreatAmTier2
import Derived.Test.YtnieokpcakhfpaaGreatAmTier3
import Derived.Test.YtnieokpcakhfpaaGreatAmTier
import Derived.Test.YtnieokpcakhfpaaGreatAmOvNumbers
import Derived.Test.YtnieokpcakhfpaaGreatAmOvCut
import Derived.Test.YtnieokpcakhfpaaGreatAmOvJoin
import Derived.Test.YtnieokpcakhfpaaGreatAmOvAsk
import Derived.Test.YtnieokpcakhfpaaGreatAmOvDelete
import Derived.Test.YtnieokpcakhfpaaGreatAmOvGet
/-
  The code is the program's own: checked by the kernel.
-/
section
namespace Go.AM

theorem ok_18 : okFunc Go.Proofs.Tryz.prog 18 c_18 = true := by kernel_rfl
theorem ok_19 : okFunc Go.Proofs.Tryz.prog 19 c_19 = true := by kernel_rfl
theorem ok_29 : okFunc Go.Proofs.Tryz.prog 29 c_29 = true := by kernel_rfl
theorem ok_44 : okFunc Go.Proofs.Tryz.prog 44 c_44 = true := by kernel_rfl
theorem ok_47 : okFunc Go.Proofs.Tryz.prog 47 c_47 = true := by kernel_rfl
theorem ok_49 : okFunc Go.Proofs.Tryz.prog 49 c_49 = true := by kernel_rfl
theorem ok_50 : okFunc Go.Proofs.Tryz.prog 50 c_50 = true := by kernel_rfl
theorem ok_51 : okFunc Go.Proofs.Tryz.prog 51 c_51 = true := by kernel_rfl
theorem ok_52 : okFunc Go.Proofs.Tryz.prog 52 c_52 = true := by kernel_rfl
theorem ok_54 : okFunc Go.Proofs.Tryz.prog 54 c_54 = true := by kernel_rfl
theorem ok_55 : okFunc Go.Proofs.Tryz.prog 55 c_55 = true := by kernel_rfl
theorem ok_65 : okFunc Go.Proofs.Tryz.prog 65 c_65 = true := by kernel_rfl
theorem ok_69 : okFunc Go.Proofs.Tryz.prog 69 c_69 = true := by kernel_rfl
theorem ok_70 : okFunc Go.Proofs.Tryz.prog 70 c_70 = true := by kernel_rfl
theorem ok_73 : okFunc Go.Proofs.Tryz.prog 73 c_73 = true := by kernel_rfl
theorem ok_74 : okFunc Go.Proofs.Tryz.prog 74 c_74 = true := by kernel_rfl
theorem ok_75 : okFunc Go.Proofs.Tryz.prog 75 c_75 = true := by kernel_rfl
theorem ok_76 : okFunc Go.Proofs.Tryz.prog 76 c_76 = true := by kernel_rfl
theorem ok_77 : okFunc Go.Proofs.Tryz.prog 77 c_77 = true := by kernel_rfl
theorem ok_78 : okFunc Go.Proofs.Tryz.prog 78 c_78 = true := by kernel_rfl
theorem ok_79 : okFunc Go.Proofs.Tryz.prog 79 c_79 = true := by kernel_rfl
theorem ok_80 : okFunc Go.Proofs.Tryz.prog 80 c_80 = true := by kernel_rfl
theorem ok_84 : okFunc Go.Proofs.Tryz.prog 84 c_84 = true := by kernel_rfl
theorem ok_85 : okFunc Go.Proofs.Tryz.prog 85 c_85 = true := by kernel_rfl
theorem ok_87 : okFunc Go.Proofs.Tryz.prog 87 c_87 = true := by kernel_rfl
theorem ok_90 : okFunc Go.Proofs.Tryz.prog 90 c_90 = true := by kernel_rfl
theorem ok_92 : okFunc Go.Proofs.Tryz.prog 92 c_92 = true := by kernel_rfl
theorem ok_94 : okFunc Go.Proofs.Tryz.prog 94 c_94 = true := by kernel_rfl
theorem ok_96 : okFunc Go.Proofs.Tryz.prog 96 c_96 = true := by kernel_rfl
theorem ok_97 : okFunc Go.Proofs.Tryz.prog 97 c_97 = true := by kernel_rfl
theorem ok_99 : okFunc Go.Proofs.Tryz.prog 99 c_99 = true := by kernel_rfl
theorem ok_100 : okFunc Go.Proofs.Tryz.prog 100 c_100 = true := by kernel_rfl
theorem ok_103 : okFunc Go.Proofs.Tryz.prog 103 c_103 = true := by kernel_rfl
theorem ok_111 : okFunc Go.Proofs.Tryz.prog 111 c_111 = true := by kernel_rfl
theorem ok_114 : okFunc Go.Proofs.Tryz.prog 114 c_114 = true := by kernel_rfl
theorem ok_116 : okFunc Go.Proofs.Tryz.prog 116 c_116 = true := by kernel_rfl
theorem ok_117 : okFunc Go.Proofs.Tryz.prog 117 c_117 = true := by kernel_rfl
theorem ok_118 : okFunc Go.Proofs.Tryz.prog 118 c_118 = true := by kernel_rfl
theorem ok_119 : okFunc Go.Proofs.Tryz.prog 119 c_119 = true := by kernel_rfl
theorem ok_120 : okFunc Go.Proofs.Tryz.prog 120 c_120 = true := by kernel_rfl
theorem ok_125 : okFunc Go.Proofs.Tryz.prog 125 c_125 = true := by kernel_rfl
theorem ok_131 : okFunc Go.Proofs.Tryz.prog 131 c_131 = true := by kernel_rfl
theorem ok_132 : okFunc Go.Proofs.Tryz.prog 132 c_132 = true := by kernel_rfl
theorem ok_133 : okFunc Go.Proofs.Tryz.prog 133 c_133 = true := by kernel_rfl
theorem ok_134 : okFunc Go.Proofs.Tryz.prog 134 c_134 = true := by kernel_rfl
theorem ok_135 : okFunc Go.Proofs.Tryz.prog 135 c_135 = true := by kernel_rfl
theorem ok_136 : okFunc Go.Proofs.Tryz.prog 136 c_136 = true := by kernel_rfl
theorem ok_137 : okFunc Go.Proofs.Tryz.prog 137 c_137 = true := by kernel_rfl
theorem ok_138 : okFunc Go.Proofs.Tryz.prog 138 c_138 = true := by kernel_rfl
theorem ok_139 : okFunc Go.Proofs.Tryz.prog 139 c_139 = true := by kernel_rfl
theorem ok_140 : okFunc Go.Proofs.Tryz.prog 140 c_140 = true := by kernel_rfl
theorem ok_141 : okFunc Go.Proofs.Tryz.prog 141 c_141 = true := by kernel_rfl
theorem ok_142 : okFunc Go.Proofs.Tryz.prog 142 c_142 = true := by kernel_rfl
theorem ok_143 : okFunc Go.Proofs.Tryz.prog 143 c_143 = true := by kernel_rfl
theorem ok_144 : okFunc Go.Proofs.Tryz.prog 144 c_144 = true := by kernel_rfl
theorem ok_145 : okFunc Go.Proofs.Tryz.prog 145 c_145 = true := by kernel_rfl
theorem ok_146 : okFunc Go.Proofs.Tryz.prog 146 c_146 = true := by kernel_rfl
theorem ok_147 : okFunc Go.Proofs.Tryz.prog 147 c_147 = true := by kernel_rfl
theorem ok_148 : okFunc Go.Proofs.Tryz.prog 148 c_148 = true := by kernel_rfl
theorem ok_149 : okFunc Go.Proofs.Tryz.prog 149 c_149 = true := by kernel_rfl
theorem ok_150 : okFunc Go.Proofs.Tryz.prog 150 c_150 = true := by kernel_rfl
theorem ok_152 : okFunc Go.Proofs.Tryz.prog 152 c_152 = true := by kernel_rfl
theorem ok_153 : okFunc Go.Proofs.Tryz.prog 153 c_153 = true := by kernel_rfl
theorem ok_161 : okFunc Go.Proofs.Tryz.prog 161 c_161 = true := by kernel_rfl
theorem ok_162 : okFunc Go.Proofs.Tryz.prog 162 c_162 = true := by kernel_rfl
theorem ok_166 : okFunc Go.Proofs.Tryz.prog 166 c_166 = true := by kernel_rfl
theorem ok_167 : okFunc Go.Proofs.Tryz.prog 167 c_167 = true := by kernel_rfl
theorem ok_168 : okFunc Go.Proofs.Tryz.prog 168 c_168 = true := by kernel_rfl
theorem ok_169 : okFunc Go.Proofs.Tryz.prog 169 c_169 = true := by kernel_rfl
theorem ok_170 : okFunc Go.Proofs.Tryz.prog 170 c_170 = true := by kernel_rfl
theorem ok_171 : okFunc Go.Proofs.Tryz.prog 171 c_171 = true := by kernel_rfl
theorem ok_172 : okFunc Go.Proofs.Tryz.prog 172 c_172 = true := by kernel_rfl
theorem ok_173 : okFunc Go.Proofs.Tryz.prog 173 c_173 = true := by kernel_rfl
theorem ok_177 : okFunc Go.Proofs.Tryz.prog 177 c_177 = true := by kernel_rfl
theorem ok_179 : okFunc Go.Proofs.Tryz.prog 179 c_179 = true := by kernel_rfl
theorem ok_180 : okFunc Go.Proofs.Tryz.prog 180 c_180 = true := by kernel_rfl
theorem ok_181 : okFunc Go.Proofs.Tryz.prog 181 c_181 = true := by kernel_rfl
theorem ok_182 : okFunc Go.Proofs.Tryz.prog 182 c_182 = true := by kernel_rfl
theorem ok_186 : okFunc Go.Proofs.Tryz.prog 186 c_186 = true := by kernel_rfl
theorem ok_187 : okFunc Go.Proofs.Tryz.prog 187 c_187 = true := by kernel_rfl
theorem ok_188 : okFunc Go.Proofs.Tryz.prog 188 c_188 = true := by kernel_rfl
theorem ok_193 : okFunc Go.Proofs.Tryz.prog 193 c_193 = true := by kernel_rfl
theorem ok_194 : okFunc Go.Proofs.Tryz.prog 194 c_194 = true := by kernel_rfl
theorem ok_196 : okFunc Go.Proofs.Tryz.prog 196 c_196 = true := by kernel_rfl
end Go.AM
end
/-
  The code is the program's own: checked by the kernel.
-/
section
namespace Go.AM

theorem ok_203 : okFunc Go.Proofs.Tryz.prog 203 c_203 = true := by kernel_rfl
theorem ok_204 : okFunc Go.Proofs.Tryz.prog 204 c_204 = true := by kernel_rfl
theorem ok_205 : okFunc Go.Proofs.Tryz.prog 205 c_205 = true := by kernel_rfl
theorem ok_206 : okFunc Go.Proofs.Tryz.prog 206 c_206 = true := by kernel_rfl
theorem ok_207 : okFunc Go.Proofs.Tryz.prog 207 c_207 = true := by kernel_rfl
theorem ok_208 : okFunc Go.Proofs.Tryz.prog 208 c_208 = true := by kernel_rfl
theorem ok_209 : okFunc Go.Proofs.Tryz.prog 209 c_209 = true := by kernel_rfl
theorem ok_210 : okFunc Go.Proofs.Tryz.prog 210 c_210 = true := by kernel_rfl
theorem ok_211 : okFunc Go.Proofs.Tryz.prog 211 c_211 = true := by kernel_rfl
theorem ok_212 : okFunc Go.Proofs.Tryz.prog 212 c_212 = true := by kernel_rfl
theorem ok_238 : okFunc Go.Proofs.Tryz.prog 238 c_238 = true := by kernel_rfl
theorem ok_239 : okFunc Go.Proofs.Tryz.prog 239 c_239 = true := by kernel_rfl
theorem ok_240 : okFunc Go.Proofs.Tryz.prog 240 c_240 = true := by kernel_rfl
theorem ok_241 : okFunc Go.Proofs.Tryz.prog 241 c_241 = true := by kernel_rfl
theorem ok_242 : okFunc Go.Proofs.Tryz.prog 242 c_242 = true := by kernel_rfl
theorem ok_243 : okFunc Go.Proofs.Tryz.prog 243 c_243 = true := by kernel_rfl
theorem ok_244 : okFunc Go.Proofs.Tryz.prog 244 c_244 = true := by kernel_rfl
theorem ok_245 : okFunc Go.Proofs.Tryz.prog 245 c_245 = true := by kernel_rfl
theorem ok_246 : okFunc Go.Proofs.Tryz.prog 246 c_246 = true := by kernel_rfl
theorem ok_247 : okFunc Go.Proofs.Tryz.prog 247 c_247 = true := by kernel_rfl
theorem ok_248 : okFunc Go.Proofs.Tryz.prog 248 c_248 = true := by kernel_rfl
theorem ok_249 : okFunc Go.Proofs.Tryz.prog 249 c_249 = true := by kernel_rfl
theorem ok_250 : okFunc Go.Proofs.Tryz.prog 250 c_250 = true := by kernel_rfl
theorem ok_252 : okFunc Go.Proofs.Tryz.prog 252 c_252 = true := by kernel_rfl
theorem ok_255 : okFunc Go.Proofs.Tryz.prog 255 c_255 = true := by kernel_rfl
theorem ok_256 : okFunc Go.Proofs.Tryz.prog 256 c_256 = true := by kernel_rfl
theorem ok_257 : okFunc Go.Proofs.Tryz.prog 257 c_257 = true := by kernel_rfl
theorem ok_258 : okFunc Go.Proofs.Tryz.prog 258 c_258 = true := by kernel_rfl
theorem ok_259 : okFunc Go.Proofs.Tryz.prog 259 c_259 = true := by kernel_rfl
theorem ok_279 : okFunc Go.Proofs.Tryz.prog 279 c_279 = true := by kernel_rfl
theorem ok_280 : okFunc Go.Proofs.Tryz.prog 280 c_280 = true := by kernel_rfl
theorem ok_284 : okFunc Go.Proofs.Tryz.prog 284 c_284 = true := by kernel_rfl
theorem ok_285 : okFunc Go.Proofs.Tryz.prog 285 c_285 = true := by kernel_rfl
theorem ok_286 : okFunc Go.Proofs.Tryz.prog 286 c_286 = true := by kernel_rfl
theorem ok_287 : okFunc Go.Proofs.Tryz.prog 287 c_287 = true := by kernel_rfl
theorem ok_288 : okFunc Go.Proofs.Tryz.prog 288 c_288 = true := by kernel_rfl
theorem ok_289 : okFunc Go.Proofs.Tryz.prog 289 c_289 = true := by kernel_rfl
theorem ok_290 : okFunc Go.Proofs.Tryz.prog 290 c_290 = true := by kernel_rfl
theorem ok_291 : okFunc Go.Proofs.Tryz.prog 291 c_291 = true := by kernel_rfl
theorem ok_292 : okFunc Go.Proofs.Tryz.prog 292 c_292 = true := by kernel_rfl
theorem ok_293 : okFunc Go.Proofs.Tryz.prog 293 c_293 = true := by kernel_rfl
theorem ok_294 : okFunc Go.Proofs.Tryz.prog 294 c_294 = true := by kernel_rfl
theorem ok_298 : okFunc Go.Proofs.Tryz.prog 298 c_298 = true := by kernel_rfl
theorem ok_299 : okFunc Go.Proofs.Tryz.prog 299 c_299 = true := by kernel_rfl
theorem ok_300 : okFunc Go.Proofs.Tryz.prog 300 c_300 = true := by kernel_rfl
theorem ok_302 : okFunc Go.Proofs.Tryz.prog 302 c_302 = true := by kernel_rfl
theorem ok_303 : okFunc Go.Proofs.Tryz.prog 303 c_303 = true := by kernel_rfl
theorem ok_306 : okFunc Go.Proofs.Tryz.prog 306 c_306 = true := by kernel_rfl
theorem ok_307 : okFunc Go.Proofs.Tryz.prog 307 c_307 = true := by kernel_rfl
theorem ok_308 : okFunc Go.Proofs.Tryz.prog 308 c_308 = true := by kernel_rfl
theorem ok_309 : okFunc Go.Proofs.Tryz.prog 309 c_309 = true := by kernel_rfl
theorem ok_310 : okFunc Go.Proofs.Tryz.prog 310 c_310 = true := by kernel_rfl
theorem ok_311 : okFunc Go.Proofs.Tryz.prog 311 c_311 = true := by kernel_rfl
theorem ok_312 : okFunc Go.Proofs.Tryz.prog 312 c_312 = true := by kernel_rfl
theorem ok_313 : okFunc Go.Proofs.Tryz.prog 313 c_313 = true := by kernel_rfl
theorem ok_314 : okFunc Go.Proofs.Tryz.prog 314 c_314 = true := by kernel_rfl
theorem ok_315 : okFunc Go.Proofs.Tryz.prog 315 c_315 = true := by kernel_rfl
theorem ok_316 : okFunc Go.Proofs.Tryz.prog 316 c_316 = true := by kernel_rfl
theorem ok_317 : okFunc Go.Proofs.Tryz.prog 317 c_317 = true := by kernel_rfl
theorem ok_318 : okFunc Go.Proofs.Tryz.prog 318 c_318 = true := by kernel_rfl
theorem ok_335 : okFunc Go.Proofs.Tryz.prog 335 c_335 = true := by kernel_rfl
theorem ok_336 : okFunc Go.Proofs.Tryz.prog 336 c_336 = true := by kernel_rfl
theorem ok_337 : okFunc Go.Proofs.Tryz.prog 337 c_337 = true := by kernel_rfl
theorem ok_338 : okFunc Go.Proofs.Tryz.prog 338 c_338 = true := by kernel_rfl
theorem ok_339 : okFunc Go.Proofs.Tryz.prog 339 c_339 = true := by kernel_rfl
theorem ok_340 : okFunc Go.Proofs.Tryz.prog 340 c_340 = true := by kernel_rfl
theorem ok_341 : okFunc Go.Proofs.Tryz.prog 341 c_341 = true := by kernel_rfl
theorem ok_342 : okFunc Go.Proofs.Tryz.prog 342 c_342 = true := by kernel_rfl
theorem ok_343 : okFunc Go.Proofs.Tryz.prog 343 c_343 = true := by kernel_rfl
theorem ok_344 : okFunc Go.Proofs.Tryz.prog 344 c_344 = true := by kernel_rfl
theorem ok_345 : okFunc Go.Proofs.Tryz.prog 345 c_345 = true := by kernel_rfl
theorem ok_348 : okFunc Go.Proofs.Tryz.prog 348 c_348 = true := by kernel_rfl
theorem ok_349 : okFunc Go.Proofs.Tryz.prog 349 c_349 = true := by kernel_rfl
theorem ok_350 : okFunc Go.Proofs.Tryz.prog 350 c_350 = true := by kernel_rfl
theorem ok_352 : okFunc Go.Proofs.Tryz.prog 352 c_352 = true := by kernel_rfl
theorem ok_354 : okFunc Go.Proofs.Tryz.prog 354 c_354 = true := by kernel_rfl
theorem ok_355 : okFunc Go.Proofs.Tryz.prog 355 c_355 = true := by kernel_rfl
theorem ok_356 : okFunc Go.Proofs.Tryz.prog 356 c_356 = true := by kernel_rfl
theorem ok_357 : okFunc Go.Proofs.Tryz.prog 357 c_357 = true := by kernel_rfl
theorem ok_364 : okFunc Go.Proofs.Tryz.prog 364 c_364 = true := by kernel_rfl
theorem ok_365 : okFunc Go.Proofs.Tryz.prog 365 c_365 = true := by kernel_rfl
theorem ok_366 : okFunc Go.Proofs.Tryz.prog 366 c_366 = true := by kernel_rfl
theorem ok_367 : okFunc Go.Proofs.Tryz.prog 367 c_367 = true := by kernel_rfl
theorem ok_368 : okFunc Go.Proofs.Tryz.prog 368 c_368 = true := by kernel_rfl
theorem ok_371 : okFunc Go.Proofs.Tryz.prog 371 c_371 = true := by kernel_rfl
theorem ok_374 : okFunc Go.Proofs.Tryz.prog 374 c_374 = true := by kernel_rfl
theorem ok_377 : okFunc Go.Proofs.Tryz.prog 377 c_377 = true := by kernel_rfl
theorem ok_378 : okFunc Go.Proofs.Tryz.prog 378 c_378 = true := by kernel_rfl
theorem ok_379 : okFunc Go.Proofs.Tryz.prog 379 c_379 = true := by kernel_rfl
theorem ok_380 : okFunc Go.Proofs.Tryz.prog 380 c_380 = true := by kernel_rfl
theorem ok_381 : okFunc Go.Proofs.Tryz.prog 381 c_381 = true := by kernel_rfl
theorem ok_382 : okFunc Go.Proofs.Tryz.prog 382 c_382 = true := by kernel_rfl
theorem ok_383 : okFunc Go.Proofs.Tryz.prog 383 c_383 = true := by kernel_rfl
theorem ok_384 : okFunc Go.Proofs.Tryz.prog 384 c_384 = true := by kernel_rfl
theorem ok_389 : okFunc Go.Proofs.Tryz.prog 389 c_389 = true := by kernel_rfl
theorem ok_390 : okFunc Go.Proofs.Tryz.prog 390 c_390 = true := by kernel_rfl
theorem ok_391 : okFunc Go.Proofs.Tryz.prog 391 c_391 = true := by kernel_rfl
theorem ok_392 : okFunc Go.Proofs.Tryz.prog 392 c_392 = true := by kernel_rfl
theorem ok_393 : okFunc Go.Proofs.Tryz.prog 393 c_393 = true := by kernel_rfl
theorem ok_394 : okFunc Go.Proofs.Tryz.prog 394 c_394 = true := by kernel_rfl
theorem ok_395 : okFunc Go.Proofs.Tryz.prog 395 c_395 = true := by kernel_rfl
theorem ok_397 : okFunc Go.Proofs.Tryz.prog 397 c_397 = true := by kernel_rfl
theorem ok_400 : okFunc Go.Proofs.Tryz.prog 400 c_400 = true := by kernel_rfl
theorem ok_401 : okFunc Go.Proofs.Tryz.prog 401 c_401 = true := by kernel_rfl
theorem ok_404 : okFunc Go.Proofs.Tryz.prog 404 c_404 = true := by kernel_rfl
theorem ok_405 : okFunc Go.Proofs.Tryz.prog 405 c_405 = true := by kernel_rfl
theorem ok_406 : okFunc Go.Proofs.Tryz.prog 406 c_406 = true := by kernel_rfl
theorem ok_407 : okFunc Go.Proofs.Tryz.prog 407 c_407 = true := by kernel_rfl
theorem ok_410 : okFunc Go.Proofs.Tryz.prog 410 c_410 = true := by kernel_rfl
theorem ok_411 : okFunc Go.Proofs.Tryz.prog 411 c_411 = true := by kernel_rfl
theorem ok_412 : okFunc Go.Proofs.Tryz.prog 412 c_412 = true := by kernel_rfl
theorem ok_413 : okFunc Go.Proofs.Tryz.prog 413 c_413 = true := by kernel_rfl
theorem ok_414 : okFunc Go.Proofs.Tryz.prog 414 c_414 = true := by kernel_rfl
theorem ok_415 : okFunc Go.Proofs.Tryz.prog 415 c_415 = true := by kernel_rfl
theorem ok_416 : okFunc Go.Proofs.Tryz.prog 416 c_416 = true := by kernel_rfl
end Go.AM
end
/-
  The code is the program's own: checked by the kernel.
-/
section
namespace Go.AM

theorem ok_417 : okFunc Go.Proofs.Tryz.prog 417 c_417 = true := by kernel_rfl
theorem ok_418 : okFunc Go.Proofs.Tryz.prog 418 c_418 = true := by kernel_rfl
theorem ok_419 : okFunc Go.Proofs.Tryz.prog 419 c_419 = true := by kernel_rfl
theorem ok_420 : okFunc Go.Proofs.Tryz.prog 420 c_420 = true := by kernel_rfl
theorem ok_421 : okFunc Go.Proofs.Tryz.prog 421 c_421 = true := by kernel_rfl
theorem ok_422 : okFunc Go.Proofs.Tryz.prog 422 c_422 = true := by kernel_rfl
theorem ok_423 : okFunc Go.Proofs.Tryz.prog 423 c_423 = true := by kernel_rfl
theorem ok_424 : okFunc Go.Proofs.Tryz.prog 424 c_424 = true := by kernel_rfl
theorem ok_425 : okFunc Go.Proofs.Tryz.prog 425 c_425 = true := by kernel_rfl
theorem ok_426 : okFunc Go.Proofs.Tryz.prog 426 c_426 = true := by kernel_rfl
theorem ok_427 : okFunc Go.Proofs.Tryz.prog 427 c_427 = true := by kernel_rfl
theorem ok_428 : okFunc Go.Proofs.Tryz.prog 428 c_428 = true := by kernel_rfl
theorem ok_429 : okFunc Go.Proofs.Tryz.prog 429 c_429 = true := by kernel_rfl
theorem ok_435 : okFunc Go.Proofs.Tryz.prog 435 c_435 = true := by kernel_rfl
theorem ok_436 : okFunc Go.Proofs.Tryz.prog 436 c_436 = true := by kernel_rfl
theorem ok_437 : okFunc Go.Proofs.Tryz.prog 437 c_437 = true := by kernel_rfl
theorem ok_438 : okFunc Go.Proofs.Tryz.prog 438 c_438 = true := by kernel_rfl
theorem ok_439 : okFunc Go.Proofs.Tryz.prog 439 c_439 = true := by kernel_rfl
theorem ok_440 : okFunc Go.Proofs.Tryz.prog 440 c_440 = true := by kernel_rfl
theorem ok_442 : okFunc Go.Proofs.Tryz.prog 442 c_442 = true := by kernel_rfl
theorem ok_443 : okFunc Go.Proofs.Tryz.prog 443 c_443 = true := by kernel_rfl
theorem ok_444 : okFunc Go.Proofs.Tryz.prog 444 c_444 = true := by kernel_rfl
theorem ok_445 : okFunc Go.Proofs.Tryz.prog 445 c_445 = true := by kernel_rfl
theorem ok_446 : okFunc Go.Proofs.Tryz.prog 446 c_446 = true := by kernel_rfl
theorem ok_447 : okFunc Go.Proofs.Tryz.prog 447 c_447 = true := by kernel_rfl
theorem ok_448 : okFunc Go.Proofs.Tryz.prog 448 c_448 = true := by kernel_rfl
theorem ok_449 : okFunc Go.Proofs.Tryz.prog 449 c_449 = true := by kernel_rfl
theorem ok_450 : okFunc Go.Proofs.Tryz.prog 450 c_450 = true := by kernel_rfl
theorem ok_453 : okFunc Go.Proofs.Tryz.prog 453 c_453 = true := by kernel_rfl
theorem ok_454 : okFunc Go.Proofs.Tryz.prog 454 c_454 = true := by kernel_rfl
theorem ok_455 : okFunc Go.Proofs.Tryz.prog 455 c_455 = true := by kernel_rfl
theorem ok_457 : okFunc Go.Proofs.Tryz.prog 457 c_457 = true := by kernel_rfl
theorem ok_458 : okFunc Go.Proofs.Tryz.prog 458 c_458 = true := by kernel_rfl
theorem ok_459 : okFunc Go.Proofs.Tryz.prog 459 c_459 = true := by kernel_rfl
theorem ok_460 : okFunc Go.Proofs.Tryz.prog 460 c_460 = true := by kernel_rfl
theorem ok_461 : okFunc Go.Proofs.Tryz.prog 461 c_461 = true := by kernel_rfl
theorem ok_462 : okFunc Go.Proofs.Tryz.prog 462 c_462 = true := by kernel_rfl
theorem ok_463 : okFunc Go.Proofs.Tryz.prog 463 c_463 = true := by kernel_rfl
theorem ok_464 : okFunc Go.Proofs.Tryz.prog 464 c_464 = true := by kernel_rfl
theorem ok_465 : okFunc Go.Proofs.Tryz.prog 465 c_465 = true := by kernel_rfl
theorem ok_466 : okFunc Go.Proofs.Tryz.prog 466 c_466 = true := by kernel_rfl
theorem ok_467 : okFunc Go.Proofs.Tryz.prog 467 c_467 = true := by kernel_rfl
theorem ok_468 : okFunc Go.Proofs.Tryz.prog 468 c_468 = true := by kernel_rfl
theorem ok_469 : okFunc Go.Proofs.Tryz.prog 469 c_469 = true := by kernel_rfl
theorem ok_470 : okFunc Go.Proofs.Tryz.prog 470 c_470 = true := by kernel_rfl
theorem ok_471 : okFunc Go.Proofs.Tryz.prog 471 c_471 = true := by kernel_rfl
theorem ok_472 : okFunc Go.Proofs.Tryz.prog 472 c_472 = true := by kernel_rfl
theorem ok_473 : okFunc Go.Proofs.Tryz.prog 473 c_473 = true := by kernel_rfl
end Go.AM
end
section
set_option maxRecDepth 100000
namespace Go.AM
theorem tabOk : TabOk Go.Proofs.Tryz.prog tab :=
  (tabOk_node (tabOk_node (tabOk_node (tabOk_node (tabOk_node (tabOk_node (tabOk_node (tabOk_node tabOk_leaf ok_18 tabOk_leaf) ok_19 (tabOk_node tabOk_leaf ok_29 tabOk_leaf)) ok_44 (tabOk_node (tabOk_node tabOk_leaf ok_47 tabOk_leaf) ok_49 (tabOk_node tabOk_leaf ok_50 tabOk_leaf))) ok_51 (tabOk_node (tabOk_node (tabOk_node tabOk_leaf ok_52 tabOk_leaf) ok_54 (tabOk_node tabOk_leaf ok_55 tabOk_leaf)) ok_65 (tabOk_node (tabOk_node tabOk_leaf ok_69 tabOk_leaf) ok_70 (tabOk_node tabOk_leaf ok_73 tabOk_leaf)))) ok_74 (tabOk_node (tabOk_node (tabOk_node (tabOk_node tabOk_leaf ok_75 tabOk_leaf) ok_76 (tabOk_node tabOk_leaf ok_77 tabOk_leaf)) ok_78 (tabOk_node (tabOk_node tabOk_leaf ok_79 tabOk_leaf) ok_80 (tabOk_node tabOk_leaf ok_84 tabOk_leaf))) ok_85 (tabOk_node (tabOk_node (tabOk_node tabOk_leaf ok_87 tabOk_leaf) ok_90 (tabOk_node tabOk_leaf ok_92 tabOk_leaf)) ok_94 (tabOk_node (tabOk_node tabOk_leaf ok_96 tabOk_leaf) ok_97 (tabOk_node tabOk_leaf ok_99 tabOk_leaf))))) ok_100 (tabOk_node (tabOk_node (tabOk_node (tabOk_node (tabOk_node tabOk_leaf ok_103 tabOk_leaf) ok_111 (tabOk_node tabOk_leaf ok_114 tabOk_leaf)) ok_116 (tabOk_node (tabOk_node tabOk_leaf ok_117 tabOk_leaf) ok_118 (tabOk_node tabOk_leaf ok_119 tabOk_leaf))) ok_120 (tabOk_node (tabOk_node (tabOk_node tabOk_leaf ok_125 tabOk_leaf) ok_131 (tabOk_node tabOk_leaf ok_132 tabOk_leaf)) ok_133 (tabOk_node (tabOk_node tabOk_leaf ok_134 tabOk_leaf) ok_135 (tabOk_node tabOk_leaf ok_136 tabOk_leaf)))) ok_137 (tabOk_node (tabOk_node (tabOk_node (tabOk_node tabOk_leaf ok_138 tabOk_leaf) ok_139 (tabOk_node tabOk_leaf ok_140 tabOk_leaf)) ok_141 (tabOk_node (tabOk_node tabOk_leaf ok_142 tabOk_leaf) ok_143 (tabOk_node tabOk_leaf ok_144 tabOk_leaf))) ok_145 (tabOk_node (tabOk_node (tabOk_node tabOk_leaf ok_146 tabOk_leaf) ok_147 (tabOk_node tabOk_leaf ok_148 tabOk_leaf)) ok_149 (tabOk_node (tabOk_node tabOk_leaf ok_150 tabOk_leaf) ok_151 (tabOk_node tabOk_leaf ok_152 tabOk_leaf)))))) ok_153 (tabOk_node (tabOk_node (tabOk_node (tabOk_node (tabOk_node (tabOk_node tabOk_leaf ok_161 tabOk_leaf) ok_162 (tabOk_node tabOk_leaf ok_166 tabOk_leaf)) ok_167 (tabOk_node (tabOk_node tabOk_leaf ok_168 tabOk_leaf) ok_169 (tabOk_node tabOk_leaf ok_170 tabOk_leaf))) ok_171 (tabOk_node (tabOk_node (tabOk_node tabOk_leaf ok_172 tabOk_leaf) ok_173 (tabOk_node tabOk_leaf ok_177 tabOk_leaf)) ok_179 (tabOk_node (tabOk_node tabOk_leaf ok_180 tabOk_leaf) ok_181 (tabOk_node tabOk_leaf ok_182 tabOk_leaf)))) ok_183 (tabOk_node (tabOk_node (tabOk_node (tabOk_node tabOk_leaf ok_186 tabOk_leaf) ok_187 (tabOk_node tabOk_leaf ok_188 tabOk_leaf)) ok_193 (tabOk_node (tabOk_node tabOk_leaf ok_194 tabOk_leaf) ok_196 (tabOk_node tabOk_leaf ok_203 tabOk_leaf))) ok_204 (tabOk_node (tabOk_node (tabOk_node tabOk_leaf ok_205 tabOk_leaf) ok_206 (tabOk_node tabOk_leaf ok_207 tabOk_leaf)) ok_208 (tabOk_node (tabOk_node tabOk_leaf ok_209 tabOk_leaf) ok_210 (tabOk_node tabOk_leaf ok_211 tabOk_leaf))))) ok_212 (tabOk_node (tabOk_node (tabOk_node (tabOk_node (tabOk_node tabOk_leaf ok_213 tabOk_leaf) ok_238 (tabOk_node tabOk_leaf ok_239 tabOk_leaf)) ok_240 (tabOk_node (tabOk_node tabOk_leaf ok_241 tabOk_leaf) ok_242 (tabOk_node tabOk_leaf ok_243 tabOk_leaf))) ok_244 (tabOk_node (tabOk_node (tabOk_node tabOk_leaf ok_245 tabOk_leaf) ok_246 (tabOk_node tabOk_leaf ok_247 tabOk_leaf)) ok_248 (tabOk_node (tabOk_node tabOk_leaf ok_249 tabOk_leaf) ok_250 (tabOk_node tabOk_leaf ok_251 tabOk_leaf)))) ok_252 (tabOk_node (tabOk_node (tabOk_node (tabOk_node tabOk_leaf ok_255 tabOk_leaf) ok_256 (tabOk_node tabOk_leaf ok_257 tabOk_leaf)) ok_258 (tabOk_node (tabOk_node tabOk_leaf ok_259 tabOk_leaf) ok_279 (tabOk_node tabOk_leaf ok_280 tabOk_leaf))) ok_281 (tabOk_node (tabOk_node (tabOk_node tabOk_leaf ok_284 tabOk_leaf) ok_285 (tabOk_node tabOk_leaf ok_286 tabOk_leaf)) ok_287 (tabOk_node (tabOk_node tabOk_leaf ok_288 tabOk_leaf) ok_289 tabOk_leaf)))))) ok_290 (tabOk_node (tabOk_node (tabOk_node (tabOk_node (tabOk_node (tabOk_node (tabOk_node tabOk_leaf ok_291 tabOk_leaf) ok_292 (tabOk_node tabOk_leaf ok_293 tabOk_leaf)) ok_294 (tabOk_node (tabOk_node tabOk_leaf ok_298 tabOk_leaf) ok_299 (tabOk_node tabOk_leaf ok_300 tabOk_leaf))) ok_302 (tabOk_node (tabOk_node (tabOk_node tabOk_leaf ok_303 tabOk_leaf) ok_306 (tabOk_node tabOk_leaf ok_307 tabOk_leaf)) ok_308 (tabOk_node (tabOk_node tabOk_leaf ok_309 tabOk_leaf) ok_310 (tabOk_node tabOk_leaf ok_311 tabOk_leaf)))) ok_312 (tabOk_node (tabOk_node (tabOk_node (tabOk_node tabOk_leaf ok_313 tabOk_leaf) ok_314 (tabOk_node tabOk_leaf ok_315 tabOk_leaf)) ok_316 (tabOk_node (tabOk_node tabOk_leaf ok_317 tabOk_leaf) ok_318 (tabOk_node tabOk_leaf ok_335 tabOk_leaf))) ok_336 (tabOk_node (tabOk_node (tabOk_node tabOk_leaf ok_337 tabOk_leaf) ok_338 (tabOk_node tabOk_leaf ok_339 tabOk_leaf)) ok_340 (tabOk_node (tabOk_node tabOk_leaf ok_341 tabOk_leaf) ok_342 (tabOk_node tabOk_leaf ok_343 tabOk_leaf))))) ok_344 (tabOk_node (tabOk_node (tabOk_node (tabOk_node (tabOk_node tabOk_leaf ok_345 tabOk_leaf) ok_347 (tabOk_node tabOk_leaf ok_348 tabOk_leaf)) ok_349 (tabOk_node (tabOk_node tabOk_leaf ok_350 tabOk_leaf) ok_352 (tabOk_node tabOk_leaf ok_354 tabOk_leaf))) ok_355 (tabOk_node (tabOk_node (tabOk_node tabOk_leaf ok_356 tabOk_leaf) ok_357 (tabOk_node tabOk_leaf ok_364 tabOk_leaf)) ok_365 (tabOk_node (tabOk_node tabOk_leaf ok_366 tabOk_leaf) ok_367 (tabOk_node tabOk_leaf ok_368 tabOk_leaf)))) ok_371 (tabOk_node (tabOk_node (tabOk_node (tabOk_node tabOk_leaf ok_374 tabOk_leaf) ok_377 (tabOk_node tabOk_leaf ok_378 tabOk_leaf)) ok_379 (tabOk_node (tabOk_node tabOk_leaf ok_380 tabOk_leaf) ok_381 (tabOk_node tabOk_leaf ok_382 tabOk_leaf))) ok_383 (tabOk_node (tabOk_node (tabOk_node tabOk_leaf ok_384 tabOk_leaf) ok_389 (tabOk_node tabOk_leaf ok_390 tabOk_leaf)) ok_391 (tabOk_node (tabOk_node tabOk_leaf ok_392 tabOk_leaf) ok_393 (tabOk_node tabOk_leaf ok_394 tabOk_leaf)))))) ok_395 (tabOk_node (tabOk_node (tabOk_node (tabOk_node (tabOk_node (tabOk_node tabOk_leaf ok_397 tabOk_leaf) ok_400 (tabOk_node tabOk_leaf ok_401 tabOk_leaf)) ok_404 (tabOk_node (tabOk_node tabOk_leaf ok_405 tabOk_leaf) ok_406 (tabOk_node tabOk_leaf ok_407 tabOk_leaf))) ok_410 (tabOk_node (tabOk_node (tabOk_node tabOk_leaf ok_411 tabOk_leaf) ok_412 (tabOk_node tabOk_leaf ok_413 tabOk_leaf)) ok_414 (tabOk_node (tabOk_node tabOk_leaf ok_415 tabOk_leaf) ok_416 (tabOk_node tabOk_leaf ok_417 tabOk_leaf)))) ok_418 (tabOk_node (tabOk_node (tabOk_node (tabOk_node tabOk_leaf ok_419 tabOk_leaf) ok_420 (tabOk_node tabOk_leaf ok_421 tabOk_leaf)) ok_422 (tabOk_node (tabOk_node tabOk_leaf ok_423 tabOk_leaf) ok_424 (tabOk_node tabOk_leaf ok_425 tabOk_leaf))) ok_426 (tabOk_node (tabOk_node (tabOk_node tabOk_leaf ok_427 tabOk_leaf) ok_428 (tabOk_node tabOk_leaf ok_429 tabOk_leaf)) ok_435 (tabOk_node (tabOk_node tabOk_leaf ok_436 tabOk_leaf) ok_437 (tabOk_node tabOk_leaf ok_438 tabOk_leaf))))) ok_439 (tabOk_node (tabOk_node (tabOk_node (tabOk_node (tabOk_node tabOk_leaf ok_440 tabOk_leaf) ok_442 (tabOk_node tabOk_leaf ok_443 tabOk_leaf)) ok_444 (tabOk_node (tabOk_node tabOk_leaf ok_445 tabOk_leaf) ok_446 (tabOk_node tabOk_leaf ok_447 tabOk_leaf))) ok_448 (tabOk_node (tabOk_node (tabOk_node tabOk_leaf ok_449 tabOk_leaf) ok_450 (tabOk_node tabOk_leaf ok_453 tabOk_leaf)) ok_454 (tabOk_node (tabOk_node tabOk_leaf ok_455 tabOk_leaf) ok_457 (tabOk_node tabOk_leaf ok_458 tabOk_leaf)))) ok_459 (tabOk_node (tabOk_node (tabOk_node (tabOk_node tabOk_leaf ok_460 tabOk_leaf) ok_461 (tabOk_node tabOk_leaf ok_462 tabOk_leaf)) ok_463 (tabOk_node (tabOk_node tabOk_leaf ok_464 tabOk_leaf) ok_465 (tabOk_node tabOk_leaf ok_466 tabOk_leaf))) ok_467 (tabOk_node (tabOk_node (tabOk_node tabOk_leaf ok_468 tabOk_leaf) ok_469 (tabOk_node tabOk_leaf ok_470 tabOk_leaf)) ok_471 (tabOk_node (tabOk_node tabOk_leaf ok_472 tabOk_leaf) ok_473 tabOk_leaf)))))))
end Go.AM
end
