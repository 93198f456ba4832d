/-
  The code is the program's own: checked by the kernel.
-/
import Derived.Test.YtnieokpcakhfpaaGreatAmNode2
import Derived.Test.YtnieokpcakhfpaaGreatAmFunc
import Derived.KernelRfl
import Derived.Test.YtnieokpcakhfpaaGreatProg
namespace Go.AM

theorem ok_343 : okFunc Go.Proofs.Tryz.prog 343 c_343 = true := by kernel_rfl
theorem ok_344 : okFunc Go.Proofs.Tryz.prog 344 c_344 = true := by kernel_rfl
theorem ok_345 : okFunc Go.Proofs.Tryz.prog 345 c_345 = true := by kernel_rfl
theorem ok_348 : okFunc Go.Proofs.Tryz.prog 348 c_348 = true := by kernel_rfl
theorem ok_349 : okFunc Go.Proofs.Tryz.prog 349 c_349 = true := by kernel_rfl
theorem ok_350 : okFunc Go.Proofs.Tryz.prog 350 c_350 = true := by kernel_rfl
theorem ok_352 : okFunc Go.Proofs.Tryz.prog 352 c_352 = true := by kernel_rfl
theorem ok_354 : okFunc Go.Proofs.Tryz.prog 354 c_354 = true := by kernel_rfl
theorem ok_355 : okFunc Go.Proofs.Tryz.prog 355 c_355 = true := by kernel_rfl
theorem ok_356 : okFunc Go.Proofs.Tryz.prog 356 c_356 = true := by kernel_rfl
theorem ok_357 : okFunc Go.Proofs.Tryz.prog 357 c_357 = true := by kernel_rfl
theorem ok_364 : okFunc Go.Proofs.Tryz.prog 364 c_364 = true := by kernel_rfl
theorem ok_365 : okFunc Go.Proofs.Tryz.prog 365 c_365 = true := by kernel_rfl
theorem ok_366 : okFunc Go.Proofs.Tryz.prog 366 c_366 = true := by kernel_rfl
theorem ok_371 : okFunc Go.Proofs.Tryz.prog 371 c_371 = true := by kernel_rfl
theorem ok_374 : okFunc Go.Proofs.Tryz.prog 374 c_374 = true := by kernel_rfl
theorem ok_377 : okFunc Go.Proofs.Tryz.prog 377 c_377 = true := by kernel_rfl
theorem ok_378 : okFunc Go.Proofs.Tryz.prog 378 c_378 = true := by kernel_rfl
theorem ok_379 : okFunc Go.Proofs.Tryz.prog 379 c_379 = true := by kernel_rfl
theorem ok_380 : okFunc Go.Proofs.Tryz.prog 380 c_380 = true := by kernel_rfl
theorem ok_389 : okFunc Go.Proofs.Tryz.prog 389 c_389 = true := by kernel_rfl
theorem ok_390 : okFunc Go.Proofs.Tryz.prog 390 c_390 = true := by kernel_rfl
theorem ok_391 : okFunc Go.Proofs.Tryz.prog 391 c_391 = true := by kernel_rfl
theorem ok_392 : okFunc Go.Proofs.Tryz.prog 392 c_392 = true := by kernel_rfl
theorem ok_393 : okFunc Go.Proofs.Tryz.prog 393 c_393 = true := by kernel_rfl
theorem ok_394 : okFunc Go.Proofs.Tryz.prog 394 c_394 = true := by kernel_rfl
theorem ok_395 : okFunc Go.Proofs.Tryz.prog 395 c_395 = true := by kernel_rfl
theorem ok_397 : okFunc Go.Proofs.Tryz.prog 397 c_397 = true := by kernel_rfl
theorem ok_400 : okFunc Go.Proofs.Tryz.prog 400 c_400 = true := by kernel_rfl
theorem ok_401 : okFunc Go.Proofs.Tryz.prog 401 c_401 = true := by kernel_rfl
theorem ok_404 : okFunc Go.Proofs.Tryz.prog 404 c_404 = true := by kernel_rfl
theorem ok_405 : okFunc Go.Proofs.Tryz.prog 405 c_405 = true := by kernel_rfl
theorem ok_406 : okFunc Go.Proofs.Tryz.prog 406 c_406 = true := by kernel_rfl
theorem ok_407 : okFunc Go.Proofs.Tryz.prog 407 c_407 = true := by kernel_rfl
theorem ok_410 : okFunc Go.Proofs.Tryz.prog 410 c_410 = true := by kernel_rfl
theorem ok_411 : okFunc Go.Proofs.Tryz.prog 411 c_411 = true := by kernel_rfl
theorem ok_412 : okFunc Go.Proofs.Tryz.prog 412 c_412 = true := by kernel_rfl
theorem ok_413 : okFunc Go.Proofs.Tryz.prog 413 c_413 = true := by kernel_rfl
theorem ok_414 : okFunc Go.Proofs.Tryz.prog 414 c_414 = true := by kernel_rfl
theorem ok_415 : okFunc Go.Proofs.Tryz.prog 415 c_415 = true := by kernel_rfl
theorem ok_416 : okFunc Go.Proofs.Tryz.prog 416 c_416 = true := by kernel_rfl
theorem ok_417 : okFunc Go.Proofs.Tryz.prog 417 c_417 = true := by kernel_rfl
theorem ok_418 : okFunc Go.Proofs.Tryz.prog 418 c_418 = true := by kernel_rfl
theorem ok_419 : okFunc Go.Proofs.Tryz.prog 419 c_419 = true := by kernel_rfl
theorem ok_420 : okFunc Go.Proofs.Tryz.prog 420 c_420 = true := by kernel_rfl
theorem ok_421 : okFunc Go.Proofs.Tryz.prog 421 c_421 = true := by kernel_rfl
theorem ok_422 : okFunc Go.Proofs.Tryz.prog 422 c_422 = true := by kernel_rfl
theorem ok_423 : okFunc Go.Proofs.Tryz.prog 423 c_423 = true := by kernel_rfl
theorem ok_424 : okFunc Go.Proofs.Tryz.prog 424 c_424 = true := by kernel_rfl
theorem ok_425 : okFunc Go.Proofs.Tryz.prog 425 c_425 = true := by kernel_rfl
theorem ok_426 : okFunc Go.Proofs.Tryz.prog 426 c_426 = true := by kernel_rfl
theorem ok_427 : okFunc Go.Proofs.Tryz.prog 427 c_427 = true := by kernel_rfl
theorem ok_428 : okFunc Go.Proofs.Tryz.prog 428 c_428 = true := by kernel_rfl
theorem ok_435 : okFunc Go.Proofs.Tryz.prog 435 c_435 = true := by kernel_rfl
theorem ok_436 : okFunc Go.Proofs.Tryz.prog 436 c_436 = true := by kernel_rfl
theorem ok_437 : okFunc Go.Proofs.Tryz.prog 437 c_437 = true := by kernel_rfl
theorem ok_438 : okFunc Go.Proofs.Tryz.prog 438 c_438 = true := by kernel_rfl
theorem ok_439 : okFunc Go.Proofs.Tryz.prog 439 c_439 = true := by kernel_rfl
theorem ok_440 : okFunc Go.Proofs.Tryz.prog 440 c_440 = true := by kernel_rfl
theorem ok_442 : okFunc Go.Proofs.Tryz.prog 442 c_442 = true := by kernel_rfl
theorem ok_443 : okFunc Go.Proofs.Tryz.prog 443 c_443 = true := by kernel_rfl
theorem ok_444 : okFunc Go.Proofs.Tryz.prog 444 c_444 = true := by kernel_rfl
theorem ok_445 : okFunc Go.Proofs.Tryz.prog 445 c_445 = true := by kernel_rfl
theorem ok_446 : okFunc Go.Proofs.Tryz.prog 446 c_446 = true := by kernel_rfl
theorem ok_447 : okFunc Go.Proofs.Tryz.prog 447 c_447 = true := by kernel_rfl
theorem ok_448 : okFunc Go.Proofs.Tryz.prog 448 c_448 = true := by kernel_rfl
theorem ok_449 : okFunc Go.Proofs.Tryz.prog 449 c_449 = true := by kernel_rfl
theorem ok_450 : okFunc Go.Proofs.Tryz.prog 450 c_450 = true := by kernel_rfl
theorem ok_453 : okFunc Go.Proofs.Tryz.prog 453 c_453 = true := by kernel_rfl
theorem ok_454 : okFunc Go.Proofs.Tryz.prog 454 c_454 = true := by kernel_rfl
theorem ok_455 : okFunc Go.Proofs.Tryz.prog 455 c_455 = true := by kernel_rfl
theorem ok_457 : okFunc Go.Proofs.Tryz.prog 457 c_457 = true := by kernel_rfl
theorem ok_458 : okFunc Go.Proofs.Tryz.prog 458 c_458 = true := by kernel_rfl
theorem ok_459 : okFunc Go.Proofs.Tryz.prog 459 c_459 = true := by kernel_rfl
theorem ok_460 : okFunc Go.Proofs.Tryz.prog 460 c_460 = true := by kernel_rfl
theorem ok_461 : okFunc Go.Proofs.Tryz.prog 461 c_461 = true := by kernel_rfl
theorem ok_462 : okFunc Go.Proofs.Tryz.prog 462 c_462 = true := by kernel_rfl
theorem ok_463 : okFunc Go.Proofs.Tryz.prog 463 c_463 = true := by kernel_rfl
theorem ok_464 : okFunc Go.Proofs.Tryz.prog 464 c_464 = true := by kernel_rfl
theorem ok_465 : okFunc Go.Proofs.Tryz.prog 465 c_465 = true := by kernel_rfl
theorem ok_466 : okFunc Go.Proofs.Tryz.prog 466 c_466 = true := by kernel_rfl
theorem ok_467 : okFunc Go.Proofs.Tryz.prog 467 c_467 = true := by kernel_rfl
theorem ok_468 : okFunc Go.Proofs.Tryz.prog 468 c_468 = true := by kernel_rfl
theorem ok_469 : okFunc Go.Proofs.Tryz.prog 469 c_469 = true := by kernel_rfl
theorem ok_470 : okFunc Go.Proofs.Tryz.prog 470 c_470 = true := by kernel_rfl
theorem ok_471 : okFunc Go.Proofs.Tryz.prog 471 c_471 = true := by kernel_rfl
theorem ok_472 : okFunc Go.Proofs.Tryz.prog 472 c_472 = true := by kernel_rfl
theorem ok_473 : okFunc Go.Proofs.Tryz.prog 473 c_473 = true := by kernel_rfl
end Go.AM
