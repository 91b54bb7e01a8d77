/- The checks of a survey. No conditions. -/
import Derived.Test.YtkajafmphemedaaKM
namespace Go.Proofs.Ytkajafmphemedaa
open Ev K
set_option maxRecDepth 100000
def D_chk := DecL.cons (dBulbs) (.last (dSurvey) 0)
theorem fn_check : ∀ a, (callT1 P BKM2 30 72 D_chk R_i) a = T.run (
  .br (within (Survey.id (Prod.snd a)) (1 : Int) (1099511627776 : Int)) (
    .br (within (Survey.tick (Prod.snd a)) (0 : Int) (1048576 : Int)) (
      .br (within (Survey.sag (Prod.snd a)) (0 : Int) (200 : Int)) (
        .br (spans (Survey.shown (Prod.snd a)) (0 : Int) (2000 : Int)) (
          .br (spans (Survey.m0 (Prod.snd a)) (0 : Int) (65536 : Int)) (
            .br (decide (IntKind.wrap IntKind.i64 (Span.hi (Survey.m0 (Prod.snd a)) - Span.lo (Survey.m0 (Prod.snd a))) < (400 : Int))) (
              .br (spans (Survey.m1 (Prod.snd a)) (0 : Int) (65536 : Int)) (
                .br (decide (IntKind.wrap IntKind.i64 (Span.hi (Survey.m1 (Prod.snd a)) - Span.lo (Survey.m1 (Prod.snd a))) < (400 : Int))) (
                  .br (spans (Survey.m2 (Prod.snd a)) (0 : Int) (65536 : Int)) (
                    .br (decide (IntKind.wrap IntKind.i64 (Span.hi (Survey.m2 (Prod.snd a)) - Span.lo (Survey.m2 (Prod.snd a))) < (400 : Int))) (
                      .br (spans (Survey.m3 (Prod.snd a)) (0 : Int) (65536 : Int)) (
                        .br (decide (IntKind.wrap IntKind.i64 (Span.hi (Survey.m3 (Prod.snd a)) - Span.lo (Survey.m3 (Prod.snd a))) < (400 : Int))) (
                          .br (spans (Survey.m4 (Prod.snd a)) (0 : Int) (65536 : Int)) (
                            .br (decide (IntKind.wrap IntKind.i64 (Span.hi (Survey.m4 (Prod.snd a)) - Span.lo (Survey.m4 (Prod.snd a))) < (400 : Int))) (
                              .br (spans (Survey.m5 (Prod.snd a)) (0 : Int) (65536 : Int)) (
                                .br (!decide (IntKind.wrap IntKind.i64 (Span.hi (Survey.m5 (Prod.snd a)) - Span.lo (Survey.m5 (Prod.snd a))) < (400 : Int))) (
                                  .ret ((1 : Int))) (
                                  .br (Prod.snd (density a) != (0 : Int)) (
                                    .ret (Prod.snd (density a))) (
                                    .br (!Prod.snd (extremes (Prod.snd a))) (
                                      .ret ((9 : Int))) (
                                      .ret ((0 : Int)))))) (
                                .ret ((1 : Int)))) (
                              .ret ((1 : Int)))) (
                            .ret ((1 : Int)))) (
                          .ret ((1 : Int)))) (
                        .ret ((1 : Int)))) (
                      .ret ((1 : Int)))) (
                    .ret ((1 : Int)))) (
                  .ret ((1 : Int)))) (
                .ret ((1 : Int)))) (
              .ret ((1 : Int)))) (
            .ret ((1 : Int)))) (
          .ret ((1 : Int)))) (
        .ret ((1 : Int)))) (
      .ret ((1 : Int)))) (
    .ret ((1 : Int)))) := fun a => by kernel_rfl
noncomputable def K.check (a : Bulbs × Survey) : Int := (if (within (Survey.id (Prod.snd a)) (1 : Int) (1099511627776 : Int)) = true then (if (within (Survey.tick (Prod.snd a)) (0 : Int) (1048576 : Int)) = true then (if (within (Survey.sag (Prod.snd a)) (0 : Int) (200 : Int)) = true then (if (spans (Survey.shown (Prod.snd a)) (0 : Int) (2000 : Int)) = true then (if (spans (Survey.m0 (Prod.snd a)) (0 : Int) (65536 : Int)) = true then (if (decide (IntKind.wrap IntKind.i64 (Span.hi (Survey.m0 (Prod.snd a)) - Span.lo (Survey.m0 (Prod.snd a))) < (400 : Int))) = true then (if (spans (Survey.m1 (Prod.snd a)) (0 : Int) (65536 : Int)) = true then (if (decide (IntKind.wrap IntKind.i64 (Span.hi (Survey.m1 (Prod.snd a)) - Span.lo (Survey.m1 (Prod.snd a))) < (400 : Int))) = true then (if (spans (Survey.m2 (Prod.snd a)) (0 : Int) (65536 : Int)) = true then (if (decide (IntKind.wrap IntKind.i64 (Span.hi (Survey.m2 (Prod.snd a)) - Span.lo (Survey.m2 (Prod.snd a))) < (400 : Int))) = true then (if (spans (Survey.m3 (Prod.snd a)) (0 : Int) (65536 : Int)) = true then (if (decide (IntKind.wrap IntKind.i64 (Span.hi (Survey.m3 (Prod.snd a)) - Span.lo (Survey.m3 (Prod.snd a))) < (400 : Int))) = true then (if (spans (Survey.m4 (Prod.snd a)) (0 : Int) (65536 : Int)) = true then (if (decide (IntKind.wrap IntKind.i64 (Span.hi (Survey.m4 (Prod.snd a)) - Span.lo (Survey.m4 (Prod.snd a))) < (400 : Int))) = true then (if (spans (Survey.m5 (Prod.snd a)) (0 : Int) (65536 : Int)) = true then (if (!decide (IntKind.wrap IntKind.i64 (Span.hi (Survey.m5 (Prod.snd a)) - Span.lo (Survey.m5 (Prod.snd a))) < (400 : Int))) = true then (1 : Int) else (if (Prod.snd (density a) != (0 : Int)) = true then Prod.snd (density a) else (if (!Prod.snd (extremes (Prod.snd a))) = true then (9 : Int) else (0 : Int)))) else (1 : Int)) else (1 : Int)) else (1 : Int)) else (1 : Int)) else (1 : Int)) else (1 : Int)) else (1 : Int)) else (1 : Int)) else (1 : Int)) else (1 : Int)) else (1 : Int)) else (1 : Int)) else (1 : Int)) else (1 : Int)) else (1 : Int))
theorem eq_check (a : Bulbs × Survey) : (callT1 P BKM2 30 72 D_chk R_i) a = some (K.check a) := (fn_check a).trans (T.br_some (T.br_some (T.br_some (T.br_some (T.br_some (T.br_some (T.br_some (T.br_some (T.br_some (T.br_some (T.br_some (T.br_some (T.br_some (T.br_some (T.br_some (T.br_some rfl (T.br_some rfl (T.br_some rfl rfl))) rfl) rfl) rfl) rfl) rfl) rfl) rfl) rfl) rfl) rfl) rfl) rfl) rfl) rfl) rfl)
noncomputable def BKF1 : Tab := BKM2.addCall 72 (callE D_chk R_i (fun a => .ret (K.check a)))
theorem tKF1 : TabOk P BKF1 := TabOk.addFn (d := 30) okP tKM2 (fun a r h => by rw [eq_check]; exact congrArg some (ret_some h))
theorem fn_Check : ∀ a, (callT1 P BKF1 30 50 D_chk R_i) a = T.run (
  .br (CheckBulbs (Prod.fst a) != (0 : Int)) (
    .ret (CheckBulbs (Prod.fst a))) (
    .ret (check a))) := fun a => by kernel_rfl
noncomputable def K.Check (a : Bulbs × Survey) : Int := (if (CheckBulbs (Prod.fst a) != (0 : Int)) = true then CheckBulbs (Prod.fst a) else check a)
theorem eq_Check (a : Bulbs × Survey) : (callT1 P BKF1 30 50 D_chk R_i) a = some (K.Check a) := (fn_Check a).trans (T.br_some rfl rfl)
noncomputable def BKF2 : Tab := BKF1.addCall 50 (callE D_chk R_i (fun a => .ret (K.Check a)))
theorem tKF2 : TabOk P BKF2 := TabOk.addFn (d := 30) okP tKF1 (fun a r h => by rw [eq_Check]; exact congrArg some (ret_some h))
end Go.Proofs.Ytkajafmphemedaa
