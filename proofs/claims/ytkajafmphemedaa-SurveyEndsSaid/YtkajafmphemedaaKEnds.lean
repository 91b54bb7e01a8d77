/- The law of the ends: what it computes. No conditions. -/
import Derived.Test.YtkajafmphemedaaKJ
namespace Go.Proofs.Ytkajafmphemedaa
open Ev K
set_option maxRecDepth 100000
def D_lends := DecL.cons dBulbs (.cons dSurvey (.last dSix 0))
theorem fn_lawEnds : ∀ a, (callT1 P BKJ1 30 6 D_lends dB) a = T.run (
  .br (!few (Prod.fst a)) (
    .ret (true)) (
    .br (Prod.snd (Sixteen (Prod.fst a, Prod.fst (Prod.snd a))) != (0 : Int)) (
      .ret (Prod.snd (Sixteen (Prod.fst a, Prod.fst (Prod.snd a))) == Prod.snd (Prod.snd (K.Ends (Prod.fst a, Prod.fst (Prod.snd a)))))) (
      .br (Prod.snd (Prod.snd (K.Ends (Prod.fst a, Prod.fst (Prod.snd a)))) != (0 : Int)) (
        .ret (Prod.snd (Sixteen (Prod.fst a, Prod.fst (Prod.snd a))) == Prod.snd (Prod.snd (K.Ends (Prod.fst a, Prod.fst (Prod.snd a)))))) (
        .br (!Bends (Prod.fst (Prod.snd a), Prod.fst (K.Ends (Prod.fst a, Prod.fst (Prod.snd a))))) (
          .ret (false)) (
          .br (!Bends (Prod.fst (Prod.snd a), Prod.fst (Prod.snd (K.Ends (Prod.fst a, Prod.fst (Prod.snd a)))))) (
            .ret (false)) (
            .br (lsix (Prod.fst (K.Ends (Prod.fst a, Prod.fst (Prod.snd a)))) != Span.lo (Prod.fst (Sixteen (Prod.fst a, Prod.fst (Prod.snd a))))) (
              .ret (false)) (
              .br (lsix (Prod.fst (Prod.snd (K.Ends (Prod.fst a, Prod.fst (Prod.snd a))))) != Span.hi (Prod.fst (Sixteen (Prod.fst a, Prod.fst (Prod.snd a))))) (
                .ret (false)) (
                .br (!Bends (Prod.snd a)) (
                  .ret (true)) (
                  .br (decide (lsix (Prod.snd (Prod.snd a)) ≥ Span.lo (Prod.fst (Sixteen (Prod.fst a, Prod.fst (Prod.snd a)))))) (
                    .ret (decide (lsix (Prod.snd (Prod.snd a)) ≤ Span.hi (Prod.fst (Sixteen (Prod.fst a, Prod.fst (Prod.snd a))))))) (
                    .ret (false))))))))))) := fun a => by kernel_rfl
noncomputable def K.lawEnds (a : Bulbs × Survey × Int × Int × Int × Int × Int × Int) : Bool := (if (!few (Prod.fst a)) = true then true else (if (Prod.snd (Sixteen (Prod.fst a, Prod.fst (Prod.snd a))) != (0 : Int)) = true then Prod.snd (Sixteen (Prod.fst a, Prod.fst (Prod.snd a))) == Prod.snd (Prod.snd (K.Ends (Prod.fst a, Prod.fst (Prod.snd a)))) else (if (Prod.snd (Prod.snd (K.Ends (Prod.fst a, Prod.fst (Prod.snd a)))) != (0 : Int)) = true then Prod.snd (Sixteen (Prod.fst a, Prod.fst (Prod.snd a))) == Prod.snd (Prod.snd (K.Ends (Prod.fst a, Prod.fst (Prod.snd a)))) else (if (!Bends (Prod.fst (Prod.snd a), Prod.fst (K.Ends (Prod.fst a, Prod.fst (Prod.snd a))))) = true then false else (if (!Bends (Prod.fst (Prod.snd a), Prod.fst (Prod.snd (K.Ends (Prod.fst a, Prod.fst (Prod.snd a)))))) = true then false else (if (lsix (Prod.fst (K.Ends (Prod.fst a, Prod.fst (Prod.snd a)))) != Span.lo (Prod.fst (Sixteen (Prod.fst a, Prod.fst (Prod.snd a))))) = true then false else (if (lsix (Prod.fst (Prod.snd (K.Ends (Prod.fst a, Prod.fst (Prod.snd a))))) != Span.hi (Prod.fst (Sixteen (Prod.fst a, Prod.fst (Prod.snd a))))) = true then false else (if (!Bends (Prod.snd a)) = true then true else (if (decide (lsix (Prod.snd (Prod.snd a)) ≥ Span.lo (Prod.fst (Sixteen (Prod.fst a, Prod.fst (Prod.snd a)))))) = true then decide (lsix (Prod.snd (Prod.snd a)) ≤ Span.hi (Prod.fst (Sixteen (Prod.fst a, Prod.fst (Prod.snd a))))) else false)))))))))
theorem eq_lawEnds (a : Bulbs × Survey × Int × Int × Int × Int × Int × Int) : (callT1 P BKJ1 30 6 D_lends dB) a = some (K.lawEnds a) := (fn_lawEnds a).trans (T.br_some rfl (T.br_some rfl (T.br_some rfl (T.br_some rfl (T.br_some rfl (T.br_some rfl (T.br_some rfl (T.br_some rfl (T.br_some rfl rfl)))))))))
noncomputable def BKEnds1 : Tab := BKJ1.addCall 6 (callE D_lends dB (fun a => .ret (K.lawEnds a)))
theorem tKEnds1 : TabOk P BKEnds1 := TabOk.addFn (d := 30) okP tKJ1 (fun a r h => by rw [eq_lawEnds]; exact congrArg some (ret_some h))
end Go.Proofs.Ytkajafmphemedaa
