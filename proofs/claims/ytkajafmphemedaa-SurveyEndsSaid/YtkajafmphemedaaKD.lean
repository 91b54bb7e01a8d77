/- The data of the port's layers, and how they lie in values. No conditions. -/
import Derived.Test.YtkajafmphemedaaK0
namespace Go.Proofs.Ytkajafmphemedaa
open Ev
namespace K
@[ext] structure Span where (lo hi : Int)
@[ext] structure Frac where (num den : Int)
@[ext] structure Range where (lo hi : Frac)
@[ext] structure Hydro where (id : Int) (off : Span)
@[ext] structure Glass where (id hydro dense : Int) (shown : Span)
structure Bulbs where (hydros glasses : XS)
@[ext] structure Survey where (id tick : Int) (m0 m1 m2 m3 m4 m5 : Span) (sag hydro : Int) (shown : Span)
@[ext] structure Knot where (x y : Int)
@[ext] structure Hold where (id room lever height : Int)
structure Curve where (knots : XS) (err : Int)
structure Ship where (id light lever height : Int) (holds : XS) (mean mc : Curve) (turn least : Int)
@[ext] structure Sums where (ends middle : Int)
@[ext] structure GlassE where (g : Glass) (errors : Span)
@[ext] structure Piece where (p q : Knot)
structure Load where (holds : XS) (all : Span)
end K
open K
def lSpan : DecL Span := (DecL.cons (dI .i64) (.last (dI .i64) 0)).iso (fun p => ⟨p.1, p.2⟩) (fun s => (s.lo, s.hi)) (fun _ => rfl)
def dSpan : Dec Span := dAgg lSpan
def dFrac : Dec Frac := (dAgg (.cons (dI .i64) (.last (dI .i64) 0))).iso (fun p => ⟨p.1, p.2⟩) (fun s => (s.num, s.den)) (fun _ => rfl)
def dRatio : Dec Frac := dFrac
def dSums : Dec Sums := (dAgg (.cons (dI .i64) (.last (dI .i64) 0))).iso (fun p => ⟨p.1, p.2⟩) (fun s => (s.ends, s.middle)) (fun _ => rfl)
def lKnot : DecL Knot := (DecL.cons (dI .i64) (.last (dI .i64) 0)).iso (fun p => ⟨p.1, p.2⟩) (fun s => (s.x, s.y)) (fun _ => rfl)
def dKnot : Dec Knot := dAgg lKnot
def lPiece : DecL Piece := (DecL.cons (dI .i64) (.cons (dI .i64) (.cons (dI .i64) (.last (dI .i64) 0)))).iso (fun p => ⟨⟨p.1, p.2.1⟩, ⟨p.2.2.1, p.2.2.2⟩⟩) (fun s => (s.p.x, s.p.y, s.q.x, s.q.y)) (fun _ => rfl)
def dPiece : Dec Piece := dAgg lPiece
def dRange : Dec Range := (dAgg (.cons (dI .i64) (.cons (dI .i64) (.cons (dI .i64) (.last (dI .i64) 0))))).iso (fun p => ⟨⟨p.1, p.2.1⟩, ⟨p.2.2.1, p.2.2.2⟩⟩) (fun s => (s.lo.num, s.lo.den, s.hi.num, s.hi.den)) (fun _ => rfl)
def lHydro : DecL Hydro := (DecL.cons (dI .i64) (.cons (dI .i64) (.last (dI .i64) 0))).iso (fun p => ⟨p.1, ⟨p.2.1, p.2.2⟩⟩) (fun s => (s.id, s.off.lo, s.off.hi)) (fun _ => rfl)
def dHydro : Dec Hydro := dAgg lHydro
def lHold : DecL Hold := (DecL.cons (dI .i64) (.cons (dI .i64) (.cons (dI .i64) (.last (dI .i64) 0)))).iso (fun p => ⟨p.1, p.2.1, p.2.2.1, p.2.2.2⟩) (fun s => (s.id, s.room, s.lever, s.height)) (fun _ => rfl)
def dHold : Dec Hold := dAgg lHold
def lGlass : DecL Glass := (DecL.cons (dI .i64) (.cons (dI .i64) (.cons (dI .i64) (.cons (dI .i64) (.last (dI .i64) 0))))).iso (fun p => ⟨p.1, p.2.1, p.2.2.1, ⟨p.2.2.2.1, p.2.2.2.2⟩⟩) (fun s => (s.id, s.hydro, s.dense, s.shown.lo, s.shown.hi)) (fun _ => rfl)
def dGlass : Dec Glass := dAgg lGlass
def lTold : DecL GlassE := (DecL.cons (dI .i64) (.cons (dI .i64) (.cons (dI .i64) (.cons (dI .i64) (.cons (dI .i64) (.cons (dI .i64) (.last (dI .i64) 0))))))).iso (fun p => ⟨⟨p.1, p.2.1, p.2.2.1, ⟨p.2.2.2.1, p.2.2.2.2.1⟩⟩, ⟨p.2.2.2.2.2.1, p.2.2.2.2.2.2⟩⟩) (fun s => (s.g.id, s.g.hydro, s.g.dense, s.g.shown.lo, s.g.shown.hi, s.errors.lo, s.errors.hi)) (fun _ => rfl)
def dTold : Dec GlassE := dAgg lTold
def xHydros : Dec XS := dX 3 [.int .i64, .int .i64, .int .i64]
def xGlasses : Dec XS := dX 5 [.int .i64, .int .i64, .int .i64, .int .i64, .int .i64]
def xKnots : Dec XS := dX 2 [.int .i64, .int .i64]
def xSurveys : Dec XS := dX 18 (List.replicate 18 (.int .i64))
def xHolds : Dec XS := dX 4 [.int .i64, .int .i64, .int .i64, .int .i64]
def lBulbs : DecL Bulbs := (DecL.cons xHydros (.last xGlasses 0)).iso (fun p => ⟨p.1, p.2⟩) (fun s => (s.hydros, s.glasses)) (fun _ => rfl)
def dBulbs : Dec Bulbs := dAgg lBulbs
def lCurve : DecL Curve := (DecL.cons xKnots (.last (dI .i64) 0)).iso (fun p => ⟨p.1, p.2⟩) (fun s => (s.knots, s.err)) (fun _ => rfl)
def dCurve : Dec Curve := dAgg lCurve
def lShip : DecL Ship := (DecL.cons (dI .i64) (.cons (dI .i64) (.cons (dI .i64) (.cons (dI .i64) (.cons xHolds (.cons xKnots (.cons (dI .i64) (.cons xKnots (.cons (dI .i64) (.cons (dI .i64) (.last (dI .i64) 0))))))))))).iso
  (fun p => ⟨p.1, p.2.1, p.2.2.1, p.2.2.2.1, p.2.2.2.2.1, ⟨p.2.2.2.2.2.1, p.2.2.2.2.2.2.1⟩, ⟨p.2.2.2.2.2.2.2.1, p.2.2.2.2.2.2.2.2.1⟩, p.2.2.2.2.2.2.2.2.2.1, p.2.2.2.2.2.2.2.2.2.2⟩)
  (fun s => (s.id, s.light, s.lever, s.height, s.holds, s.mean.knots, s.mean.err, s.mc.knots, s.mc.err, s.turn, s.least)) (fun _ => rfl)
def dShip : Dec Ship := dAgg lShip
def lSurvey : DecL Survey := (DecL.cons (dI .i64) (.cons (dI .i64) (.cons (dI .i64) (.cons (dI .i64) (.cons (dI .i64) (.cons (dI .i64) (.cons (dI .i64) (.cons (dI .i64) (.cons (dI .i64) (.cons (dI .i64) (.cons (dI .i64) (.cons (dI .i64) (.cons (dI .i64) (.cons (dI .i64) (.cons (dI .i64) (.cons (dI .i64) (.cons (dI .i64) (.last (dI .i64) 0)))))))))))))))))).iso
  (fun (a, b, c, d, e, f, g, h, i, j, k, l, m, n, o, p, q, r) => ⟨a, b, ⟨c, d⟩, ⟨e, f⟩, ⟨g, h⟩, ⟨i, j⟩, ⟨k, l⟩, ⟨m, n⟩, o, p, ⟨q, r⟩⟩)
  (fun s => (s.id, s.tick, s.m0.lo, s.m0.hi, s.m1.lo, s.m1.hi, s.m2.lo, s.m2.hi, s.m3.lo, s.m3.hi, s.m4.lo, s.m4.hi, s.m5.lo, s.m5.hi, s.sag, s.hydro, s.shown.lo, s.shown.hi)) (fun _ => rfl)
def dSurvey : Dec Survey := dAgg lSurvey
/-- What the functions that are ranged over hand out. -/
def eTold (g : GlassE) : List AV := [dTold.enc g]
def ePiece (p : Int × Piece) : List AV := [.int .i64 p.1, dPiece.enc p.2]
def V_gls : DecL (Bulbs × Int) := DecL.cons (dP 2 lBulbs 0) (.last (dP 1 (.last (dI .i64) 0) 0) 0)
def V_pcs : DecL Curve := DecL.last (dP 2 lCurve 0) 0
end Go.Proofs.Ytkajafmphemedaa
