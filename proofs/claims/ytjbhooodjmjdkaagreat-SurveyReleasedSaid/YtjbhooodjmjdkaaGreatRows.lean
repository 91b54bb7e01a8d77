/-
  No cell of these rows narrows 'for every input' (looked for: loops, veiled, ifaces, maps, wideKeys, modest, calm, conditions, laid).
  DERIVED. THE GIVEN ROWS OF THIS SEAT. 5 by the template 'for every input the law returns true; each argument reads behind the call as it read before'; 0 by the template 'total and deterministic' (their statements: YtjbhooodjmjdkaaGreatTotals.lean).
  GIVEN WITH THE SEED: the statements are not yours to turn. If you find one false, say at which input.
  Laid BY PROGRAM, IN A SANDBOX (cutbox-rows.mjs): the forced cells as the released guide's own fill.sh prints them over the translation f9fa06bd597340f5… (all of the seat's roots in one cut). By AI agents, Wed Nov 11 2026. No macro, syntax, notation, axiom, sorry.
-/
import Derived.Test.YtjbhooodjmjdkaaGreatChecked
import GoSem.Claim
import GoSem.ClaimJoined
import GoSem.ClaimMapViews
import Derived.JoinedTies
import Derived.KernelRfl
namespace Go.Proofs.YtjbhooodjmjdkaaGreat
/- THE CELL 'sum', in the pinned program and in every row, IS THE sha256 OF THE DUMP (.gsa) THAT YtjbhooodjmjdkaaGreatProg.lean LOADS. Nothing in Lean hashes anything: it is a label: what it is worth is what the hold of that sum in a sandbox is worth. -/
noncomputable def Tryz.pinned : Pinned := { name := "ytjbhooodjmjdkaagreat", sum := "f9fa06bd597340f5103acc461b6ca4fdbebdb07d514b9d37b200f42029013fc6", checked := Tryz.checked }
namespace Rows
def none {H : Type} : Left H := { results := [], args := [] }

/-- 'kentledgelaw04.SurveyLoads': WHATEVER THE INPUT: true; the input reads as it did. -/
def surveyLoadsSpec : ChangeSpec := { name := "surveyLoads", fn := fun _ => fun
  | [d1, d2, d3, d4, d5] => { results := [.lit (.bool true)], args := [d1, d2, d3, d4, d5] }
  | _ => none }
def surveyLoadsRow : OpenClaim := { program := "ytjbhooodjmjdkaagreat", sum := "f9fa06bd597340f5103acc461b6ca4fdbebdb07d514b9d37b200f42029013fc6", func := "kentledge/kentledgelaw04.SurveyLoads", spec := "surveyLoads", unfollowed := true, recurses := true, apart := false }
def SurveyLoadsSaid : Prop := surveyLoadsRow.holds Tryz.pinned (OpenSpec.ofChange surveyLoadsSpec)

/-- ITS FALSE NEIGHBOUR: 'it returns false'. Refute it at one input. -/
def surveyLoadsWrong : ChangeSpec := { name := "surveyLoads", fn := fun _ => fun
  | [d1, d2, d3, d4, d5] => { results := [.lit (.bool false)], args := [d1, d2, d3, d4, d5] }
  | _ => none }
def SurveyLoadsWrongFalsely : Prop := surveyLoadsRow.holds Tryz.pinned (OpenSpec.ofChange surveyLoadsWrong)

/-- 'kentledgelaw04.SurveyCores': WHATEVER THE INPUT: true; the input reads as it did. -/
def surveyCoresSpec : ChangeSpec := { name := "surveyCores", fn := fun _ => fun
  | [d1, d2, d3] => { results := [.lit (.bool true)], args := [d1, d2, d3] }
  | _ => none }
def surveyCoresRow : OpenClaim := { program := "ytjbhooodjmjdkaagreat", sum := "f9fa06bd597340f5103acc461b6ca4fdbebdb07d514b9d37b200f42029013fc6", func := "kentledge/kentledgelaw04.SurveyCores", spec := "surveyCores", unfollowed := true, recurses := true, apart := false }
def SurveyCoresSaid : Prop := surveyCoresRow.holds Tryz.pinned (OpenSpec.ofChange surveyCoresSpec)

/-- ITS FALSE NEIGHBOUR: 'it returns false'. Refute it at one input. -/
def surveyCoresWrong : ChangeSpec := { name := "surveyCores", fn := fun _ => fun
  | [d1, d2, d3] => { results := [.lit (.bool false)], args := [d1, d2, d3] }
  | _ => none }
def SurveyCoresWrongFalsely : Prop := surveyCoresRow.holds Tryz.pinned (OpenSpec.ofChange surveyCoresWrong)

/-- 'kentledgelaw04.SurveyReleased': WHATEVER THE INPUT: true; the input reads as it did. -/
def surveyReleasedSpec : ChangeSpec := { name := "surveyReleased", fn := fun _ => fun
  | [d1, d2, d3, d4, d5, d6] => { results := [.lit (.bool true)], args := [d1, d2, d3, d4, d5, d6] }
  | _ => none }
def surveyReleasedRow : OpenClaim := { program := "ytjbhooodjmjdkaagreat", sum := "f9fa06bd597340f5103acc461b6ca4fdbebdb07d514b9d37b200f42029013fc6", func := "kentledge/kentledgelaw04.SurveyReleased", spec := "surveyReleased", unfollowed := true, recurses := true, apart := false }
def SurveyReleasedSaid : Prop := surveyReleasedRow.holds Tryz.pinned (OpenSpec.ofChange surveyReleasedSpec)

/-- ITS FALSE NEIGHBOUR: 'it returns false'. Refute it at one input. -/
def surveyReleasedWrong : ChangeSpec := { name := "surveyReleased", fn := fun _ => fun
  | [d1, d2, d3, d4, d5, d6] => { results := [.lit (.bool false)], args := [d1, d2, d3, d4, d5, d6] }
  | _ => none }
def SurveyReleasedWrongFalsely : Prop := surveyReleasedRow.holds Tryz.pinned (OpenSpec.ofChange surveyReleasedWrong)

/-- 'kentledgelaw04.SurveyBulbs': WHATEVER THE INPUT: true; the input reads as it did. -/
def surveyBulbsSpec : ChangeSpec := { name := "surveyBulbs", fn := fun _ => fun
  | [d1, d2] => { results := [.lit (.bool true)], args := [d1, d2] }
  | _ => none }
def surveyBulbsRow : OpenClaim := { program := "ytjbhooodjmjdkaagreat", sum := "f9fa06bd597340f5103acc461b6ca4fdbebdb07d514b9d37b200f42029013fc6", func := "kentledge/kentledgelaw04.SurveyBulbs", spec := "surveyBulbs", unfollowed := true, recurses := true, apart := false }
def SurveyBulbsSaid : Prop := surveyBulbsRow.holds Tryz.pinned (OpenSpec.ofChange surveyBulbsSpec)

/-- ITS FALSE NEIGHBOUR: 'it returns false'. Refute it at one input. -/
def surveyBulbsWrong : ChangeSpec := { name := "surveyBulbs", fn := fun _ => fun
  | [d1, d2] => { results := [.lit (.bool false)], args := [d1, d2] }
  | _ => none }
def SurveyBulbsWrongFalsely : Prop := surveyBulbsRow.holds Tryz.pinned (OpenSpec.ofChange surveyBulbsWrong)

/-- 'kentledgelaw04.SurveyHydros': WHATEVER THE INPUT: true; the input reads as it did. -/
def surveyHydrosSpec : ChangeSpec := { name := "surveyHydros", fn := fun _ => fun
  | [d1, d2, d3] => { results := [.lit (.bool true)], args := [d1, d2, d3] }
  | _ => none }
def surveyHydrosRow : OpenClaim := { program := "ytjbhooodjmjdkaagreat", sum := "f9fa06bd597340f5103acc461b6ca4fdbebdb07d514b9d37b200f42029013fc6", func := "kentledge/kentledgelaw04.SurveyHydros", spec := "surveyHydros", unfollowed := true, recurses := true, apart := false }
def SurveyHydrosSaid : Prop := surveyHydrosRow.holds Tryz.pinned (OpenSpec.ofChange surveyHydrosSpec)

/-- ITS FALSE NEIGHBOUR: 'it returns false'. Refute it at one input. -/
def surveyHydrosWrong : ChangeSpec := { name := "surveyHydros", fn := fun _ => fun
  | [d1, d2, d3] => { results := [.lit (.bool false)], args := [d1, d2, d3] }
  | _ => none }
def SurveyHydrosWrongFalsely : Prop := surveyHydrosRow.holds Tryz.pinned (OpenSpec.ofChange surveyHydrosWrong)

/- THE SECOND FORM. 'bulk': how many values and letters a reading holds, each counted each time it is reached (what is shared counts as often as it is met; a slice's spare places count too). A statement '..UptoSaid' is the law's where the arguments, and the package variables that the reading takes, are together of bulk at most 1048576: NARROWER than '..Said'. Prove '..Said' where nothing that the law and all that it calls make is longer than what came in: it says more and counts as full. Else prove '..UptoSaid'. A law counts once. -/
mutual
def uptoBulk {H : Type} : DataW H → Nat
  | .lit (.string bytes) => bytes.length + 1
  | .lit _ => 1
  | .nil => 1
  | .ptr d => uptoBulk d + 1
  | .slice elems spare => uptoBulkAll elems + uptoBulkAll spare + 1
  | .agg parts => uptoBulkAll parts + 1
  | .iface _ d => uptoBulk d + 1
  | .map entries => uptoBulkEntries entries + 1
  | .held _ => 1
def uptoBulkAll {H : Type} : List (DataW H) → Nat
  | [] => 0
  | d :: r => uptoBulk d + uptoBulkAll r
def uptoBulkEntries {H : Type} : List (Lit × DataW H) → Nat
  | [] => 0
  | x :: r => uptoBulkEntry x + uptoBulkEntries r
def uptoBulkEntry {H : Type} : Lit × DataW H → Nat
  | (.string bytes, d) => bytes.length + uptoBulk d + 1
  | (_, d) => uptoBulk d + 1
 end
def uptoSmall : (H : Type) → List (DataW H) → Bool := fun _ ds => decide (uptoBulkAll ds ≤ 1048576)
def OpenSpec.upto (s : _root_.Go.ChangeSpec) : _root_.Go.OpenSpec := { _root_.Go.OpenSpec.ofChange s with cond := some uptoSmall }

/-- 'kentledgelaw04.SurveyLoads', WHERE WHAT IT READS IS OF BULK AT MOST 1048576: true; the input reads as it did. -/
def surveyLoadsUptoRow : OpenClaim := { program := "ytjbhooodjmjdkaagreat", sum := "f9fa06bd597340f5103acc461b6ca4fdbebdb07d514b9d37b200f42029013fc6", func := "kentledge/kentledgelaw04.SurveyLoads", spec := "surveyLoads", unfollowed := true, recurses := true, apart := false, narrowed := true }
def SurveyLoadsUptoSaid : Prop := surveyLoadsUptoRow.holds Tryz.pinned (OpenSpec.upto surveyLoadsSpec)

/-- 'kentledgelaw04.SurveyCores', WHERE WHAT IT READS IS OF BULK AT MOST 1048576: true; the input reads as it did. -/
def surveyCoresUptoRow : OpenClaim := { program := "ytjbhooodjmjdkaagreat", sum := "f9fa06bd597340f5103acc461b6ca4fdbebdb07d514b9d37b200f42029013fc6", func := "kentledge/kentledgelaw04.SurveyCores", spec := "surveyCores", unfollowed := true, recurses := true, apart := false, narrowed := true }
def SurveyCoresUptoSaid : Prop := surveyCoresUptoRow.holds Tryz.pinned (OpenSpec.upto surveyCoresSpec)

/-- 'kentledgelaw04.SurveyReleased', WHERE WHAT IT READS IS OF BULK AT MOST 1048576: true; the input reads as it did. -/
def surveyReleasedUptoRow : OpenClaim := { program := "ytjbhooodjmjdkaagreat", sum := "f9fa06bd597340f5103acc461b6ca4fdbebdb07d514b9d37b200f42029013fc6", func := "kentledge/kentledgelaw04.SurveyReleased", spec := "surveyReleased", unfollowed := true, recurses := true, apart := false, narrowed := true }
def SurveyReleasedUptoSaid : Prop := surveyReleasedUptoRow.holds Tryz.pinned (OpenSpec.upto surveyReleasedSpec)

/-- 'kentledgelaw04.SurveyBulbs', WHERE WHAT IT READS IS OF BULK AT MOST 1048576: true; the input reads as it did. -/
def surveyBulbsUptoRow : OpenClaim := { program := "ytjbhooodjmjdkaagreat", sum := "f9fa06bd597340f5103acc461b6ca4fdbebdb07d514b9d37b200f42029013fc6", func := "kentledge/kentledgelaw04.SurveyBulbs", spec := "surveyBulbs", unfollowed := true, recurses := true, apart := false, narrowed := true }
def SurveyBulbsUptoSaid : Prop := surveyBulbsUptoRow.holds Tryz.pinned (OpenSpec.upto surveyBulbsSpec)

/-- 'kentledgelaw04.SurveyHydros', WHERE WHAT IT READS IS OF BULK AT MOST 1048576: true; the input reads as it did. -/
def surveyHydrosUptoRow : OpenClaim := { program := "ytjbhooodjmjdkaagreat", sum := "f9fa06bd597340f5103acc461b6ca4fdbebdb07d514b9d37b200f42029013fc6", func := "kentledge/kentledgelaw04.SurveyHydros", spec := "surveyHydros", unfollowed := true, recurses := true, apart := false, narrowed := true }
def SurveyHydrosUptoSaid : Prop := surveyHydrosUptoRow.holds Tryz.pinned (OpenSpec.upto surveyHydrosSpec)

end Rows
end Go.Proofs.YtjbhooodjmjdkaaGreat
