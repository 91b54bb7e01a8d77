/-
  No cell of these rows narrows 'for every input' (looked for: loops, veiled, ifaces, maps, wideKeys, modest, calm, conditions, laid).
  DERIVED. THE GIVEN ROWS OF THIS SEAT. 13 by the template 'for every input the law returns true; each argument reads behind the call as it read before'; 0 by the template 'total and deterministic' (their statements: YtelpdkojdfnmiaaGreatTotals.lean).
  GIVEN WITH THE SEED: the statements are not yours to turn. If you find one false, say at which input.
  Laid BY PROGRAM, IN A SANDBOX (cutbox-rows.mjs): the forced cells as the released guide's own fill.sh prints them over the translation 6f8daf6417060251… (all of the seat's roots in one cut). By AI agents, Wed Nov 11 2026. No macro, syntax, notation, axiom, sorry.
-/
import Derived.Test.YtelpdkojdfnmiaaGreatChecked
import GoSem.Claim
import GoSem.ClaimJoined
import GoSem.ClaimMapViews
import Derived.JoinedTies
import Derived.KernelRfl
namespace Go.Proofs.YtelpdkojdfnmiaaGreat
/- THE CELL 'sum', in the pinned program and in every row, IS THE sha256 OF THE DUMP (.gsa) THAT YtelpdkojdfnmiaaGreatProg.lean LOADS. Nothing in Lean hashes anything: it is a label: what it is worth is what the hold of that sum in a sandbox is worth. -/
noncomputable def Tryz.pinned : Pinned := { name := "ytelpdkojdfnmiaagreat", sum := "6f8daf64170602511a2508607616cea6c08262d49d650172f0e333f8dd05eda6", checked := Tryz.checked }
namespace Rows
def none {H : Type} : Left H := { results := [], args := [] }

/-- 'kentledgelaw08.LedgerChains': WHATEVER THE INPUT: true; the input reads as it did. -/
def ledgerChainsSpec : ChangeSpec := { name := "ledgerChains", fn := fun _ => fun
  | [d1, d2] => { results := [.lit (.bool true)], args := [d1, d2] }
  | _ => none }
def ledgerChainsRow : OpenClaim := { program := "ytelpdkojdfnmiaagreat", sum := "6f8daf64170602511a2508607616cea6c08262d49d650172f0e333f8dd05eda6", func := "kentledge/kentledgelaw08.LedgerChains", spec := "ledgerChains", unfollowed := true, recurses := true, apart := false }
def LedgerChainsSaid : Prop := ledgerChainsRow.holds Tryz.pinned (OpenSpec.ofChange ledgerChainsSpec)

/-- ITS FALSE NEIGHBOUR: 'it returns false'. Refute it at one input. -/
def ledgerChainsWrong : ChangeSpec := { name := "ledgerChains", fn := fun _ => fun
  | [d1, d2] => { results := [.lit (.bool false)], args := [d1, d2] }
  | _ => none }
def LedgerChainsWrongFalsely : Prop := ledgerChainsRow.holds Tryz.pinned (OpenSpec.ofChange ledgerChainsWrong)

/-- 'kentledgelaw08.LedgerBalanced': WHATEVER THE INPUT: true; the input reads as it did. -/
def ledgerBalancedSpec : ChangeSpec := { name := "ledgerBalanced", fn := fun _ => fun
  | [d1, d2, d3] => { results := [.lit (.bool true)], args := [d1, d2, d3] }
  | _ => none }
def ledgerBalancedRow : OpenClaim := { program := "ytelpdkojdfnmiaagreat", sum := "6f8daf64170602511a2508607616cea6c08262d49d650172f0e333f8dd05eda6", func := "kentledge/kentledgelaw08.LedgerBalanced", spec := "ledgerBalanced", unfollowed := true, recurses := true, apart := false }
def LedgerBalancedSaid : Prop := ledgerBalancedRow.holds Tryz.pinned (OpenSpec.ofChange ledgerBalancedSpec)

/-- ITS FALSE NEIGHBOUR: 'it returns false'. Refute it at one input. -/
def ledgerBalancedWrong : ChangeSpec := { name := "ledgerBalanced", fn := fun _ => fun
  | [d1, d2, d3] => { results := [.lit (.bool false)], args := [d1, d2, d3] }
  | _ => none }
def LedgerBalancedWrongFalsely : Prop := ledgerBalancedRow.holds Tryz.pinned (OpenSpec.ofChange ledgerBalancedWrong)

/-- 'kentledgelaw08.LedgerStatements': WHATEVER THE INPUT: true; the input reads as it did. -/
def ledgerStatementsSpec : ChangeSpec := { name := "ledgerStatements", fn := fun _ => fun
  | [d1, d2, d3, d4, d5, d6] => { results := [.lit (.bool true)], args := [d1, d2, d3, d4, d5, d6] }
  | _ => none }
def ledgerStatementsRow : OpenClaim := { program := "ytelpdkojdfnmiaagreat", sum := "6f8daf64170602511a2508607616cea6c08262d49d650172f0e333f8dd05eda6", func := "kentledge/kentledgelaw08.LedgerStatements", spec := "ledgerStatements", unfollowed := true, recurses := true, apart := false }
def LedgerStatementsSaid : Prop := ledgerStatementsRow.holds Tryz.pinned (OpenSpec.ofChange ledgerStatementsSpec)

/-- ITS FALSE NEIGHBOUR: 'it returns false'. Refute it at one input. -/
def ledgerStatementsWrong : ChangeSpec := { name := "ledgerStatements", fn := fun _ => fun
  | [d1, d2, d3, d4, d5, d6] => { results := [.lit (.bool false)], args := [d1, d2, d3, d4, d5, d6] }
  | _ => none }
def LedgerStatementsWrongFalsely : Prop := ledgerStatementsRow.holds Tryz.pinned (OpenSpec.ofChange ledgerStatementsWrong)

/-- 'kentledgelaw08.LedgerPosts': WHATEVER THE INPUT: true; the input reads as it did. -/
def ledgerPostsSpec : ChangeSpec := { name := "ledgerPosts", fn := fun _ => fun
  | [d1, d2] => { results := [.lit (.bool true)], args := [d1, d2] }
  | _ => none }
def ledgerPostsRow : OpenClaim := { program := "ytelpdkojdfnmiaagreat", sum := "6f8daf64170602511a2508607616cea6c08262d49d650172f0e333f8dd05eda6", func := "kentledge/kentledgelaw08.LedgerPosts", spec := "ledgerPosts", unfollowed := true, recurses := true, apart := false }
def LedgerPostsSaid : Prop := ledgerPostsRow.holds Tryz.pinned (OpenSpec.ofChange ledgerPostsSpec)

/-- ITS FALSE NEIGHBOUR: 'it returns false'. Refute it at one input. -/
def ledgerPostsWrong : ChangeSpec := { name := "ledgerPosts", fn := fun _ => fun
  | [d1, d2] => { results := [.lit (.bool false)], args := [d1, d2] }
  | _ => none }
def LedgerPostsWrongFalsely : Prop := ledgerPostsRow.holds Tryz.pinned (OpenSpec.ofChange ledgerPostsWrong)

/-- 'kentledgelaw08.LedgerFinals': WHATEVER THE INPUT: true; the input reads as it did. -/
def ledgerFinalsSpec : ChangeSpec := { name := "ledgerFinals", fn := fun _ => fun
  | [d1, d2] => { results := [.lit (.bool true)], args := [d1, d2] }
  | _ => none }
def ledgerFinalsRow : OpenClaim := { program := "ytelpdkojdfnmiaagreat", sum := "6f8daf64170602511a2508607616cea6c08262d49d650172f0e333f8dd05eda6", func := "kentledge/kentledgelaw08.LedgerFinals", spec := "ledgerFinals", unfollowed := true, recurses := true, apart := false }
def LedgerFinalsSaid : Prop := ledgerFinalsRow.holds Tryz.pinned (OpenSpec.ofChange ledgerFinalsSpec)

/-- ITS FALSE NEIGHBOUR: 'it returns false'. Refute it at one input. -/
def ledgerFinalsWrong : ChangeSpec := { name := "ledgerFinals", fn := fun _ => fun
  | [d1, d2] => { results := [.lit (.bool false)], args := [d1, d2] }
  | _ => none }
def LedgerFinalsWrongFalsely : Prop := ledgerFinalsRow.holds Tryz.pinned (OpenSpec.ofChange ledgerFinalsWrong)

/-- 'kentledgelaw08.LedgerAsKnown': WHATEVER THE INPUT: true; the input reads as it did. -/
def ledgerAsKnownSpec : ChangeSpec := { name := "ledgerAsKnown", fn := fun _ => fun
  | [d1, d2, d3, d4] => { results := [.lit (.bool true)], args := [d1, d2, d3, d4] }
  | _ => none }
def ledgerAsKnownRow : OpenClaim := { program := "ytelpdkojdfnmiaagreat", sum := "6f8daf64170602511a2508607616cea6c08262d49d650172f0e333f8dd05eda6", func := "kentledge/kentledgelaw08.LedgerAsKnown", spec := "ledgerAsKnown", unfollowed := true, recurses := true, apart := false }
def LedgerAsKnownSaid : Prop := ledgerAsKnownRow.holds Tryz.pinned (OpenSpec.ofChange ledgerAsKnownSpec)

/-- ITS FALSE NEIGHBOUR: 'it returns false'. Refute it at one input. -/
def ledgerAsKnownWrong : ChangeSpec := { name := "ledgerAsKnown", fn := fun _ => fun
  | [d1, d2, d3, d4] => { results := [.lit (.bool false)], args := [d1, d2, d3, d4] }
  | _ => none }
def LedgerAsKnownWrongFalsely : Prop := ledgerAsKnownRow.holds Tryz.pinned (OpenSpec.ofChange ledgerAsKnownWrong)

/-- 'kentledgelaw08.LedgerNeverTooMuch': WHATEVER THE INPUT: true; the input reads as it did. -/
def ledgerNeverTooMuchSpec : ChangeSpec := { name := "ledgerNeverTooMuch", fn := fun _ => fun
  | [d1, d2] => { results := [.lit (.bool true)], args := [d1, d2] }
  | _ => none }
def ledgerNeverTooMuchRow : OpenClaim := { program := "ytelpdkojdfnmiaagreat", sum := "6f8daf64170602511a2508607616cea6c08262d49d650172f0e333f8dd05eda6", func := "kentledge/kentledgelaw08.LedgerNeverTooMuch", spec := "ledgerNeverTooMuch", unfollowed := true, recurses := true, apart := false }
def LedgerNeverTooMuchSaid : Prop := ledgerNeverTooMuchRow.holds Tryz.pinned (OpenSpec.ofChange ledgerNeverTooMuchSpec)

/-- ITS FALSE NEIGHBOUR: 'it returns false'. Refute it at one input. -/
def ledgerNeverTooMuchWrong : ChangeSpec := { name := "ledgerNeverTooMuch", fn := fun _ => fun
  | [d1, d2] => { results := [.lit (.bool false)], args := [d1, d2] }
  | _ => none }
def LedgerNeverTooMuchWrongFalsely : Prop := ledgerNeverTooMuchRow.holds Tryz.pinned (OpenSpec.ofChange ledgerNeverTooMuchWrong)

/-- 'kentledgelaw08.LedgerFinal': WHATEVER THE INPUT: true; the input reads as it did. -/
def ledgerFinalSpec : ChangeSpec := { name := "ledgerFinal", fn := fun _ => fun
  | [d1, d2, d3] => { results := [.lit (.bool true)], args := [d1, d2, d3] }
  | _ => none }
def ledgerFinalRow : OpenClaim := { program := "ytelpdkojdfnmiaagreat", sum := "6f8daf64170602511a2508607616cea6c08262d49d650172f0e333f8dd05eda6", func := "kentledge/kentledgelaw08.LedgerFinal", spec := "ledgerFinal", unfollowed := true, recurses := true, apart := false }
def LedgerFinalSaid : Prop := ledgerFinalRow.holds Tryz.pinned (OpenSpec.ofChange ledgerFinalSpec)

/-- ITS FALSE NEIGHBOUR: 'it returns false'. Refute it at one input. -/
def ledgerFinalWrong : ChangeSpec := { name := "ledgerFinal", fn := fun _ => fun
  | [d1, d2, d3] => { results := [.lit (.bool false)], args := [d1, d2, d3] }
  | _ => none }
def LedgerFinalWrongFalsely : Prop := ledgerFinalRow.holds Tryz.pinned (OpenSpec.ofChange ledgerFinalWrong)

/-- 'kentledgelaw08.LedgerHolds': WHATEVER THE INPUT: true; the input reads as it did. -/
def ledgerHoldsSpec : ChangeSpec := { name := "ledgerHolds", fn := fun _ => fun
  | [d1, d2, d3, d4] => { results := [.lit (.bool true)], args := [d1, d2, d3, d4] }
  | _ => none }
def ledgerHoldsRow : OpenClaim := { program := "ytelpdkojdfnmiaagreat", sum := "6f8daf64170602511a2508607616cea6c08262d49d650172f0e333f8dd05eda6", func := "kentledge/kentledgelaw08.LedgerHolds", spec := "ledgerHolds", unfollowed := true, recurses := true, apart := false }
def LedgerHoldsSaid : Prop := ledgerHoldsRow.holds Tryz.pinned (OpenSpec.ofChange ledgerHoldsSpec)

/-- ITS FALSE NEIGHBOUR: 'it returns false'. Refute it at one input. -/
def ledgerHoldsWrong : ChangeSpec := { name := "ledgerHolds", fn := fun _ => fun
  | [d1, d2, d3, d4] => { results := [.lit (.bool false)], args := [d1, d2, d3, d4] }
  | _ => none }
def LedgerHoldsWrongFalsely : Prop := ledgerHoldsRow.holds Tryz.pinned (OpenSpec.ofChange ledgerHoldsWrong)

/-- 'kentledgelaw08.LedgerStates': WHATEVER THE INPUT: true; the input reads as it did. -/
def ledgerStatesSpec : ChangeSpec := { name := "ledgerStates", fn := fun _ => fun
  | [d1, d2, d3, d4, d5, d6] => { results := [.lit (.bool true)], args := [d1, d2, d3, d4, d5, d6] }
  | _ => none }
def ledgerStatesRow : OpenClaim := { program := "ytelpdkojdfnmiaagreat", sum := "6f8daf64170602511a2508607616cea6c08262d49d650172f0e333f8dd05eda6", func := "kentledge/kentledgelaw08.LedgerStates", spec := "ledgerStates", unfollowed := true, recurses := true, apart := false }
def LedgerStatesSaid : Prop := ledgerStatesRow.holds Tryz.pinned (OpenSpec.ofChange ledgerStatesSpec)

/-- ITS FALSE NEIGHBOUR: 'it returns false'. Refute it at one input. -/
def ledgerStatesWrong : ChangeSpec := { name := "ledgerStates", fn := fun _ => fun
  | [d1, d2, d3, d4, d5, d6] => { results := [.lit (.bool false)], args := [d1, d2, d3, d4, d5, d6] }
  | _ => none }
def LedgerStatesWrongFalsely : Prop := ledgerStatesRow.holds Tryz.pinned (OpenSpec.ofChange ledgerStatesWrong)

/-- 'kentledgelaw08.LedgerBills': WHATEVER THE INPUT: true; the input reads as it did. -/
def ledgerBillsSpec : ChangeSpec := { name := "ledgerBills", fn := fun _ => fun
  | [d1, d2, d3, d4] => { results := [.lit (.bool true)], args := [d1, d2, d3, d4] }
  | _ => none }
def ledgerBillsRow : OpenClaim := { program := "ytelpdkojdfnmiaagreat", sum := "6f8daf64170602511a2508607616cea6c08262d49d650172f0e333f8dd05eda6", func := "kentledge/kentledgelaw08.LedgerBills", spec := "ledgerBills", unfollowed := true, recurses := true, apart := false }
def LedgerBillsSaid : Prop := ledgerBillsRow.holds Tryz.pinned (OpenSpec.ofChange ledgerBillsSpec)

/-- ITS FALSE NEIGHBOUR: 'it returns false'. Refute it at one input. -/
def ledgerBillsWrong : ChangeSpec := { name := "ledgerBills", fn := fun _ => fun
  | [d1, d2, d3, d4] => { results := [.lit (.bool false)], args := [d1, d2, d3, d4] }
  | _ => none }
def LedgerBillsWrongFalsely : Prop := ledgerBillsRow.holds Tryz.pinned (OpenSpec.ofChange ledgerBillsWrong)

/-- 'kentledgelaw08.LedgerItems': WHATEVER THE INPUT: true; the input reads as it did. -/
def ledgerItemsSpec : ChangeSpec := { name := "ledgerItems", fn := fun _ => fun
  | [d1, d2] => { results := [.lit (.bool true)], args := [d1, d2] }
  | _ => none }
def ledgerItemsRow : OpenClaim := { program := "ytelpdkojdfnmiaagreat", sum := "6f8daf64170602511a2508607616cea6c08262d49d650172f0e333f8dd05eda6", func := "kentledge/kentledgelaw08.LedgerItems", spec := "ledgerItems", unfollowed := true, recurses := true, apart := false }
def LedgerItemsSaid : Prop := ledgerItemsRow.holds Tryz.pinned (OpenSpec.ofChange ledgerItemsSpec)

/-- ITS FALSE NEIGHBOUR: 'it returns false'. Refute it at one input. -/
def ledgerItemsWrong : ChangeSpec := { name := "ledgerItems", fn := fun _ => fun
  | [d1, d2] => { results := [.lit (.bool false)], args := [d1, d2] }
  | _ => none }
def LedgerItemsWrongFalsely : Prop := ledgerItemsRow.holds Tryz.pinned (OpenSpec.ofChange ledgerItemsWrong)

/-- 'kentledgelaw08.LedgerAnyOrder': WHATEVER THE INPUT: true; the input reads as it did. -/
def ledgerAnyOrderSpec : ChangeSpec := { name := "ledgerAnyOrder", fn := fun _ => fun
  | [d1, d2, d3, d4, d5] => { results := [.lit (.bool true)], args := [d1, d2, d3, d4, d5] }
  | _ => none }
def ledgerAnyOrderRow : OpenClaim := { program := "ytelpdkojdfnmiaagreat", sum := "6f8daf64170602511a2508607616cea6c08262d49d650172f0e333f8dd05eda6", func := "kentledge/kentledgelaw08.LedgerAnyOrder", spec := "ledgerAnyOrder", unfollowed := true, recurses := true, apart := false }
def LedgerAnyOrderSaid : Prop := ledgerAnyOrderRow.holds Tryz.pinned (OpenSpec.ofChange ledgerAnyOrderSpec)

/-- ITS FALSE NEIGHBOUR: 'it returns false'. Refute it at one input. -/
def ledgerAnyOrderWrong : ChangeSpec := { name := "ledgerAnyOrder", fn := fun _ => fun
  | [d1, d2, d3, d4, d5] => { results := [.lit (.bool false)], args := [d1, d2, d3, d4, d5] }
  | _ => none }
def LedgerAnyOrderWrongFalsely : Prop := ledgerAnyOrderRow.holds Tryz.pinned (OpenSpec.ofChange ledgerAnyOrderWrong)

/- THE SECOND FORM. 'bulk': how many values and letters a reading holds, each counted each time it is reached (what is shared counts as often as it is met; a slice's spare places count too). A statement '..UptoSaid' is the law's where the arguments, and the package variables that the reading takes, are together of bulk at most 1048576: NARROWER than '..Said'. Prove '..Said' where nothing that the law and all that it calls make is longer than what came in: it says more and counts as full. Else prove '..UptoSaid'. A law counts once. -/
mutual
def uptoBulk {H : Type} : DataW H → Nat
  | .lit (.string bytes) => bytes.length + 1
  | .lit _ => 1
  | .nil => 1
  | .ptr d => uptoBulk d + 1
  | .slice elems spare => uptoBulkAll elems + uptoBulkAll spare + 1
  | .agg parts => uptoBulkAll parts + 1
  | .iface _ d => uptoBulk d + 1
  | .map entries => uptoBulkEntries entries + 1
  | .held _ => 1
def uptoBulkAll {H : Type} : List (DataW H) → Nat
  | [] => 0
  | d :: r => uptoBulk d + uptoBulkAll r
def uptoBulkEntries {H : Type} : List (Lit × DataW H) → Nat
  | [] => 0
  | x :: r => uptoBulkEntry x + uptoBulkEntries r
def uptoBulkEntry {H : Type} : Lit × DataW H → Nat
  | (.string bytes, d) => bytes.length + uptoBulk d + 1
  | (_, d) => uptoBulk d + 1
 end
def uptoSmall : (H : Type) → List (DataW H) → Bool := fun _ ds => decide (uptoBulkAll ds ≤ 1048576)
def OpenSpec.upto (s : _root_.Go.ChangeSpec) : _root_.Go.OpenSpec := { _root_.Go.OpenSpec.ofChange s with cond := some uptoSmall }

/-- 'kentledgelaw08.LedgerChains', WHERE WHAT IT READS IS OF BULK AT MOST 1048576: true; the input reads as it did. -/
def ledgerChainsUptoRow : OpenClaim := { program := "ytelpdkojdfnmiaagreat", sum := "6f8daf64170602511a2508607616cea6c08262d49d650172f0e333f8dd05eda6", func := "kentledge/kentledgelaw08.LedgerChains", spec := "ledgerChains", unfollowed := true, recurses := true, apart := false, narrowed := true }
def LedgerChainsUptoSaid : Prop := ledgerChainsUptoRow.holds Tryz.pinned (OpenSpec.upto ledgerChainsSpec)

/-- 'kentledgelaw08.LedgerBalanced', WHERE WHAT IT READS IS OF BULK AT MOST 1048576: true; the input reads as it did. -/
def ledgerBalancedUptoRow : OpenClaim := { program := "ytelpdkojdfnmiaagreat", sum := "6f8daf64170602511a2508607616cea6c08262d49d650172f0e333f8dd05eda6", func := "kentledge/kentledgelaw08.LedgerBalanced", spec := "ledgerBalanced", unfollowed := true, recurses := true, apart := false, narrowed := true }
def LedgerBalancedUptoSaid : Prop := ledgerBalancedUptoRow.holds Tryz.pinned (OpenSpec.upto ledgerBalancedSpec)

/-- 'kentledgelaw08.LedgerStatements', WHERE WHAT IT READS IS OF BULK AT MOST 1048576: true; the input reads as it did. -/
def ledgerStatementsUptoRow : OpenClaim := { program := "ytelpdkojdfnmiaagreat", sum := "6f8daf64170602511a2508607616cea6c08262d49d650172f0e333f8dd05eda6", func := "kentledge/kentledgelaw08.LedgerStatements", spec := "ledgerStatements", unfollowed := true, recurses := true, apart := false, narrowed := true }
def LedgerStatementsUptoSaid : Prop := ledgerStatementsUptoRow.holds Tryz.pinned (OpenSpec.upto ledgerStatementsSpec)

/-- 'kentledgelaw08.LedgerPosts', WHERE WHAT IT READS IS OF BULK AT MOST 1048576: true; the input reads as it did. -/
def ledgerPostsUptoRow : OpenClaim := { program := "ytelpdkojdfnmiaagreat", sum := "6f8daf64170602511a2508607616cea6c08262d49d650172f0e333f8dd05eda6", func := "kentledge/kentledgelaw08.LedgerPosts", spec := "ledgerPosts", unfollowed := true, recurses := true, apart := false, narrowed := true }
def LedgerPostsUptoSaid : Prop := ledgerPostsUptoRow.holds Tryz.pinned (OpenSpec.upto ledgerPostsSpec)

/-- 'kentledgelaw08.LedgerFinals', WHERE WHAT IT READS IS OF BULK AT MOST 1048576: true; the input reads as it did. -/
def ledgerFinalsUptoRow : OpenClaim := { program := "ytelpdkojdfnmiaagreat", sum := "6f8daf64170602511a2508607616cea6c08262d49d650172f0e333f8dd05eda6", func := "kentledge/kentledgelaw08.LedgerFinals", spec := "ledgerFinals", unfollowed := true, recurses := true, apart := false, narrowed := true }
def LedgerFinalsUptoSaid : Prop := ledgerFinalsUptoRow.holds Tryz.pinned (OpenSpec.upto ledgerFinalsSpec)

/-- 'kentledgelaw08.LedgerAsKnown', WHERE WHAT IT READS IS OF BULK AT MOST 1048576: true; the input reads as it did. -/
def ledgerAsKnownUptoRow : OpenClaim := { program := "ytelpdkojdfnmiaagreat", sum := "6f8daf64170602511a2508607616cea6c08262d49d650172f0e333f8dd05eda6", func := "kentledge/kentledgelaw08.LedgerAsKnown", spec := "ledgerAsKnown", unfollowed := true, recurses := true, apart := false, narrowed := true }
def LedgerAsKnownUptoSaid : Prop := ledgerAsKnownUptoRow.holds Tryz.pinned (OpenSpec.upto ledgerAsKnownSpec)

/-- 'kentledgelaw08.LedgerNeverTooMuch', WHERE WHAT IT READS IS OF BULK AT MOST 1048576: true; the input reads as it did. -/
def ledgerNeverTooMuchUptoRow : OpenClaim := { program := "ytelpdkojdfnmiaagreat", sum := "6f8daf64170602511a2508607616cea6c08262d49d650172f0e333f8dd05eda6", func := "kentledge/kentledgelaw08.LedgerNeverTooMuch", spec := "ledgerNeverTooMuch", unfollowed := true, recurses := true, apart := false, narrowed := true }
def LedgerNeverTooMuchUptoSaid : Prop := ledgerNeverTooMuchUptoRow.holds Tryz.pinned (OpenSpec.upto ledgerNeverTooMuchSpec)

/-- 'kentledgelaw08.LedgerFinal', WHERE WHAT IT READS IS OF BULK AT MOST 1048576: true; the input reads as it did. -/
def ledgerFinalUptoRow : OpenClaim := { program := "ytelpdkojdfnmiaagreat", sum := "6f8daf64170602511a2508607616cea6c08262d49d650172f0e333f8dd05eda6", func := "kentledge/kentledgelaw08.LedgerFinal", spec := "ledgerFinal", unfollowed := true, recurses := true, apart := false, narrowed := true }
def LedgerFinalUptoSaid : Prop := ledgerFinalUptoRow.holds Tryz.pinned (OpenSpec.upto ledgerFinalSpec)

/-- 'kentledgelaw08.LedgerHolds', WHERE WHAT IT READS IS OF BULK AT MOST 1048576: true; the input reads as it did. -/
def ledgerHoldsUptoRow : OpenClaim := { program := "ytelpdkojdfnmiaagreat", sum := "6f8daf64170602511a2508607616cea6c08262d49d650172f0e333f8dd05eda6", func := "kentledge/kentledgelaw08.LedgerHolds", spec := "ledgerHolds", unfollowed := true, recurses := true, apart := false, narrowed := true }
def LedgerHoldsUptoSaid : Prop := ledgerHoldsUptoRow.holds Tryz.pinned (OpenSpec.upto ledgerHoldsSpec)

/-- 'kentledgelaw08.LedgerStates', WHERE WHAT IT READS IS OF BULK AT MOST 1048576: true; the input reads as it did. -/
def ledgerStatesUptoRow : OpenClaim := { program := "ytelpdkojdfnmiaagreat", sum := "6f8daf64170602511a2508607616cea6c08262d49d650172f0e333f8dd05eda6", func := "kentledge/kentledgelaw08.LedgerStates", spec := "ledgerStates", unfollowed := true, recurses := true, apart := false, narrowed := true }
def LedgerStatesUptoSaid : Prop := ledgerStatesUptoRow.holds Tryz.pinned (OpenSpec.upto ledgerStatesSpec)

/-- 'kentledgelaw08.LedgerBills', WHERE WHAT IT READS IS OF BULK AT MOST 1048576: true; the input reads as it did. -/
def ledgerBillsUptoRow : OpenClaim := { program := "ytelpdkojdfnmiaagreat", sum := "6f8daf64170602511a2508607616cea6c08262d49d650172f0e333f8dd05eda6", func := "kentledge/kentledgelaw08.LedgerBills", spec := "ledgerBills", unfollowed := true, recurses := true, apart := false, narrowed := true }
def LedgerBillsUptoSaid : Prop := ledgerBillsUptoRow.holds Tryz.pinned (OpenSpec.upto ledgerBillsSpec)

/-- 'kentledgelaw08.LedgerItems', WHERE WHAT IT READS IS OF BULK AT MOST 1048576: true; the input reads as it did. -/
def ledgerItemsUptoRow : OpenClaim := { program := "ytelpdkojdfnmiaagreat", sum := "6f8daf64170602511a2508607616cea6c08262d49d650172f0e333f8dd05eda6", func := "kentledge/kentledgelaw08.LedgerItems", spec := "ledgerItems", unfollowed := true, recurses := true, apart := false, narrowed := true }
def LedgerItemsUptoSaid : Prop := ledgerItemsUptoRow.holds Tryz.pinned (OpenSpec.upto ledgerItemsSpec)

/-- 'kentledgelaw08.LedgerAnyOrder', WHERE WHAT IT READS IS OF BULK AT MOST 1048576: true; the input reads as it did. -/
def ledgerAnyOrderUptoRow : OpenClaim := { program := "ytelpdkojdfnmiaagreat", sum := "6f8daf64170602511a2508607616cea6c08262d49d650172f0e333f8dd05eda6", func := "kentledge/kentledgelaw08.LedgerAnyOrder", spec := "ledgerAnyOrder", unfollowed := true, recurses := true, apart := false, narrowed := true }
def LedgerAnyOrderUptoSaid : Prop := ledgerAnyOrderUptoRow.holds Tryz.pinned (OpenSpec.upto ledgerAnyOrderSpec)

end Rows
end Go.Proofs.YtelpdkojdfnmiaaGreat
