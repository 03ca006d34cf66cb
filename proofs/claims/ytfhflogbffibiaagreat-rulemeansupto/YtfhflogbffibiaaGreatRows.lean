/-
  No cell of these rows narrows 'for every input' (looked for: loops, veiled, ifaces, maps, wideKeys, modest, calm, conditions, laid).
  DERIVED. THE GIVEN ROWS OF THIS SEAT. 5 by the template 'for every input the law returns true; each argument reads behind the call as it read before'; 0 by the template 'total and deterministic' (their statements: YtfhflogbffibiaaGreatTotals.lean).
  GIVEN WITH THE SEED: the statements are not yours to turn. If you find one false, say at which input.
  Laid BY PROGRAM, IN A SANDBOX (cutbox-rows.mjs): the forced cells as the released guide's own fill.sh prints them over the translation 86a9c1c4e0a7cb73… (all of the seat's roots in one cut). By AI agents, Wed Nov 11 2026. No macro, syntax, notation, axiom, sorry.
-/
import Derived.Test.YtfhflogbffibiaaGreatChecked
import GoSem.Claim
import GoSem.ClaimJoined
import GoSem.ClaimMapViews
import Derived.JoinedTies
import Derived.KernelRfl
namespace Go.Proofs.YtfhflogbffibiaaGreat
/- THE CELL 'sum', in the pinned program and in every row, IS THE sha256 OF THE DUMP (.gsa) THAT YtfhflogbffibiaaGreatProg.lean LOADS. Nothing in Lean hashes anything: it is a label: what it is worth is what the hold of that sum in a sandbox is worth. -/
noncomputable def Tryz.pinned : Pinned := { name := "ytfhflogbffibiaagreat", sum := "86a9c1c4e0a7cb73448f1e71a265cc7501b06630b20c2d0d1443b63caa9cce77", checked := Tryz.checked }
namespace Rows
def none {H : Type} : Left H := { results := [], args := [] }

/-- 'prebendlaw20.BookBalances': WHATEVER THE INPUT: true; the input reads as it did. -/
def bookBalancesSpec : ChangeSpec := { name := "bookBalances", fn := fun _ => fun
  | [d1, d2] => { results := [.lit (.bool true)], args := [d1, d2] }
  | _ => none }
def bookBalancesRow : OpenClaim := { program := "ytfhflogbffibiaagreat", sum := "86a9c1c4e0a7cb73448f1e71a265cc7501b06630b20c2d0d1443b63caa9cce77", func := "prebend/prebendlaw20.BookBalances", spec := "bookBalances", unfollowed := true, recurses := true, apart := false }
def BookBalancesSaid : Prop := bookBalancesRow.holds Tryz.pinned (OpenSpec.ofChange bookBalancesSpec)

/-- ITS FALSE NEIGHBOUR: 'it returns false'. Refute it at one input. -/
def bookBalancesWrong : ChangeSpec := { name := "bookBalances", fn := fun _ => fun
  | [d1, d2] => { results := [.lit (.bool false)], args := [d1, d2] }
  | _ => none }
def BookBalancesWrongFalsely : Prop := bookBalancesRow.holds Tryz.pinned (OpenSpec.ofChange bookBalancesWrong)

/-- 'prebendlaw25.SoundStays': WHATEVER THE INPUT: true; the input reads as it did. -/
def soundStaysSpec : ChangeSpec := { name := "soundStays", fn := fun _ => fun
  | [d1, d2] => { results := [.lit (.bool true)], args := [d1, d2] }
  | _ => none }
def soundStaysRow : OpenClaim := { program := "ytfhflogbffibiaagreat", sum := "86a9c1c4e0a7cb73448f1e71a265cc7501b06630b20c2d0d1443b63caa9cce77", func := "prebend/prebendlaw25.SoundStays", spec := "soundStays", unfollowed := true, recurses := true, apart := false }
def SoundStaysSaid : Prop := soundStaysRow.holds Tryz.pinned (OpenSpec.ofChange soundStaysSpec)

/-- ITS FALSE NEIGHBOUR: 'it returns false'. Refute it at one input. -/
def soundStaysWrong : ChangeSpec := { name := "soundStays", fn := fun _ => fun
  | [d1, d2] => { results := [.lit (.bool false)], args := [d1, d2] }
  | _ => none }
def SoundStaysWrongFalsely : Prop := soundStaysRow.holds Tryz.pinned (OpenSpec.ofChange soundStaysWrong)

/-- 'prebendlaw21.RuleMeans': WHATEVER THE INPUT: true; the input reads as it did. -/
def ruleMeansSpec : ChangeSpec := { name := "ruleMeans", fn := fun _ => fun
  | [d1, d2, d3, d4] => { results := [.lit (.bool true)], args := [d1, d2, d3, d4] }
  | _ => none }
def ruleMeansRow : OpenClaim := { program := "ytfhflogbffibiaagreat", sum := "86a9c1c4e0a7cb73448f1e71a265cc7501b06630b20c2d0d1443b63caa9cce77", func := "prebend/prebendlaw21.RuleMeans", spec := "ruleMeans", unfollowed := true, recurses := true, apart := false }
def RuleMeansSaid : Prop := ruleMeansRow.holds Tryz.pinned (OpenSpec.ofChange ruleMeansSpec)

/-- ITS FALSE NEIGHBOUR: 'it returns false'. Refute it at one input. -/
def ruleMeansWrong : ChangeSpec := { name := "ruleMeans", fn := fun _ => fun
  | [d1, d2, d3, d4] => { results := [.lit (.bool false)], args := [d1, d2, d3, d4] }
  | _ => none }
def RuleMeansWrongFalsely : Prop := ruleMeansRow.holds Tryz.pinned (OpenSpec.ofChange ruleMeansWrong)

/-- 'prebendlaw21.RuleEnds': WHATEVER THE INPUT: true; the input reads as it did. -/
def ruleEndsSpec : ChangeSpec := { name := "ruleEnds", fn := fun _ => fun
  | [d1, d2, d3, d4] => { results := [.lit (.bool true)], args := [d1, d2, d3, d4] }
  | _ => none }
def ruleEndsRow : OpenClaim := { program := "ytfhflogbffibiaagreat", sum := "86a9c1c4e0a7cb73448f1e71a265cc7501b06630b20c2d0d1443b63caa9cce77", func := "prebend/prebendlaw21.RuleEnds", spec := "ruleEnds", unfollowed := true, recurses := true, apart := false }
def RuleEndsSaid : Prop := ruleEndsRow.holds Tryz.pinned (OpenSpec.ofChange ruleEndsSpec)

/-- ITS FALSE NEIGHBOUR: 'it returns false'. Refute it at one input. -/
def ruleEndsWrong : ChangeSpec := { name := "ruleEnds", fn := fun _ => fun
  | [d1, d2, d3, d4] => { results := [.lit (.bool false)], args := [d1, d2, d3, d4] }
  | _ => none }
def RuleEndsWrongFalsely : Prop := ruleEndsRow.holds Tryz.pinned (OpenSpec.ofChange ruleEndsWrong)

/-- 'prebendlaw21.RuleNexts': WHATEVER THE INPUT: true; the input reads as it did. -/
def ruleNextsSpec : ChangeSpec := { name := "ruleNexts", fn := fun _ => fun
  | [d1, d2, d3, d4, d5, d6] => { results := [.lit (.bool true)], args := [d1, d2, d3, d4, d5, d6] }
  | _ => none }
def ruleNextsRow : OpenClaim := { program := "ytfhflogbffibiaagreat", sum := "86a9c1c4e0a7cb73448f1e71a265cc7501b06630b20c2d0d1443b63caa9cce77", func := "prebend/prebendlaw21.RuleNexts", spec := "ruleNexts", unfollowed := true, recurses := true, apart := false }
def RuleNextsSaid : Prop := ruleNextsRow.holds Tryz.pinned (OpenSpec.ofChange ruleNextsSpec)

/-- ITS FALSE NEIGHBOUR: 'it returns false'. Refute it at one input. -/
def ruleNextsWrong : ChangeSpec := { name := "ruleNexts", fn := fun _ => fun
  | [d1, d2, d3, d4, d5, d6] => { results := [.lit (.bool false)], args := [d1, d2, d3, d4, d5, d6] }
  | _ => none }
def RuleNextsWrongFalsely : Prop := ruleNextsRow.holds Tryz.pinned (OpenSpec.ofChange ruleNextsWrong)

/- THE SECOND FORM. 'bulk': how many values and letters a reading holds, each counted each time it is reached (what is shared counts as often as it is met; a slice's spare places count too). A statement '..UptoSaid' is the law's where the arguments, and the package variables that the reading takes, are together of bulk at most 1048576: NARROWER than '..Said'. Prove '..Said' where nothing that the law and all that it calls make is longer than what came in: it says more and counts as full. Else prove '..UptoSaid'. A law counts once. -/
mutual
def uptoBulk {H : Type} : DataW H → Nat
  | .lit (.string bytes) => bytes.length + 1
  | .lit _ => 1
  | .nil => 1
  | .ptr d => uptoBulk d + 1
  | .slice elems spare => uptoBulkAll elems + uptoBulkAll spare + 1
  | .agg parts => uptoBulkAll parts + 1
  | .iface _ d => uptoBulk d + 1
  | .map entries => uptoBulkEntries entries + 1
  | .held _ => 1
def uptoBulkAll {H : Type} : List (DataW H) → Nat
  | [] => 0
  | d :: r => uptoBulk d + uptoBulkAll r
def uptoBulkEntries {H : Type} : List (Lit × DataW H) → Nat
  | [] => 0
  | x :: r => uptoBulkEntry x + uptoBulkEntries r
def uptoBulkEntry {H : Type} : Lit × DataW H → Nat
  | (.string bytes, d) => bytes.length + uptoBulk d + 1
  | (_, d) => uptoBulk d + 1
 end
def uptoSmall : (H : Type) → List (DataW H) → Bool := fun _ ds => decide (uptoBulkAll ds ≤ 1048576)
def OpenSpec.upto (s : _root_.Go.ChangeSpec) : _root_.Go.OpenSpec := { _root_.Go.OpenSpec.ofChange s with cond := some uptoSmall }

/-- 'prebendlaw20.BookBalances', WHERE WHAT IT READS IS OF BULK AT MOST 1048576: true; the input reads as it did. -/
def bookBalancesUptoRow : OpenClaim := { program := "ytfhflogbffibiaagreat", sum := "86a9c1c4e0a7cb73448f1e71a265cc7501b06630b20c2d0d1443b63caa9cce77", func := "prebend/prebendlaw20.BookBalances", spec := "bookBalances", unfollowed := true, recurses := true, apart := false, narrowed := true }
def BookBalancesUptoSaid : Prop := bookBalancesUptoRow.holds Tryz.pinned (OpenSpec.upto bookBalancesSpec)

/-- 'prebendlaw25.SoundStays', WHERE WHAT IT READS IS OF BULK AT MOST 1048576: true; the input reads as it did. -/
def soundStaysUptoRow : OpenClaim := { program := "ytfhflogbffibiaagreat", sum := "86a9c1c4e0a7cb73448f1e71a265cc7501b06630b20c2d0d1443b63caa9cce77", func := "prebend/prebendlaw25.SoundStays", spec := "soundStays", unfollowed := true, recurses := true, apart := false, narrowed := true }
def SoundStaysUptoSaid : Prop := soundStaysUptoRow.holds Tryz.pinned (OpenSpec.upto soundStaysSpec)

/-- 'prebendlaw21.RuleMeans', WHERE WHAT IT READS IS OF BULK AT MOST 1048576: true; the input reads as it did. -/
def ruleMeansUptoRow : OpenClaim := { program := "ytfhflogbffibiaagreat", sum := "86a9c1c4e0a7cb73448f1e71a265cc7501b06630b20c2d0d1443b63caa9cce77", func := "prebend/prebendlaw21.RuleMeans", spec := "ruleMeans", unfollowed := true, recurses := true, apart := false, narrowed := true }
def RuleMeansUptoSaid : Prop := ruleMeansUptoRow.holds Tryz.pinned (OpenSpec.upto ruleMeansSpec)

/-- 'prebendlaw21.RuleEnds', WHERE WHAT IT READS IS OF BULK AT MOST 1048576: true; the input reads as it did. -/
def ruleEndsUptoRow : OpenClaim := { program := "ytfhflogbffibiaagreat", sum := "86a9c1c4e0a7cb73448f1e71a265cc7501b06630b20c2d0d1443b63caa9cce77", func := "prebend/prebendlaw21.RuleEnds", spec := "ruleEnds", unfollowed := true, recurses := true, apart := false, narrowed := true }
def RuleEndsUptoSaid : Prop := ruleEndsUptoRow.holds Tryz.pinned (OpenSpec.upto ruleEndsSpec)

/-- 'prebendlaw21.RuleNexts', WHERE WHAT IT READS IS OF BULK AT MOST 1048576: true; the input reads as it did. -/
def ruleNextsUptoRow : OpenClaim := { program := "ytfhflogbffibiaagreat", sum := "86a9c1c4e0a7cb73448f1e71a265cc7501b06630b20c2d0d1443b63caa9cce77", func := "prebend/prebendlaw21.RuleNexts", spec := "ruleNexts", unfollowed := true, recurses := true, apart := false, narrowed := true }
def RuleNextsUptoSaid : Prop := ruleNextsUptoRow.holds Tryz.pinned (OpenSpec.upto ruleNextsSpec)

end Rows
end Go.Proofs.YtfhflogbffibiaaGreat
