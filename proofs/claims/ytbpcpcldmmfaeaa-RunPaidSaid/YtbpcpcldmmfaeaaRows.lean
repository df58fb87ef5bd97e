/-
  No cell of these rows narrows 'for every input' (looked for: loops, veiled, ifaces, maps, wideKeys, modest, calm, conditions, laid).
  DERIVED. THE GIVEN ROWS OF THIS SEAT. 6 by the template 'for every input the law returns true; each argument reads behind the call as it read before'; 0 by the template 'total and deterministic' (their statements: YtbpcpcldmmfaeaaTotals.lean).
  GIVEN WITH THE SEED: the statements are not yours to turn. If you find one false, say at which input.
  Laid BY PROGRAM, IN A SANDBOX (cutbox-rows.mjs): the forced cells as the released guide's own fill.sh prints them over the translation 6b15ffae9451b83e… (all of the seat's roots in one cut). By AI agents, Wed Nov 11 2026. No macro, syntax, notation, axiom, sorry.
-/
import Derived.Test.YtbpcpcldmmfaeaaChecked
import GoSem.Claim
import GoSem.ClaimJoined
import GoSem.ClaimMapViews
import Derived.JoinedTies
import Derived.KernelRfl
namespace Go.Proofs.Ytbpcpcldmmfaeaa
/- THE CELL 'sum', in the pinned program and in every row, IS THE sha256 OF THE DUMP (.gsa) THAT YtbpcpcldmmfaeaaProg.lean LOADS. Nothing in Lean hashes anything: it is a label: what it is worth is what the hold of that sum in a sandbox is worth. -/
noncomputable def Try.pinned : Pinned := { name := "ytbpcpcldmmfaeaa", sum := "6b15ffae9451b83ec92d7df70fc83e80d77fdc34bf6c3c0d99a92eccd8ccf2a9", checked := Try.checked }
namespace Rows
def none {H : Type} : Left H := { results := [], args := [] }

/-- 'payrolllaw40.RunLimits': WHATEVER THE INPUT: true; the input reads as it did. -/
def runLimitsSpec : ChangeSpec := { name := "runLimits", fn := fun _ => fun
  | [d] => { results := [.lit (.bool true)], args := [d] }
  | _ => none }
def runLimitsRow : OpenClaim := { program := "ytbpcpcldmmfaeaa", sum := "6b15ffae9451b83ec92d7df70fc83e80d77fdc34bf6c3c0d99a92eccd8ccf2a9", func := "payroll/payrolllaw40.RunLimits", spec := "runLimits", apart := false }
def RunLimitsSaid : Prop := runLimitsRow.holds Try.pinned (OpenSpec.ofChange runLimitsSpec)

/-- ITS FALSE NEIGHBOUR: 'it returns false'. Refute it at one input. -/
def runLimitsWrong : ChangeSpec := { name := "runLimits", fn := fun _ => fun
  | [d] => { results := [.lit (.bool false)], args := [d] }
  | _ => none }
def RunLimitsWrongFalsely : Prop := runLimitsRow.holds Try.pinned (OpenSpec.ofChange runLimitsWrong)

/-- 'payrolllaw40.RunReplays': WHATEVER THE INPUT: true; the input reads as it did. -/
def runReplaysSpec : ChangeSpec := { name := "runReplays", fn := fun _ => fun
  | [d] => { results := [.lit (.bool true)], args := [d] }
  | _ => none }
def runReplaysRow : OpenClaim := { program := "ytbpcpcldmmfaeaa", sum := "6b15ffae9451b83ec92d7df70fc83e80d77fdc34bf6c3c0d99a92eccd8ccf2a9", func := "payroll/payrolllaw40.RunReplays", spec := "runReplays", apart := false }
def RunReplaysSaid : Prop := runReplaysRow.holds Try.pinned (OpenSpec.ofChange runReplaysSpec)

/-- ITS FALSE NEIGHBOUR: 'it returns false'. Refute it at one input. -/
def runReplaysWrong : ChangeSpec := { name := "runReplays", fn := fun _ => fun
  | [d] => { results := [.lit (.bool false)], args := [d] }
  | _ => none }
def RunReplaysWrongFalsely : Prop := runReplaysRow.holds Try.pinned (OpenSpec.ofChange runReplaysWrong)

/-- 'payrolllaw40.RunPaid': WHATEVER THE INPUT: true; the input reads as it did. -/
def runPaidSpec : ChangeSpec := { name := "runPaid", fn := fun _ => fun
  | [d] => { results := [.lit (.bool true)], args := [d] }
  | _ => none }
def runPaidRow : OpenClaim := { program := "ytbpcpcldmmfaeaa", sum := "6b15ffae9451b83ec92d7df70fc83e80d77fdc34bf6c3c0d99a92eccd8ccf2a9", func := "payroll/payrolllaw40.RunPaid", spec := "runPaid", apart := false }
def RunPaidSaid : Prop := runPaidRow.holds Try.pinned (OpenSpec.ofChange runPaidSpec)

/-- ITS FALSE NEIGHBOUR: 'it returns false'. Refute it at one input. -/
def runPaidWrong : ChangeSpec := { name := "runPaid", fn := fun _ => fun
  | [d] => { results := [.lit (.bool false)], args := [d] }
  | _ => none }
def RunPaidWrongFalsely : Prop := runPaidRow.holds Try.pinned (OpenSpec.ofChange runPaidWrong)

/-- 'payrolllaw40.RunSteps': WHATEVER THE INPUT: true; the input reads as it did. -/
def runStepsSpec : ChangeSpec := { name := "runSteps", fn := fun _ => fun
  | [d] => { results := [.lit (.bool true)], args := [d] }
  | _ => none }
def runStepsRow : OpenClaim := { program := "ytbpcpcldmmfaeaa", sum := "6b15ffae9451b83ec92d7df70fc83e80d77fdc34bf6c3c0d99a92eccd8ccf2a9", func := "payroll/payrolllaw40.RunSteps", spec := "runSteps", apart := false }
def RunStepsSaid : Prop := runStepsRow.holds Try.pinned (OpenSpec.ofChange runStepsSpec)

/-- ITS FALSE NEIGHBOUR: 'it returns false'. Refute it at one input. -/
def runStepsWrong : ChangeSpec := { name := "runSteps", fn := fun _ => fun
  | [d] => { results := [.lit (.bool false)], args := [d] }
  | _ => none }
def RunStepsWrongFalsely : Prop := runStepsRow.holds Try.pinned (OpenSpec.ofChange runStepsWrong)

/-- 'payrolllaw40.RunRaw': WHATEVER THE INPUT: true; the input reads as it did. -/
def runRawSpec : ChangeSpec := { name := "runRaw", fn := fun _ => fun
  | [d1, d2, d3] => { results := [.lit (.bool true)], args := [d1, d2, d3] }
  | _ => none }
def runRawRow : OpenClaim := { program := "ytbpcpcldmmfaeaa", sum := "6b15ffae9451b83ec92d7df70fc83e80d77fdc34bf6c3c0d99a92eccd8ccf2a9", func := "payroll/payrolllaw40.RunRaw", spec := "runRaw", apart := false }
def RunRawSaid : Prop := runRawRow.holds Try.pinned (OpenSpec.ofChange runRawSpec)

/-- ITS FALSE NEIGHBOUR: 'it returns false'. Refute it at one input. -/
def runRawWrong : ChangeSpec := { name := "runRaw", fn := fun _ => fun
  | [d1, d2, d3] => { results := [.lit (.bool false)], args := [d1, d2, d3] }
  | _ => none }
def RunRawWrongFalsely : Prop := runRawRow.holds Try.pinned (OpenSpec.ofChange runRawWrong)

/-- 'payrolllaw40.RunPermits': WHATEVER THE INPUT: true; the input reads as it did. -/
def runPermitsSpec : ChangeSpec := { name := "runPermits", fn := fun _ => fun
  | [d1, d2] => { results := [.lit (.bool true)], args := [d1, d2] }
  | _ => none }
def runPermitsRow : OpenClaim := { program := "ytbpcpcldmmfaeaa", sum := "6b15ffae9451b83ec92d7df70fc83e80d77fdc34bf6c3c0d99a92eccd8ccf2a9", func := "payroll/payrolllaw40.RunPermits", spec := "runPermits", apart := false }
def RunPermitsSaid : Prop := runPermitsRow.holds Try.pinned (OpenSpec.ofChange runPermitsSpec)

/-- ITS FALSE NEIGHBOUR: 'it returns false'. Refute it at one input. -/
def runPermitsWrong : ChangeSpec := { name := "runPermits", fn := fun _ => fun
  | [d1, d2] => { results := [.lit (.bool false)], args := [d1, d2] }
  | _ => none }
def RunPermitsWrongFalsely : Prop := runPermitsRow.holds Try.pinned (OpenSpec.ofChange runPermitsWrong)

/- THE SECOND FORM. 'bulk': how many values and letters a reading holds, each counted each time it is reached (what is shared counts as often as it is met; a slice's spare places count too). A statement '..UptoSaid' is the law's where the arguments, and the package variables that the reading takes, are together of bulk at most 1048576: NARROWER than '..Said'. Prove '..Said' where nothing that the law and all that it calls make is longer than what came in: it says more and counts as full. Else prove '..UptoSaid'. A law counts once. -/
mutual
def uptoBulk {H : Type} : DataW H → Nat
  | .lit (.string bytes) => bytes.length + 1
  | .lit _ => 1
  | .nil => 1
  | .ptr d => uptoBulk d + 1
  | .slice elems spare => uptoBulkAll elems + uptoBulkAll spare + 1
  | .agg parts => uptoBulkAll parts + 1
  | .iface _ d => uptoBulk d + 1
  | .map entries => uptoBulkEntries entries + 1
  | .held _ => 1
def uptoBulkAll {H : Type} : List (DataW H) → Nat
  | [] => 0
  | d :: r => uptoBulk d + uptoBulkAll r
def uptoBulkEntries {H : Type} : List (Lit × DataW H) → Nat
  | [] => 0
  | x :: r => uptoBulkEntry x + uptoBulkEntries r
def uptoBulkEntry {H : Type} : Lit × DataW H → Nat
  | (.string bytes, d) => bytes.length + uptoBulk d + 1
  | (_, d) => uptoBulk d + 1
 end
def uptoSmall : (H : Type) → List (DataW H) → Bool := fun _ ds => decide (uptoBulkAll ds ≤ 1048576)
def OpenSpec.upto (s : _root_.Go.ChangeSpec) : _root_.Go.OpenSpec := { _root_.Go.OpenSpec.ofChange s with cond := some uptoSmall }

/-- 'payrolllaw40.RunLimits', WHERE WHAT IT READS IS OF BULK AT MOST 1048576: true; the input reads as it did. -/
def runLimitsUptoRow : OpenClaim := { program := "ytbpcpcldmmfaeaa", sum := "6b15ffae9451b83ec92d7df70fc83e80d77fdc34bf6c3c0d99a92eccd8ccf2a9", func := "payroll/payrolllaw40.RunLimits", spec := "runLimits", apart := false, narrowed := true }
def RunLimitsUptoSaid : Prop := runLimitsUptoRow.holds Try.pinned (OpenSpec.upto runLimitsSpec)

/-- 'payrolllaw40.RunReplays', WHERE WHAT IT READS IS OF BULK AT MOST 1048576: true; the input reads as it did. -/
def runReplaysUptoRow : OpenClaim := { program := "ytbpcpcldmmfaeaa", sum := "6b15ffae9451b83ec92d7df70fc83e80d77fdc34bf6c3c0d99a92eccd8ccf2a9", func := "payroll/payrolllaw40.RunReplays", spec := "runReplays", apart := false, narrowed := true }
def RunReplaysUptoSaid : Prop := runReplaysUptoRow.holds Try.pinned (OpenSpec.upto runReplaysSpec)

/-- 'payrolllaw40.RunPaid', WHERE WHAT IT READS IS OF BULK AT MOST 1048576: true; the input reads as it did. -/
def runPaidUptoRow : OpenClaim := { program := "ytbpcpcldmmfaeaa", sum := "6b15ffae9451b83ec92d7df70fc83e80d77fdc34bf6c3c0d99a92eccd8ccf2a9", func := "payroll/payrolllaw40.RunPaid", spec := "runPaid", apart := false, narrowed := true }
def RunPaidUptoSaid : Prop := runPaidUptoRow.holds Try.pinned (OpenSpec.upto runPaidSpec)

/-- 'payrolllaw40.RunSteps', WHERE WHAT IT READS IS OF BULK AT MOST 1048576: true; the input reads as it did. -/
def runStepsUptoRow : OpenClaim := { program := "ytbpcpcldmmfaeaa", sum := "6b15ffae9451b83ec92d7df70fc83e80d77fdc34bf6c3c0d99a92eccd8ccf2a9", func := "payroll/payrolllaw40.RunSteps", spec := "runSteps", apart := false, narrowed := true }
def RunStepsUptoSaid : Prop := runStepsUptoRow.holds Try.pinned (OpenSpec.upto runStepsSpec)

/-- 'payrolllaw40.RunRaw', WHERE WHAT IT READS IS OF BULK AT MOST 1048576: true; the input reads as it did. -/
def runRawUptoRow : OpenClaim := { program := "ytbpcpcldmmfaeaa", sum := "6b15ffae9451b83ec92d7df70fc83e80d77fdc34bf6c3c0d99a92eccd8ccf2a9", func := "payroll/payrolllaw40.RunRaw", spec := "runRaw", apart := false, narrowed := true }
def RunRawUptoSaid : Prop := runRawUptoRow.holds Try.pinned (OpenSpec.upto runRawSpec)

/-- 'payrolllaw40.RunPermits', WHERE WHAT IT READS IS OF BULK AT MOST 1048576: true; the input reads as it did. -/
def runPermitsUptoRow : OpenClaim := { program := "ytbpcpcldmmfaeaa", sum := "6b15ffae9451b83ec92d7df70fc83e80d77fdc34bf6c3c0d99a92eccd8ccf2a9", func := "payroll/payrolllaw40.RunPermits", spec := "runPermits", apart := false, narrowed := true }
def RunPermitsUptoSaid : Prop := runPermitsUptoRow.holds Try.pinned (OpenSpec.upto runPermitsSpec)

end Rows
end Go.Proofs.Ytbpcpcldmmfaeaa
