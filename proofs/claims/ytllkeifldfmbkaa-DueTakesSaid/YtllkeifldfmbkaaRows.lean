/-
  No cell of these rows narrows 'for every input' (looked for: loops, veiled, ifaces, maps, wideKeys, modest, calm, conditions, laid).
  DERIVED. THE GIVEN ROWS OF THIS SEAT. 5 by the template 'for every input the law returns true; each argument reads behind the call as it read before'; 0 by the template 'total and deterministic' (their statements: YtllkeifldfmbkaaTotals.lean).
  GIVEN WITH THE SEED: the statements are not yours to turn. If you find one false, say at which input.
  Laid BY PROGRAM, IN A SANDBOX (cutbox-rows.mjs): the forced cells as the released guide's own fill.sh prints them over the translation e5ce38f3215d7937… (all of the seat's roots in one cut). By AI agents, Wed Nov 11 2026. No macro, syntax, notation, axiom, sorry.
-/
import Derived.Test.YtllkeifldfmbkaaChecked
import GoSem.Claim
import GoSem.ClaimJoined
import GoSem.ClaimMapViews
import Derived.JoinedTies
import Derived.KernelRfl
namespace Go.Proofs.Ytllkeifldfmbkaa
/- THE CELL 'sum', in the pinned program and in every row, IS THE sha256 OF THE DUMP (.gsa) THAT YtllkeifldfmbkaaProg.lean LOADS. Nothing in Lean hashes anything: it is a label: what it is worth is what the hold of that sum in a sandbox is worth. -/
noncomputable def Try.pinned : Pinned := { name := "ytllkeifldfmbkaa", sum := "e5ce38f3215d793719f262f0b62dc3469e495acbc6710a1327958b3f4b0137c4", checked := Try.checked }
namespace Rows
def none {H : Type} : Left H := { results := [], args := [] }

/-- 'packetboatlaw14.OrderOnce': WHATEVER THE INPUT: true; the input reads as it did. -/
def orderOnceSpec : ChangeSpec := { name := "orderOnce", fn := fun _ => fun
  | [d1, d2] => { results := [.lit (.bool true)], args := [d1, d2] }
  | _ => none }
def orderOnceRow : OpenClaim := { program := "ytllkeifldfmbkaa", sum := "e5ce38f3215d793719f262f0b62dc3469e495acbc6710a1327958b3f4b0137c4", func := "packetboat/packetboatlaw14.OrderOnce", spec := "orderOnce", unfollowed := true, recurses := true, apart := false }
def OrderOnceSaid : Prop := orderOnceRow.holds Try.pinned (OpenSpec.ofChange orderOnceSpec)

/-- ITS FALSE NEIGHBOUR: 'it returns false'. Refute it at one input. -/
def orderOnceWrong : ChangeSpec := { name := "orderOnce", fn := fun _ => fun
  | [d1, d2] => { results := [.lit (.bool false)], args := [d1, d2] }
  | _ => none }
def OrderOnceWrongFalsely : Prop := orderOnceRow.holds Try.pinned (OpenSpec.ofChange orderOnceWrong)

/-- 'packetboatlaw14.OrderTurned': WHATEVER THE INPUT: true; the input reads as it did. -/
def orderTurnedSpec : ChangeSpec := { name := "orderTurned", fn := fun _ => fun
  | [d1, d2] => { results := [.lit (.bool true)], args := [d1, d2] }
  | _ => none }
def orderTurnedRow : OpenClaim := { program := "ytllkeifldfmbkaa", sum := "e5ce38f3215d793719f262f0b62dc3469e495acbc6710a1327958b3f4b0137c4", func := "packetboat/packetboatlaw14.OrderTurned", spec := "orderTurned", unfollowed := true, recurses := true, apart := false }
def OrderTurnedSaid : Prop := orderTurnedRow.holds Try.pinned (OpenSpec.ofChange orderTurnedSpec)

/-- ITS FALSE NEIGHBOUR: 'it returns false'. Refute it at one input. -/
def orderTurnedWrong : ChangeSpec := { name := "orderTurned", fn := fun _ => fun
  | [d1, d2] => { results := [.lit (.bool false)], args := [d1, d2] }
  | _ => none }
def OrderTurnedWrongFalsely : Prop := orderTurnedRow.holds Try.pinned (OpenSpec.ofChange orderTurnedWrong)

/-- 'packetboatlaw12.DueDoes': WHATEVER THE INPUT: true; the input reads as it did. -/
def dueDoesSpec : ChangeSpec := { name := "dueDoes", fn := fun _ => fun
  | [d1, d2, d3] => { results := [.lit (.bool true)], args := [d1, d2, d3] }
  | _ => none }
def dueDoesRow : OpenClaim := { program := "ytllkeifldfmbkaa", sum := "e5ce38f3215d793719f262f0b62dc3469e495acbc6710a1327958b3f4b0137c4", func := "packetboat/packetboatlaw12.DueDoes", spec := "dueDoes", unfollowed := true, recurses := true, apart := false }
def DueDoesSaid : Prop := dueDoesRow.holds Try.pinned (OpenSpec.ofChange dueDoesSpec)

/-- ITS FALSE NEIGHBOUR: 'it returns false'. Refute it at one input. -/
def dueDoesWrong : ChangeSpec := { name := "dueDoes", fn := fun _ => fun
  | [d1, d2, d3] => { results := [.lit (.bool false)], args := [d1, d2, d3] }
  | _ => none }
def DueDoesWrongFalsely : Prop := dueDoesRow.holds Try.pinned (OpenSpec.ofChange dueDoesWrong)

/-- 'packetboatlaw12.DueTakes': WHATEVER THE INPUT: true; the input reads as it did. -/
def dueTakesSpec : ChangeSpec := { name := "dueTakes", fn := fun _ => fun
  | [d] => { results := [.lit (.bool true)], args := [d] }
  | _ => none }
def dueTakesRow : OpenClaim := { program := "ytllkeifldfmbkaa", sum := "e5ce38f3215d793719f262f0b62dc3469e495acbc6710a1327958b3f4b0137c4", func := "packetboat/packetboatlaw12.DueTakes", spec := "dueTakes", unfollowed := true, recurses := true, apart := false }
def DueTakesSaid : Prop := dueTakesRow.holds Try.pinned (OpenSpec.ofChange dueTakesSpec)

/-- ITS FALSE NEIGHBOUR: 'it returns false'. Refute it at one input. -/
def dueTakesWrong : ChangeSpec := { name := "dueTakes", fn := fun _ => fun
  | [d] => { results := [.lit (.bool false)], args := [d] }
  | _ => none }
def DueTakesWrongFalsely : Prop := dueTakesRow.holds Try.pinned (OpenSpec.ofChange dueTakesWrong)

/-- 'packetboatlaw12.DueSteps': WHATEVER THE INPUT: true; the input reads as it did. -/
def dueStepsSpec : ChangeSpec := { name := "dueSteps", fn := fun _ => fun
  | [d1, d2, d3] => { results := [.lit (.bool true)], args := [d1, d2, d3] }
  | _ => none }
def dueStepsRow : OpenClaim := { program := "ytllkeifldfmbkaa", sum := "e5ce38f3215d793719f262f0b62dc3469e495acbc6710a1327958b3f4b0137c4", func := "packetboat/packetboatlaw12.DueSteps", spec := "dueSteps", unfollowed := true, recurses := true, apart := false }
def DueStepsSaid : Prop := dueStepsRow.holds Try.pinned (OpenSpec.ofChange dueStepsSpec)

/-- ITS FALSE NEIGHBOUR: 'it returns false'. Refute it at one input. -/
def dueStepsWrong : ChangeSpec := { name := "dueSteps", fn := fun _ => fun
  | [d1, d2, d3] => { results := [.lit (.bool false)], args := [d1, d2, d3] }
  | _ => none }
def DueStepsWrongFalsely : Prop := dueStepsRow.holds Try.pinned (OpenSpec.ofChange dueStepsWrong)

/- THE SECOND FORM. 'bulk': how many values and letters a reading holds, each counted each time it is reached (what is shared counts as often as it is met; a slice's spare places count too). A statement '..UptoSaid' is the law's where the arguments, and the package variables that the reading takes, are together of bulk at most 1048576: NARROWER than '..Said'. Prove '..Said' where nothing that the law and all that it calls make is longer than what came in: it says more and counts as full. Else prove '..UptoSaid'. A law counts once. -/
mutual
def uptoBulk {H : Type} : DataW H → Nat
  | .lit (.string bytes) => bytes.length + 1
  | .lit _ => 1
  | .nil => 1
  | .ptr d => uptoBulk d + 1
  | .slice elems spare => uptoBulkAll elems + uptoBulkAll spare + 1
  | .agg parts => uptoBulkAll parts + 1
  | .iface _ d => uptoBulk d + 1
  | .map entries => uptoBulkEntries entries + 1
  | .held _ => 1
def uptoBulkAll {H : Type} : List (DataW H) → Nat
  | [] => 0
  | d :: r => uptoBulk d + uptoBulkAll r
def uptoBulkEntries {H : Type} : List (Lit × DataW H) → Nat
  | [] => 0
  | x :: r => uptoBulkEntry x + uptoBulkEntries r
def uptoBulkEntry {H : Type} : Lit × DataW H → Nat
  | (.string bytes, d) => bytes.length + uptoBulk d + 1
  | (_, d) => uptoBulk d + 1
 end
def uptoSmall : (H : Type) → List (DataW H) → Bool := fun _ ds => decide (uptoBulkAll ds ≤ 1048576)
def OpenSpec.upto (s : _root_.Go.ChangeSpec) : _root_.Go.OpenSpec := { _root_.Go.OpenSpec.ofChange s with cond := some uptoSmall }

/-- 'packetboatlaw14.OrderOnce', WHERE WHAT IT READS IS OF BULK AT MOST 1048576: true; the input reads as it did. -/
def orderOnceUptoRow : OpenClaim := { program := "ytllkeifldfmbkaa", sum := "e5ce38f3215d793719f262f0b62dc3469e495acbc6710a1327958b3f4b0137c4", func := "packetboat/packetboatlaw14.OrderOnce", spec := "orderOnce", unfollowed := true, recurses := true, apart := false, narrowed := true }
def OrderOnceUptoSaid : Prop := orderOnceUptoRow.holds Try.pinned (OpenSpec.upto orderOnceSpec)

/-- 'packetboatlaw14.OrderTurned', WHERE WHAT IT READS IS OF BULK AT MOST 1048576: true; the input reads as it did. -/
def orderTurnedUptoRow : OpenClaim := { program := "ytllkeifldfmbkaa", sum := "e5ce38f3215d793719f262f0b62dc3469e495acbc6710a1327958b3f4b0137c4", func := "packetboat/packetboatlaw14.OrderTurned", spec := "orderTurned", unfollowed := true, recurses := true, apart := false, narrowed := true }
def OrderTurnedUptoSaid : Prop := orderTurnedUptoRow.holds Try.pinned (OpenSpec.upto orderTurnedSpec)

/-- 'packetboatlaw12.DueDoes', WHERE WHAT IT READS IS OF BULK AT MOST 1048576: true; the input reads as it did. -/
def dueDoesUptoRow : OpenClaim := { program := "ytllkeifldfmbkaa", sum := "e5ce38f3215d793719f262f0b62dc3469e495acbc6710a1327958b3f4b0137c4", func := "packetboat/packetboatlaw12.DueDoes", spec := "dueDoes", unfollowed := true, recurses := true, apart := false, narrowed := true }
def DueDoesUptoSaid : Prop := dueDoesUptoRow.holds Try.pinned (OpenSpec.upto dueDoesSpec)

/-- 'packetboatlaw12.DueTakes', WHERE WHAT IT READS IS OF BULK AT MOST 1048576: true; the input reads as it did. -/
def dueTakesUptoRow : OpenClaim := { program := "ytllkeifldfmbkaa", sum := "e5ce38f3215d793719f262f0b62dc3469e495acbc6710a1327958b3f4b0137c4", func := "packetboat/packetboatlaw12.DueTakes", spec := "dueTakes", unfollowed := true, recurses := true, apart := false, narrowed := true }
def DueTakesUptoSaid : Prop := dueTakesUptoRow.holds Try.pinned (OpenSpec.upto dueTakesSpec)

/-- 'packetboatlaw12.DueSteps', WHERE WHAT IT READS IS OF BULK AT MOST 1048576: true; the input reads as it did. -/
def dueStepsUptoRow : OpenClaim := { program := "ytllkeifldfmbkaa", sum := "e5ce38f3215d793719f262f0b62dc3469e495acbc6710a1327958b3f4b0137c4", func := "packetboat/packetboatlaw12.DueSteps", spec := "dueSteps", unfollowed := true, recurses := true, apart := false, narrowed := true }
def DueStepsUptoSaid : Prop := dueStepsUptoRow.holds Try.pinned (OpenSpec.upto dueStepsSpec)

end Rows
end Go.Proofs.Ytllkeifldfmbkaa
