/-
  No cell of these rows narrows 'for every input' (looked for: loops, veiled, ifaces, maps, wideKeys, modest, calm, conditions, laid).
  DERIVED. THE GIVEN ROWS OF THIS SEAT. 4 by the template 'for every input the law returns true; each argument reads behind the call as it read before'; 0 by the template 'total and deterministic' (their statements: YtnnghceapkkklaaTotals.lean).
  GIVEN WITH THE SEED: the statements are not yours to turn. If you find one false, say at which input.
  Laid BY PROGRAM, IN A SANDBOX (cutbox-rows.mjs): the forced cells as the released guide's own fill.sh prints them over the translation 64c36a9335f7beca… (all of the seat's roots in one cut). By AI agents, Wed Nov 11 2026. No macro, syntax, notation, axiom, sorry.
-/
import Derived.Test.YtnnghceapkkklaaChecked
import GoSem.Claim
import GoSem.ClaimJoined
import GoSem.ClaimMapViews
import Derived.JoinedTies
import Derived.KernelRfl
namespace Go.Proofs.Ytnnghceapkkklaa
/- THE CELL 'sum', in the pinned program and in every row, IS THE sha256 OF THE DUMP (.gsa) THAT YtnnghceapkkklaaProg.lean LOADS. Nothing in Lean hashes anything: it is a label: what it is worth is what the hold of that sum in a sandbox is worth. -/
noncomputable def Try.pinned : Pinned := { name := "ytnnghceapkkklaa", sum := "64c36a9335f7becabb5afb8a98ed5e668cf9fd1ba061a69bb5439d8166ef0703", checked := Try.checked }
namespace Rows
def none {H : Type} : Left H := { results := [], args := [] }

/-- 'spyglasslaw22.TimerPlays': WHATEVER THE INPUT: true; the input reads as it did. -/
def timerPlaysSpec : ChangeSpec := { name := "timerPlays", fn := fun _ => fun
  | [d] => { results := [.lit (.bool true)], args := [d] }
  | _ => none }
def timerPlaysRow : OpenClaim := { program := "ytnnghceapkkklaa", sum := "64c36a9335f7becabb5afb8a98ed5e668cf9fd1ba061a69bb5439d8166ef0703", func := "spyglass/spyglasslaw22.TimerPlays", spec := "timerPlays", apart := false }
def TimerPlaysSaid : Prop := timerPlaysRow.holds Try.pinned (OpenSpec.ofChange timerPlaysSpec)

/-- ITS FALSE NEIGHBOUR: 'it returns false'. Refute it at one input. -/
def timerPlaysWrong : ChangeSpec := { name := "timerPlays", fn := fun _ => fun
  | [d] => { results := [.lit (.bool false)], args := [d] }
  | _ => none }
def TimerPlaysWrongFalsely : Prop := timerPlaysRow.holds Try.pinned (OpenSpec.ofChange timerPlaysWrong)

/-- 'spyglasslaw22.TimerBounds': WHATEVER THE INPUT: true; the input reads as it did. -/
def timerBoundsSpec : ChangeSpec := { name := "timerBounds", fn := fun _ => fun
  | [d] => { results := [.lit (.bool true)], args := [d] }
  | _ => none }
def timerBoundsRow : OpenClaim := { program := "ytnnghceapkkklaa", sum := "64c36a9335f7becabb5afb8a98ed5e668cf9fd1ba061a69bb5439d8166ef0703", func := "spyglass/spyglasslaw22.TimerBounds", spec := "timerBounds", apart := false }
def TimerBoundsSaid : Prop := timerBoundsRow.holds Try.pinned (OpenSpec.ofChange timerBoundsSpec)

/-- ITS FALSE NEIGHBOUR: 'it returns false'. Refute it at one input. -/
def timerBoundsWrong : ChangeSpec := { name := "timerBounds", fn := fun _ => fun
  | [d] => { results := [.lit (.bool false)], args := [d] }
  | _ => none }
def TimerBoundsWrongFalsely : Prop := timerBoundsRow.holds Try.pinned (OpenSpec.ofChange timerBoundsWrong)

/-- 'spyglasslaw22.TimerSteady': WHATEVER THE INPUT: true; the input reads as it did. -/
def timerSteadySpec : ChangeSpec := { name := "timerSteady", fn := fun _ => fun
  | [d] => { results := [.lit (.bool true)], args := [d] }
  | _ => none }
def timerSteadyRow : OpenClaim := { program := "ytnnghceapkkklaa", sum := "64c36a9335f7becabb5afb8a98ed5e668cf9fd1ba061a69bb5439d8166ef0703", func := "spyglass/spyglasslaw22.TimerSteady", spec := "timerSteady", apart := false }
def TimerSteadySaid : Prop := timerSteadyRow.holds Try.pinned (OpenSpec.ofChange timerSteadySpec)

/-- ITS FALSE NEIGHBOUR: 'it returns false'. Refute it at one input. -/
def timerSteadyWrong : ChangeSpec := { name := "timerSteady", fn := fun _ => fun
  | [d] => { results := [.lit (.bool false)], args := [d] }
  | _ => none }
def TimerSteadyWrongFalsely : Prop := timerSteadyRow.holds Try.pinned (OpenSpec.ofChange timerSteadyWrong)

/-- 'spyglasslaw22.TimerSince': WHATEVER THE INPUT: true; the input reads as it did. -/
def timerSinceSpec : ChangeSpec := { name := "timerSince", fn := fun _ => fun
  | [d1, d2, d3] => { results := [.lit (.bool true)], args := [d1, d2, d3] }
  | _ => none }
def timerSinceRow : OpenClaim := { program := "ytnnghceapkkklaa", sum := "64c36a9335f7becabb5afb8a98ed5e668cf9fd1ba061a69bb5439d8166ef0703", func := "spyglass/spyglasslaw22.TimerSince", spec := "timerSince", apart := false }
def TimerSinceSaid : Prop := timerSinceRow.holds Try.pinned (OpenSpec.ofChange timerSinceSpec)

/-- ITS FALSE NEIGHBOUR: 'it returns false'. Refute it at one input. -/
def timerSinceWrong : ChangeSpec := { name := "timerSince", fn := fun _ => fun
  | [d1, d2, d3] => { results := [.lit (.bool false)], args := [d1, d2, d3] }
  | _ => none }
def TimerSinceWrongFalsely : Prop := timerSinceRow.holds Try.pinned (OpenSpec.ofChange timerSinceWrong)

/- THE SECOND FORM. 'bulk': how many values and letters a reading holds, each counted each time it is reached (what is shared counts as often as it is met; a slice's spare places count too). A statement '..UptoSaid' is the law's where the arguments, and the package variables that the reading takes, are together of bulk at most 1048576: NARROWER than '..Said'. Prove '..Said' where nothing that the law and all that it calls make is longer than what came in: it says more and counts as full. Else prove '..UptoSaid'. A law counts once. -/
mutual
def uptoBulk {H : Type} : DataW H → Nat
  | .lit (.string bytes) => bytes.length + 1
  | .lit _ => 1
  | .nil => 1
  | .ptr d => uptoBulk d + 1
  | .slice elems spare => uptoBulkAll elems + uptoBulkAll spare + 1
  | .agg parts => uptoBulkAll parts + 1
  | .iface _ d => uptoBulk d + 1
  | .map entries => uptoBulkEntries entries + 1
  | .held _ => 1
def uptoBulkAll {H : Type} : List (DataW H) → Nat
  | [] => 0
  | d :: r => uptoBulk d + uptoBulkAll r
def uptoBulkEntries {H : Type} : List (Lit × DataW H) → Nat
  | [] => 0
  | x :: r => uptoBulkEntry x + uptoBulkEntries r
def uptoBulkEntry {H : Type} : Lit × DataW H → Nat
  | (.string bytes, d) => bytes.length + uptoBulk d + 1
  | (_, d) => uptoBulk d + 1
 end
def uptoSmall : (H : Type) → List (DataW H) → Bool := fun _ ds => decide (uptoBulkAll ds ≤ 1048576)
def OpenSpec.upto (s : _root_.Go.ChangeSpec) : _root_.Go.OpenSpec := { _root_.Go.OpenSpec.ofChange s with cond := some uptoSmall }

/-- 'spyglasslaw22.TimerPlays', WHERE WHAT IT READS IS OF BULK AT MOST 1048576: true; the input reads as it did. -/
def timerPlaysUptoRow : OpenClaim := { program := "ytnnghceapkkklaa", sum := "64c36a9335f7becabb5afb8a98ed5e668cf9fd1ba061a69bb5439d8166ef0703", func := "spyglass/spyglasslaw22.TimerPlays", spec := "timerPlays", apart := false, narrowed := true }
def TimerPlaysUptoSaid : Prop := timerPlaysUptoRow.holds Try.pinned (OpenSpec.upto timerPlaysSpec)

/-- 'spyglasslaw22.TimerBounds', WHERE WHAT IT READS IS OF BULK AT MOST 1048576: true; the input reads as it did. -/
def timerBoundsUptoRow : OpenClaim := { program := "ytnnghceapkkklaa", sum := "64c36a9335f7becabb5afb8a98ed5e668cf9fd1ba061a69bb5439d8166ef0703", func := "spyglass/spyglasslaw22.TimerBounds", spec := "timerBounds", apart := false, narrowed := true }
def TimerBoundsUptoSaid : Prop := timerBoundsUptoRow.holds Try.pinned (OpenSpec.upto timerBoundsSpec)

/-- 'spyglasslaw22.TimerSteady', WHERE WHAT IT READS IS OF BULK AT MOST 1048576: true; the input reads as it did. -/
def timerSteadyUptoRow : OpenClaim := { program := "ytnnghceapkkklaa", sum := "64c36a9335f7becabb5afb8a98ed5e668cf9fd1ba061a69bb5439d8166ef0703", func := "spyglass/spyglasslaw22.TimerSteady", spec := "timerSteady", apart := false, narrowed := true }
def TimerSteadyUptoSaid : Prop := timerSteadyUptoRow.holds Try.pinned (OpenSpec.upto timerSteadySpec)

/-- 'spyglasslaw22.TimerSince', WHERE WHAT IT READS IS OF BULK AT MOST 1048576: true; the input reads as it did. -/
def timerSinceUptoRow : OpenClaim := { program := "ytnnghceapkkklaa", sum := "64c36a9335f7becabb5afb8a98ed5e668cf9fd1ba061a69bb5439d8166ef0703", func := "spyglass/spyglasslaw22.TimerSince", spec := "timerSince", apart := false, narrowed := true }
def TimerSinceUptoSaid : Prop := timerSinceUptoRow.holds Try.pinned (OpenSpec.upto timerSinceSpec)

end Rows
end Go.Proofs.Ytnnghceapkkklaa
