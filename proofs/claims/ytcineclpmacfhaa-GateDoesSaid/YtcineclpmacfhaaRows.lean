/-
  No cell of these rows narrows 'for every input' (looked for: loops, veiled, ifaces, maps, wideKeys, modest, calm, conditions, laid).
  DERIVED. THE GIVEN ROWS OF THIS SEAT. 3 by the template 'for every input the law returns true; each argument reads behind the call as it read before'; 0 by the template 'total and deterministic' (their statements: YtcineclpmacfhaaTotals.lean).
  GIVEN WITH THE SEED: the statements are not yours to turn. If you find one false, say at which input.
  Laid BY PROGRAM, IN A SANDBOX (cutbox-rows.mjs): the forced cells as the released guide's own fill.sh prints them over the translation f8130bc5a58625c1… (all of the seat's roots in one cut). By AI agents, Wed Nov 11 2026. No macro, syntax, notation, axiom, sorry.
-/
import Derived.Test.YtcineclpmacfhaaChecked
import GoSem.Claim
import GoSem.ClaimJoined
import GoSem.ClaimMapViews
import Derived.JoinedTies
import Derived.KernelRfl
namespace Go.Proofs.Ytcineclpmacfhaa
/- THE CELL 'sum', in the pinned program and in every row, IS THE sha256 OF THE DUMP (.gsa) THAT YtcineclpmacfhaaProg.lean LOADS. Nothing in Lean hashes anything: it is a label: what it is worth is what the hold of that sum in a sandbox is worth. -/
noncomputable def Try.pinned : Pinned := { name := "ytcineclpmacfhaa", sum := "f8130bc5a58625c1f345a65333ad25776d268c16fbaa0226ed1fa5d31710f1c1", checked := Try.checked }
namespace Rows
def none {H : Type} : Left H := { results := [], args := [] }

/-- 'echelonlaw21.GatePlans': WHATEVER THE INPUT: true; the input reads as it did. -/
def gatePlansSpec : ChangeSpec := { name := "gatePlans", fn := fun _ => fun
  | [d1, d2, d3, d4, d5, d6] => { results := [.lit (.bool true)], args := [d1, d2, d3, d4, d5, d6] }
  | _ => none }
def gatePlansRow : OpenClaim := { program := "ytcineclpmacfhaa", sum := "f8130bc5a58625c1f345a65333ad25776d268c16fbaa0226ed1fa5d31710f1c1", func := "echelon/echelonlaw21.GatePlans", spec := "gatePlans", apart := false }
def GatePlansSaid : Prop := gatePlansRow.holds Try.pinned (OpenSpec.ofChange gatePlansSpec)

/-- ITS FALSE NEIGHBOUR: 'it returns false'. Refute it at one input. -/
def gatePlansWrong : ChangeSpec := { name := "gatePlans", fn := fun _ => fun
  | [d1, d2, d3, d4, d5, d6] => { results := [.lit (.bool false)], args := [d1, d2, d3, d4, d5, d6] }
  | _ => none }
def GatePlansWrongFalsely : Prop := gatePlansRow.holds Try.pinned (OpenSpec.ofChange gatePlansWrong)

/-- 'echelonlaw21.GateLeast': WHATEVER THE INPUT: true; the input reads as it did. -/
def gateLeastSpec : ChangeSpec := { name := "gateLeast", fn := fun _ => fun
  | [d1, d2, d3] => { results := [.lit (.bool true)], args := [d1, d2, d3] }
  | _ => none }
def gateLeastRow : OpenClaim := { program := "ytcineclpmacfhaa", sum := "f8130bc5a58625c1f345a65333ad25776d268c16fbaa0226ed1fa5d31710f1c1", func := "echelon/echelonlaw21.GateLeast", spec := "gateLeast", apart := false }
def GateLeastSaid : Prop := gateLeastRow.holds Try.pinned (OpenSpec.ofChange gateLeastSpec)

/-- ITS FALSE NEIGHBOUR: 'it returns false'. Refute it at one input. -/
def gateLeastWrong : ChangeSpec := { name := "gateLeast", fn := fun _ => fun
  | [d1, d2, d3] => { results := [.lit (.bool false)], args := [d1, d2, d3] }
  | _ => none }
def GateLeastWrongFalsely : Prop := gateLeastRow.holds Try.pinned (OpenSpec.ofChange gateLeastWrong)

/-- 'echelonlaw21.GateDoes': WHATEVER THE INPUT: true; the input reads as it did. -/
def gateDoesSpec : ChangeSpec := { name := "gateDoes", fn := fun _ => fun
  | [d] => { results := [.lit (.bool true)], args := [d] }
  | _ => none }
def gateDoesRow : OpenClaim := { program := "ytcineclpmacfhaa", sum := "f8130bc5a58625c1f345a65333ad25776d268c16fbaa0226ed1fa5d31710f1c1", func := "echelon/echelonlaw21.GateDoes", spec := "gateDoes", apart := false }
def GateDoesSaid : Prop := gateDoesRow.holds Try.pinned (OpenSpec.ofChange gateDoesSpec)

/-- ITS FALSE NEIGHBOUR: 'it returns false'. Refute it at one input. -/
def gateDoesWrong : ChangeSpec := { name := "gateDoes", fn := fun _ => fun
  | [d] => { results := [.lit (.bool false)], args := [d] }
  | _ => none }
def GateDoesWrongFalsely : Prop := gateDoesRow.holds Try.pinned (OpenSpec.ofChange gateDoesWrong)

/- THE SECOND FORM. 'bulk': how many values and letters a reading holds, each counted each time it is reached (what is shared counts as often as it is met; a slice's spare places count too). A statement '..UptoSaid' is the law's where the arguments, and the package variables that the reading takes, are together of bulk at most 1048576: NARROWER than '..Said'. Prove '..Said' where nothing that the law and all that it calls make is longer than what came in: it says more and counts as full. Else prove '..UptoSaid'. A law counts once. -/
mutual
def uptoBulk {H : Type} : DataW H → Nat
  | .lit (.string bytes) => bytes.length + 1
  | .lit _ => 1
  | .nil => 1
  | .ptr d => uptoBulk d + 1
  | .slice elems spare => uptoBulkAll elems + uptoBulkAll spare + 1
  | .agg parts => uptoBulkAll parts + 1
  | .iface _ d => uptoBulk d + 1
  | .map entries => uptoBulkEntries entries + 1
  | .held _ => 1
def uptoBulkAll {H : Type} : List (DataW H) → Nat
  | [] => 0
  | d :: r => uptoBulk d + uptoBulkAll r
def uptoBulkEntries {H : Type} : List (Lit × DataW H) → Nat
  | [] => 0
  | x :: r => uptoBulkEntry x + uptoBulkEntries r
def uptoBulkEntry {H : Type} : Lit × DataW H → Nat
  | (.string bytes, d) => bytes.length + uptoBulk d + 1
  | (_, d) => uptoBulk d + 1
 end
def uptoSmall : (H : Type) → List (DataW H) → Bool := fun _ ds => decide (uptoBulkAll ds ≤ 1048576)
def OpenSpec.upto (s : _root_.Go.ChangeSpec) : _root_.Go.OpenSpec := { _root_.Go.OpenSpec.ofChange s with cond := some uptoSmall }

/-- 'echelonlaw21.GatePlans', WHERE WHAT IT READS IS OF BULK AT MOST 1048576: true; the input reads as it did. -/
def gatePlansUptoRow : OpenClaim := { program := "ytcineclpmacfhaa", sum := "f8130bc5a58625c1f345a65333ad25776d268c16fbaa0226ed1fa5d31710f1c1", func := "echelon/echelonlaw21.GatePlans", spec := "gatePlans", apart := false, narrowed := true }
def GatePlansUptoSaid : Prop := gatePlansUptoRow.holds Try.pinned (OpenSpec.upto gatePlansSpec)

/-- 'echelonlaw21.GateLeast', WHERE WHAT IT READS IS OF BULK AT MOST 1048576: true; the input reads as it did. -/
def gateLeastUptoRow : OpenClaim := { program := "ytcineclpmacfhaa", sum := "f8130bc5a58625c1f345a65333ad25776d268c16fbaa0226ed1fa5d31710f1c1", func := "echelon/echelonlaw21.GateLeast", spec := "gateLeast", apart := false, narrowed := true }
def GateLeastUptoSaid : Prop := gateLeastUptoRow.holds Try.pinned (OpenSpec.upto gateLeastSpec)

/-- 'echelonlaw21.GateDoes', WHERE WHAT IT READS IS OF BULK AT MOST 1048576: true; the input reads as it did. -/
def gateDoesUptoRow : OpenClaim := { program := "ytcineclpmacfhaa", sum := "f8130bc5a58625c1f345a65333ad25776d268c16fbaa0226ed1fa5d31710f1c1", func := "echelon/echelonlaw21.GateDoes", spec := "gateDoes", apart := false, narrowed := true }
def GateDoesUptoSaid : Prop := gateDoesUptoRow.holds Try.pinned (OpenSpec.upto gateDoesSpec)

end Rows
end Go.Proofs.Ytcineclpmacfhaa
