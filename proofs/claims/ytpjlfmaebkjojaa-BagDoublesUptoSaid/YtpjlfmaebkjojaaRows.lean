/-
  No cell of these rows narrows 'for every input' (looked for: loops, veiled, ifaces, maps, wideKeys, modest, calm, conditions, laid).
  DERIVED. THE GIVEN ROWS OF THIS SEAT. 3 by the template 'for every input the law returns true; each argument reads behind the call as it read before'; 0 by the template 'total and deterministic' (their statements: YtpjlfmaebkjojaaTotals.lean).
  GIVEN WITH THE SEED: the statements are not yours to turn. If you find one false, say at which input.
  Laid BY PROGRAM, IN A SANDBOX (cutbox-rows.mjs): the forced cells as the released guide's own fill.sh prints them over the translation fd1e993a2a423cde… (all of the seat's roots in one cut). By AI agents, Wed Nov 11 2026. No macro, syntax, notation, axiom, sorry.
-/
import Derived.Test.YtpjlfmaebkjojaaChecked
import GoSem.Claim
import GoSem.ClaimJoined
import GoSem.ClaimMapViews
import Derived.JoinedTies
import Derived.KernelRfl
namespace Go.Proofs.Ytpjlfmaebkjojaa
/- THE CELL 'sum', in the pinned program and in every row, IS THE sha256 OF THE DUMP (.gsa) THAT YtpjlfmaebkjojaaProg.lean LOADS. Nothing in Lean hashes anything: it is a label: what it is worth is what the hold of that sum in a sandbox is worth. -/
noncomputable def Try.pinned : Pinned := { name := "ytpjlfmaebkjojaa", sum := "fd1e993a2a423cde82eab37acf7a701cf97ad2a6bd6dde4f258646edfc969777", checked := Try.checked }
namespace Rows
def none {H : Type} : Left H := { results := [], args := [] }

/-- 'echelonlaw17.BagBrings': WHATEVER THE INPUT: true; the input reads as it did. -/
def bagBringsSpec : ChangeSpec := { name := "bagBrings", fn := fun _ => fun
  | [d1, d2] => { results := [.lit (.bool true)], args := [d1, d2] }
  | _ => none }
def bagBringsRow : OpenClaim := { program := "ytpjlfmaebkjojaa", sum := "fd1e993a2a423cde82eab37acf7a701cf97ad2a6bd6dde4f258646edfc969777", func := "echelon/echelonlaw17.BagBrings", spec := "bagBrings", apart := false }
def BagBringsSaid : Prop := bagBringsRow.holds Try.pinned (OpenSpec.ofChange bagBringsSpec)

/-- ITS FALSE NEIGHBOUR: 'it returns false'. Refute it at one input. -/
def bagBringsWrong : ChangeSpec := { name := "bagBrings", fn := fun _ => fun
  | [d1, d2] => { results := [.lit (.bool false)], args := [d1, d2] }
  | _ => none }
def BagBringsWrongFalsely : Prop := bagBringsRow.holds Try.pinned (OpenSpec.ofChange bagBringsWrong)

/-- 'echelonlaw17.BagDoes': WHATEVER THE INPUT: true; the input reads as it did. -/
def bagDoesSpec : ChangeSpec := { name := "bagDoes", fn := fun _ => fun
  | [d] => { results := [.lit (.bool true)], args := [d] }
  | _ => none }
def bagDoesRow : OpenClaim := { program := "ytpjlfmaebkjojaa", sum := "fd1e993a2a423cde82eab37acf7a701cf97ad2a6bd6dde4f258646edfc969777", func := "echelon/echelonlaw17.BagDoes", spec := "bagDoes", unfollowed := true, recurses := true, apart := false }
def BagDoesSaid : Prop := bagDoesRow.holds Try.pinned (OpenSpec.ofChange bagDoesSpec)

/-- ITS FALSE NEIGHBOUR: 'it returns false'. Refute it at one input. -/
def bagDoesWrong : ChangeSpec := { name := "bagDoes", fn := fun _ => fun
  | [d] => { results := [.lit (.bool false)], args := [d] }
  | _ => none }
def BagDoesWrongFalsely : Prop := bagDoesRow.holds Try.pinned (OpenSpec.ofChange bagDoesWrong)

/-- 'echelonlaw17.BagDoubles': WHATEVER THE INPUT: true; the input reads as it did. -/
def bagDoublesSpec : ChangeSpec := { name := "bagDoubles", fn := fun _ => fun
  | [d1, d2, d3] => { results := [.lit (.bool true)], args := [d1, d2, d3] }
  | _ => none }
def bagDoublesRow : OpenClaim := { program := "ytpjlfmaebkjojaa", sum := "fd1e993a2a423cde82eab37acf7a701cf97ad2a6bd6dde4f258646edfc969777", func := "echelon/echelonlaw17.BagDoubles", spec := "bagDoubles", unfollowed := true, recurses := true, apart := false }
def BagDoublesSaid : Prop := bagDoublesRow.holds Try.pinned (OpenSpec.ofChange bagDoublesSpec)

/-- ITS FALSE NEIGHBOUR: 'it returns false'. Refute it at one input. -/
def bagDoublesWrong : ChangeSpec := { name := "bagDoubles", fn := fun _ => fun
  | [d1, d2, d3] => { results := [.lit (.bool false)], args := [d1, d2, d3] }
  | _ => none }
def BagDoublesWrongFalsely : Prop := bagDoublesRow.holds Try.pinned (OpenSpec.ofChange bagDoublesWrong)

/- THE SECOND FORM. 'bulk': how many values and letters a reading holds, each counted each time it is reached (what is shared counts as often as it is met; a slice's spare places count too). A statement '..UptoSaid' is the law's where the arguments, and the package variables that the reading takes, are together of bulk at most 1048576: NARROWER than '..Said'. Prove '..Said' where nothing that the law and all that it calls make is longer than what came in: it says more and counts as full. Else prove '..UptoSaid'. A law counts once. -/
mutual
def uptoBulk {H : Type} : DataW H → Nat
  | .lit (.string bytes) => bytes.length + 1
  | .lit _ => 1
  | .nil => 1
  | .ptr d => uptoBulk d + 1
  | .slice elems spare => uptoBulkAll elems + uptoBulkAll spare + 1
  | .agg parts => uptoBulkAll parts + 1
  | .iface _ d => uptoBulk d + 1
  | .map entries => uptoBulkEntries entries + 1
  | .held _ => 1
def uptoBulkAll {H : Type} : List (DataW H) → Nat
  | [] => 0
  | d :: r => uptoBulk d + uptoBulkAll r
def uptoBulkEntries {H : Type} : List (Lit × DataW H) → Nat
  | [] => 0
  | x :: r => uptoBulkEntry x + uptoBulkEntries r
def uptoBulkEntry {H : Type} : Lit × DataW H → Nat
  | (.string bytes, d) => bytes.length + uptoBulk d + 1
  | (_, d) => uptoBulk d + 1
 end
def uptoSmall : (H : Type) → List (DataW H) → Bool := fun _ ds => decide (uptoBulkAll ds ≤ 1048576)
def OpenSpec.upto (s : _root_.Go.ChangeSpec) : _root_.Go.OpenSpec := { _root_.Go.OpenSpec.ofChange s with cond := some uptoSmall }

/-- 'echelonlaw17.BagBrings', WHERE WHAT IT READS IS OF BULK AT MOST 1048576: true; the input reads as it did. -/
def bagBringsUptoRow : OpenClaim := { program := "ytpjlfmaebkjojaa", sum := "fd1e993a2a423cde82eab37acf7a701cf97ad2a6bd6dde4f258646edfc969777", func := "echelon/echelonlaw17.BagBrings", spec := "bagBrings", apart := false, narrowed := true }
def BagBringsUptoSaid : Prop := bagBringsUptoRow.holds Try.pinned (OpenSpec.upto bagBringsSpec)

/-- 'echelonlaw17.BagDoes', WHERE WHAT IT READS IS OF BULK AT MOST 1048576: true; the input reads as it did. -/
def bagDoesUptoRow : OpenClaim := { program := "ytpjlfmaebkjojaa", sum := "fd1e993a2a423cde82eab37acf7a701cf97ad2a6bd6dde4f258646edfc969777", func := "echelon/echelonlaw17.BagDoes", spec := "bagDoes", unfollowed := true, recurses := true, apart := false, narrowed := true }
def BagDoesUptoSaid : Prop := bagDoesUptoRow.holds Try.pinned (OpenSpec.upto bagDoesSpec)

/-- 'echelonlaw17.BagDoubles', WHERE WHAT IT READS IS OF BULK AT MOST 1048576: true; the input reads as it did. -/
def bagDoublesUptoRow : OpenClaim := { program := "ytpjlfmaebkjojaa", sum := "fd1e993a2a423cde82eab37acf7a701cf97ad2a6bd6dde4f258646edfc969777", func := "echelon/echelonlaw17.BagDoubles", spec := "bagDoubles", unfollowed := true, recurses := true, apart := false, narrowed := true }
def BagDoublesUptoSaid : Prop := bagDoublesUptoRow.holds Try.pinned (OpenSpec.upto bagDoublesSpec)

end Rows
end Go.Proofs.Ytpjlfmaebkjojaa
