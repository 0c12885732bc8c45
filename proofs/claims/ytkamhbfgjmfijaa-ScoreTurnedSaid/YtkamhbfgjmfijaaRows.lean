/-
  No cell of these rows narrows 'for every input' (looked for: loops, veiled, ifaces, maps, wideKeys, modest, calm, conditions, laid).
  DERIVED. THE GIVEN ROWS OF THIS SEAT. 4 by the template 'for every input the law returns true; each argument reads behind the call as it read before'; 0 by the template 'total and deterministic' (their statements: YtkamhbfgjmfijaaTotals.lean).
  GIVEN WITH THE SEED: the statements are not yours to turn. If you find one false, say at which input.
  Laid BY PROGRAM, IN A SANDBOX (cutbox-rows.mjs): the forced cells as the released guide's own fill.sh prints them over the translation 435ce46b7d969989… (all of the seat's roots in one cut). By AI agents, Wed Nov 11 2026. No macro, syntax, notation, axiom, sorry.
-/
import Derived.Test.YtkamhbfgjmfijaaChecked
import GoSem.Claim
import GoSem.ClaimJoined
import GoSem.ClaimMapViews
import Derived.JoinedTies
import Derived.KernelRfl
namespace Go.Proofs.Ytkamhbfgjmfijaa
/- THE CELL 'sum', in the pinned program and in every row, IS THE sha256 OF THE DUMP (.gsa) THAT YtkamhbfgjmfijaaProg.lean LOADS. Nothing in Lean hashes anything: it is a label: what it is worth is what the hold of that sum in a sandbox is worth. -/
noncomputable def Try.pinned : Pinned := { name := "ytkamhbfgjmfijaa", sum := "435ce46b7d969989a29657c3fb9bb259e6ebaba4ef9876dabe3ae29d30a63c3d", checked := Try.checked }
namespace Rows
def none {H : Type} : Left H := { results := [], args := [] }

/-- 'echelonlaw12.ScoreHits': WHATEVER THE INPUT: true; the input reads as it did. -/
def scoreHitsSpec : ChangeSpec := { name := "scoreHits", fn := fun _ => fun
  | [d1, d2, d3, d4] => { results := [.lit (.bool true)], args := [d1, d2, d3, d4] }
  | _ => none }
def scoreHitsRow : OpenClaim := { program := "ytkamhbfgjmfijaa", sum := "435ce46b7d969989a29657c3fb9bb259e6ebaba4ef9876dabe3ae29d30a63c3d", func := "echelon/echelonlaw12.ScoreHits", spec := "scoreHits", unfollowed := true, recurses := true, apart := false }
def ScoreHitsSaid : Prop := scoreHitsRow.holds Try.pinned (OpenSpec.ofChange scoreHitsSpec)

/-- ITS FALSE NEIGHBOUR: 'it returns false'. Refute it at one input. -/
def scoreHitsWrong : ChangeSpec := { name := "scoreHits", fn := fun _ => fun
  | [d1, d2, d3, d4] => { results := [.lit (.bool false)], args := [d1, d2, d3, d4] }
  | _ => none }
def ScoreHitsWrongFalsely : Prop := scoreHitsRow.holds Try.pinned (OpenSpec.ofChange scoreHitsWrong)

/-- 'echelonlaw12.ScoreRanks': WHATEVER THE INPUT: true; the input reads as it did. -/
def scoreRanksSpec : ChangeSpec := { name := "scoreRanks", fn := fun _ => fun
  | [d] => { results := [.lit (.bool true)], args := [d] }
  | _ => none }
def scoreRanksRow : OpenClaim := { program := "ytkamhbfgjmfijaa", sum := "435ce46b7d969989a29657c3fb9bb259e6ebaba4ef9876dabe3ae29d30a63c3d", func := "echelon/echelonlaw12.ScoreRanks", spec := "scoreRanks", unfollowed := true, recurses := true, apart := false }
def ScoreRanksSaid : Prop := scoreRanksRow.holds Try.pinned (OpenSpec.ofChange scoreRanksSpec)

/-- ITS FALSE NEIGHBOUR: 'it returns false'. Refute it at one input. -/
def scoreRanksWrong : ChangeSpec := { name := "scoreRanks", fn := fun _ => fun
  | [d] => { results := [.lit (.bool false)], args := [d] }
  | _ => none }
def ScoreRanksWrongFalsely : Prop := scoreRanksRow.holds Try.pinned (OpenSpec.ofChange scoreRanksWrong)

/-- 'echelonlaw12.ScoreGoes': WHATEVER THE INPUT: true; the input reads as it did. -/
def scoreGoesSpec : ChangeSpec := { name := "scoreGoes", fn := fun _ => fun
  | [d] => { results := [.lit (.bool true)], args := [d] }
  | _ => none }
def scoreGoesRow : OpenClaim := { program := "ytkamhbfgjmfijaa", sum := "435ce46b7d969989a29657c3fb9bb259e6ebaba4ef9876dabe3ae29d30a63c3d", func := "echelon/echelonlaw12.ScoreGoes", spec := "scoreGoes", unfollowed := true, recurses := true, apart := false }
def ScoreGoesSaid : Prop := scoreGoesRow.holds Try.pinned (OpenSpec.ofChange scoreGoesSpec)

/-- ITS FALSE NEIGHBOUR: 'it returns false'. Refute it at one input. -/
def scoreGoesWrong : ChangeSpec := { name := "scoreGoes", fn := fun _ => fun
  | [d] => { results := [.lit (.bool false)], args := [d] }
  | _ => none }
def ScoreGoesWrongFalsely : Prop := scoreGoesRow.holds Try.pinned (OpenSpec.ofChange scoreGoesWrong)

/-- 'echelonlaw12.ScoreTurned': WHATEVER THE INPUT: true; the input reads as it did. -/
def scoreTurnedSpec : ChangeSpec := { name := "scoreTurned", fn := fun _ => fun
  | [d] => { results := [.lit (.bool true)], args := [d] }
  | _ => none }
def scoreTurnedRow : OpenClaim := { program := "ytkamhbfgjmfijaa", sum := "435ce46b7d969989a29657c3fb9bb259e6ebaba4ef9876dabe3ae29d30a63c3d", func := "echelon/echelonlaw12.ScoreTurned", spec := "scoreTurned", unfollowed := true, recurses := true, apart := false }
def ScoreTurnedSaid : Prop := scoreTurnedRow.holds Try.pinned (OpenSpec.ofChange scoreTurnedSpec)

/-- ITS FALSE NEIGHBOUR: 'it returns false'. Refute it at one input. -/
def scoreTurnedWrong : ChangeSpec := { name := "scoreTurned", fn := fun _ => fun
  | [d] => { results := [.lit (.bool false)], args := [d] }
  | _ => none }
def ScoreTurnedWrongFalsely : Prop := scoreTurnedRow.holds Try.pinned (OpenSpec.ofChange scoreTurnedWrong)

/- THE SECOND FORM. 'bulk': how many values and letters a reading holds, each counted each time it is reached (what is shared counts as often as it is met; a slice's spare places count too). A statement '..UptoSaid' is the law's where the arguments, and the package variables that the reading takes, are together of bulk at most 1048576: NARROWER than '..Said'. Prove '..Said' where nothing that the law and all that it calls make is longer than what came in: it says more and counts as full. Else prove '..UptoSaid'. A law counts once. -/
mutual
def uptoBulk {H : Type} : DataW H → Nat
  | .lit (.string bytes) => bytes.length + 1
  | .lit _ => 1
  | .nil => 1
  | .ptr d => uptoBulk d + 1
  | .slice elems spare => uptoBulkAll elems + uptoBulkAll spare + 1
  | .agg parts => uptoBulkAll parts + 1
  | .iface _ d => uptoBulk d + 1
  | .map entries => uptoBulkEntries entries + 1
  | .held _ => 1
def uptoBulkAll {H : Type} : List (DataW H) → Nat
  | [] => 0
  | d :: r => uptoBulk d + uptoBulkAll r
def uptoBulkEntries {H : Type} : List (Lit × DataW H) → Nat
  | [] => 0
  | x :: r => uptoBulkEntry x + uptoBulkEntries r
def uptoBulkEntry {H : Type} : Lit × DataW H → Nat
  | (.string bytes, d) => bytes.length + uptoBulk d + 1
  | (_, d) => uptoBulk d + 1
 end
def uptoSmall : (H : Type) → List (DataW H) → Bool := fun _ ds => decide (uptoBulkAll ds ≤ 1048576)
def OpenSpec.upto (s : _root_.Go.ChangeSpec) : _root_.Go.OpenSpec := { _root_.Go.OpenSpec.ofChange s with cond := some uptoSmall }

/-- 'echelonlaw12.ScoreHits', WHERE WHAT IT READS IS OF BULK AT MOST 1048576: true; the input reads as it did. -/
def scoreHitsUptoRow : OpenClaim := { program := "ytkamhbfgjmfijaa", sum := "435ce46b7d969989a29657c3fb9bb259e6ebaba4ef9876dabe3ae29d30a63c3d", func := "echelon/echelonlaw12.ScoreHits", spec := "scoreHits", unfollowed := true, recurses := true, apart := false, narrowed := true }
def ScoreHitsUptoSaid : Prop := scoreHitsUptoRow.holds Try.pinned (OpenSpec.upto scoreHitsSpec)

/-- 'echelonlaw12.ScoreRanks', WHERE WHAT IT READS IS OF BULK AT MOST 1048576: true; the input reads as it did. -/
def scoreRanksUptoRow : OpenClaim := { program := "ytkamhbfgjmfijaa", sum := "435ce46b7d969989a29657c3fb9bb259e6ebaba4ef9876dabe3ae29d30a63c3d", func := "echelon/echelonlaw12.ScoreRanks", spec := "scoreRanks", unfollowed := true, recurses := true, apart := false, narrowed := true }
def ScoreRanksUptoSaid : Prop := scoreRanksUptoRow.holds Try.pinned (OpenSpec.upto scoreRanksSpec)

/-- 'echelonlaw12.ScoreGoes', WHERE WHAT IT READS IS OF BULK AT MOST 1048576: true; the input reads as it did. -/
def scoreGoesUptoRow : OpenClaim := { program := "ytkamhbfgjmfijaa", sum := "435ce46b7d969989a29657c3fb9bb259e6ebaba4ef9876dabe3ae29d30a63c3d", func := "echelon/echelonlaw12.ScoreGoes", spec := "scoreGoes", unfollowed := true, recurses := true, apart := false, narrowed := true }
def ScoreGoesUptoSaid : Prop := scoreGoesUptoRow.holds Try.pinned (OpenSpec.upto scoreGoesSpec)

/-- 'echelonlaw12.ScoreTurned', WHERE WHAT IT READS IS OF BULK AT MOST 1048576: true; the input reads as it did. -/
def scoreTurnedUptoRow : OpenClaim := { program := "ytkamhbfgjmfijaa", sum := "435ce46b7d969989a29657c3fb9bb259e6ebaba4ef9876dabe3ae29d30a63c3d", func := "echelon/echelonlaw12.ScoreTurned", spec := "scoreTurned", unfollowed := true, recurses := true, apart := false, narrowed := true }
def ScoreTurnedUptoSaid : Prop := scoreTurnedUptoRow.holds Try.pinned (OpenSpec.upto scoreTurnedSpec)

end Rows
end Go.Proofs.Ytkamhbfgjmfijaa
