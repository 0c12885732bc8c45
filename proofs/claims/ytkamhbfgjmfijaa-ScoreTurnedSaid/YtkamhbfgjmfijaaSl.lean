/-
  No statement is proved here: an argument that is a slice of scores.
-/
import Derived.Test.YtkamhbfgjmfijaaFlat
import Derived.Test.YtkamhbfgjmfijaaSf
namespace Go.Proofs.Ytkamhbfgjmfijaa
open Go.RowKit Go.ChangeShapes Go.WideShapes Go.Deep

theorem cellsSc : Try.prog.cellsOf 23 = 4 := by kernel_rfl
theorem bytesSc : Try.prog.bytesOf 23 = 32 := by kernel_rfl
theorem intsSc : IntsAt Try.prog 23 4 :=
  IntsAt.struct Try.underlying23 (by kernel_rfl) fun j hj => match j, hj with
    | 0, _ => ⟨0, _, 1, rfl, by kernel_rfl, IntsAt.int (by kernel_rfl), by decide, by decide⟩
    | 1, _ => ⟨1, _, 1, rfl, by kernel_rfl, IntsAt.int (by kernel_rfl), by decide, by decide⟩
    | 2, _ => ⟨2, _, 1, rfl, by kernel_rfl, IntsAt.int (by kernel_rfl), by decide, by decide⟩
    | 3, _ => ⟨3, _, 1, rfl, by kernel_rfl, IntsAt.int (by kernel_rfl), by decide, by decide⟩
section
variable {H : Type} {enc : TypeId × Value → H} {w : World} {base : Nat} {spare : Nat → Bool} {held : Bool}
/-- A slice of scores that came in. -/
theorem open_scs {fuel : Nat} {A : Option Addr} {n c : Nat} {x : DataW H × List MemPlace} (h : DataW.trod enc Try.prog w base spare held fuel 32 (Value.slice A n c).cells.toList = some x) :
    ∃ l : List Sc, Reads w w.heap.size 4 A n (l.flatMap Sc.cells) ∧ l.length = n ∧ (n = 0 ∨ ∃ elems sp, x.1 = .slice elems sp ∧ elems.length = n) := by
  rcases open_flat_structs 4 Try.underlying32 cellsSc intsSc h ⟨_, _, _, rfl⟩ with ⟨hv, _⟩ | ⟨a, len, cap, elems, sp, X, hv, _, hm, hx, hel, hX⟩
  · injection hv with e1 e2 e3
    subst e1 e2 e3
    exact ⟨[], Reads.none_, rfl, .inl rfl⟩
  · injection hv with e1 e2 e3
    subst e1 e2 e3
    refine ⟨(List.range n).map fun i => ⟨X i 0, X i 1, X i 2, X i 3⟩, ?_, by simp, .inr ⟨elems, sp, hx, hel⟩⟩
    refine reads_of_fields Sc.cells Sc.four (by omega) _ (by simp) fun i hi j hj => ?_
    rw [(hX i hi j hj).1]
    match j, hj with
    | 0, _ | 1, _ | 2, _ | 3, _ => simp [Sc.cells]
end
end Go.Proofs.Ytkamhbfgjmfijaa
