/-
  No statement is proved here: an argument that is a slice of entries.
-/
import Derived.Test.YtfdgkikgafojpaaFlat
import Derived.Test.YtfdgkikgafojpaaQt
namespace Go.Proofs.Ytfdgkikgafojpaa
open Go.RowKit Go.ChangeShapes Go.WideShapes Go.Deep

theorem cellsEnt : Try.prog.cellsOf 33 = 8 := by kernel_rfl
theorem bytesEnt : Try.prog.bytesOf 33 = 64 := by kernel_rfl
theorem intsOrder : IntsAt Try.prog 29 4 :=
  IntsAt.struct Try.underlying29 (by kernel_rfl) fun j hj => match j, hj with
    | 0, _ => ⟨0, _, 1, rfl, by kernel_rfl, IntsAt.int (by kernel_rfl), by decide, by decide⟩
    | 1, _ => ⟨1, _, 1, rfl, by kernel_rfl, IntsAt.int (by kernel_rfl), by decide, by decide⟩
    | 2, _ => ⟨2, _, 1, rfl, by kernel_rfl, IntsAt.int (by kernel_rfl), by decide, by decide⟩
    | 3, _ => ⟨3, _, 1, rfl, by kernel_rfl, IntsAt.int (by kernel_rfl), by decide, by decide⟩
theorem intsCommand : IntsAt Try.prog 31 7 :=
  IntsAt.struct Try.underlying31 (by kernel_rfl) fun j hj => match j, hj with
    | 0, _ => ⟨0, _, 1, rfl, by kernel_rfl, IntsAt.int (by kernel_rfl), by decide, by decide⟩
    | 1, _ => ⟨1, _, 1, rfl, by kernel_rfl, IntsAt.int (by kernel_rfl), by decide, by decide⟩
    | 2, _ => ⟨2, _, 1, rfl, by kernel_rfl, IntsAt.int (by kernel_rfl), by decide, by decide⟩
    | 3, _ => ⟨3, _, 4, rfl, by kernel_rfl, intsOrder, by decide, by decide⟩
    | 4, _ => ⟨3, _, 4, rfl, by kernel_rfl, intsOrder, by decide, by decide⟩
    | 5, _ => ⟨3, _, 4, rfl, by kernel_rfl, intsOrder, by decide, by decide⟩
    | 6, _ => ⟨3, _, 4, rfl, by kernel_rfl, intsOrder, by decide, by decide⟩
theorem intsEnt : IntsAt Try.prog 33 8 :=
  IntsAt.struct Try.underlying33 (by kernel_rfl) fun j hj => match j, hj with
    | 0, _ => ⟨0, _, 7, rfl, by kernel_rfl, intsCommand, by decide, by decide⟩
    | 1, _ => ⟨0, _, 7, rfl, by kernel_rfl, intsCommand, by decide, by decide⟩
    | 2, _ => ⟨0, _, 7, rfl, by kernel_rfl, intsCommand, by decide, by decide⟩
    | 3, _ => ⟨0, _, 7, rfl, by kernel_rfl, intsCommand, by decide, by decide⟩
    | 4, _ => ⟨0, _, 7, rfl, by kernel_rfl, intsCommand, by decide, by decide⟩
    | 5, _ => ⟨0, _, 7, rfl, by kernel_rfl, intsCommand, by decide, by decide⟩
    | 6, _ => ⟨0, _, 7, rfl, by kernel_rfl, intsCommand, by decide, by decide⟩
    | 7, _ => ⟨1, _, 1, rfl, by kernel_rfl, IntsAt.int (by kernel_rfl), by decide, by decide⟩

section
variable {H : Type} {enc : TypeId × Value → H} {w : World} {base : Nat} {spare : Nat → Bool} {held : Bool}
set_option maxRecDepth 100000 in
/-- An entry that came in. -/
theorem open_ent {r : Reach} {b0 : Nat} {v : Value} {fuel : Nat} {x : DataW H × List MemPlace} (hv : Value.okWide Try.prog w r b0 33 v) (h : DataW.trod enc Try.prog w base spare held fuel 33 v.cells.toList = some x) : ∃ e : Ent, v = e.val ∧ okK e.key := by
  obtain ⟨cs, rfl, hsz⟩ := okWide_struct Try.underlying33 hv
  rw [cellsEnt] at hsz
  obtain ⟨hl, hc⟩ := intsEnt h
  have hcs : (Value.agg cs).cells.toList = cs.toList := rfl
  rw [hcs] at hl hc
  obtain ⟨q0, e0, b0⟩ := hc 0 (by omega)
  obtain ⟨q1, e1, b1⟩ := hc 1 (by omega)
  obtain ⟨q2, e2, b2⟩ := hc 2 (by omega)
  obtain ⟨q3, e3, _⟩ := hc 3 (by omega)
  obtain ⟨q4, e4, _⟩ := hc 4 (by omega)
  obtain ⟨q5, e5, _⟩ := hc 5 (by omega)
  obtain ⟨q6, e6, _⟩ := hc 6 (by omega)
  obtain ⟨q7, e7, _⟩ := hc 7 (by omega)
  refine ⟨⟨q0, q1, q2, q3, q4, q5, q6, q7⟩, ?_, b0, b1, b2⟩
  unfold Ent.val
  congr 1
  rw [← Array.toArray_toList (xs := cs)]
  congr 1
  apply List.ext_getElem?
  intro j
  match j with
  | 0 => rw [e0]; rfl
  | 1 => rw [e1]; rfl
  | 2 => rw [e2]; rfl
  | 3 => rw [e3]; rfl
  | 4 => rw [e4]; rfl
  | 5 => rw [e5]; rfl
  | 6 => rw [e6]; rfl
  | 7 => rw [e7]; rfl
  | j + 8 => rw [List.getElem?_eq_none (by omega)]; rfl
/-- A slice of entries that came in. -/
theorem open_ents {fuel : Nat} {A : Option Addr} {n c : Nat} {x : DataW H × List MemPlace} (h : DataW.trod enc Try.prog w base spare held fuel 22 (Value.slice A n c).cells.toList = some x) :
    ∃ ents : List Ent, Reads w w.heap.size 8 A n (ents.flatMap Ent.cells) ∧ ents.length = n ∧ (∀ e ∈ ents, okK e.key) ∧ (n = 0 ∨ ∃ elems sp, x.1 = .slice elems sp ∧ elems.length = n) := by
  rcases open_flat_structs 8 Try.underlying22 cellsEnt intsEnt h ⟨_, _, _, rfl⟩ with ⟨hv, _⟩ | ⟨a, len, cap, elems, sp, X, hv, _, hm, hx, hel, hX⟩
  · injection hv with e1 e2 e3
    subst e1 e2 e3
    exact ⟨[], Reads.none_, rfl, by simp, .inl rfl⟩
  · injection hv with e1 e2 e3
    subst e1 e2 e3
    refine ⟨(List.range n).map fun i => ⟨X i 0, X i 1, X i 2, X i 3, X i 4, X i 5, X i 6, X i 7⟩, ?_, by simp, ?_, .inr ⟨elems, sp, hx, hel⟩⟩
    · refine reads_of_fields Ent.cells Ent.eight (by omega) _ (by simp) fun i hi j hj => ?_
      rw [(hX i hi j hj).1]
      match j, hj with
      | 0, _ | 1, _ | 2, _ | 3, _ | 4, _ | 5, _ | 6, _ | 7, _ => simp [Ent.cells]
    · intro e he
      obtain ⟨i, hi, rfl⟩ := List.mem_map.1 he
      have hi : i < n := by simpa using hi
      exact ⟨(hX i hi 0 (by omega)).2, (hX i hi 1 (by omega)).2, (hX i hi 2 (by omega)).2⟩
end
end Go.Proofs.Ytfdgkikgafojpaa
