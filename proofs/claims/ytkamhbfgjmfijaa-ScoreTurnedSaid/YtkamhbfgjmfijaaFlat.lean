/-
  No statement is proved here: how a slice of nested structs of integers, an argument of a law, is opened to cells.
-/
import Derived.Test.YtkamhbfgjmfijaaArgs
namespace Go.Proofs.Ytkamhbfgjmfijaa
open Go.RowKit Go.ChangeShapes Go.WideShapes Go.Deep

/-- What reads as data of type t is k cells, each an int64. -/
def IntsAt (P : Program) (t : TypeId) (k : Nat) : Prop := ∀ {H : Type} {enc : TypeId × Value → H} {w : World} {base : Nat} {spare : Nat → Bool} {held : Bool} {fuel : Nat} {cs : List Value} {x : DataW H × List MemPlace},
  DataW.trod enc P w base spare held fuel t cs = some x → cs.length = k ∧ ∀ j, j < k → ∃ q : Int, cs[j]? = some (.int .i64 q) ∧ -9223372036854775808 ≤ q ∧ q ≤ 9223372036854775807
theorem IntsAt.int {P : Program} {t : TypeId} (h : P.underlying t = some (.int .i64)) : IntsAt P t 1 := by
  intro H enc w base spare held fuel cs x hx
  obtain ⟨q, hq, _, hwf⟩ := DataW.trod_int h hx
  subst hq
  refine ⟨rfl, fun j hj => ⟨q, ?_, by simpa [Lit.wf, IntKind.min, IntKind.max, IntKind.signed, IntKind.bits] using hwf⟩⟩
  obtain rfl : j = 0 := by omega
  rfl
theorem IntsAt.struct {P : Program} {t : TypeId} {fs : Array Field} {k : Nat} (h : P.underlying t = some (.struct fs)) (hC : P.cellsOf t = k)
    (hf : ∀ j, j < k → ∃ (i : Nat) (f : Field) (m : Nat), fs[i]? = some f ∧ P.cellsOf f.type = m ∧ IntsAt P f.type m ∧ f.offset ≤ j ∧ j < f.offset + m) : IntsAt P t k := by
  intro H enc w base spare held fuel cs x hx
  obtain ⟨ys, n', _, _, hlen, hyl, hfs⟩ := DataW.trod_struct h hx
  rw [hC] at hlen
  refine ⟨hlen, fun j hj => ?_⟩
  obtain ⟨i, f, m, hi, hm, hI, h1, h2⟩ := hf j hj
  have h3 := hfs i f hi
  have hil : i < fs.size := (Array.getElem?_eq_some_iff.1 hi).1
  rw [List.getElem?_eq_getElem (show i < ys.length by omega), hm] at h3
  obtain ⟨h4, h5⟩ := hI h3
  obtain ⟨q, hq, hb⟩ := h5 (j - f.offset) (by omega)
  refine ⟨q, ?_, hb⟩
  rw [List.getElem?_take, if_pos (by omega), List.getElem?_drop, show f.offset + (j - f.offset) = j from by omega] at hq
  exact hq

section
variable {H : Type} {enc : TypeId × Value → H} {P : Program} {w : World} {base : Nat} {spare : Nat → Bool} {held : Bool}
theorem open_flat_structs (k : Nat) {t e : TypeId} {fuel : Nat} {v : Value} {x : DataW H × List MemPlace} (ht : P.underlying t = some (.slice e)) (hC : P.cellsOf e = k) (hI : IntsAt P e k) (h : DataW.trod enc P w base spare held fuel t v.cells.toList = some x)
    (hv : ∃ A n c, v = .slice A n c) :
    (v = .slice none 0 0 ∧ x.1 = .nil) ∨
    ∃ (a : Addr) (len cap : Nat) (elems sp : List (DataW H)) (X : Nat → Nat → Int), v = .slice (some a) len cap ∧ len ≤ cap ∧ cap ≤ maxLen ∧ x.1 = .slice elems sp ∧ elems.length = len ∧
      ∀ i, i < len → ∀ j, j < k → w.cell? (a.add (i * k + j)) = some (.int .i64 (X i j)) ∧ -9223372036854775808 ≤ X i j ∧ X i j ≤ 9223372036854775807 := by
  obtain ⟨A, n, c, rfl⟩ := hv
  rcases open_slice ht h with ⟨hcs, hx⟩ | ⟨a, len, cap, m, n', D, Pl, hcs, hb, hl, hm, hmm, hx, hi⟩
  · simp only [Value.cells, List.cons.injEq, and_true] at hcs
    exact .inl ⟨hcs, by rw [hx]⟩
  · simp only [Value.cells, List.cons.injEq, and_true] at hcs
    have hlm : len ≤ m := by rw [hmm]; split <;> omega
    have key : ∀ i j, ∃ q : Int, i < len → j < k → w.cell? (a.add (i * k + j)) = some (.int .i64 q) ∧ -9223372036854775808 ≤ q ∧ q ≤ 9223372036854775807 := by
      intro i j
      by_cases h1 : i < len
      · by_cases h2 : j < k
        · obtain ⟨cs', hc, ht'⟩ := hi i (by omega)
          rw [hC] at hc
          obtain ⟨h4, h5⟩ := hI ht'
          obtain ⟨_, hcl, hat⟩ := World.cells?_some hc
          obtain ⟨q, hq, hb'⟩ := h5 j h2
          refine ⟨q, fun _ _ => ⟨?_, hb'⟩⟩
          have hcell := hat j h2
          rw [← Go.Deep.add_add, hcell, hq]
        · exact ⟨0, fun _ h => absurd h h2⟩
      · exact ⟨0, fun h => absurd h h1⟩
    refine .inr ⟨a, len, cap, _, _, fun i j => Classical.choose (key i j), hcs, hl, hm, by rw [hx], by simp, fun i h1 j h2 => Classical.choose_spec (key i j) h1 h2⟩
end
end Go.Proofs.Ytkamhbfgjmfijaa
