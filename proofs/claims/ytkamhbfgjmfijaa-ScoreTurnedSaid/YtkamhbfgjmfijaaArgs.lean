/-
  No statement is proved here: how arguments of a law (slices of structs) are opened to cells.
-/
import Derived.Test.YtkamhbfgjmfijaaLib
import Derived.Deep.Slices
import Derived.Deep.Fields
import Derived.ChangeSame
import Derived.OpenShut
import Derived.SizedLaws
namespace Go.Proofs.Ytkamhbfgjmfijaa
open Go.RowKit Go.ChangeShapes Go.WideShapes Go.Deep

section
variable {H : Type} {enc : TypeId × Value → H} {P : Program} {w : World} {base : Nat} {spare : Nat → Bool} {held : Bool}
theorem open_slice_fields {t e : TypeId} {fs : Array Field} {fuel : Nat} {cs : List Value} {x : DataW H × List MemPlace} (ht : P.underlying t = some (.slice e)) (he : P.underlying e = some (.struct fs))
    (hone : oneCellFields P fs = true) (hC : P.cellsOf e = fs.size) (h : DataW.trod enc P w base spare held fuel t cs = some x) :
    (cs = [.slice none 0 0] ∧ x = (.nil, [])) ∨
    ∃ (a : Addr) (len cap m : Nat) (D : Nat → DataW H) (Pl : Nat → List MemPlace), cs = [.slice (some a) len cap] ∧ base ≤ a.block ∧ len ≤ cap ∧ cap ≤ maxLen ∧ m = (if spare a.block then cap else len) ∧
      x = (.slice ((List.range len).map D) ((List.range (m - len)).map fun j => D (len + j)), MemPlace.row a (m * fs.size) ++ (List.range m).flatMap Pl) ∧
      ∀ i, i < m → ∃ (ys : List (DataW H × List MemPlace)) (n : Nat), D i = .agg (ys.map (·.1)) ∧ Pl i = ys.flatMap (·.2) ∧ ys.length = fs.size ∧
        ∀ (j : Nat) (f : Field), fs[j]? = some f → ∃ (v : Value) (y : DataW H × List MemPlace), w.cell? (a.add (i * fs.size + j)) = some v ∧ ys[j]? = some y ∧ DataW.trod enc P w base spare held n f.type [v] = some y := by
  rcases open_slice ht h with h0 | ⟨a, len, cap, m, n, D, Pl, hcs, hb, hl, hm, hmm, hx, hi⟩
  · exact .inl h0
  · refine .inr ⟨a, len, cap, m, D, Pl, hcs, hb, hl, hm, hmm, by rw [hC] at hx; exact hx, fun i him => ?_⟩
    obtain ⟨cs', hc, ht'⟩ := hi i him
    rw [hC] at hc
    obtain ⟨ys, n', hn', hy, hlen, hyl, hf⟩ := DataW.trod_struct he ht'
    obtain ⟨_, hcl, hat⟩ := World.cells?_some hc
    simp only [Prod.mk.injEq] at hy
    refine ⟨ys, n', hy.1, hy.2, hyl, fun j f hj => ?_⟩
    obtain ⟨ho, hk⟩ := hone_of hone j f hj
    have hjl : j < fs.size := (Array.getElem?_eq_some_iff.1 hj).1
    have hcell := hat j hjl
    have hv : cs'[j]? = some (cs'[j]'(by omega)) := List.getElem?_eq_getElem (by omega)
    have h1 := hf j f hj
    rw [ho, hk] at h1
    have hone' : (cs'.drop j).take 1 = [cs'[j]'(by omega)] := by
      rw [List.drop_eq_getElem_cons (by omega)]
      rfl
    rw [hone'] at h1
    have hys : ys[j]? = some (ys[j]'(by omega)) := List.getElem?_eq_getElem (by omega)
    refine ⟨_, _, ?_, hys, h1.trans hys⟩
    rw [← Go.Deep.add_add, hcell, hv]

/-- A slice of structs of k int64 fields: its fields' cells. -/
theorem open_int_structs (k : Nat) {t e : TypeId} {fs : Array Field} {fuel : Nat} {v : Value} {x : DataW H × List MemPlace} (ht : P.underlying t = some (.slice e)) (he : P.underlying e = some (.struct fs))
    (hone : oneCellFields P fs = true) (hC : P.cellsOf e = k) (hks : fs.size = k) (hi : ∀ (j : Nat) (f : Field), fs[j]? = some f → P.underlying f.type = some (.int .i64)) (h : DataW.trod enc P w base spare held fuel t v.cells.toList = some x)
    (hv : ∃ A n c, v = .slice A n c) :
    (v = .slice none 0 0 ∧ x.1 = .nil) ∨
    ∃ (a : Addr) (len cap : Nat) (elems sp : List (DataW H)) (X : Nat → Nat → Int), v = .slice (some a) len cap ∧ len ≤ cap ∧ cap ≤ maxLen ∧ x.1 = .slice elems sp ∧ elems.length = len ∧
      ∀ i, i < len → ∀ j, j < k → w.cell? (a.add (i * k + j)) = some (.int .i64 (X i j)) ∧ -9223372036854775808 ≤ X i j ∧ X i j ≤ 9223372036854775807 := by
  subst hks
  obtain ⟨A, n, c, rfl⟩ := hv
  rcases open_slice_fields ht he hone hC h with ⟨hcs, hx⟩ | ⟨a, len, cap, m, D, Pl, hcs, _, hl, hm, hmm, hx, hf⟩
  · simp only [Value.cells, List.cons.injEq, and_true] at hcs
    exact .inl ⟨hcs, by rw [hx]⟩
  · simp only [Value.cells, List.cons.injEq, and_true] at hcs
    have hlm : len ≤ m := by rw [hmm]; split <;> omega
    have key : ∀ i j, ∃ q : Int, i < len → j < fs.size → w.cell? (a.add (i * fs.size + j)) = some (.int .i64 q) ∧ -9223372036854775808 ≤ q ∧ q ≤ 9223372036854775807 := by
      intro i j
      by_cases h1 : i < len
      · by_cases h2 : j < fs.size
        · obtain ⟨ys, n', _, _, _, hy⟩ := hf i (by omega)
          obtain ⟨v, y, hc, _, ht'⟩ := hy j fs[j] (Array.getElem?_eq_getElem h2)
          obtain ⟨q, hq, _, hwf⟩ := DataW.trod_int (hi j fs[j] (Array.getElem?_eq_getElem h2)) ht'
          simp only [List.cons.injEq, and_true] at hq
          subst hq
          exact ⟨q, fun _ _ => ⟨hc, by simpa [Lit.wf, IntKind.min, IntKind.max, IntKind.signed, IntKind.bits] using hwf⟩⟩
        · exact ⟨0, fun _ h => absurd h h2⟩
      · exact ⟨0, fun h => absurd h h1⟩
    refine .inr ⟨a, len, cap, _, _, fun i j => Classical.choose (key i j), hcs, hl, hm, by rw [hx], by simp, fun i h1 j h2 => Classical.choose_spec (key i j) h1 h2⟩
end

theorem reads_of_fields {w : World} {a : Addr} {k n : Nat} {α : Type} (enc : α → List Value) (hk : ∀ x, (enc x).length = k) (hk0 : 0 < k) (l : List α) (hn : l.length = n)
    (h : ∀ i (hi : i < n) j, j < k → w.cell? (a.add (i * k + j)) = (enc (l[i]'(by omega)))[j]?) : Reads w w.heap.size k (some a) n (l.flatMap enc) := by
  refine ⟨by rw [flat_len enc k hk, hn], fun h0 => ⟨a, rfl, ?_, fun j u hu => ?_⟩⟩
  · have h1 := h 0 h0 0 hk0
    have hjl : 0 < (enc (l[0]'(by omega))).length := by rw [hk]; omega
    rw [List.getElem?_eq_getElem hjl] at h1
    have := World.block_lt_of_cell? w _ h1
    rwa [block_of_add] at this
  · have hj : j < n * k := by
      have := (List.getElem?_eq_some_iff.1 hu).1
      rwa [flat_len enc k hk, hn] at this
    have hd := Nat.div_add_mod j k
    have h2 : j / k < n := Nat.div_lt_of_lt_mul (by rw [Nat.mul_comm]; exact hj)
    have h3 : j % k < k := Nat.mod_lt _ hk0
    have h4 := h (j / k) h2 (j % k) h3
    have h5 := flat_get enc k hk l (j / k) (j % k) h3 (by omega)
    rw [show j / k * k + j % k = j from by rw [Nat.mul_comm]; exact hd] at h4 h5
    rw [h4, ← h5, hu]
theorem ops_of {α : Type} (n : Nat) (f : Nat → α) : ((List.range n).map f).length = n := by simp
end Go.Proofs.Ytkamhbfgjmfijaa
