/-
  No statement is proved here: the entries that QueueFills pushes (plain mathematics).
-/
import Derived.Test.YtfdgkikgafojpaaQt
namespace Go.Proofs.Ytfdgkikgafojpaa

def fillE (p i : Nat) : Ent := ⟨(i : Int) % 7, (p : Int) + i, 5, 0, 0, 0, 0, 0⟩
def fillL (p m : Nat) : List Ent := (List.range m).map (fillE p)
@[simp] theorem fillL_len (p m : Nat) : (fillL p m).length = m := by simp [fillL]
theorem fillL_succ (p m : Nat) : fillL p (m + 1) = fillL p m ++ [fillE p m] := by
  unfold fillL
  rw [List.range_succ, List.map_append]
  rfl
theorem fillE_key {p i j : Nat} (h : (fillE p i).key = (fillE p j).key) : i = j := by
  unfold fillE Ent.key at h
  simp only [Prod.mk.injEq] at h
  omega
theorem fillL_mem {p m : Nat} {x : Ent} (h : x ∈ fillL p m) : ∃ i, i < m ∧ x = fillE p i := by
  obtain ⟨i, hi, rfl⟩ := List.mem_map.1 h
  exact ⟨i, by simpa using hi, rfl⟩
theorem fillL_el {p m i : Nat} (h : i < m) : el (fillL p m) i = fillE p i := by
  rw [el_get (by simpa using h)]
  simp [fillL]
theorem fill_new {p m : Nat} {s : List Ent} (hp : s.Perm (fillL p m)) : (fillE p m).key ∉ s.map Ent.key := by
  intro h
  obtain ⟨x, hx, hk⟩ := List.mem_map.1 h
  obtain ⟨i, hi, rfl⟩ := fillL_mem (hp.mem_iff.1 hx)
  have := fillE_key hk
  omega
theorem fill_ok {p i : Nat} (hp : p < 1000) (hi : i < 4096) : okK (fillE p i).key := by
  unfold okK fillE Ent.key
  simp only
  omega
/-- The least one. -/
theorem fill_first {p m : Nat} {x : Ent} {s : List Ent} (hp : (x :: s).Perm (fillL p m)) (hs : SortedE (x :: s)) (hm : 0 < m) : x = fillE p 0 := by
  obtain ⟨i, hi, rfl⟩ := fillL_mem (hp.mem_iff.1 (List.mem_cons_self))
  have h0 : fillE p 0 ∈ fillE p i :: s := hp.mem_iff.2 (List.mem_map.2 ⟨0, by simpa using hm, rfl⟩)
  rcases List.mem_cons.1 h0 with h | h
  · exact h.symm
  · have := (List.pairwise_cons.1 hs).1 _ h
    unfold fillE Ent.lt at this
    simp only at this
    omega
end Go.Proofs.Ytfdgkikgafojpaa
