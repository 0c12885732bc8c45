/-
  No statement is proved here: what two rankings have in common (plain lists).
-/
import Derived.Test.YtkamhbfgjmfijaaSf
namespace Go.Proofs.Ytkamhbfgjmfijaa
open Go.RowKit

/-- What counts in a ranking but for the seat. -/
def kle (a b : Sc) : Prop := b.p < a.p ∨ (a.p = b.p ∧ (a.o < b.o ∨ (a.o = b.o ∧ b.h ≤ a.h)))
def ksame (a b : Sc) : Prop := a.p = b.p ∧ a.o = b.o ∧ a.h = b.h
theorem kle_anti {a b : Sc} (h : kle a b) (k : kle b a) : ksame a b := by
  unfold kle ksame at *
  omega
theorem Ahd.kle {l : List Sc} {i k : Nat} (h : Ahd l i k) : kle (sl l i) (sl l k) := by
  unfold Ahd at h
  unfold Go.Proofs.Ytkamhbfgjmfijaa.kle
  omega
def key3 (s : Sc) : Int × Int × Int := (s.p, s.o, s.h)
def klt (a b : Int × Int × Int) : Prop := b.1 < a.1 ∨ (a.1 = b.1 ∧ (a.2.1 < b.2.1 ∨ (a.2.1 = b.2.1 ∧ b.2.2 ≤ a.2.2)))
theorem klt_anti {a b : Int × Int × Int} (h : klt a b) (k : klt b a) : a = b := by
  obtain ⟨a1, a2, a3⟩ := a
  obtain ⟨b1, b2, b3⟩ := b
  unfold klt at *
  simp only at *
  have h1 : a1 = b1 := by omega
  have h2 : a2 = b2 := by omega
  have h3 : a3 = b3 := by omega
  rw [h1, h2, h3]
theorem sorted_uniq : ∀ {a b : List (Int × Int × Int)}, a.Perm b → a.Pairwise klt → b.Pairwise klt → a = b := by
  intro a
  induction a with
  | nil => intro b h _ _; exact (List.nil_perm.1 h).symm
  | cons x a ih =>
    intro b h ha hb
    cases b with
    | nil => exact absurd h.length_eq (by simp)
    | cons y b =>
      have ha' := List.pairwise_cons.1 ha
      have hb' := List.pairwise_cons.1 hb
      have hxy : x = y := by
        rcases List.mem_cons.1 (h.mem_iff.1 (List.mem_cons_self ..)) with h1 | h1
        · exact h1
        · rcases List.mem_cons.1 (h.mem_iff.2 (List.mem_cons_self ..)) with h2 | h2
          · exact h2.symm
          · exact klt_anti (ha'.1 y h2) (hb'.1 x h1)
      subst hxy
      rw [ih h.cons_inv ha'.2 hb'.2]
theorem map_range {l : List Sc} : (List.range l.length).map (sl l) = l := by
  refine List.ext_getElem (by simp) fun i h1 h2 => ?_
  simp [sl, h2]
/-- A ranking's keys in order. -/
theorem rank_keys {l : List Sc} {zs : List Nat} (h : zs.Perm (List.range l.length)) (hp : zs.Pairwise (Ahd l)) : (zs.map fun i => key3 (sl l i)).Perm (l.map key3) ∧ (zs.map fun i => key3 (sl l i)).Pairwise klt := by
  constructor
  · have h1 := h.map (fun i => key3 (sl l i))
    have h2 : (List.range l.length).map (fun i => key3 (sl l i)) = l.map key3 := by
      have := congrArg (List.map key3) (map_range (l := l))
      rw [List.map_map] at this
      exact this
    rwa [h2] at h1
  · rw [List.pairwise_map]
    exact hp.imp fun {i k} h => (h.kle : klt (key3 (sl l i)) (key3 (sl l k)))
/-- Rankings of a list and of its like agree in keys. -/
theorem rank_like {l l' : List Sc} {zs zs' : List Nat} (hl : l.Perm l') (h : zs.Perm (List.range l.length)) (hp : zs.Pairwise (Ahd l)) (h' : zs'.Perm (List.range l'.length)) (hp' : zs'.Pairwise (Ahd l')) :
    (zs.map fun i => key3 (sl l i)) = zs'.map fun i => key3 (sl l' i) := by
  obtain ⟨a1, a2⟩ := rank_keys h hp
  obtain ⟨b1, b2⟩ := rank_keys h' hp'
  exact sorted_uniq (a1.trans ((hl.map key3).trans b1.symm)) a2 b2
theorem good_like {l l' : List Sc} (hl : l.Perm l') (h : good l) : good l' := by
  refine ⟨by rw [← hl.length_eq]; exact h.1, fun i hi => ?_⟩
  have hm : sl l' i ∈ l := hl.mem_iff.2 (by rw [sl_get hi]; exact List.getElem_mem hi)
  obtain ⟨j, hj, e⟩ := List.getElem_of_mem hm
  have := h.2 j hj
  rw [sl_get hj, e] at this
  exact this
end Go.Proofs.Ytkamhbfgjmfijaa
