/-
  No statement is proved here: entries, their order, heaps in lists (plain mathematics, no program).
-/
namespace Go.Proofs.Ytfdgkikgafojpaa

/-- An entry: a command's frame, peer, number, verb and operands; who missed it. -/
structure Ent where
  fr : Int
  pe : Int
  sq : Int
  vb : Int
  a : Int
  b : Int
  c : Int
  ms : Int
instance entInh : Inhabited Ent := ⟨⟨0, 0, 0, 0, 0, 0, 0, 0⟩⟩
def Ent.lt (x y : Ent) : Prop := x.fr < y.fr ∨ (x.fr = y.fr ∧ (x.pe < y.pe ∨ (x.pe = y.pe ∧ x.sq < y.sq)))
instance entLt (x y : Ent) : Decidable (x.lt y) := by unfold Ent.lt; exact inferInstance
def Ent.le (x y : Ent) : Prop := ¬ y.lt x
def Ent.key (x : Ent) : Int × Int × Int := (x.fr, x.pe, x.sq)
/-- The order's answer. -/
def Ent.ord (x y : Ent) : Int := if x.fr < y.fr then -1 else if y.fr < x.fr then 1 else if x.pe < y.pe then -1 else if y.pe < x.pe then 1 else if x.sq < y.sq then -1 else if y.sq < x.sq then 1 else 0
theorem Ent.ord_lt (x y : Ent) : x.ord y < 0 ↔ x.lt y := by
  unfold Ent.ord Ent.lt
  repeat' split
  all_goals omega
theorem Ent.ord_zero (x y : Ent) : x.ord y = 0 ↔ x.key = y.key := by
  unfold Ent.ord Ent.key
  simp only [Prod.mk.injEq]
  repeat' split
  all_goals omega
theorem Ent.le_refl (x : Ent) : x.le x := by unfold Ent.le Ent.lt; omega
theorem Ent.le_trans {x y z : Ent} (h : x.le y) (k : y.le z) : x.le z := by unfold Ent.le Ent.lt at *; omega
theorem Ent.lt_le {x y : Ent} (h : x.lt y) : x.le y := by unfold Ent.le Ent.lt at *; omega
theorem Ent.lt_trans {x y z : Ent} (h : x.lt y) (k : y.lt z) : x.lt z := by unfold Ent.lt at *; omega
theorem Ent.le_total (x y : Ent) : x.le y ∨ y.le x := by unfold Ent.le Ent.lt at *; omega
theorem Ent.le_key {x y : Ent} (h : x.le y) (k : y.le x) : x.key = y.key := by
  unfold Ent.le Ent.lt at *
  unfold Ent.key
  simp only [Prod.mk.injEq]
  omega
theorem Ent.lt_of_le {x y : Ent} (h : x.le y) (k : x.key ≠ y.key) : x.lt y := by
  unfold Ent.le Ent.lt at *
  unfold Ent.key at k
  simp only [Prod.mk.injEq, ne_eq] at k
  omega
theorem Ent.key_of_lt {x y : Ent} (h : x.lt y) : x.key ≠ y.key := by
  unfold Ent.lt at h
  unfold Ent.key
  simp only [Prod.mk.injEq, ne_eq]
  omega
theorem Ent.irrefl (x : Ent) : ¬ x.lt x := by unfold Ent.lt; omega

def el (l : List Ent) (i : Nat) : Ent := l.getD i default
theorem el_get {l : List Ent} {i : Nat} (h : i < l.length) : el l i = l[i] := by simp [el, h]
theorem el_mem {l : List Ent} {i : Nat} (h : i < l.length) : el l i ∈ l := by rw [el_get h]; exact List.getElem_mem h
def swapL (l : List Ent) (i j : Nat) : List Ent := (l.set i (el l j)).set j (el l i)
@[simp] theorem len_swapL (l : List Ent) (i j : Nat) : (swapL l i j).length = l.length := by simp [swapL]
theorem el_swapL {l : List Ent} {i j : Nat} (hi : i < l.length) (hj : j < l.length) (k : Nat) : el (swapL l i j) k = if k = j then el l i else if k = i then el l j else el l k := by
  unfold swapL el
  simp only [List.getD_eq_getElem?_getD, List.getElem?_set]
  by_cases h1 : k = j
  · subst h1
    simp [hj]
  · by_cases h2 : k = i
    · subst h2
      simp [h1, hi, Ne.symm h1]
    · simp [h1, h2, Ne.symm h1, Ne.symm h2]
theorem perm_swapL {l : List Ent} {i j : Nat} (hi : i < l.length) (hj : j < l.length) : (swapL l i j).Perm l := by
  unfold swapL
  rw [el_get hi, el_get hj]
  exact List.set_set_perm hi hj

def Heap (l : List Ent) : Prop := ∀ i, 0 < i → i < l.length → (el l ((i - 1) / 2)).le (el l i)
/-- A heap but at place j, which may be too low down. -/
structure UpInv (l : List Ent) (j : Nat) : Prop where
  lt : j < l.length
  ok : ∀ i, 0 < i → i < l.length → i ≠ j → (el l ((i - 1) / 2)).le (el l i)
  kid : ∀ i, 0 < i → i < l.length → (i - 1) / 2 = j → 0 < j → (el l ((j - 1) / 2)).le (el l i)
theorem UpInv.start {l : List Ent} (h : Heap l) (e : Ent) : UpInv (l ++ [e]) l.length := by
  have hel : ∀ i, i < l.length → el (l ++ [e]) i = el l i := fun i hi => by simp [el, List.getD_eq_getElem?_getD, List.getElem?_append_left hi]
  refine ⟨by simp, fun i h0 h1 h2 => ?_, fun i h0 h1 h2 h3 => ?_⟩
  · simp at h1
    rw [hel i (by omega), hel _ (by omega)]
    exact h i h0 (by omega)
  · simp at h1
    omega
theorem UpInv.step {l : List Ent} {j : Nat} (h : UpInv l j) (h0 : 0 < j) (hlt : (el l j).lt (el l ((j - 1) / 2))) : UpInv (swapL l ((j - 1) / 2) j) ((j - 1) / 2) := by
  have hj := h.lt
  have hp : (j - 1) / 2 < l.length := by omega
  refine ⟨by simpa using hp, fun i i0 i1 i2 => ?_, fun i i0 i1 i2 i3 => ?_⟩
  · simp at i1
    rw [el_swapL hp hj, el_swapL hp hj]
    by_cases a1 : i = j
    · subst a1
      rw [if_neg (by omega), if_pos rfl, if_pos rfl]
      exact Ent.lt_le hlt
    · rw [if_neg a1, if_neg i2]
      by_cases a2 : (i - 1) / 2 = j
      · rw [if_pos a2]
        exact h.kid i i0 i1 a2 h0
      · rw [if_neg a2]
        by_cases a3 : (i - 1) / 2 = (j - 1) / 2
        · rw [if_pos a3]
          refine Ent.le_trans (Ent.lt_le hlt) ?_
          have := h.ok i i0 i1 a1
          rwa [a3] at this
        · rw [if_neg a3]
          exact h.ok i i0 i1 a1
  · simp at i1
    rw [el_swapL hp hj, el_swapL hp hj]
    rw [if_neg (by omega), if_neg (by omega)]
    have hpp := h.ok ((j - 1) / 2) i3 hp (by omega)
    by_cases a1 : i = j
    · rw [if_pos a1]
      exact hpp
    · rw [if_neg a1, if_neg (by omega)]
      refine Ent.le_trans hpp ?_
      have := h.ok i i0 i1 a1
      rwa [i2] at this
theorem UpInv.done {l : List Ent} {j : Nat} (h : UpInv l j) (hd : 0 < j → ¬ (el l j).lt (el l ((j - 1) / 2))) : Heap l := by
  intro i i0 i1
  by_cases a1 : i = j
  · subst a1
    exact hd i0
  · exact h.ok i i0 i1 a1

/-- The first n are a heap but at place i, which may be too high up. -/
structure DownInv (l : List Ent) (n i : Nat) : Prop where
  len : n ≤ l.length
  ok : ∀ k, 0 < k → k < n → (k - 1) / 2 ≠ i → (el l ((k - 1) / 2)).le (el l k)
  kid : ∀ k, 0 < k → k < n → (k - 1) / 2 = i → 0 < i → (el l ((i - 1) / 2)).le (el l k)
theorem DownInv.start {l : List Ent} {n : Nat} (h : Heap l) (hn : n + 1 = l.length) : DownInv (swapL l 0 n) n 0 := by
  refine ⟨by simp; omega, fun k k0 k1 k2 => ?_, fun k k0 k1 k2 k3 => by omega⟩
  rw [el_swapL (by omega) (by omega), el_swapL (by omega) (by omega), if_neg (by omega), if_neg (by omega), if_neg (by omega), if_neg (by omega)]
  exact h k k0 (by omega)
theorem DownInv.step {l : List Ent} {n i j : Nat} (h : DownInv l n i) (hj : j < n) (hij : (j - 1) / 2 = i) (j0 : 0 < j) (hmin : ∀ k, 0 < k → k < n → (k - 1) / 2 = i → (el l j).le (el l k)) (hlt : (el l j).lt (el l i)) : DownInv (swapL l i j) n j := by
  have hl := h.len
  have hi : i < l.length := by omega
  have hj' : j < l.length := by omega
  refine ⟨by simpa using hl, fun k k0 k1 k2 => ?_, fun k k0 k1 k2 k3 => ?_⟩
  · rw [el_swapL hi hj', el_swapL hi hj', if_neg k2]
    by_cases a1 : k = j
    · subst a1
      rw [if_pos hij, if_pos rfl]
      exact Ent.lt_le hlt
    · by_cases a2 : (k - 1) / 2 = i
      · rw [if_pos a2, if_neg a1, if_neg (by omega)]
        exact hmin k k0 k1 a2
      · rw [if_neg a2, if_neg a1]
        by_cases a3 : k = i
        · rw [if_pos a3]
          have := h.kid j j0 hj hij (by omega)
          rw [a3]
          exact this
        · rw [if_neg a3]
          exact h.ok k k0 k1 a2
  · rw [el_swapL hi hj', el_swapL hi hj', hij, if_neg (by omega), if_pos rfl, if_neg (by omega), if_neg (by omega)]
    have := h.ok k k0 k1 (by omega)
    rwa [k2] at this
theorem DownInv.done {l : List Ent} {n i : Nat} (h : DownInv l n i) (hd : ∀ k, 0 < k → k < n → (k - 1) / 2 = i → (el l i).le (el l k)) : Heap (l.take n) := by
  have hl := h.len
  have hel : ∀ k, k < n → el (l.take n) k = el l k := fun k hk => by simp [el, List.getD_eq_getElem?_getD, hk]
  intro k k0 k1
  simp at k1
  rw [hel k (by omega), hel _ (by omega)]
  by_cases a1 : (k - 1) / 2 = i
  · rw [a1]; exact hd k k0 (by omega) a1
  · exact h.ok k k0 (by omega) a1
theorem Heap.root {l : List Ent} (h : Heap l) : ∀ k, k < l.length → (el l 0).le (el l k) := by
  intro k
  induction k using Nat.strongRecOn with
  | ind k ih =>
    intro hk
    rcases Nat.eq_zero_or_pos k with h0 | h0
    · subst h0; exact Ent.le_refl _
    · exact Ent.le_trans (ih ((k - 1) / 2) (by omega) (by omega)) (h k h0 hk)
theorem Heap.min {l : List Ent} (h : Heap l) : ∀ x ∈ l, (el l 0).le x := by
  intro x hx
  obtain ⟨k, hk, rfl⟩ := List.getElem_of_mem hx
  rw [← el_get hk]
  exact h.root k hk
theorem Heap.nil : Heap [] := fun i _ h => by simp at h

theorem take_last {l : List Ent} {n : Nat} (hn : n + 1 = l.length) : l = l.take n ++ [el l n] := by
  rw [el_get (by omega)]
  conv => lhs; rw [← List.take_append_drop n l]
  rw [List.drop_eq_getElem_cons (by omega), List.drop_eq_nil_of_le (by omega)]

/-- No two have one key. -/
def Keys1 (l : List Ent) : Prop := (l.map Ent.key).Nodup
theorem Keys1.perm {l l' : List Ent} (h : Keys1 l) (p : l.Perm l') : Keys1 l' := (p.map Ent.key).nodup_iff.1 h
theorem Keys1.inj {l : List Ent} (h : Keys1 l) {x y : Ent} (hx : x ∈ l) (hy : y ∈ l) (e : x.key = y.key) : x = y := by
  unfold Keys1 at h
  induction l with
  | nil => cases hx
  | cons a l ih =>
    simp only [List.map_cons, List.nodup_cons] at h
    rcases List.mem_cons.1 hx with hx' | hx' <;> rcases List.mem_cons.1 hy with hy' | hy'
    · rw [hx', hy']
    · exact absurd (List.mem_map.2 ⟨y, hy', by rw [← e, hx']⟩) h.1
    · exact absurd (List.mem_map.2 ⟨x, hx', by rw [e, hy']⟩) h.1
    · exact ih h.2 hx' hy'
def SortedE (l : List Ent) : Prop := l.Pairwise Ent.lt
theorem SortedE.keys {l : List Ent} (h : SortedE l) : Keys1 l := by
  unfold Keys1 List.Nodup
  rw [List.pairwise_map]
  exact h.imp fun hlt => Ent.key_of_lt hlt
/-- The least of a heap is the first of the same entries in order. -/
theorem Heap.first {l s : List Ent} {x : Ent} (h : Heap l) (p : l.Perm (x :: s)) (hs : SortedE (x :: s)) : el l 0 = x := by
  have hl : 0 < l.length := by rw [p.length_eq]; simp
  have hk : Keys1 l := (hs.keys).perm p.symm
  have hx : x ∈ l := p.mem_iff.2 (by simp)
  have h0 := el_mem hl
  have h1 := h.min x hx
  have h2 : x.le (el l 0) := by
    rcases List.mem_cons.1 (p.mem_iff.1 h0) with e | e
    · rw [e]; exact Ent.le_refl _
    · exact Ent.lt_le ((List.pairwise_cons.1 hs).1 _ e)
  exact hk.inj h0 hx (Ent.le_key h1 h2)
/-- Two lists in order of the same entries are one. -/
theorem SortedE.uniq {l s : List Ent} (hl : SortedE l) (hs : SortedE s) (p : l.Perm s) : l = s := by
  induction l generalizing s with
  | nil => exact (List.nil_perm.1 p).symm
  | cons x l ih =>
    cases s with
    | nil => exact absurd p.length_eq (by simp)
    | cons y s =>
      have hx : x = y := by
        rcases List.mem_cons.1 (p.mem_iff.1 (List.mem_cons_self)) with e | e
        · exact e
        · rcases List.mem_cons.1 (p.mem_iff.2 (List.mem_cons_self (a := y) (l := s))) with e' | e'
          · exact e'.symm
          · have h1 := (List.pairwise_cons.1 hs).1 x e
            have h2 := (List.pairwise_cons.1 hl).1 y e'
            exact absurd (Ent.lt_trans h1 h2) (Ent.irrefl _)
      subst hx
      rw [ih (List.pairwise_cons.1 hl).2 (List.pairwise_cons.1 hs).2 (p.cons_inv)]
end Go.Proofs.Ytfdgkikgafojpaa
