/-
  No statement is proved here: what the shelf's sort leaves, in the words of owned rows.
-/
import Derived.Test.YtpjlfmaebkjojaaLib
import Derived.Shelf.SlSortCmp.WholeK
namespace Go.Proofs.Ytpjlfmaebkjojaa
open Go.RowKit Go.Sort Go.Shelf

section
variable {α : Type} [Inhabited α]
theorem flatK_list (enc : α → List Value) (k : Nat) (hk : ∀ x, (enc x).length = k) (d : Array α) : (flatK enc k d).toList = d.toList.flatMap enc := by
  apply List.ext_getElem?
  intro t
  by_cases ht : t < d.size * k
  · have hk0 : 0 < k := by
      rcases Nat.eq_zero_or_pos k with h | h
      · subst h; simp at ht
      · exact h
    have hq : t / k < d.size := Nat.div_lt_of_lt_mul (by rw [Nat.mul_comm]; exact ht)
    have hr : t % k < k := Nat.mod_lt _ hk0
    have h1 := flat_get enc k hk d.toList (t / k) (t % k) hr (by simpa using hq)
    rw [show t / k * k + t % k = t from by rw [Nat.mul_comm]; exact Nat.div_add_mod t k] at h1
    rw [h1, Array.getElem?_toList, Array.getElem?_eq_getElem (by simpa using ht)]
    have h2 := get_flatK enc k d t ht
    rw [getElem!_pos _ t (by simpa using ht), getElem!_pos d _ hq] at h2
    rw [h2, List.getElem?_eq_getElem (by rw [hk]; exact hr)]
    simp [getElem!_pos, hk, hr]
  · rw [List.getElem?_eq_none (by simp; omega), List.getElem?_eq_none (by rw [flat_len enc k hk]; simp; omega)]

theorem take_put (F cur : Array Value) (h : F.size ≤ cur.size) : (putCells id 0 F cur).toList.take F.size = F.toList := by
  apply List.ext_getElem?
  intro t
  unfold putCells
  rw [List.getElem?_take]
  by_cases ht : t < F.size
  · rw [if_pos ht, Array.getElem?_toList, Array.getElem?_mapIdx, Array.getElem?_eq_getElem (by omega)]
    simp [ht]
  · rw [if_neg ht, List.getElem?_eq_none (by simp; omega)]

theorem sorted_own {w : World} {base b n c k m : Nat} {e : TypeId} {xs : List Value} (enc : α → List Value) (hk : ∀ x, (enc x).length = k) (d' : Array α) (os : Array Obj)
    (hown : w.ownsRow base e k (.slice (some ⟨b, 0, none⟩) n c) n xs) (hn : d'.size = n) :
    (sortWorldK enc k w b 0 m d' os).ownsRow base e k (.slice (some ⟨b, 0, none⟩) n c) n (d'.toList.flatMap enc) ∧ Tch (fun j => j = b) w (sortWorldK enc k w b 0 m d' os) := by
  have hT : Tch (fun j => j = b) w (sortWorldK enc k w b 0 m d' os) := by
    refine ⟨rfl, rfl, rfl, ?_, fun j hj hne => ?_⟩
    · unfold sortWorldK grow putRowK putRow mapBlock Sort.ahead
      simp
    · unfold sortWorldK grow putRowK putRow mapBlock Sort.ahead
      simp only
      rw [Array.getElem?_append_left (by simpa using hj), Array.getElem?_modify, if_neg (fun h => hne h.symm)]
  refine ⟨⟨by rw [flat_len enc k hk, ← hn]; simp, ?_⟩, hT⟩
  rcases hown.2 with ⟨h, _⟩ | ⟨g, cap, cur, hv, hg, hh, h1, h2, h3, h4⟩
  · cases h
  · injection hv with a1 a2 a3
    injection a1 with a1
    injection a1 with a1
    subst a1 a3
    refine .inr ⟨b, c, putCells id 0 (flatK enc k d') cur, rfl, hg, ?_, h1, h2, ?_, ?_⟩
    · have hb : b < w.heap.size := (Array.getElem?_eq_some_iff.1 hh).1
      unfold sortWorldK grow putRowK putRow mapBlock Sort.ahead
      simp only
      rw [Array.getElem?_append_left (by simpa using hb), Array.getElem?_modify, if_pos rfl, hh]
      rfl
    · unfold putCells; simpa using h3
    · have hs : n * k ≤ cur.size := by rw [h3]; exact Nat.mul_le_mul_right _ h1
      have h5 := take_put (flatK enc k d') cur (by rw [size_flatK, hn]; exact hs)
      rw [size_flatK, hn] at h5
      rw [h5, flatK_list enc k hk]

theorem own_holds {w : World} {base b n c k : Nat} {e : TypeId} (enc : α → List Value) (hk : ∀ x, (enc x).length = k) (d : Array α) (hn : d.size = n) (h0 : 0 < n)
    (hown : w.ownsRow base e k (.slice (some ⟨b, 0, none⟩) n c) n (d.toList.flatMap enc)) : HoldsK enc k w b 0 d ∧ b < w.heap.size := by
  obtain ⟨g, cs, hg, _, _, _, hcs, ht, hb⟩ := Blk.of_own hown h0
  injection hg with hg
  injection hg with hg
  subst hg
  refine ⟨fun j hj => ?_, hb.lt⟩
  rw [size_flatK] at hj
  have h1 := congrArg (·[j]?) ht
  simp only [List.getElem?_take] at h1
  have e2 : (flatK enc k d)[j]? = some ((flatK enc k d)[j]'(by simpa using hj)) := Array.getElem?_eq_getElem _
  rw [if_pos (by rw [← hn]; exact hj), ← flatK_list enc k hk, Array.getElem?_toList, Array.getElem?_toList, e2] at h1
  refine ⟨?_, ?_⟩
  · rw [Nat.zero_add, hb.cell, h1, getElem!_pos _ j (by simpa using hj)]
    rfl
  · rw [Nat.zero_add]; exact hb.frozen j
theorem permIn_all {d d' : Array α} (h : PermIn 0 d.size d d') : d'.toList.Perm d.toList := by
  obtain ⟨h1, _, h3⟩ := h
  have e1 : d'.extract 0 d.size = d' := by rw [← h1]; simp
  have e2 : d.extract 0 d.size = d := by simp
  rwa [e1, e2] at h3
theorem sortedIn_all {lt : α → α → Bool} {d' : Array α} {n : Nat} (hn : d'.size = n) (h : SortedIn lt 0 n d') : d'.toList.Pairwise (fun x y => lt y x = false) := by
  rw [List.pairwise_iff_getElem]
  intro i j hi hj hij
  have := h i j (Nat.zero_le _) hij (by simpa [← hn] using hj)
  rw [getElem!_pos d' j (by simpa using hj), getElem!_pos d' i (by simpa using hi)] at this
  simpa using this
/-- New blocks and draws alone: in the sort's own words. -/
theorem grow_of {w w' : World} (ht : Tch None_ w w') (hd : w.drawn ≤ w'.drawn) : ∃ q os', w' = grow (w.drewN q) os' := by
  refine ⟨w'.drawn - w.drawn, w'.heap.extract w.heap.size w'.heap.size, ?_⟩
  obtain ⟨h1, h2, h3, h4, h5⟩ := ht
  have hh : w'.heap = w.heap ++ w'.heap.extract w.heap.size w'.heap.size := by
    apply Array.ext_getElem?
    intro k
    by_cases hk : k < w.heap.size
    · rw [Array.getElem?_append_left hk, h5 k hk (fun h => h)]
    · rw [Array.getElem?_append_right (by omega), Array.getElem?_extract]
      split
      · congr 1; omega
      · rw [Array.getElem?_eq_none (by omega)]
  unfold grow World.drewN
  cases w'
  simp only at h1 h2 h3 hh hd ⊢
  subst h1 h2 h3
  rw [← hh]
  congr 1
  omega
end
end Go.Proofs.Ytpjlfmaebkjojaa
