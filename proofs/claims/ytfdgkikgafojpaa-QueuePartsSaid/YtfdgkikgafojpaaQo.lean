/-
  No statement is proved here: a queue told by its entries in order: New, Len, Push, Pop.
-/
import Derived.Test.YtfdgkikgafojpaaQn
namespace Go.Proofs.Ytfdgkikgafojpaa
open Go.RowKit Go.Maps

def ins (e : Ent) : List Ent → List Ent
  | [] => [e]
  | x :: s => if x.lt e then x :: ins e s else e :: x :: s
theorem ins_perm (e : Ent) (s : List Ent) : (ins e s).Perm (e :: s) := by
  induction s with
  | nil => exact List.Perm.refl _
  | cons x s ih =>
    unfold ins
    split
    · exact (ih.cons x).trans (List.Perm.swap e x s)
    · exact List.Perm.refl _
theorem ins_sorted (e : Ent) (s : List Ent) (h : SortedE s) (hk : e.key ∉ s.map Ent.key) : SortedE (ins e s) := by
  induction s with
  | nil => exact List.pairwise_singleton _ _
  | cons x s ih =>
    have h' := List.pairwise_cons.1 h
    simp only [List.map_cons, List.mem_cons, not_or] at hk
    unfold ins
    split
    · rename_i hlt
      refine List.pairwise_cons.2 ⟨fun y hy => ?_, ih h'.2 hk.2⟩
      rcases List.mem_cons.1 ((ins_perm e s).mem_iff.1 hy) with rfl | hy
      · exact hlt
      · exact h'.1 y hy
    · rename_i hlt
      have hex : e.lt x := Ent.lt_of_le hlt hk.1
      refine List.pairwise_cons.2 ⟨fun y hy => ?_, h⟩
      rcases List.mem_cons.1 hy with rfl | hy
      · exact hex
      · exact Ent.lt_trans hex (h'.1 y hy)

/-- A queue in memory; s: its entries in order. -/
structure QS (w : World) (g mb : Nat) (v : Value) (s : List Ent) : Prop where
  ex : ∃ l, QAt w g mb v l ∧ l.Perm s
  up : SortedE s
section
variable {w w' : World} {g mb : Nat} {v : Value} {s : List Ent}
theorem QS.tch {S : Nat → Prop} (h : QS w g mb v s) (ht : Tch S w w') (h1 : ¬ S g) (h2 : ¬ S mb) (h3 : ∀ k, v.ownBlock = some k → ¬ S k) : QS w' g mb v s := by
  obtain ⟨l, hq, hp⟩ := h.ex
  exact ⟨⟨l, hq.tch ht h1 h2 h3, hp⟩, h.up⟩
theorem QS.keep (h : QS w g mb v s) (ht : Tch None_ w w') : QS w' g mb v s := h.tch ht (fun h => h) (fun h => h) (fun _ _ h => h)
theorem QS.mlt (h : QS w g mb v s) : mb < w.heap.size := by obtain ⟨l, hq, hp⟩ := h.ex; exact hq.mlt
theorem QS.glt (h : QS w g mb v s) : g < w.heap.size := by obtain ⟨l, hq, hp⟩ := h.ex; exact hq.glt
theorem QS.vlt (h : QS w g mb v s) : ∀ k, v.ownBlock = some k → k < w.heap.size := by obtain ⟨l, hq, hp⟩ := h.ex; exact hq.vlt
theorem QS.len (h : QS w g mb v s) : s.length ≤ 4096 := by obtain ⟨l, hq, hp⟩ := h.ex; rw [← hp.length_eq]; exact hq.len
theorem QS.ok (h : QS w g mb v s) : ∀ e ∈ s, okK e.key := by obtain ⟨l, hq, hp⟩ := h.ex; exact fun e he => hq.ok e (hp.mem_iff.2 he)
end
/-- What a call on the queue may turn. -/
def QTch (g mb : Nat) (v : Value) : Nat → Prop := fun k => (k = g ∨ k = mb) ∨ v.ownBlock = some k

theorem QsNew (w : World) : Calls Try.prog 8 #[] w fun x w' => ∃ g mb, x = .returned (.pointer (some ⟨g, 0, none⟩)) ∧ QS w' g mb (.slice none 0 0) [] ∧ w.heap.size ≤ g ∧ w.heap.size ≤ mb ∧ Tch None_ w w' :=
  (QNew_any w).mono fun _ _ ⟨g, mb, h1, h2, h3⟩ => ⟨g, mb, h1, ⟨⟨[], h2, List.Perm.refl _⟩, List.Pairwise.nil⟩, h3⟩
theorem QsLen (g mb : Nat) (v : Value) (s : List Ent) (w : World) (h : QS w g mb v s) :
    Calls Try.prog 10 #[.pointer (some ⟨g, 0, none⟩)] w fun e w' => e = .returned (.int .i64 s.length) ∧ w = w' := by
  obtain ⟨l, hq, hp⟩ := h.ex
  rw [← hp.length_eq]
  exact QLen_any g mb v l w hq
theorem QsPush_twice (g mb : Nat) (v : Value) (s : List Ent) (e : Ent) (w : World) (h : QS w g mb v s) (he : okK e.key) (hmem : e.key ∈ s.map Ent.key) :
    Calls Try.prog 9 #[.pointer (some ⟨g, 0, none⟩), e.val] w fun x w' => x = .returned (.int .i64 151) ∧ Tch None_ w w' := by
  obtain ⟨l, hq, hp⟩ := h.ex
  exact QPush_twice g mb v l e w hq he ((hp.map Ent.key).mem_iff.2 hmem)
theorem QsPush_full (g mb : Nat) (v : Value) (s : List Ent) (e : Ent) (w : World) (h : QS w g mb v s) (he : okK e.key) (hmem : e.key ∉ s.map Ent.key) (hf : s.length = 4096) :
    Calls Try.prog 9 #[.pointer (some ⟨g, 0, none⟩), e.val] w fun x w' => x = .returned (.int .i64 150) ∧ Tch None_ w w' := by
  obtain ⟨l, hq, hp⟩ := h.ex
  exact QPush_full g mb v l e w hq he (fun h => hmem ((hp.map Ent.key).mem_iff.1 h)) (hp.length_eq.trans hf)
theorem QsPush_ok (g mb : Nat) (v : Value) (s : List Ent) (e : Ent) (w : World) (h : QS w g mb v s) (he : okK e.key) (hmem : e.key ∉ s.map Ent.key) (hf : s.length < 4096) :
    Calls Try.prog 9 #[.pointer (some ⟨g, 0, none⟩), e.val] w fun x w' => ∃ v', x = .returned (.int .i64 0) ∧ QS w' g mb v' (ins e s) ∧ Tch (QTch g mb v) w w' ∧ (v'.ownBlock = v.ownBlock ∨ ∃ k, v'.ownBlock = some k ∧ w.heap.size ≤ k) := by
  obtain ⟨l, hq, hp⟩ := h.ex
  refine (QPush_ok g mb v l e w hq he (fun h => hmem ((hp.map Ent.key).mem_iff.1 h)) (by rw [hp.length_eq]; exact hf)).mono ?_
  rintro x w' ⟨rfl, v', l', hpl, hq', ht, hv⟩
  refine ⟨v', rfl, ⟨⟨l', hq', ?_⟩, ins_sorted e s h.up hmem⟩, ht, hv⟩
  exact hpl.trans ((hp.append_right [e]).trans (List.perm_append_comm.trans (ins_perm e s).symm))
theorem QsPop_none (g mb : Nat) (v : Value) (w : World) (h : QS w g mb v []) :
    Calls Try.prog 11 #[.pointer (some ⟨g, 0, none⟩)] w fun x w' => x = .returned (.tuple #[Ent.zeroV, .bool false]) ∧ Gr w w' := by
  obtain ⟨l, hq, hp⟩ := h.ex
  have := List.perm_nil.1 hp
  subst this
  exact QPop_none g mb v w hq
theorem QsPop_some (g mb : Nat) (v : Value) (e : Ent) (s : List Ent) (w : World) (h : QS w g mb v (e :: s)) :
    Calls Try.prog 11 #[.pointer (some ⟨g, 0, none⟩)] w fun x w' => ∃ v', x = .returned (.tuple #[e.val, .bool true]) ∧ QS w' g mb v' s ∧ Tch (QTch g mb v) w w' ∧ v'.ownBlock = v.ownBlock := by
  obtain ⟨l, hq, hp⟩ := h.ex
  have h0 : el l 0 = e := hq.heap.first hp h.up
  refine (QPop_some g mb v l w hq (by rw [hp.length_eq]; simp)).mono ?_
  rintro x w' ⟨rfl, v', l', hpl, hq', ht, hv⟩
  rw [h0] at hpl ⊢
  exact ⟨v', rfl, ⟨⟨l', hq', (hpl.trans hp).cons_inv⟩, (List.pairwise_cons.1 h.up).2⟩, ht, hv⟩
end Go.Proofs.Ytfdgkikgafojpaa
