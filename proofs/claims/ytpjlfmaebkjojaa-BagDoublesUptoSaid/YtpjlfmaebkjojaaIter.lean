/-
  No statement is proved here: a range over a map told by its entries (which are left, in whatever order).
-/
import Derived.Test.YtpjlfmaebkjojaaMap
namespace Go.Proofs.Ytpjlfmaebkjojaa
open Go.RowKit Go.Maps Go.ChangeShapes
open Go.ChangeMaps (setBlock heap_setBlock_same heap_setBlock_other)

theorem perm_cut {α : Type} {β : Type} (f : α → β) [DecidableEq β] {l : List α} (hn : (l.map f).Nodup) {e : α} (he : e ∈ l) : l.Perm (e :: l.filter fun x => !(f x == f e)) := by
  induction l with
  | nil => cases he
  | cons a l ih =>
    simp only [List.map_cons, List.nodup_cons] at hn
    rcases List.mem_cons.1 he with h | h
    · subst h
      have : (e :: l).filter (fun x => !(f x == f e)) = l := by
        rw [List.filter_cons_of_neg (by simp)]
        refine List.filter_eq_self.2 fun x hx => ?_
        have : f x ≠ f e := fun h => hn.1 (h ▸ List.mem_map_of_mem hx)
        simpa using this
      rw [this]
    · have hne : f a ≠ f e := fun h' => hn.1 (h' ▸ List.mem_map_of_mem h)
      rw [List.filter_cons_of_pos (by simpa using hne)]
      exact ((ih hn.2 h).cons a).trans (List.Perm.swap e a _)

/-- Block r ranges over the map in block b; left: the entries still to come. -/
def IterAt (w : World) (r b : Nat) (L left : List (Value × Value)) : Prop :=
  ∃ es clock since seen c0, w.heap[r]? = some (.mapIter (some b) since seen c0) ∧ w.heap[b]? = some (.map es clock) ∧ es.toList.map (fun e => (e.key, e.val)) = L ∧
    (∀ x ∈ es.toList, x.born < since) ∧ since ≤ c0 ∧ since ≤ clock ∧ (es.toList.map (·.born)).Nodup ∧ (leftOf es seen).toList.map (fun e => (e.key, e.val)) = left

section
variable {P : Program} {k : TypeId} {w w' : World} {r b : Nat} {L left : List (Value × Value)}
theorem IterAt.tch {S : Nat → Prop} (h : IterAt w r b L left) (ht : Tch S w w') (h1 : ¬ S r) (h2 : ¬ S b) : IterAt w' r b L left := by
  obtain ⟨es, clock, since, seen, c0, hr, hb, rest⟩ := h
  exact ⟨es, clock, since, seen, c0, (ht.block r (Array.getElem?_eq_some_iff.1 hr).1 h1).trans hr, (ht.block b (Array.getElem?_eq_some_iff.1 hb).1 h2).trans hb, rest⟩
theorem IterAt.lt (h : IterAt w r b L left) : r < w.heap.size := by
  obtain ⟨es, clock, since, seen, c0, hr, _⟩ := h
  exact (Array.getElem?_eq_some_iff.1 hr).1

theorem MapAt.range {t e : TypeId} (h : MapAt P k w b L) (ht : P.underlying t = some (.map k e)) :
    ∃ w', (Instr.range t (.map (some b))).run P w = .ok (.pointer (some ⟨w.heap.size, 0, none⟩)) w' ∧ IterAt w' w.heap.size b L L ∧ Tch None_ w w' ∧ w'.heap.size = w.heap.size + 1 := by
  have hlt := h.lt
  obtain ⟨es, clock, hb, hL, _, _, hst, hnd⟩ := h
  refine ⟨_, run_range_map w t k e b es clock ht hb, ⟨es, clock, clock, #[], clock, heap_alloc_new w _, ?_, hL, hst, Nat.le_refl _, Nat.le_refl _, hnd, ?_⟩, (Tch.refl _ _).alloc _, by simp⟩
  · exact (Below.heap_alloc w _ b hlt).trans hb
  · rw [← hL, show (leftOf es #[]).toList = es.toList from by unfold leftOf; simp only [Array.toList_filter]; exact List.filter_eq_self.2 (fun _ _ => by simp)]

theorem IterAt.next (h : IterAt w r b L left) (ty : TypeId) (hrb : r ≠ b) :
    (left = [] ∧ (Instr.next (.pointer (some ⟨r, 0, none⟩)) false ty).run P w = .ok (.tuple #[.bool false]) w) ∨
    ∃ kv left' w', left.Perm (kv :: left') ∧ (Instr.next (.pointer (some ⟨r, 0, none⟩)) false ty).run P w = .ok (.tuple #[.bool true, kv.1, kv.2]) w' ∧ IterAt w' r b L left' ∧ Tch (fun j => j = r) w w' ∧
      (Instr.entry (.pointer (some ⟨r, 0, none⟩))).run P w' = .ok (.tuple #[kv.1, kv.2]) w' := by
  obtain ⟨es, clock, since, seen, c0, hr, hb, hL, hold, hsc, hcl, hnd, hl⟩ := h
  have hclk : ∃ w0 : World, True := ⟨w, trivial⟩
  rcases run_next_at w ty r b since c0 seen es clock hr hb hold hsc with ⟨h0, hrun⟩ | ⟨e, he, w1, hw1, hrun⟩
  · refine .inl ⟨?_, hrun⟩
    rw [← hl]
    simp [Array.eq_empty_of_size_eq_zero h0]
  · right
    have hmem : e ∈ es.toList := by
      unfold leftOf at he
      simp at he ⊢
      exact he.1
    have t1 : Tch None_ w w1 := by
      rcases hw1 with rfl | rfl
      · exact Tch.refl _ _
      · exact (Tch.refl _ _).drew
    have hr1 : w1.heap[r]? = some (.mapIter (some b) since seen c0) := by rcases hw1 with rfl | rfl <;> exact hr
    have hb1 : w1.heap[b]? = some (.map es clock) := by rcases hw1 with rfl | rfl <;> exact hb
    have hlr : r < w1.heap.size := (Array.getElem?_eq_some_iff.1 hr1).1
    have e1 : (setBlock w1 r (.mapIter (some b) since (seen.push e.born) clock)).heap[r]? = some (.mapIter (some b) since (seen.push e.born) clock) := by simp [setBlock, hlr]
    have e2 : (setBlock w1 r (.mapIter (some b) since (seen.push e.born) clock)).heap[b]? = some (.map es clock) := by rw [← hb1]; simp [setBlock, hrb]
    have hnl : ((leftOf es seen).toList.map (·.born)).Nodup := by
      have : (leftOf es seen).toList = es.toList.filter fun e => !seen.contains e.born := by unfold leftOf; simp
      rw [this]
      exact hnd.sublist (List.Sublist.map _ (List.filter_sublist))
    have hcut := perm_cut (·.born) hnl he
    have hleft : (leftOf es (seen.push e.born)).toList = (leftOf es seen).toList.filter fun x => !(x.born == e.born) := by
      unfold leftOf
      simp only [Array.toList_filter, List.filter_filter]
      refine List.filter_congr fun x _ => ?_
      by_cases h1 : x.born = e.born <;> by_cases h2 : x.born ∈ seen <;> simp [h1, h2]
    refine ⟨(e.key, e.val), (leftOf es (seen.push e.born)).toList.map (fun e => (e.key, e.val)), _, ?_, hrun, ⟨es, clock, since, _, clock, e1, e2, hL, hold, hcl, hcl, hnd, rfl⟩, ?_, run_entry_at _ r b since seen es clock e e1 e2 hmem hnd⟩
    · rw [← hl, hleft]
      exact hcut.map (fun e => (e.key, e.val))
    · have t2 : Tch (fun j => j = r) w1 (setBlock w1 r (.mapIter (some b) since (seen.push e.born) clock)) :=
        ⟨rfl, rfl, rfl, by simp [setBlock], fun j _ hj => by
          have hj' : r ≠ j := fun h => hj h.symm
          simp [setBlock, hj']⟩
      exact t1.any.then t2

section
variable {ops : Array Oper} {rest : List Oper} {o : Oper} {a : Act} {Q : Exit → Act → World → Prop}
theorem wpList_range_run (hg : o.guard = none) (m : Operand) (t : TypeId) (hop : o.op = Op.range t m) (mv v : Value) (hm : a.eval m = mv)
    (hrun : (Instr.range t mv).run P w = .ok v w') (hK : wpList P ops Q rest (a.put o.dst v) w') : wpList P ops Q (o :: rest) a w := by
  refine wpList_plain hg fun K' hK' => ?_
  unfold Oper.wp
  simp [execOp, hop, hm, hrun, Result.andThen]
  exact hK' _ _ hK
theorem wpList_next_run (hg : o.guard = none) (it : Operand) (hop : o.op = Op.next it false) (iv v : Value) (hm : a.eval it = iv)
    (hrun : (Instr.next iv false o.type).run P w = .ok v w') (hK : wpList P ops Q rest (a.put o.dst v) w') : wpList P ops Q (o :: rest) a w := by
  refine wpList_plain hg fun K' hK' => ?_
  unfold Oper.wp
  simp [execOp, hop, hm, hrun, Result.andThen]
  exact hK' _ _ hK
theorem wpList_next_iter (hg : o.guard = none) (it : Operand) (hop : o.op = Op.next it false) (hm : a.eval it = .pointer (some ⟨r, 0, none⟩)) (h : IterAt w r b L left) (hrb : r ≠ b)
    (hDone : left = [] → wpList P ops Q rest (a.put o.dst (.tuple #[.bool false])) w)
    (hMore : ∀ key val left' w', left.Perm ((key, val) :: left') → IterAt w' r b L left' → Tch (fun j => j = r) w w' → (Instr.entry (.pointer (some ⟨r, 0, none⟩))).run P w' = .ok (.tuple #[key, val]) w' →
      wpList P ops Q rest (a.put o.dst (.tuple #[.bool true, key, val])) w') : wpList P ops Q (o :: rest) a w := by
  rcases h.next o.type hrb with ⟨h0, hrun⟩ | ⟨kv, left', w1, hpl, hnx, hit1, ht1, hen⟩
  · exact wpList_next_run hg it hop _ _ hm hrun (hDone h0)
  · exact wpList_next_run hg it hop _ _ hm hnx (hMore kv.1 kv.2 left' w1 hpl hit1 ht1 hen)
theorem wpList_entry_run (hg : o.guard = none) (it : Operand) (hop : o.op = Op.entry it) (iv v : Value) (hm : a.eval it = iv)
    (hrun : (Instr.entry iv).run P w = .ok v w) (hK : wpList P ops Q rest (a.put o.dst v) w) : wpList P ops Q (o :: rest) a w := by
  refine wpList_plain hg fun K' hK' => ?_
  unfold Oper.wp
  simp [execOp, hop, hm, hrun, Result.andThen]
  exact hK' _ _ hK
end
end
end Go.Proofs.Ytpjlfmaebkjojaa
