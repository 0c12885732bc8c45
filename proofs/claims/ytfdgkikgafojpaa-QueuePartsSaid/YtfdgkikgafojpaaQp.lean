/-
  No statement is proved here: what the queue's Peek and Below come to (walks of the code).
-/
import Derived.Test.YtfdgkikgafojpaaQo
namespace Go.Proofs.Ytfdgkikgafojpaa
open Go.RowKit Go.Maps

theorem QsPeek_none (g mb : Nat) (v : Value) (w : World) (h : QS w g mb v []) :
    Calls Try.prog 19 #[.pointer (some ⟨g, 0, none⟩)] w fun x w' => x = .returned (.tuple #[Ent.zeroV, .bool false]) ∧ Gr w w' := by
  obtain ⟨l, hq, hp⟩ := h.ex
  have hl := List.perm_nil.1 hp
  subst hl
  have c0 := hq.pile.box.cell 0
  have hr := hq.pile.row
  have lg := hq.glt
  obtain ⟨A, c, rfl, _, _⟩ := own_form hr
  simp at c0
  clear h hq hr hp
  unfold Ent.zeroV
  go_enter Try.func19, Try.ntmps19
  go_wp2_with fail
  exact bodyPost_ret (v := .tuple #[.agg #[.int .i64 0, .int .i64 0, .int .i64 0, .int .i64 0, .int .i64 0, .int .i64 0, .int .i64 0, .int .i64 0], .bool false]) (by simp [results, Try.results19, go_sem]) rfl ⟨rfl, (Gr.refl _).alloc _⟩

/-- The first cells of a queue's pile. -/
theorem QS.head {w : World} {g mb : Nat} {v : Value} {e : Ent} {s : List Ent} (h : QS w g mb v (e :: s)) : ∃ b n c, v = .slice (some ⟨b, 0, none⟩) (n + 1) c ∧ s.length = n ∧ w.cell? ⟨g, 0, none⟩ = some v ∧ At8 w b 0 e := by
  obtain ⟨l, hq, hp⟩ := h.ex
  have h0 : el l 0 = e := hq.heap.first hp h.up
  have hl : l.length = s.length + 1 := by rw [hp.length_eq]; rfl
  obtain ⟨b, c, rfl⟩ := hq.pile.form (by omega)
  have hr := hq.pile.row
  have h8 := own_at8 hr 0 (by omega)
  rw [h0] at h8
  exact ⟨b, s.length, c, by rw [hl], rfl, by simpa using hq.pile.box.cell 0, by simpa using h8⟩

set_option maxRecDepth 100000 in
set_option maxHeartbeats 1000000 in
theorem QsPeek_some (g mb : Nat) (v : Value) (e : Ent) (s : List Ent) (w : World) (h : QS w g mb v (e :: s)) :
    Calls Try.prog 19 #[.pointer (some ⟨g, 0, none⟩)] w fun x w' => x = .returned (.tuple #[e.val, .bool true]) ∧ Gr w w' := by
  obtain ⟨b, n, c, rfl, hn, c0, x0, x1, x2, x3, x4, x5, x6, x7⟩ := h.head
  have lg := h.glt
  have lb := h.vlt b rfl
  clear h
  simp only [Nat.zero_add] at x0 x1 x2 x3 x4 x5 x6 x7
  unfold Ent.val
  go_enter Try.func19, Try.ntmps19
  go_wp2_with fail
  exact bodyPost_ret (v := .tuple #[.agg #[.int .i64 e.fr, .int .i64 e.pe, .int .i64 e.sq, .int .i64 e.vb, .int .i64 e.a, .int .i64 e.b, .int .i64 e.c, .int .i64 e.ms], .bool true]) (by simp [results, Try.results19, go_sem]) rfl ⟨rfl, (Gr.refl _).alloc _⟩
end Go.Proofs.Ytfdgkikgafojpaa
