/-
  No statement is proved here: what keyOf, cmp.Compare, cmp.Or and order come to (walks of the code).
-/
import Derived.Test.YtfdgkikgafojpaaRows
import Derived.Test.YtfdgkikgafojpaaMap
import Derived.Test.YtfdgkikgafojpaaQmath
import Derived.WalkSpells
import Derived.StillTailTactics
import Derived.Carry
import Derived.Deep.RegionHeld3
import Derived.DeepKeys4
namespace Go.Proofs.Ytfdgkikgafojpaa
open Go.RowKit Go.Maps

/-- New blocks and draws, nothing else. -/
structure Gr (w w' : World) : Prop where
  tch : Tch None_ w w'
  drawn : w.drawn ≤ w'.drawn
theorem Gr.refl (w : World) : Gr w w := ⟨Tch.refl _ _, Nat.le_refl _⟩
theorem Gr.trans {a b c : World} (h : Gr a b) (k : Gr b c) : Gr a c := ⟨h.tch.quiet k.tch, Nat.le_trans h.drawn k.drawn⟩
theorem Gr.drew {a w : World} (h : Gr a w) : Gr a w.drew := ⟨h.tch.drew, Nat.le_trans h.drawn (Nat.le_succ _)⟩
theorem Gr.drewN {a w : World} (h : Gr a w) (n : Nat) : Gr a (w.drewN n) := ⟨h.tch.drewN n, Nat.le_trans h.drawn (Nat.le_add_right _ _)⟩
theorem Gr.alloc {a w : World} (h : Gr a w) (o : Obj) : Gr a (w.alloc o) := ⟨h.tch.alloc o, h.drawn⟩
theorem Gr.setCell {a w : World} (h : Gr a w) {p : Addr} (hp : a.heap.size ≤ p.block) (u : Value) : Gr a (w.setCell p u) := ⟨h.tch.setCell (.inr hp) u, h.drawn⟩
theorem Gr.size {w w' : World} (h : Gr w w') : w.heap.size ≤ w'.heap.size := h.tch.size

def Ent.val (e : Ent) : Value := .agg #[.int .i64 e.fr, .int .i64 e.pe, .int .i64 e.sq, .int .i64 e.vb, .int .i64 e.a, .int .i64 e.b, .int .i64 e.c, .int .i64 e.ms]
def Ent.cells (e : Ent) : List Value := [.int .i64 e.fr, .int .i64 e.pe, .int .i64 e.sq, .int .i64 e.vb, .int .i64 e.a, .int .i64 e.b, .int .i64 e.c, .int .i64 e.ms]
theorem Ent.eight (e : Ent) : e.cells.length = 8 := rfl
def Ent.keyV (e : Ent) : Value := .agg #[.int .i64 e.fr, .int .i64 e.pe, .int .i64 e.sq]
/-- Its numbers are numbers of 64 bits. -/
def Ent.ok (e : Ent) : Prop := (-9223372036854775808 ≤ e.fr ∧ e.fr ≤ 9223372036854775807) ∧ (-9223372036854775808 ≤ e.pe ∧ e.pe ≤ 9223372036854775807) ∧ (-9223372036854775808 ≤ e.sq ∧ e.sq ≤ 9223372036854775807)

theorem laidOutQ : laidOutB Try.prog = true := by kernel_rfl
theorem lawKey : Keyed Try.prog 62 := Keyed.of_law (deep_law_laid laidOutQ (m := 3) (by omega) (of_decide_eq_true (by kernel_rfl)) (by kernel_rfl) (by kernel_rfl))

set_option maxHeartbeats 400000 in
theorem keyOf_any (e : Ent) (w : World) : Calls Try.prog 21 #[.agg #[.int .i64 e.fr, .int .i64 e.pe, .int .i64 e.sq, .int .i64 e.vb, .int .i64 e.a, .int .i64 e.b, .int .i64 e.c, .int .i64 e.ms]] w fun x w' => x = .returned (.agg #[.int .i64 e.fr, .int .i64 e.pe, .int .i64 e.sq]) ∧ Gr w w' ∧ w.heap.size + 2 ≤ w'.heap.size := by
  go_enter Try.func21, Try.ntmps21
  go_wp2
  refine bodyPost_ret (v := .agg #[.int .i64 e.fr, .int .i64 e.pe, .int .i64 e.sq]) (by simp [results, Try.results21, go_sem]) rfl ⟨rfl, ((Gr.refl w).alloc _).alloc _, by simp⟩

def cmpI (x y : Int) : Int := if x < y then -1 else if y < x then 1 else 0
set_option maxHeartbeats 400000 in
theorem Cmp64_any (x y : Int) (w : World) : Calls Try.prog 38 #[.int .i64 x, .int .i64 y] w fun e w' => e = .returned (.int .i64 (cmpI x y)) ∧ w = w' := by
  have H : Hid (∀ P : Prop, (x < y → cmpI x y = -1 → P) → (¬ x < y → y < x → cmpI x y = 1 → P) → (¬ x < y → ¬ y < x → cmpI x y = 0 → P) → P) := by
    intro P a b c
    unfold cmpI at *
    by_cases h1 : x < y
    · exact a h1 (if_pos h1)
    · by_cases h2 : y < x
      · exact b h1 h2 (by rw [if_neg h1, if_pos h2])
      · exact c h1 h2 (by rw [if_neg h1, if_neg h2])
  generalize cmpI x y = r at *
  refine H.out _ (fun h1 h => ?_) (fun h1 h2 h => ?_) (fun h1 h2 h => ?_)
  all_goals
    subst h
    clear H
    go_enter Try.func38, Try.ntmps38
    go_wp2
    go_ret
    exact ⟨rfl, rfl⟩
set_option maxHeartbeats 400000 in
theorem Cmp_any (x y : Int) (w : World) : Calls Try.prog 39 #[.int .i64 x, .int .i64 y] w fun e w' => e = .returned (.int .i64 (cmpI x y)) ∧ w = w' := by
  have H : Hid (∀ P : Prop, (x < y → cmpI x y = -1 → P) → (¬ x < y → y < x → cmpI x y = 1 → P) → (¬ x < y → ¬ y < x → cmpI x y = 0 → P) → P) := by
    intro P a b c
    unfold cmpI at *
    by_cases h1 : x < y
    · exact a h1 (if_pos h1)
    · by_cases h2 : y < x
      · exact b h1 h2 (by rw [if_neg h1, if_pos h2])
      · exact c h1 h2 (by rw [if_neg h1, if_neg h2])
  generalize cmpI x y = r at *
  refine H.out _ (fun h1 h => ?_) (fun h1 h2 h => ?_) (fun h1 h2 h => ?_)
  all_goals
    subst h
    clear H
    go_enter Try.func39, Try.ntmps39
    go_wp2
    go_ret
    exact ⟨rfl, rfl⟩
end Go.Proofs.Ytfdgkikgafojpaa
