/-
  No statement is proved here: what pile's Swap comes to (a walk of the code).
-/
import Derived.Test.YtfdgkikgafojpaaQd
import Derived.BigRegion
import Derived.ChangeAlike
import Derived.Laws.OwnMore
namespace Go.Proofs.Ytfdgkikgafojpaa
open Go.RowKit Go.Maps

theorem set_step (a : Ent) (X : List Value) (p : Nat) (hp : 8 ≤ p) (v : Value) : (a.cells ++ X).set p v = a.cells ++ X.set (p - 8) v := by
  rw [List.set_append_right p v (by rw [Ent.eight]; exact hp), Ent.eight]
theorem set8 (l : List Ent) (i : Nat) (e : Ent) (hi : i < l.length) :
    ((((((((l.flatMap Ent.cells).set (i * 8) (.int .i64 e.fr)).set (i * 8 + 1) (.int .i64 e.pe)).set (i * 8 + 2) (.int .i64 e.sq)).set (i * 8 + 3) (.int .i64 e.vb)).set (i * 8 + 4) (.int .i64 e.a)).set (i * 8 + 5) (.int .i64 e.b)).set (i * 8 + 6) (.int .i64 e.c)).set (i * 8 + 7) (.int .i64 e.ms) = (l.set i e).flatMap Ent.cells := by
  induction l generalizing i with
  | nil => simp at hi
  | cons a l ih =>
    cases i with
    | zero => rfl
    | succ i =>
      simp only [List.flatMap_cons, List.set_cons_succ]
      rw [← ih i (by simpa using hi)]
      repeat rw [set_step _ _ _ (by omega)]
      rw [show (i + 1) * 8 - 8 = i * 8 from by omega, show (i + 1) * 8 + 1 - 8 = i * 8 + 1 from by omega, show (i + 1) * 8 + 2 - 8 = i * 8 + 2 from by omega, show (i + 1) * 8 + 3 - 8 = i * 8 + 3 from by omega,
        show (i + 1) * 8 + 4 - 8 = i * 8 + 4 from by omega, show (i + 1) * 8 + 5 - 8 = i * 8 + 5 from by omega, show (i + 1) * 8 + 6 - 8 = i * 8 + 6 from by omega, show (i + 1) * 8 + 7 - 8 = i * 8 + 7 from by omega]

/-- A world with entry e written at ⟨b, o⟩. -/
def put8 (w : World) (b o : Nat) (e : Ent) : World :=
  (((((((w.setCell ⟨b, o, none⟩ (.int .i64 e.fr)).setCell ⟨b, o + 1, none⟩ (.int .i64 e.pe)).setCell ⟨b, o + 2, none⟩ (.int .i64 e.sq)).setCell ⟨b, o + 3, none⟩ (.int .i64 e.vb)).setCell ⟨b, o + 4, none⟩ (.int .i64 e.a)).setCell ⟨b, o + 5, none⟩ (.int .i64 e.b)).setCell ⟨b, o + 6, none⟩ (.int .i64 e.c)).setCell ⟨b, o + 7, none⟩ (.int .i64 e.ms)
theorem put8_own {w : World} {base b n c i : Nat} {l : List Ent} (h : w.ownsRow base 33 8 (.slice (some ⟨b, 0, none⟩) n c) n (l.flatMap Ent.cells)) (e : Ent) (hi : i < l.length) :
    (put8 w b (i * 8) e).ownsRow base 33 8 (.slice (some ⟨b, 0, none⟩) n c) n ((l.set i e).flatMap Ent.cells) ∧ Tch (fun k => k = b) w (put8 w b (i * 8) e) := by
  constructor
  · rw [← set8 l i e hi]
    exact ((((((((h.stored _ _).1.stored _ _).1.stored _ _).1.stored _ _).1.stored _ _).1.stored _ _).1.stored _ _).1.stored _ _).1
  · unfold put8
    exact (((((((((Tch.refl (fun k => k = b) w).setCell (p := ⟨b, i * 8, none⟩) (.inl rfl) _).setCell (p := ⟨b, i * 8 + 1, none⟩) (.inl rfl) _).setCell (p := ⟨b, i * 8 + 2, none⟩) (.inl rfl) _).setCell (p := ⟨b, i * 8 + 3, none⟩) (.inl rfl) _).setCell (p := ⟨b, i * 8 + 4, none⟩) (.inl rfl) _).setCell (p := ⟨b, i * 8 + 5, none⟩) (.inl rfl) _).setCell (p := ⟨b, i * 8 + 6, none⟩) (.inl rfl) _).setCell (p := ⟨b, i * 8 + 7, none⟩) (.inl rfl) _)

theorem own_len {w : World} {base n c : Nat} {A : Option Addr} {l : List Ent} (h : w.ownsRow base 33 8 (.slice A n c) n (l.flatMap Ent.cells)) : l.length = n := by
  have := h.1
  rw [flat_len Ent.cells 8 Ent.eight] at this
  omega
theorem own_at8 {w : World} {base b n c : Nat} {l : List Ent} (h : w.ownsRow base 33 8 (.slice (some ⟨b, 0, none⟩) n c) n (l.flatMap Ent.cells)) (i : Nat) (hi : i < n) : At8 w b (i * 8) (el l i) := by
  obtain ⟨b', o', hA, _, h8⟩ := (Reads.of_own h).ent (own_len h) i hi
  injection hA with hA
  injection hA with e1 e2
  subst e1 e2
  rwa [Nat.zero_add] at h8

set_option maxRecDepth 100000 in
set_option maxHeartbeats 1000000 in
theorem Swap_any (base b n c i j : Nat) (l : List Ent) (w : World) (h : w.ownsRow base 33 8 (.slice (some ⟨b, 0, none⟩) n c) n (l.flatMap Ent.cells)) (hi : i < n) (hj : j < n) :
    Calls Try.prog 76 #[.slice (some ⟨b, 0, none⟩) n c, .int .i64 i, .int .i64 j] w fun e w' => e = .returned (.tuple #[]) ∧
      w'.ownsRow base 33 8 (.slice (some ⟨b, 0, none⟩) n c) n ((swapL l i j).flatMap Ent.cells) ∧ Tch (fun k => k = b) w w' := by
  obtain ⟨x0, x1, x2, x3, x4, x5, x6, x7⟩ := own_at8 h i hi
  obtain ⟨y0, y1, y2, y3, y4, y5, y6, y7⟩ := own_at8 h j hj
  have hln := own_len h
  have hf : ∀ k, w.frozen? ⟨b, k, none⟩ = false := fun k => h.frozenAt k
  have HW : Hid (∀ W, W = (put8 (put8 w b (i * 8) (el l j)) b (j * 8) (el l i)).drew → W.ownsRow base 33 8 (.slice (some ⟨b, 0, none⟩) n c) n ((swapL l i j).flatMap Ent.cells) ∧ Tch (fun k => k = b) w W) := by
    rintro W rfl
    have h1 := put8_own h (el l j) (by omega : i < l.length)
    have h2 := put8_own h1.1 (el l i) (by simp; omega : j < (l.set i (el l j)).length)
    exact ⟨h2.1.drew, (h1.2.then h2.2).drew⟩
  clear h
  by_cases hij : i = j
  · subst hij
    clear y0 y1 y2 y3 y4 y5 y6 y7
    go_enter Try.func76, Try.ntmps76
    go_wp2_with fail
    go_region
    go_wp2_with fail
    go_end0
    exact ⟨rfl, HW.out _ (by unfold put8; rfl)⟩
  · go_enter Try.func76, Try.ntmps76
    go_wp2_with fail
    go_region
    go_wp2_with fail
    go_end0
    exact ⟨rfl, HW.out _ (by unfold put8; rfl)⟩
end Go.Proofs.Ytfdgkikgafojpaa
