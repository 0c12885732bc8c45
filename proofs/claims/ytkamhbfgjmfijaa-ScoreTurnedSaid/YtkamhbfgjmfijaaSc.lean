/-
  No statement is proved here: scores: cmp.Or at four and table.order (walks of the code).
-/
import Derived.Test.YtkamhbfgjmfijaaSa
import Derived.Deep.DeepCutAuto
namespace Go.Proofs.Ytkamhbfgjmfijaa
open Go.RowKit

theorem cell_top {w : World} {cs : Array Value} {t : TypeId} {b i : Nat} (hb : b = w.heap.size) : (w.alloc (.cells cs t)).cell? ⟨b, i, none⟩ = cs[i]? := by
  subst hb
  exact (Blk.new w t cs).cell i
theorem cell_drew (w : World) (b i : Nat) : w.drew.cell? ⟨b, i, none⟩ = w.cell? ⟨b, i, none⟩ := rfl
theorem cell_low {w : World} {o : Obj} {b i : Nat} (hb : b < w.heap.size) : (w.alloc o).cell? ⟨b, i, none⟩ = w.cell? ⟨b, i, none⟩ := World.cell?_alloc_lt w o ⟨b, i, none⟩ hb
theorem cell_far {w : World} {b i b' i' : Nat} {v : Value} (h : b' ≠ b ∨ i' ≠ i) : (w.setCell ⟨b', i', none⟩ v).cell? ⟨b, i, none⟩ = w.cell? ⟨b, i, none⟩ := by
  refine World.cell?_setCell_other w _ _ v fun e => ?_
  injection e with e1 e2
  omega
theorem cell_hit {w : World} {b i : Nat} {u v : Value} (hu : w.cell? ⟨b, i, none⟩ = some u) : (w.setCell ⟨b, i, none⟩ v).cell? ⟨b, i, none⟩ = some v := by
  exact World.cell?_setCell_same' _ _ _ (by rw [hu]; rfl)

def cmpI (x y : Int) : Int := if x < y then -1 else if y < x then 1 else 0
def orI (x y : Int) : Int := if x = 0 then y else x
set_option maxHeartbeats 400000 in
theorem Cmp_any (x y : Int) (w : World) : Calls Try.prog 22 #[.int .i64 x, .int .i64 y] w fun e w' => e = .returned (.int .i64 (cmpI x y)) ∧ w = w' := by
  have H : Hid (∀ P : Prop, (x < y → cmpI x y = -1 → P) → (¬ x < y → y < x → cmpI x y = 1 → P) → (¬ x < y → ¬ y < x → cmpI x y = 0 → P) → P) := by
    intro P a b c
    unfold cmpI at *
    by_cases h1 : x < y
    · exact a h1 (if_pos h1)
    · by_cases h2 : y < x
      · exact b h1 h2 (by rw [if_neg h1, if_pos h2])
      · exact c h1 h2 (by rw [if_neg h1, if_neg h2])
  generalize cmpI x y = r at *
  refine H.out _ (fun h1 h => ?_) (fun h1 h2 h => ?_) (fun h1 h2 h => ?_)
  all_goals
    subst h
    clear H
    go_enter Try.func22, Try.ntmps22
    go_wp2
    go_ret
    exact ⟨rfl, rfl⟩
/-- The first of four that is not 0. -/
theorem Or4_any (b : Nat) (x y z u : Int) (w : World) (hb : Blk w b 3 #[.int .i64 x, .int .i64 y, .int .i64 z, .int .i64 u]) :
    Calls Try.prog 21 #[.slice (some ⟨b, 0, none⟩) 4 4] w fun e w' => e = .returned (.int .i64 (orI x (orI y (orI z u)))) ∧ w = w' := by
  have HB := Lib.hid hb
  have HO : Hid (∀ (k : Nat) (v : Int), k < 4 → (∀ j, j < k → [x, y, z, u][j]? = some 0) → [x, y, z, u][k]? = some v → (v ≠ 0 → orI x (orI y (orI z u)) = v) ∧ (k = 3 → v = 0 → orI x (orI y (orI z u)) = 0)) := by
    intro k v hk h0 hv
    unfold orI
    have a0 := h0 0
    have a1 := h0 1
    have a2 := h0 2
    rcases (show k = 0 ∨ k = 1 ∨ k = 2 ∨ k = 3 by omega) with rfl | rfl | rfl | rfl
    · simp at hv; subst hv
      exact ⟨fun h => if_neg h, fun h => absurd h (by omega)⟩
    · simp at hv a0; subst hv a0
      exact ⟨fun h => by rw [if_pos rfl, if_neg h], fun h => absurd h (by omega)⟩
    · simp at hv a0 a1; subst hv a0 a1
      exact ⟨fun h => by rw [if_pos rfl, if_pos rfl, if_neg h], fun h => absurd h (by omega)⟩
    · simp at hv a0 a1 a2; subst hv a0 a1 a2
      exact ⟨fun h => by rw [if_pos rfl, if_pos rfl, if_pos rfl], fun _ h => by rw [if_pos rfl, if_pos rfl, if_pos rfl]; exact h⟩
  generalize orI x (orI y (orI z u)) = r at *
  clear hb
  go_enter Try.func21, Try.ntmps21
  go_wp2
  go_loop [8] (fun i => ∃ k : Nat, k ≤ 4 ∧ i = .int .i64 k ∧ Hid (∀ j, j < k → [x, y, z, u][j]? = some 0)) (fun i => 4 - (intOf i).toNat)
  case atStart => exact ⟨0, by omega, rfl, fun j h => absurd h (by omega)⟩
  case round =>
    obtain ⟨k, hk, rfl, HZ⟩ := hrel
    by_cases hk4 : k < 4
    · obtain ⟨v, hv⟩ : ∃ v, [x, y, z, u][k]? = some v := ⟨_, List.getElem?_eq_getElem (by simpa using hk4)⟩
      have hc : w.cell? ⟨b, k, none⟩ = some (.int .i64 v) := by
        rw [HB.out.cell k]
        rcases (show k = 0 ∨ k = 1 ∨ k = 2 ∨ k = 3 by omega) with rfl | rfl | rfl | rfl <;> simpa using hv
      have HV := Lib.hid hv
      clear hv
      by_cases h : v = 0
      · subst h
        go_wp2
        go_round
        case rel => exact ⟨k + 1, by omega, by go_num, fun j hj => by
          rcases Nat.lt_succ_iff_lt_or_eq.1 hj with h | rfl
          · exact HZ.out j h
          · exact HV.out⟩
        case measure => simp [intOf]; omega
      · go_wp2
        go_ret
        exact ⟨ret_int ((HO.out k v hk4 HZ.out HV.out).1 h).symm, rfl⟩
    · obtain rfl : k = 4 := by omega
      have hr := (HO.out 3 0 (by omega) (fun j hj => HZ.out j (by omega)) (HZ.out 3 (by omega))).2 rfl rfl
      subst hr
      go_wp2
      go_ret
      exact ⟨rfl, rfl⟩
/-- The four cells of score s at ⟨b, o⟩. -/
def At4 (w : World) (b o : Nat) (s : Sc) : Prop :=
  w.cell? ⟨b, o, none⟩ = some (.int .i64 s.p) ∧ w.cell? ⟨b, o + 1, none⟩ = some (.int .i64 s.h) ∧ w.cell? ⟨b, o + 2, none⟩ = some (.int .i64 s.o) ∧ w.cell? ⟨b, o + 3, none⟩ = some (.int .i64 s.k)
def ordI (a b : Sc) (i k : Int) : Int := orI (cmpI b.p a.p) (orI (cmpI a.o b.o) (orI (cmpI b.h a.h) (cmpI i k)))
set_option maxRecDepth 100000 in
set_option maxHeartbeats 4000000 in
theorem order_any (b o n c i k : Nat) (x y : Sc) (w : World) (hi : i < n) (hk : k < n) (hx : At4 w b (o + i * 4) x) (hy : At4 w b (o + k * 4) y) (hb : b < w.heap.size) :
    Calls Try.prog 18 #[.slice (some ⟨b, o, none⟩) n c, .int .i64 i, .int .i64 k] w fun e w' => e = .returned (.int .i64 (ordI x y i k)) ∧ Tch None_ w w' := by
  obtain ⟨x0, x1, x2, x3⟩ := hx
  obtain ⟨y0, y1, y2, y3⟩ := hy
  unfold ordI
  go_enter Try.func18, Try.ntmps18
  go_upto_region 1 with fail
  go_cut [7, 8] (fun s7 s8 wx => ∃ b7 b8 : Nat, s7 = .pointer (some ⟨b7, 0, none⟩) ∧ s8 = .pointer (some ⟨b8, 0, none⟩) ∧ wx.cell? ⟨b7, 0, none⟩ = some (.int .i64 x.p) ∧ wx.cell? ⟨b7, 1, none⟩ = some (.int .i64 x.h) ∧ wx.cell? ⟨b7, 2, none⟩ = some (.int .i64 x.o) ∧ wx.cell? ⟨b8, 0, none⟩ = some (.int .i64 y.p) ∧ wx.cell? ⟨b8, 1, none⟩ = some (.int .i64 y.h) ∧ wx.cell? ⟨b8, 2, none⟩ = some (.int .i64 y.o) ∧ Tch None_ w wx)
  case first =>
    go_region
    all_goals
      go_wp2_with fail
      go_meet
      refine ⟨_, _, rfl, rfl, ?_, ?_, ?_, ?_, ?_, ?_, ?_⟩
      rotate_left 6
      · repeat (first | with_reducible exact Tch.refl _ _ | with_reducible apply Tch.drew | with_reducible apply Tch.alloc | ((with_reducible refine Tch.setCell ?_ (.inr ?_) _); rotate_left; (simp <;> omega)))
      all_goals
        repeat (first
          | (with_reducible rfl)
          | ((with_reducible refine (cell_top ?_).trans rfl); (first | rfl | (simp <;> omega)); done)
          | ((with_reducible refine (cell_far ?_).trans ?_); (first | omega | (simp <;> omega)))
          | (with_reducible apply cell_hit)
          | ((with_reducible refine (cell_low ?_).trans ?_); (first | omega | (simp <;> omega)))
          | (with_reducible refine (cell_drew _ _ _).trans ?_))
  case rest =>
    obtain ⟨b7, b8, rfl, rfl, c70, c71, c72, c80, c81, c82, hg⟩ := hcut
    clear x0 x1 x2 x3 y0 y1 y2 y3
    go_wp2_with fail
    go_still_tail 18, (by kernel_rfl)
    still_call ((Cmp_any _ _ _).mono fun e w' h => ⟨h.1, h.2.symm⟩)
    repeat still_step
    still_call ((Cmp_any _ _ _).mono fun e w' h => ⟨h.1, h.2.symm⟩)
    repeat still_step
    still_call ((Cmp_any _ _ _).mono fun e w' h => ⟨h.1, h.2.symm⟩)
    repeat still_step
    still_call ((Cmp_any _ _ _).mono fun e w' h => ⟨h.1, h.2.symm⟩)
    repeat still_step
    refine wpStill_nil ?_
    have HG := Lib.hid hg
    clear c70 c71 c72 c80 c81 c82 hg
    go_wp2_with fail
    refine (Or4_any _ _ _ _ _ _ (Blk.new _ _ _).drew).mono ?_
    rintro e w2 ⟨rfl, rfl⟩
    go_wp2_with fail
    go_ret
    exact ⟨rfl, (HG.out.alloc _).drew⟩
end Go.Proofs.Ytkamhbfgjmfijaa
