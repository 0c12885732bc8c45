/-
  No statement is proved here: what cmp.Or at three and order come to (walks of the code).
-/
import Derived.Test.YtfdgkikgafojpaaQa
namespace Go.Proofs.Ytfdgkikgafojpaa
open Go.RowKit Go.Maps

def orI (x y : Int) : Int := if x = 0 then y else x
set_option maxHeartbeats 1000000 in
theorem Or3_any (b : Nat) (x y z : Int) (w : World) (hb : Blk w b 3 #[.int .i64 x, .int .i64 y, .int .i64 z]) :
    Calls Try.prog 37 #[.slice (some ⟨b, 0, none⟩) 3 3] w fun e w' => e = .returned (.int .i64 (orI x (orI y z))) ∧ w = w' := by
  have c0 := hb.cell 0
  have c1 := hb.cell 1
  have c2 := hb.cell 2
  simp at c0 c1 c2
  have HO : Hid ((x ≠ 0 → orI x (orI y z) = x) ∧ (x = 0 → y ≠ 0 → orI x (orI y z) = y) ∧ (x = 0 → y = 0 → orI x (orI y z) = z)) := by
    unfold orI
    refine ⟨fun h => if_neg h, fun h k => by rw [if_pos h, if_neg k], fun h k => by rw [if_pos h, if_pos k]⟩
  generalize orI x (orI y z) = r at *
  clear hb
  go_enter Try.func37, Try.ntmps37
  go_wp2
  go_loop [8] (fun i => ∃ k : Nat, k ≤ 3 ∧ i = .int .i64 k ∧ Hid ((1 ≤ k → x = 0) ∧ (2 ≤ k → y = 0) ∧ (3 ≤ k → z = 0))) (fun i => 3 - (intOf i).toNat)
  case atStart => exact ⟨0, by omega, rfl, ⟨fun h => absurd h (by omega), fun h => absurd h (by omega), fun h => absurd h (by omega)⟩⟩
  case round =>
    obtain ⟨k, hk, rfl, HZ⟩ := hrel
    rcases (show k = 0 ∨ k = 1 ∨ k = 2 ∨ k = 3 by omega) with rfl | rfl | rfl | rfl
    · by_cases h : x = 0
      · subst h
        go_wp2
        go_round
        case rel => exact ⟨1, by omega, by go_num, ⟨by simp, fun h => absurd h (by omega), fun h => absurd h (by omega)⟩⟩
        case measure => simp [intOf]
      · go_wp2
        go_ret
        exact ⟨ret_int (HO.out.1 h).symm, rfl⟩
    · have h0 := HZ.out.1 (by omega)
      subst h0
      by_cases h : y = 0
      · subst h
        go_wp2
        go_round
        case rel => exact ⟨2, by omega, by go_num, ⟨by simp, by simp, fun h => absurd h (by omega)⟩⟩
        case measure => simp [intOf]
      · go_wp2
        go_ret
        exact ⟨ret_int (HO.out.2.1 (by simp) h).symm, rfl⟩
    · have h0 := HZ.out.1 (by omega)
      have h1 := HZ.out.2.1 (by omega)
      subst h0 h1
      by_cases h : z = 0
      · subst h
        go_wp2
        go_round
        case rel => exact ⟨3, by omega, by go_num, ⟨by simp, by simp, by simp⟩⟩
        case measure => simp [intOf]
      · go_wp2
        go_ret
        exact ⟨ret_int (HO.out.2.2 (by simp) (by simp)).symm, rfl⟩
    · have h0 := HZ.out.1 (by omega)
      have h1 := HZ.out.2.1 (by omega)
      have h2 := HZ.out.2.2 (by omega)
      subst h0 h1 h2
      go_wp2
      go_ret
      exact ⟨ret_int (HO.out.2.2 (by simp) (by simp)).symm, rfl⟩
end Go.Proofs.Ytfdgkikgafojpaa
