/-
  No statement is proved here: scores: bound and Check, of the program and of the reference (walks of the code).
-/
import Derived.Test.YtkamhbfgjmfijaaRows
import Derived.Test.YtkamhbfgjmfijaaLib
import Derived.WalkSpells
import Derived.StillTailTactics
import Derived.Carry
import Derived.Deep.RegionHeld3
import Derived.IntWalk
import Derived.Laws.Cover1
namespace Go.Proofs.Ytkamhbfgjmfijaa
open Go.RowKit

/-- A score's numbers. -/
@[ext] structure Sc where
  p : Int
  h : Int
  o : Int
  k : Int
deriving DecidableEq
def Sc.val (s : Sc) : Value := .agg #[.int .i64 s.p, .int .i64 s.h, .int .i64 s.o, .int .i64 s.k]
def Sc.cells (s : Sc) : List Value := [.int .i64 s.p, .int .i64 s.h, .int .i64 s.o, .int .i64 s.k]
theorem Sc.four (s : Sc) : s.cells.length = 4 := rfl
def Sc.zero : Sc := ⟨0, 0, 0, 0⟩
/-- Its numbers are numbers of 64 bits. -/
def i64in (n : Int) : Prop := -9223372036854775808 ≤ n ∧ n ≤ 9223372036854775807
def Sc.ok (s : Sc) : Prop := i64in s.p ∧ i64in s.h ∧ i64in s.o ∧ i64in s.k
/-- A score that may be. -/
def Sc.fine (s : Sc) : Prop := (-2147483647 ≤ s.p ∧ s.p ≤ 2147483647) ∧ (0 ≤ s.h ∧ s.h ≤ 2147483647) ∧ (0 ≤ s.o ∧ s.o ≤ 2147483647) ∧ (0 ≤ s.k ∧ s.k ≤ 2147483647)
instance (s : Sc) : Decidable s.fine := by unfold Sc.fine; exact inferInstance
def chk (s : Sc) : Int := if s.fine then 0 else 120
def clampI (n : Int) : Int := if n < -2147483647 then -2147483647 else if 2147483647 < n then 2147483647 else n

theorem quietL {P : Program} {f : FuncId} {args : Array Value} {w : World} {n : Nat} {v : Value} (h : Calls P f args (w.drewN n) fun e w' => e = .returned v ∧ w.drewN n = w') : Calls P f args (w.drewN n) fun e w'' => e = .returned v ∧ ∃ m, w'' = w.drewN m :=
  h.mono fun _ _ ⟨he, hm⟩ => ⟨he, n, hm.symm⟩
theorem bound_any (n : Int) (w : World) : Calls Try.prog 16 #[.int .i64 n] w fun e w' => e = .returned (.int .i64 (clampI n)) ∧ w = w' := by
  go_enter Try.func16, Try.ntmps16
  go_wp2_with fail
  all_goals
    go_ret
    refine ⟨ret_int ?_, rfl⟩
    unfold clampI
    (repeat' split) <;> (try split at *) <;> omega
theorem rbound_any (n : Int) (w : World) : Calls Try.prog 17 #[.int .i64 n] w fun e w' => e = .returned (.int .i64 (clampI n)) ∧ w = w' := by
  have H : Hid (∀ P : Prop, (2147483647 < n → clampI n = 2147483647 → P) → (¬ 2147483647 < n → n < -2147483647 → clampI n = -2147483647 → P) → (¬ 2147483647 < n → ¬ n < -2147483647 → clampI n = n → P) → P) := by
    intro P a b c
    unfold clampI at *
    by_cases h1 : 2147483647 < n
    · exact a h1 (by rw [if_neg (by omega), if_pos h1])
    · by_cases h2 : n < -2147483647
      · exact b h1 h2 (by rw [if_pos h2])
      · exact c h1 h2 (by rw [if_neg h2, if_neg h1])
  generalize clampI n = r at *
  refine H.out _ (fun h1 h => ?_) (fun h1 h2 h => ?_) (fun h1 h2 h => ?_)
  all_goals
    subst h
    clear H
    go_enter Try.func17, Try.ntmps17
    go_wp2_with fail
    go_ret
    exact ⟨rfl, rfl⟩
theorem clampI_bd (n : Int) : -2147483647 ≤ clampI n ∧ clampI n ≤ 2147483647 := by
  unfold clampI
  repeat' split
  all_goals omega
theorem clampI_id {n : Int} (h : -2147483647 ≤ n ∧ n ≤ 2147483647) : clampI n = n := by
  unfold clampI
  rw [if_neg (by omega), if_neg (by omega)]
theorem clampI_ne {n : Int} (h : ¬ (-2147483647 ≤ n ∧ n ≤ 2147483647)) : clampI n ≠ n := by
  have := clampI_bd n
  omega
theorem min3_any (x y z : Int) : ∃ m, m = min (min x y) z ∧ ∀ (ts : Array TypeId) (t : TypeId) (W : World), (Builtin.min_ ts t #[.int .i64 x, .int .i64 y, .int .i64 z]).run Try.prog W = .ok (.int .i64 m) W := by
  refine ⟨_, rfl, fun ts t W => ?_⟩
  rw [run_min_int3]
  congr 2
  (repeat' split) <;> omega
theorem max3_any (x y z : Int) : ∃ m, m = max (max x y) z ∧ ∀ (ts : Array TypeId) (t : TypeId) (W : World), (Builtin.max_ ts t #[.int .i64 x, .int .i64 y, .int .i64 z]).run Try.prog W = .ok (.int .i64 m) W := by
  refine ⟨_, rfl, fun ts t W => ?_⟩
  rw [run_max_int3]
  congr 2
  (repeat' split) <;> omega
set_option maxRecDepth 100000 in
set_option maxHeartbeats 2000000 in
theorem Check_any (s : Sc) (w : World) : Calls Try.prog 12 #[s.val] w fun e w' => e = .returned (.int .i64 (chk s)) ∧ Tch None_ w w' := by
  have HB := Lib.hid (fun W => bound_any s.p W)
  have hb1 := clampI_bd s.p
  have hb2 : (-2147483647 ≤ s.p ∧ s.p ≤ 2147483647) → clampI s.p = s.p := clampI_id
  generalize clampI s.p = q at *
  obtain ⟨p, h, o, k⟩ := s
  obtain ⟨m, hm, hmin⟩ := min3_any h o k
  obtain ⟨M, hM, hmax⟩ := max3_any h o k
  have HF : Hid (∀ P : Prop, (p ≠ q → chk ⟨p, h, o, k⟩ = 120 → P) → (p = q → m < 0 → chk ⟨p, h, o, k⟩ = 120 → P) → (p = q → ¬ m < 0 → 2147483647 < M → chk ⟨p, h, o, k⟩ = 120 → P) → (p = q → ¬ m < 0 → ¬ 2147483647 < M → chk ⟨p, h, o, k⟩ = 0 → P) → P) := by
    intro P a b c d
    by_cases h1 : p = q
    · by_cases h2 : m < 0
      · exact b h1 h2 (if_neg (by unfold Sc.fine; simp only; omega))
      · by_cases h3 : 2147483647 < M
        · exact c h1 (by omega) h3 (if_neg (by unfold Sc.fine; simp only; omega))
        · exact d h1 (by omega) (by omega) (if_pos (by unfold Sc.fine; simp only at *; omega))
    · exact a h1 (if_neg (by unfold Sc.fine; simp only at *; omega))
  simp only at HB
  generalize chk ⟨p, h, o, k⟩ = r at *
  unfold Sc.val
  clear hm hM
  refine HF.out _ (fun h1 hr => ?_) (fun h1 h2 hr => ?_) (fun h1 h2 h3 hr => ?_) (fun h1 h2 h3 hr => ?_)
  all_goals
    subst hr
    clear HF hb1 hb2
    try subst h1
    go_enter Try.func12, Try.ntmps12
    go_wp2_with fail
    go_quiet ((go_at_call 16; exact quietL (HB.out _)))
    go_wp2_with fail
    go_ret
    exact ⟨rfl, ((Tch.refl _ _).alloc _).drewN _⟩
end Go.Proofs.Ytkamhbfgjmfijaa
