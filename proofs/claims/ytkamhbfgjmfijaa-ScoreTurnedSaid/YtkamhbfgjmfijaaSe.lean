/-
  No statement is proved here: seats in order: SortFunc at few elements (a walk of the code).
-/
import Derived.Test.YtkamhbfgjmfijaaSd
namespace Go.Proofs.Ytkamhbfgjmfijaa
open Go.RowKit

set_option maxRecDepth 100000 in
set_option maxHeartbeats 4000000 in
theorem pdq_any (l : List Sc) (m cm : Nat) (A : Option Addr) (B base : Nat) (ys : List Nat) (D : Option Addr) (n c : Nat) (lim : Int) (w : World) (hr : Reads w B 4 A m (l.flatMap Sc.cells)) (hl : l.length = m) (hB : B ≤ base) (hbw : base ≤ w.heap.size)
    (ho : w.ownsRow base 3 1 (.slice D n c) n (nums ys)) (hy : ∀ y ∈ ys, y < m) (hnd : ys.Nodup) (hn : n ≤ 12) :
    Calls Try.prog 23 #[.slice D n c, .int .i64 0, .int .i64 n, .int .i64 lim, .func (.func 18) #[.slice A m cm] #[]] w fun e w' => e = .returned (.tuple #[]) ∧ ∃ zs : List Nat, zs.Perm ys ∧ zs.Pairwise (Ahd l) ∧
      w'.ownsRow base 3 1 (.slice D n c) n (nums zs) ∧ Tch (fun k => some k = (Value.slice D n c).ownBlock) w w' := by
  have HI := Lib.hid (ins_any l m cm A B base ys D n c w hr hl hB hbw ho hy hnd hn)
  clear hr hl ho hy hnd
  go_enter Try.func23, Try.ntmps23
  go_wp2_with fail
  go_loopg [1, 2, 3, 10, 11] 0 (fun gh s1 s2 s3 s10 s11 wr => gh = 0 ∧ wr = w ∧ s1 = .int .i64 0 ∧ s2 = .int .i64 n ∧ s3 = .int .i64 lim ∧ s10 = .bool true ∧ s11 = .bool true)
  case atStart => exact ⟨rfl, rfl, rfl, rfl, rfl, rfl, rfl⟩
  case round =>
    obtain ⟨rfl, rfl, rfl, rfl, rfl, rfl, rfl⟩ := hrel
    go_wp2_with (go_at_call 26; (with_reducible refine HI.out.mono ?_); rintro e w1 ⟨rfl, zs, h1, h2, h3, h4⟩)
    refine bodyPost_ret (results_none rfl _ _ _) rfl ?_
    exact ⟨rfl, zs, h1, h2, h3, h4⟩

set_option maxRecDepth 1000000 in
set_option maxHeartbeats 4000000 in
/-- At a small number bits.Len gives some number, and nothing turns. -/
theorem len64_any (n : Nat) (w : World) (hn : n < 7) : Calls Try.prog 35 #[.int .u64 n] w fun e w' => ∃ L : Int, e = .returned (.int .i64 L) ∧ w = w' := by
  rcases (show n = 0 ∨ n = 1 ∨ n = 2 ∨ n = 3 ∨ n = 4 ∨ n = 5 ∨ n = 6 by omega) with rfl | rfl | rfl | rfl | rfl | rfl | rfl
  all_goals
    go_enter Try.func35, Try.ntmps35
    go_wp2_with fail
    go_ret
    exact ⟨_, rfl, rfl⟩
theorem len_any (n : Nat) (w : World) (hn : n < 7) : Calls Try.prog 24 #[.int .u64 n] w fun e w' => ∃ L : Int, e = .returned (.int .i64 L) ∧ w = w' := by
  have H := Lib.hid (len64_any n w hn)
  go_enter Try.func24, Try.ntmps24
  go_wp2_with (go_at_call 35; (with_reducible refine H.out.mono ?_); rintro e w1 ⟨L, rfl, rfl⟩)
  go_ret
  exact ⟨_, rfl, rfl⟩
set_option maxHeartbeats 4000000 in
theorem sort_any (l : List Sc) (m cm : Nat) (A : Option Addr) (B base : Nat) (ys : List Nat) (D : Option Addr) (n c : Nat) (w : World) (hr : Reads w B 4 A m (l.flatMap Sc.cells)) (hl : l.length = m) (hB : B ≤ base) (hbw : base ≤ w.heap.size)
    (ho : w.ownsRow base 3 1 (.slice D n c) n (nums ys)) (hy : ∀ y ∈ ys, y < m) (hnd : ys.Nodup) (hn : n < 7) :
    Calls Try.prog 19 #[.slice D n c, .func (.func 18) #[.slice A m cm] #[]] w fun e w' => e = .returned (.tuple #[]) ∧ ∃ zs : List Nat, zs.Perm ys ∧ zs.Pairwise (Ahd l) ∧
      w'.ownsRow base 3 1 (.slice D n c) n (nums zs) ∧ Tch (fun k => some k = (Value.slice D n c).ownBlock) w w' := by
  have HI := Lib.hid (fun lim => pdq_any l m cm A B base ys D n c lim w hr hl hB hbw ho hy hnd (by omega))
  have HL := Lib.hid (len_any n w hn)
  clear hr hl ho hy hnd
  go_enter Try.func19, Try.ntmps19
  go_wp2_with (first
    | (go_at_call 24; (with_reducible refine HL.out.mono ?_); rintro e w1 ⟨L, rfl, rfl⟩)
    | (go_at_call 23; (with_reducible refine (HI.out _).mono ?_); rintro e w1 ⟨rfl, zs, h1, h2, h3, h4⟩))
  go_end0
  exact ⟨rfl, zs, h1, h2, h3, h4⟩
end Go.Proofs.Ytkamhbfgjmfijaa
