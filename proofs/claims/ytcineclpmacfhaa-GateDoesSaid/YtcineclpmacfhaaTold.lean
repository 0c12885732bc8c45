/-
  No statement is proved here: what the law's function told comes to (a walk of the code).
-/
import Derived.Test.YtcineclpmacfhaaGatb
namespace Go.Proofs.Ytcineclpmacfhaa
open Go.RowKit

/-- A call of a script. -/
structure OpD where
  kind : Int
  which : Int
  seat : Int
  frame : Int
  lead : Int
  lag : Int
def OpD.vals (o : OpD) : List Value := [.int .i64 o.kind, .int .i64 o.which, .int .i64 o.seat, .int .i64 o.frame, .int .i64 o.lead, .int .i64 o.lag]
theorem OpD.six (o : OpD) : o.vals.length = 6 := rfl

def markS (n s : Nat) (l : List Int) (o : OpD) : List Int := if markB n s o.seat o.frame then markL l o.seat.toNat o.frame else l
def toldL (n s : Nat) (ops : List OpD) : List Int := ops.foldl (markS n s) (List.replicate n 0)
theorem markS_length (n s : Nat) (l : List Int) (o : OpD) : (markS n s l o).length = l.length := by unfold markS markL; split <;> simp
theorem toldL_snoc (n s : Nat) (ops : List OpD) (o : OpD) : toldL n s (ops ++ [o]) = markS n s (toldL n s ops) o := by simp [toldL]
theorem toldL_length (n s : Nat) (ops : List OpD) : (toldL n s ops).length = n := by
  unfold toldL
  suffices h : ∀ l : List Int, (ops.foldl (markS n s) l).length = l.length by simp [h]
  induction ops with
  | nil => simp
  | cons o ops ih => intro l; simp [ih, markS_length]

/-- Mark in one form. -/
theorem Mark_any (g m s : Nat) (o : OpD) (l : List Int) (w : World) (hg : GateAt w g m l s) (hl : l.length ≤ 6) :
    Calls Try.prog 14 #[.pointer (some ⟨g, 0, none⟩), .int .i64 o.seat, .int .i64 o.frame] w fun e w' => (∃ r, e = .returned (.int .i64 r)) ∧ GateAt w' g m (markS l.length s l o) s ∧ Tch (fun k => k = m) w w' := by
  unfold markS
  cases h : markB l.length s o.seat o.frame
  · refine (Mark_no g m s o.seat o.frame l w hg hl h).mono ?_
    rintro e w' ⟨rfl, rfl⟩
    exact ⟨⟨_, rfl⟩, by simpa using hg, Tch.refl _ _⟩
  · obtain ⟨h1, h2, h3, h4, h5⟩ := markB_yes h
    obtain ⟨p, hp⟩ := Int.eq_ofNat_of_zero_le h1
    rw [hp] at h2 h3 ⊢
    refine (Mark_yes g m s p o.frame l w hg hl (by omega) (by omega) h4 h5).mono ?_
    rintro e w' ⟨rfl, h6, h7⟩
    exact ⟨⟨_, rfl⟩, by simpa using h6, h7⟩

set_option maxHeartbeats 400000 in
theorem told_yes (p s n c B : Nat) (A : Option Addr) (ops : List OpD) (w : World) (h2 : 2 ≤ p) (h6 : p ≤ 6) (hs : s < p) (hB : B ≤ w.heap.size)
    (hr : Reads w B 6 A n (ops.flatMap OpD.vals)) (hn : ops.length = n) (hsz : n * 48 ≤ 140737488351232) :
    Calls Try.prog 6 #[.int .i64 p, .int .i64 s, .slice A n c] w fun e w' => ∃ g m, e = .returned (.tuple #[.pointer (some ⟨g, 0, none⟩), .bool true]) ∧ GateAt w' g m (toldL p s ops) s ∧ Tch None_ w w' := by
  have d1 : (2 : Int) ≤ p := by omega
  have d2 : (p : Int) ≤ 6 := by omega
  have d3 : (0 : Int) ≤ s := by omega
  have d4 : (s : Int) < p := by omega
  go_enter Try.func6, Try.ntmps6
  go_wp2_with fail
  refine (New_yes p s w h2 h6 hs).mono ?_
  rintro e w1 ⟨g, m, rfl, hg, hg1, hm1, ht⟩
  go_wp2_with fail
  go_loopw [11] (fun i wr => ∃ k : Nat, k ≤ n ∧ i = .int .i64 k ∧ GateAt wr g m (toldL p s (ops.take k)) s ∧ Tch None_ w wr) (fun i _ => n - (intOf i).toNat)
  case atStart => exact ⟨0, by omega, rfl, by simpa [toldL] using hg, ht⟩
  case round =>
    obtain ⟨k, hk, rfl, hgk, htk⟩ := hrel
    by_cases hlt : k < n
    · obtain ⟨b, off, rfl, _, c2⟩ := (hr.tch htk hB (fun _ _ h => h)).field OpD.six hn k 2 hlt (by omega)
      obtain ⟨b', off', e', _, c3⟩ := (hr.tch htk hB (fun _ _ h => h)).field OpD.six hn k 3 hlt (by omega)
      simp only [Option.some.injEq, Addr.mk.injEq, and_true] at e'
      obtain ⟨rfl, rfl⟩ := e'
      obtain ⟨o, ho⟩ : ∃ o, ops[k]'(by omega) = o := ⟨_, rfl⟩
      rw [ho] at c2 c3
      have H2 : Hid (toldL p s (ops.take (k + 1)) = markS p s (toldL p s (ops.take k)) o) := by
        rw [List.take_succ_eq_append_getElem (by omega), toldL_snoc, ho]; exact rfl
      have hl := toldL_length p s (ops.take k)
      have MK := fun w hg => Mark_any g m s o (toldL p s (ops.take k)) w hg (by omega)
      rw [hl] at MK
      have HMK := Lib.hid MK
      clear MK hl ho
      simp [OpD.vals] at c2 c3
      go_wp2_with fail
      go_still_tail 11, (by kernel_rfl)
      change wpList _ _ _ _ _ wr.drew
      clear c2 c3
      go_wp2_with fail
      refine (HMK.out wr.drew ⟨hgk.1.drew, hgk.2.drew⟩).mono ?_
      rintro e w2 ⟨⟨r, rfl⟩, hg2, ht2⟩
      have ht3 : Tch None_ w w2 := htk.drew.trans ht2 (fun i hi e => by omega)
      go_wp2_with fail
      go_roundw
      case rel => exact ⟨k + 1, by omega, by go_num, by rw [H2.out]; exact hg2, ht3⟩
      case measure => simp [intOf]; omega
    · go_wp2_with fail
      go_ret2
      exact ⟨g, m, rfl, by rw [List.take_of_length_le (by omega)] at hgk; exact hgk, htk⟩

set_option maxHeartbeats 400000 in
theorem told_no (p s : Int) (n c : Nat) (A : Option Addr) (w : World) (h : newB p s = false) (_ : n ≤ 9223372036854775807) :
    Calls Try.prog 6 #[.int .i64 p, .int .i64 s, .slice A n c] w fun e w' => e = .returned (.tuple #[.pointer none, .bool true]) ∧ w = w' := by
  have HN := Lib.hid (New_no p s w h)
  rcases newB_no' h with d1 | ⟨d1, d2⟩ | ⟨d1, d2, d3⟩ | ⟨d1, d2, d3, d4⟩
  all_goals
    go_enter Try.func6, Try.ntmps6
    go_wp2_with fail
    refine HN.out.mono ?_
    rintro e w1 ⟨rfl, rfl⟩
    go_wp2_with fail
    refine wp_loop_rounds 1 ?_
    rw [rounds_succ]
    by_cases hn : 0 < n
    all_goals go_wp2_with fail
    all_goals go_ret2
    all_goals exact ⟨rfl, rfl⟩
end Go.Proofs.Ytcineclpmacfhaa
