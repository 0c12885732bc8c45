/-
  No statement is proved here: the law's function awake returns true (a walk of the code).
-/
import Derived.Test.YtkamhbfgjmfijaaSh
namespace Go.Proofs.Ytkamhbfgjmfijaa
open Go.RowKit

theorem ahd_uniq {l : List Sc} : ∀ {a b : List Nat}, a.Perm b → a.Pairwise (Ahd l) → b.Pairwise (Ahd l) → a = b := by
  intro a
  induction a with
  | nil => intro b h _ _; exact (List.nil_perm.1 h).symm
  | cons x a ih =>
    intro b h ha hb
    cases b with
    | nil => exact absurd h.length_eq (by simp)
    | cons y b =>
      have ha' := List.pairwise_cons.1 ha
      have hb' := List.pairwise_cons.1 hb
      by_cases hxy : x = y
      · subst hxy
        rw [ih h.cons_inv ha'.2 hb'.2]
      · have h1 : x ∈ b := by
          rcases List.mem_cons.1 (h.mem_iff.1 (List.mem_cons_self ..)) with h' | h'
          · exact absurd h' hxy
          · exact h'
        have h2 : y ∈ a := by
          rcases List.mem_cons.1 (h.mem_iff.2 (List.mem_cons_self ..)) with h' | h'
          · exact absurd h'.symm hxy
          · exact h'
        exact absurd ((ha'.1 y h2).trans (hb'.1 x h1)) Ahd.irrefl
def lit2 : List Sc := [⟨1, 0, 0, 0⟩, ⟨5, 0, 0, 0⟩]
theorem lit2_reads (W : World) : Reads (W.alloc (.cells #[.int .i64 1, .int .i64 0, .int .i64 0, .int .i64 0, .int .i64 5, .int .i64 0, .int .i64 0, .int .i64 0] 23)) (W.heap.size + 1) 4 (some ⟨W.heap.size, 0, none⟩) 2 (lit2.flatMap Sc.cells) := by
  have hb := Blk.new W 23 #[.int .i64 1, .int .i64 0, .int .i64 0, .int .i64 0, .int .i64 5, .int .i64 0, .int .i64 0, .int .i64 0]
  refine ⟨rfl, fun _ => ⟨⟨W.heap.size, 0, none⟩, rfl, Nat.lt_succ_self _, fun j u hu => ?_⟩⟩
  rw [add_plain, Nat.zero_add, hb.cell]
  simpa [lit2, Sc.cells] using hu
theorem lit2_rank (W : World) : Calls Try.prog 14 #[.slice (some ⟨W.heap.size, 0, none⟩) 2 2] (W.alloc (.cells #[.int .i64 1, .int .i64 0, .int .i64 0, .int .i64 0, .int .i64 5, .int .i64 0, .int .i64 0, .int .i64 0] 23)) (RankPost lit2 (W.alloc (.cells #[.int .i64 1, .int .i64 0, .int .i64 0, .int .i64 0, .int .i64 5, .int .i64 0, .int .i64 0, .int .i64 0] 23))) :=
  rank_any lit2 2 2 (W.heap.size + 1) _ _ (lit2_reads W) rfl (by rw [World.size_alloc]; exact Nat.le_refl _)
theorem lit2_good : good lit2 := ⟨by decide +kernel, by decide +kernel⟩
theorem lit2_zs {zs : List Nat} (h : zs.Perm (List.range 2)) (hp : zs.Pairwise (Ahd lit2)) : zs = [1, 0] := by
  refine ahd_uniq (l := lit2) (h.trans (List.Perm.swap 1 0 [])) hp ?_
  simp only [List.pairwise_cons, List.mem_cons, List.not_mem_nil, or_false, forall_eq, false_implies, implies_true, List.Pairwise.nil, and_true]
  decide +kernel
set_option maxRecDepth 100000 in
set_option maxHeartbeats 4000000 in
theorem awake_any (w : World) : Calls Try.prog 7 #[] w fun e w' => e = .returned (.bool true) ∧ Tch None_ w w' := by
  have HH := Lib.hid (hit_any ⟨3, 0, 0, 7⟩ ⟨1, 0, 0, 2⟩ 2 true)
  rw [show hitP ⟨3, 0, 0, 7⟩ ⟨1, 0, 0, 2⟩ 2 true = (⟨20, 1, 0, 8⟩, ⟨-1, 0, 1, 0⟩, 0) from by decide +kernel] at HH
  have HG := Lib.hid (gain_any ⟨0, 0, 0, 0⟩ 5)
  rw [show gainP ⟨0, 0, 0, 0⟩ 5 = (⟨5, 0, 0, 0⟩, 0) from by decide +kernel] at HG
  have HC := Lib.hid (Check_any ⟨0, -1, 0, 0⟩)
  rw [show chk ⟨0, -1, 0, 0⟩ = 120 from by decide +kernel] at HC
  have HR := Lib.hid lit2_rank
  simp only [Sc.val] at HH HG HC
  go_enter Try.func7, Try.ntmps7
  go_wp2_with fail
  refine (HH.out _).mono ?_
  rintro e w1 ⟨rfl, t1⟩
  go_wp2_with fail
  have B1 := (Blk.new w1 23 #[.int .i64 20, .int .i64 1, .int .i64 0, .int .i64 8]).alloc (.cells #[.int .i64 (-1), .int .i64 0, .int .i64 1, .int .i64 0] 23)
  have B2 := Blk.new (w1.alloc (.cells #[.int .i64 20, .int .i64 1, .int .i64 0, .int .i64 8] 23)) 23 #[.int .i64 (-1), .int .i64 0, .int .i64 1, .int .i64 0]
  simp only [World.size_alloc] at B2
  refine (HG.out _).mono ?_
  rintro e w2 ⟨rfl, t2⟩
  have T2 : Tch None_ w w2 := ((t1.alloc _).alloc _).then t2
  replace B1 := B1.keep t2
  replace B2 := B2.keep t2
  clear t1 t2
  go_wp2_with fail
  have hr := HR.out (w2.alloc (.cells #[.int .i64 5, .int .i64 0, .int .i64 0, .int .i64 0] 23))
  rw [World.size_alloc] at hr
  refine hr.mono ?_
  rintro e w3 (⟨hb, _⟩ | ⟨_, v, zs, rfl, hz, hp, hrow, t3⟩)
  · exact absurd lit2_good hb
  · obtain rfl := lit2_zs hz hp
    have T23 := ((((Tch.refl None_ w2).alloc (.cells #[.int .i64 5, .int .i64 0, .int .i64 0, .int .i64 0] 23)).alloc (.cells #[.int .i64 1, .int .i64 0, .int .i64 0, .int .i64 0, .int .i64 5, .int .i64 0, .int .i64 0, .int .i64 0] 23)).then t3)
    have B3 := ((Blk.new w2 23 #[.int .i64 5, .int .i64 0, .int .i64 0, .int .i64 0]).alloc (.cells #[.int .i64 1, .int .i64 0, .int .i64 0, .int .i64 0, .int .i64 5, .int .i64 0, .int .i64 0, .int .i64 0] 23)).keep t3
    replace B1 := B1.keep T23
    replace B2 := B2.keep T23
    have hrow' : w3.ownsRow ((w2.alloc (.cells #[.int .i64 5, .int .i64 0, .int .i64 0, .int .i64 0] 23)).alloc (.cells #[.int .i64 1, .int .i64 0, .int .i64 0, .int .i64 0, .int .i64 5, .int .i64 0, .int .i64 0, .int .i64 0] 23)).heap.size 3 1 v 2 (nums [1, 0]) := hrow
    obtain ⟨A, c, rfl, _, _⟩ := own_form hrow'
    obtain ⟨d, cs, rfl, _⟩ := Blk.of_own hrow' (by omega)
    have n0 : w3.cell? ⟨d, 0, none⟩ = some (.int .i64 1) := by simpa [nl] using nums_at hrow' (i := 0) (by omega)
    have n1 : w3.cell? ⟨d, 1, none⟩ = some (.int .i64 0) := by simpa [nl] using nums_at hrow' (i := 1) (by omega)
    have a0 := B1.cell 0
    have a1 := B1.cell 1
    have a2 := B1.cell 2
    have a3 := B1.cell 3
    have b0 := B2.cell 0
    have b1 := B2.cell 1
    have b2 := B2.cell 2
    have b3 := B2.cell 3
    have g0 := B3.cell 0
    simp at a0 a1 a2 a3 b0 b1 b2 b3 g0
    have HT := Lib.hid (T2.then T23)
    clear B1 B2 B3 T2 T23 hrow hrow' t3 hz hp HR HG HH
    go_wp2_with (go_at_call 12; (with_reducible refine (HC.out _).mono ?_); rintro e w4 ⟨rfl, t4⟩)
    go_ret
    exact ⟨rfl, HT.out.then t4⟩
end Go.Proofs.Ytkamhbfgjmfijaa
