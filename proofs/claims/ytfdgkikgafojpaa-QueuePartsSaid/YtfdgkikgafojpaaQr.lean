/-
  No statement is proved here: what the reference's Order and the law's entry come to (walks of the code).
-/
import Derived.Test.YtfdgkikgafojpaaQq
namespace Go.Proofs.Ytfdgkikgafojpaa
open Go.RowKit Go.Maps

theorem ord_cases (x y : Ent) (P : Prop) (a : x.fr < y.fr → x.ord y = -1 → P) (b : y.fr < x.fr → x.ord y = 1 → P) (c : x.fr = y.fr → x.pe < y.pe → x.ord y = -1 → P) (d : x.fr = y.fr → y.pe < x.pe → x.ord y = 1 → P)
    (e : x.fr = y.fr → x.pe = y.pe → x.sq < y.sq → x.ord y = -1 → P) (f : x.fr = y.fr → x.pe = y.pe → y.sq < x.sq → x.ord y = 1 → P) (g : x.fr = y.fr → x.pe = y.pe → x.sq = y.sq → x.ord y = 0 → P) : P := by
  unfold Ent.ord at *
  rcases Int.lt_trichotomy x.fr y.fr with h1 | h1 | h1
  · exact a h1 (if_pos h1)
  · rcases Int.lt_trichotomy x.pe y.pe with h2 | h2 | h2
    · exact c h1 h2 (by rw [if_neg (by omega), if_neg (by omega), if_pos h2])
    · rcases Int.lt_trichotomy x.sq y.sq with h3 | h3 | h3
      · exact e h1 h2 h3 (by rw [if_neg (by omega), if_neg (by omega), if_neg (by omega), if_neg (by omega), if_pos h3])
      · exact g h1 h2 h3 (by rw [if_neg (by omega), if_neg (by omega), if_neg (by omega), if_neg (by omega), if_neg (by omega), if_neg (by omega)])
      · exact f h1 h2 h3 (by rw [if_neg (by omega), if_neg (by omega), if_neg (by omega), if_neg (by omega), if_neg (by omega), if_pos h3])
    · exact d h1 h2 (by rw [if_neg (by omega), if_neg (by omega), if_neg (by omega), if_pos h2])
  · exact b h1 (by rw [if_neg (by omega), if_pos h1])

set_option maxRecDepth 100000 in
set_option maxHeartbeats 4000000 in
theorem Order_any (x y : Ent) (w : World) : Calls Try.prog 12 #[x.val, y.val] w fun e w' => e = .returned (.int .i64 (x.ord y)) ∧ Gr w w' := by
  have HO : Hid (∀ P : Prop, _) := ord_cases x y
  unfold Ent.val
  generalize x.ord y = r at HO ⊢
  obtain ⟨xf, xp, xs, xv, xa, xb, xc, xm⟩ := x
  obtain ⟨yf, yp, ys, yv, ya, yb, yc, ym⟩ := y
  simp only at HO ⊢
  go_enter Try.func12, Try.ntmps12
  go_upto_region 1 with fail
  go_cut [5, 6] (fun s5 s6 wx => ∃ b5 b6 : Nat, s5 = .pointer (some ⟨b5, 0, none⟩) ∧ s6 = .pointer (some ⟨b6, 0, none⟩) ∧
    wx.cell? ⟨b5, 0, none⟩ = some (.int .i64 xf) ∧ wx.cell? ⟨b5, 1, none⟩ = some (.int .i64 xp) ∧ wx.cell? ⟨b5, 2, none⟩ = some (.int .i64 xs) ∧ wx.cell? ⟨b6, 0, none⟩ = some (.int .i64 yf) ∧ wx.cell? ⟨b6, 1, none⟩ = some (.int .i64 yp) ∧ wx.cell? ⟨b6, 2, none⟩ = some (.int .i64 ys) ∧ Gr w wx)
  case first =>
    go_region
    all_goals
      go_wp2_with fail
      go_meet
      refine ⟨_, _, rfl, rfl, ?_, ?_, ?_, ?_, ?_, ?_, (((((Gr.refl w).alloc _).alloc _).alloc _).alloc _).drew⟩
      all_goals
        refine (cell_drew _ _ _).trans ?_
        first
          | exact (cell_top (by simp)).trans rfl
          | exact (cell_low (by simp)).trans ((cell_top (by simp)).trans rfl)
  case rest =>
    obtain ⟨b5, b6, rfl, rfl, c50, c51, c52, c60, c61, c62, hg⟩ := hcut
    have HG := Lib.hid hg
    clear hg
    refine HO.out _ (fun h1 h => ?_) (fun h1 h => ?_) (fun h1 h2 h => ?_) (fun h1 h2 h => ?_) (fun h1 h2 h3 h => ?_) (fun h1 h2 h3 h => ?_) (fun h1 h2 h3 h => ?_)
    all_goals
      subst h
      clear HO
      (try subst h1)
      (try subst h2)
      (try subst h3)
      go_wp2
      go_ret
      exact ⟨rfl, HG.out⟩
theorem entry_any (fr pe sq : Int) (w : World) : Calls Try.prog 14 #[.int .i64 fr, .int .i64 pe, .int .i64 sq] w fun e w' => e = .returned (.agg #[.int .i64 fr, .int .i64 pe, .int .i64 sq, .int .i64 0, .int .i64 0, .int .i64 0, .int .i64 0, .int .i64 0]) ∧ Gr w w' := by
  go_enter Try.func14, Try.ntmps14
  go_wp2
  exact bodyPost_ret (v := .agg #[.int .i64 fr, .int .i64 pe, .int .i64 sq, .int .i64 0, .int .i64 0, .int .i64 0, .int .i64 0, .int .i64 0]) (by simp [results, Try.results14, go_sem]) rfl ⟨rfl, (Gr.refl w).alloc _⟩
end Go.Proofs.Ytfdgkikgafojpaa
