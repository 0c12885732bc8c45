/-
  No statement is proved here: what order comes to (a walk of the code).
-/
import Derived.Test.YtfdgkikgafojpaaQb
import Derived.Deep.DeepCutAuto
namespace Go.Proofs.Ytfdgkikgafojpaa
open Go.RowKit Go.Maps

theorem bcell {W w1 : World} (hb : Tch None_ W w1) : (∀ b o, b < W.heap.size → w1.cell? ⟨b, o, none⟩ = W.cell? ⟨b, o, none⟩) ∧ (∀ b o, b < W.heap.size → w1.frozen? ⟨b, o, none⟩ = W.frozen? ⟨b, o, none⟩) :=
  ⟨fun b o h => hb.cell (p := ⟨b, o, none⟩) h (fun h => h), fun b o h => hb.below.frozen (p := ⟨b, o, none⟩) h⟩

theorem cell_top {w : World} {cs : Array Value} {t : TypeId} {b i : Nat} (hb : b = w.heap.size) : (w.alloc (.cells cs t)).cell? ⟨b, i, none⟩ = cs[i]? := by
  subst hb
  exact (Blk.new w t cs).cell i
theorem cell_drew (w : World) (b i : Nat) : w.drew.cell? ⟨b, i, none⟩ = w.cell? ⟨b, i, none⟩ := rfl
theorem cell_low {w : World} {o : Obj} {b i : Nat} (hb : b < w.heap.size) : (w.alloc o).cell? ⟨b, i, none⟩ = w.cell? ⟨b, i, none⟩ := World.cell?_alloc_lt w o ⟨b, i, none⟩ hb
theorem cell_far {w : World} {b i b' i' : Nat} {v : Value} (h : b' ≠ b ∨ i' ≠ i) : (w.setCell ⟨b', i', none⟩ v).cell? ⟨b, i, none⟩ = w.cell? ⟨b, i, none⟩ := by
  refine World.cell?_setCell_other w _ _ v fun e => ?_
  injection e with e1 e2
  omega
theorem cell_hit {w : World} {b i : Nat} {u v : Value} (hu : w.cell? ⟨b, i, none⟩ = some u) : (w.setCell ⟨b, i, none⟩ v).cell? ⟨b, i, none⟩ = some v := by
  exact World.cell?_setCell_same' _ _ _ (by rw [hu]; rfl)

set_option maxRecDepth 100000 in
set_option maxHeartbeats 4000000 in
theorem order_any (x y : Ent) (w : World) : Calls Try.prog 34 #[x.val, y.val] w fun e w' => e = .returned (.int .i64 (orI (cmpI x.fr y.fr) (orI (cmpI x.pe y.pe) (cmpI x.sq y.sq)))) ∧ Gr w w' := by
  have HK := Lib.hid keyOf_any
  unfold Ent.val
  go_enter Try.func34, Try.ntmps34
  go_upto_region 1 with fail
  go_cut [5, 6] (fun s5 s6 wx => ∃ b5 b6 : Nat, s5 = .pointer (some ⟨b5, 0, none⟩) ∧ s6 = .pointer (some ⟨b6, 0, none⟩) ∧ wx.cell? ⟨b5, 0, none⟩ = some (.int .i64 x.fr) ∧ wx.cell? ⟨b5, 1, none⟩ = some (.int .i64 x.pe) ∧ wx.cell? ⟨b5, 2, none⟩ = some (.int .i64 x.sq) ∧ wx.cell? ⟨b6, 0, none⟩ = some (.int .i64 y.fr) ∧ wx.cell? ⟨b6, 1, none⟩ = some (.int .i64 y.pe) ∧ wx.cell? ⟨b6, 2, none⟩ = some (.int .i64 y.sq) ∧ Gr w wx)
  case first =>
    have G0 : Gr w ((w.alloc (.cells #[.int .i64 x.fr, .int .i64 x.pe, .int .i64 x.sq, .int .i64 x.vb, .int .i64 x.a, .int .i64 x.b, .int .i64 x.c, .int .i64 x.ms] 33)).alloc (.cells #[.int .i64 y.fr, .int .i64 y.pe, .int .i64 y.sq, .int .i64 y.vb, .int .i64 y.a, .int .i64 y.b, .int .i64 y.c, .int .i64 y.ms] 33)) := ((Gr.refl w).alloc _).alloc _
    have B0 := (Blk.new w 33 #[.int .i64 x.fr, .int .i64 x.pe, .int .i64 x.sq, .int .i64 x.vb, .int .i64 x.a, .int .i64 x.b, .int .i64 x.c, .int .i64 x.ms]).alloc (.cells #[.int .i64 y.fr, .int .i64 y.pe, .int .i64 y.sq, .int .i64 y.vb, .int .i64 y.a, .int .i64 y.b, .int .i64 y.c, .int .i64 y.ms] 33)
    have B1 := (Blk.new (w.alloc (.cells #[.int .i64 x.fr, .int .i64 x.pe, .int .i64 x.sq, .int .i64 x.vb, .int .i64 x.a, .int .i64 x.b, .int .i64 x.c, .int .i64 x.ms] 33)) 33 #[.int .i64 y.fr, .int .i64 y.pe, .int .i64 y.sq, .int .i64 y.vb, .int .i64 y.a, .int .i64 y.b, .int .i64 y.c, .int .i64 y.ms])
    rw [show (w.alloc (.cells #[.int .i64 x.fr, .int .i64 x.pe, .int .i64 x.sq, .int .i64 x.vb, .int .i64 x.a, .int .i64 x.b, .int .i64 x.c, .int .i64 x.ms] 33)).heap.size = w.heap.size + 1 from by simp] at B1
    generalize (w.alloc (.cells #[.int .i64 x.fr, .int .i64 x.pe, .int .i64 x.sq, .int .i64 x.vb, .int .i64 x.a, .int .i64 x.b, .int .i64 x.c, .int .i64 x.ms] 33)).alloc (.cells #[.int .i64 y.fr, .int .i64 y.pe, .int .i64 y.sq, .int .i64 y.vb, .int .i64 y.a, .int .i64 y.b, .int .i64 y.c, .int .i64 y.ms] 33) = W at *
    have HS : Hid (∀ w', Gr W w' → w'.cell? ⟨w.heap.size, 0, none⟩ = some (.int .i64 x.fr) ∧ w'.cell? ⟨w.heap.size, 1, none⟩ = some (.int .i64 x.pe) ∧ w'.cell? ⟨w.heap.size, 2, none⟩ = some (.int .i64 x.sq) ∧ w'.cell? ⟨w.heap.size, 3, none⟩ = some (.int .i64 x.vb) ∧ w'.cell? ⟨w.heap.size, 4, none⟩ = some (.int .i64 x.a) ∧ w'.cell? ⟨w.heap.size, 5, none⟩ = some (.int .i64 x.b) ∧ w'.cell? ⟨w.heap.size, 6, none⟩ = some (.int .i64 x.c) ∧ w'.cell? ⟨w.heap.size, 7, none⟩ = some (.int .i64 x.ms) ∧
        w'.cell? ⟨w.heap.size + 1, 0, none⟩ = some (.int .i64 y.fr) ∧ w'.cell? ⟨w.heap.size + 1, 1, none⟩ = some (.int .i64 y.pe) ∧ w'.cell? ⟨w.heap.size + 1, 2, none⟩ = some (.int .i64 y.sq) ∧ w'.cell? ⟨w.heap.size + 1, 3, none⟩ = some (.int .i64 y.vb) ∧ w'.cell? ⟨w.heap.size + 1, 4, none⟩ = some (.int .i64 y.a) ∧ w'.cell? ⟨w.heap.size + 1, 5, none⟩ = some (.int .i64 y.b) ∧ w'.cell? ⟨w.heap.size + 1, 6, none⟩ = some (.int .i64 y.c) ∧ w'.cell? ⟨w.heap.size + 1, 7, none⟩ = some (.int .i64 y.ms)) := by
      intro w' h
      have k0 := B0.keep h.tch
      have k1 := B1.keep h.tch
      refine ⟨?_, ?_, ?_, ?_, ?_, ?_, ?_, ?_, ?_, ?_, ?_, ?_, ?_, ?_, ?_, ?_⟩
      all_goals first | exact k0.cell _ | exact k1.cell _
    clear B0 B1
    go_region_held3 (fun w' => w'.cell? ⟨w.heap.size, 0, none⟩ = some (.int .i64 x.fr) ∧ w'.cell? ⟨w.heap.size, 1, none⟩ = some (.int .i64 x.pe) ∧ w'.cell? ⟨w.heap.size, 2, none⟩ = some (.int .i64 x.sq) ∧ w'.cell? ⟨w.heap.size, 3, none⟩ = some (.int .i64 x.vb) ∧ w'.cell? ⟨w.heap.size, 4, none⟩ = some (.int .i64 x.a) ∧ w'.cell? ⟨w.heap.size, 5, none⟩ = some (.int .i64 x.b) ∧ w'.cell? ⟨w.heap.size, 6, none⟩ = some (.int .i64 x.c) ∧ w'.cell? ⟨w.heap.size, 7, none⟩ = some (.int .i64 x.ms) ∧
        w'.cell? ⟨w.heap.size + 1, 0, none⟩ = some (.int .i64 y.fr) ∧ w'.cell? ⟨w.heap.size + 1, 1, none⟩ = some (.int .i64 y.pe) ∧ w'.cell? ⟨w.heap.size + 1, 2, none⟩ = some (.int .i64 y.sq) ∧ w'.cell? ⟨w.heap.size + 1, 3, none⟩ = some (.int .i64 y.vb) ∧ w'.cell? ⟨w.heap.size + 1, 4, none⟩ = some (.int .i64 y.a) ∧ w'.cell? ⟨w.heap.size + 1, 5, none⟩ = some (.int .i64 y.b) ∧ w'.cell? ⟨w.heap.size + 1, 6, none⟩ = some (.int .i64 y.c) ∧ w'.cell? ⟨w.heap.size + 1, 7, none⟩ = some (.int .i64 y.ms))
      ((refine HS.out _ ?_; (repeat (first | with_reducible exact Gr.refl _ | with_reducible apply Gr.drew | with_reducible apply Gr.alloc | ((with_reducible refine Gr.setCell ?_ ?_ _); rotate_left; (first | omega | (simp <;> omega))) | with_reducible refine Gr.trans ?_ (by assumption)))))
      (first
        | (go_at_call 21
           first
             | ((with_reducible refine (HK.out x _).mono ?_); rintro e w1 ⟨rfl, hg1, hz1⟩; obtain ⟨hc1, hf1⟩ := bcell hg1.tch; have z1 : W.heap.size < w1.heap.size := (by first | omega | (simp at hz1; omega)); have z2 : W.heap.size + 1 < w1.heap.size := (by first | omega | (simp at hz1; omega)); clear hz1)
             | ((with_reducible refine (HK.out y _).mono ?_); rintro e w2 ⟨rfl, hg2, hz2⟩; obtain ⟨hc2, hf2⟩ := bcell hg2.tch; have z3 : w1.heap.size < w2.heap.size := (by first | omega | (simp at hz2; omega)); have z4 : w1.heap.size + 1 < w2.heap.size := (by first | omega | (simp at hz2; omega)); clear hz2; have z5 : W.heap.size < w2.heap.size := (by omega); have z6 : W.heap.size + 1 < w2.heap.size := (by omega))))
    all_goals
      go_wp2_with fail
      go_meet
      refine ⟨_, _, rfl, rfl, ?_, ?_, ?_, ?_, ?_, ?_, ?_⟩
      rotate_left 6
      · repeat (first | with_reducible exact G0 | with_reducible apply Gr.drew | with_reducible apply Gr.alloc | ((with_reducible refine Gr.setCell ?_ ?_ _); rotate_left; (have := G0.size; first | omega | (simp <;> omega))) | with_reducible refine Gr.trans ?_ (by assumption))
      all_goals
        repeat (first
          | (with_reducible rfl)
          | ((with_reducible refine (cell_top ?_).trans rfl); (first | rfl | (simp <;> omega)); done)
          | ((with_reducible refine (cell_far ?_).trans ?_); (first | omega | (simp <;> omega)))
          | (with_reducible apply cell_hit)
          | ((with_reducible refine (cell_low ?_).trans ?_); (first | omega | (simp <;> omega)))
          | ((with_reducible refine (hc2 _ _ ?_).trans ?_); (first | omega | (simp <;> omega)))
          | ((with_reducible refine (hc1 _ _ ?_).trans ?_); (first | omega | (simp <;> omega)))
          | (with_reducible refine (cell_drew _ _ _).trans ?_))
  case rest =>
    obtain ⟨b5, b6, rfl, rfl, c50, c51, c52, c60, c61, c62, hg⟩ := hcut
    go_wp2_with fail
    go_still_tail 15, (by kernel_rfl)
    still_call ((Cmp64_any _ _ _).mono fun e w' h => ⟨h.1, h.2.symm⟩)
    repeat still_step
    still_call ((Cmp_any _ _ _).mono fun e w' h => ⟨h.1, h.2.symm⟩)
    repeat still_step
    still_call ((Cmp_any _ _ _).mono fun e w' h => ⟨h.1, h.2.symm⟩)
    repeat still_step
    refine wpStill_nil ?_
    have HG := Lib.hid hg
    clear c50 c51 c52 c60 c61 c62 hg
    go_wp2_with fail
    refine (Or3_any _ _ _ _ _ (Blk.new _ _ _).drew).mono ?_
    rintro e w2 ⟨rfl, rfl⟩
    go_wp2_with fail
    go_ret
    exact ⟨rfl, (HG.out.alloc _).drew⟩
end Go.Proofs.Ytfdgkikgafojpaa
