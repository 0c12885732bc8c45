/-
  No statement is proved here: what the methods of pile come to (walks of the code).
-/
import Derived.Test.YtfdgkikgafojpaaQc
namespace Go.Proofs.Ytfdgkikgafojpaa
open Go.RowKit Go.Maps

theorem ord_eq (x y : Ent) : orI (cmpI x.fr y.fr) (orI (cmpI x.pe y.pe) (cmpI x.sq y.sq)) = x.ord y := by
  unfold orI cmpI Ent.ord
  repeat' split
  all_goals omega
theorem order_ord (x y : Ent) (w : World) : Calls Try.prog 34 #[x.val, y.val] w fun e w' => e = .returned (.int .i64 (x.ord y)) ∧ Gr w w' := by
  rw [← ord_eq]
  exact order_any x y w
def lessB (x y : Ent) : Bool := decide (x.ord y < 0)
theorem lessB_iff (x y : Ent) : lessB x y = true ↔ x.lt y := by unfold lessB; rw [decide_eq_true_iff, Ent.ord_lt]

/-- The eight cells of entry e at ⟨b, o⟩. -/
def At8 (w : World) (b o : Nat) (e : Ent) : Prop :=
  w.cell? ⟨b, o, none⟩ = some (.int .i64 e.fr) ∧ w.cell? ⟨b, o + 1, none⟩ = some (.int .i64 e.pe) ∧ w.cell? ⟨b, o + 2, none⟩ = some (.int .i64 e.sq) ∧ w.cell? ⟨b, o + 3, none⟩ = some (.int .i64 e.vb) ∧
  w.cell? ⟨b, o + 4, none⟩ = some (.int .i64 e.a) ∧ w.cell? ⟨b, o + 5, none⟩ = some (.int .i64 e.b) ∧ w.cell? ⟨b, o + 6, none⟩ = some (.int .i64 e.c) ∧ w.cell? ⟨b, o + 7, none⟩ = some (.int .i64 e.ms)

theorem Reads.ent {w : World} {B n : Nat} {A : Option Addr} {l : List Ent} (h : Reads w B 8 A n (l.flatMap Ent.cells)) (hn : l.length = n) (i : Nat) (hi : i < n) :
    ∃ b o, A = some ⟨b, o, none⟩ ∧ b < B ∧ At8 w b (o + i * 8) (el l i) := by
  obtain ⟨b, o, hA, hb, h0⟩ := h.field Ent.eight hn i 0 hi (by omega)
  have hh : ∀ j, j < 8 → w.cell? ⟨b, o + i * 8 + j, none⟩ = (Ent.cells (el l i))[j]? := by
    intro j hj
    obtain ⟨b', o', hA', _, h1⟩ := h.field Ent.eight hn i j hi hj
    rw [hA] at hA'
    injection hA' with hA'
    injection hA' with e1 e2
    subst e1 e2
    rw [h1, el_get]
  exact ⟨b, o, hA, hb, hh 0 (by omega), hh 1 (by omega), hh 2 (by omega), hh 3 (by omega), hh 4 (by omega), hh 5 (by omega), hh 6 (by omega), hh 7 (by omega)⟩

set_option maxRecDepth 100000 in
set_option maxHeartbeats 1000000 in
theorem Less_any (b n c i j : Nat) (x y : Ent) (w : World) (hx : At8 w b (i * 8) x) (hy : At8 w b (j * 8) y) (hi : i < n) (hj : j < n) :
    Calls Try.prog 75 #[.slice (some ⟨b, 0, none⟩) n c, .int .i64 i, .int .i64 j] w fun e w' => e = .returned (.bool (lessB x y)) ∧ Gr w w' := by
  obtain ⟨x0, x1, x2, x3, x4, x5, x6, x7⟩ := hx
  obtain ⟨y0, y1, y2, y3, y4, y5, y6, y7⟩ := hy
  have HO := Lib.hid (fun W => order_ord x y W)
  unfold Ent.val at HO
  go_enter Try.func75, Try.ntmps75
  go_wp2_with fail
  go_still_tail 8, (by kernel_rfl)
  clear x0 x1 x2 x3 x4 x5 x6 x7 y0 y1 y2 y3 y4 y5 y6 y7
  go_wp2_with (go_at_call 34; refine (HO.out _).mono ?_; rintro e w1 ⟨rfl, hg⟩; have HG := Lib.hid hg; clear hg)
  go_ret
  exact ⟨rfl, (Gr.refl w).drew.trans HG.out⟩
end Go.Proofs.Ytfdgkikgafojpaa
