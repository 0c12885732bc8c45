/-
  No statement is proved here: what pile's Pop comes to (a walk of the code), and how its methods are found through the interface.
-/
import Derived.Test.YtfdgkikgafojpaaQf
namespace Go.Proofs.Ytfdgkikgafojpaa
open Go.RowKit Go.Maps

set_option maxRecDepth 100000 in
set_option maxHeartbeats 1000000 in
theorem PPop_any (base g mb m c : Nat) (A : Option Addr) (l : List Ent) (w : World) (h : Pile w base g mb (.slice A (m + 1) c) l) (hl : l.length = m + 1) (hm : m < 1048576) :
    Calls Try.prog 77 #[.pointer (some ⟨g, 0, none⟩)] w fun x w' => x = .returned (.iface 33 (el l m).val) ∧ Pile w' base g mb (.slice A m c) (l.take m) ∧ Tch (fun k => k = g) w w' := by
  have hrow := h.row
  rw [hl] at hrow
  obtain ⟨b, cs, rfl, _, hcap, _, _, _, hbb⟩ := Blk.of_own hrow (by omega)
  obtain ⟨x0, x1, x2, x3, x4, x5, x6, x7⟩ := own_at8 hrow m (by omega)
  have c0 := h.box.cell 0
  have f0 := h.box.frozen 0
  have lg := h.box.lt
  simp at c0
  have lb := hbb.lt
  have hne := h.ne b rfl
  have HP := Lib.hid h
  have HR := Lib.hid hrow
  have HL := Lib.hid hl
  clear h hrow hbb hl
  unfold Ent.val
  go_enter Try.func77, Try.ntmps77
  go_wp2_with fail
  go_ret
  have hrow2 : w.ownsRow base 33 8 (.slice (some ⟨b, 0, none⟩) m c) m ((l.take m).flatMap Ent.cells) := by
    rw [← flat_take]
    exact own_take HR.out (by omega)
  have T : Tch (fun k => k = g) w ((w.setCell ⟨g, 0, none⟩ (.slice (some ⟨b, 0, none⟩) m c))) := (Tch.refl (fun k => k = g) w).setCell (p := ⟨g, 0, none⟩) (.inl rfl) _
  have hl2 : (l.take m).length = m := by have := HL.out; simp; omega
  refine ⟨rfl, ⟨(HP.out.box.set_ 0 _).alloc _, ?_⟩, T.alloc _⟩
  rw [hl2]
  exact (T.row hrow2 (fun k hk e => hne (by simpa [Value.ownBlock, e] using hk))).alloc _
end Go.Proofs.Ytfdgkikgafojpaa
