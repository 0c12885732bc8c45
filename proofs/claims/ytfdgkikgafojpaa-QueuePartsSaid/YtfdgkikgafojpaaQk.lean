/-
  No statement is proved here: container/heap's Push and Pop over a pile (walks of the code).
-/
import Derived.Test.YtfdgkikgafojpaaQj
namespace Go.Proofs.Ytfdgkikgafojpaa
open Go.RowKit Go.Maps

theorem Pile.form {w : World} {base g mb : Nat} {v : Value} {l : List Ent} (h : Pile w base g mb v l) (hl : 0 < l.length) : ∃ b c, v = .slice (some ⟨b, 0, none⟩) l.length c := by
  have hr := h.row
  obtain ⟨A, c, rfl, _, _⟩ := own_form hr
  obtain ⟨b, cs, rfl, _⟩ := Blk.of_own hr hl
  exact ⟨b, c, rfl⟩

set_option maxRecDepth 100000 in
set_option maxHeartbeats 1000000 in
theorem hPush_any (base g mb : Nat) (v : Value) (l : List Ent) (e : Ent) (w : World) (h : Pile w base g mb v l) (hh : Heap l) (hl : l.length < 4096) (hbase : base ≤ w.heap.size) :
    Calls Try.prog 22 #[.iface 65 (.pointer (some ⟨g, 0, none⟩)), .iface 33 e.val] w fun x w' => x = .returned (.tuple #[]) ∧ ∃ v' l', l'.Perm (l ++ [e]) ∧ Heap l' ∧ Pile w' base g mb v' l' ∧
      Tch (fun k => k = g ∨ v.ownBlock = some k) w w' ∧ (v'.ownBlock = v.ownBlock ∨ ∃ k, v'.ownBlock = some k ∧ w.heap.size ≤ k) := by
  have hml := m_len
  have hmp := m_push
  have HP := Lib.hid (PPush_any base g mb v l e w h hl hbase)
  have HB := Lib.hid h
  clear h
  unfold Ent.val at *
  go_enter Try.func22, Try.ntmps22
  go_wp2_with (go_at_call 78; (with_reducible refine HP.out.mono ?_); rintro x w1 ⟨v1, rfl, hp1, ht1, hv1⟩; have HP1 := Lib.hid hp1; have HT1 := Lib.hid ht1; have HV1 := Lib.hid hv1; clear ht1 hv1; obtain ⟨b, c, rfl⟩ := hp1.form (by simp); have c1 : w1.cell? ⟨g, 0, none⟩ = some (.slice (some ⟨b, 0, none⟩) (l.length + 1) c) := (by simpa using hp1.box.cell 0); clear hp1)
  refine (PLen_any (l.length + 1) c _ w1).mono ?_
  rintro x w2 ⟨rfl, rfl⟩
  clear c1
  have HU := Lib.hid (up_any base g mb b c l.length (l ++ [e]) w1 HP1.out (UpInv.start hh e) (by simp; omega))
  go_wp2_with (go_at_call 29; (with_reducible refine HU.out.mono ?_); rintro x w2 ⟨rfl, l', hp, hhp, hP2, hT2⟩)
  go_end0
  refine ⟨rfl, _, l', hp, hhp, hP2, HT1.out.trans hT2 (fun i hi hb => ?_), HV1.out⟩
  subst hb
  rcases HV1.out with hv | ⟨k, hk, hge⟩
  · exact .inr hv.symm
  · simp only [Value.ownBlock, Option.some.injEq] at hk
    omega

set_option maxRecDepth 100000 in
set_option maxHeartbeats 1000000 in
theorem hPop_any (base g mb b n c : Nat) (l : List Ent) (w : World) (h : Pile w base g mb (.slice (some ⟨b, 0, none⟩) (n + 1) c) l) (hh : Heap l) (hl : l.length = n + 1) (hn : n ≤ 4096) :
    Calls Try.prog 23 #[.iface 65 (.pointer (some ⟨g, 0, none⟩))] w fun x w' => x = .returned (.iface 33 (el l 0).val) ∧ ∃ l', (el l 0 :: l').Perm l ∧ Heap l' ∧ Pile w' base g mb (.slice (some ⟨b, 0, none⟩) n c) l' ∧ Tch (fun k => k = g ∨ k = b) w w' := by
  have hml := m_len
  have hms := m_swap
  have hmp := m_pop
  have c0 : w.cell? ⟨g, 0, none⟩ = some (.slice (some ⟨b, 0, none⟩) (n + 1) c) := by simpa using h.box.cell 0
  have hrow := h.row
  rw [hl] at hrow
  have HS := Lib.hid (show Calls Try.prog 76 #[.slice (some ⟨b, 0, none⟩) (n + 1) c, .int .i64 0, .int .i64 n] w _ from Swap_any base b (n + 1) c 0 n l w hrow (by omega) (by omega))
  have HP := Lib.hid h
  have HN := Lib.hid (h.ne b rfl)
  clear h hrow
  go_enter Try.func23, Try.ntmps23
  go_wp2_with fail
  refine (PLen_any (n + 1) c _ w).mono ?_
  rintro x w2 ⟨rfl, rfl⟩
  go_wp2_with (go_at_call 76; (with_reducible refine HS.out.mono ?_); rintro x w2 ⟨rfl, hr2, hT2⟩; have HR2 := Lib.hid hr2; have HT2 := Lib.hid hT2; clear hr2 hT2)
  have hlen : (swapL l 0 n).length = n + 1 := by simpa using hl
  have hP2 : Pile w2 base g mb (.slice (some ⟨b, 0, none⟩) (n + 1) c) (swapL l 0 n) := ⟨HP.out.box.tch HT2.out (fun e => HN.out e.symm), by rw [hlen]; exact HR2.out⟩
  have HD := Lib.hid (down_any base g mb b c n (swapL l 0 n) w2 hP2 (DownInv.start hh (by omega)) hlen hn)
  clear hP2 c0
  go_wp2_with (go_at_call 30; (with_reducible refine HD.out.mono ?_); rintro x w3 ⟨⟨r, rfl⟩, l', i, hDA, hh3⟩; have HDA := Lib.hid hDA; clear hDA)
  have hlen3 : l'.length = n + 1 := HDA.out.perm.length_eq.trans hlen
  have HPP := Lib.hid (PPop_any base g mb n c _ l' w3 HDA.out.pile hlen3 (by omega))
  have hlast : el l' n = el l 0 := by
    rw [HDA.out.last, el_swapL (by omega) (by omega)]
    simp
  rw [hlast] at HPP
  have HLAST := Lib.hid hlast
  clear hlast
  unfold Ent.val at *
  go_wp2_with (go_at_call 77; (with_reducible refine HPP.out.mono ?_); rintro x w4 ⟨rfl, hP4, hT4⟩)
  go_ret
  refine ⟨rfl, l'.take n, ?_, hh3, hP4, ((HT2.out.then HDA.out.tch).mono (fun i _ h => .inr h)).trans hT4 (fun i _ h => .inl h)⟩
  have h1 := take_last (l := l') (n := n) (by omega)
  rw [HLAST.out] at h1
  have h2 : (el l 0 :: l'.take n).Perm l' := by
    conv => rhs; rw [h1]
    exact (List.perm_append_comm (l₁ := [el l 0]) (l₂ := l'.take n))
  exact h2.trans (HDA.out.perm.trans (perm_swapL (by omega) (by omega)))
end Go.Proofs.Ytfdgkikgafojpaa
