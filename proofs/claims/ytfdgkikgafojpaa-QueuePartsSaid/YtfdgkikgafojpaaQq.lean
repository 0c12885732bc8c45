/-
  No statement is proved here: what the queue's Below comes to (a walk of the code).
-/
import Derived.Test.YtfdgkikgafojpaaQp
namespace Go.Proofs.Ytfdgkikgafojpaa
open Go.RowKit Go.Maps

theorem own_ne2 {w : World} {b2 s2 n2 : Nat} {t2 : TypeId} {v1 v2 : Value} {x2 : List Value} (h2 : w.ownsRow b2 t2 s2 v2 n2 x2) (hlt : ∀ k, v1.ownBlock = some k → k < b2) : ∀ k, v1.ownBlock = some k → ¬ v2.ownBlock = some k := by
  intro k hk e
  have := (h2.lt k e).1
  have := hlt k hk
  omega
theorem ents_one (l : List Ent) : ∀ u ∈ l.flatMap Ent.cells, u.oneCell' = true := by
  intro u hu
  obtain ⟨e, _, he⟩ := List.mem_flatMap.1 hu
  simp only [Ent.cells, List.mem_cons, List.not_mem_nil, or_false] at he
  rcases he with rfl | rfl | rfl | rfl | rfl | rfl | rfl | rfl <;> rfl
theorem one_ent (w : World) (e : Ent) : Reads (w.alloc (.cells #[.int .i64 e.fr, .int .i64 e.pe, .int .i64 e.sq, .int .i64 e.vb, .int .i64 e.a, .int .i64 e.b, .int .i64 e.c, .int .i64 e.ms] 33)) (w.heap.size + 1) 8 (some ⟨w.heap.size, 0, none⟩) 1 e.cells :=
  ⟨rfl, fun _ => ⟨_, rfl, by simp, fun j u hu => by rw [add_plain, cell_of_row _ _ _ _ _ (0, 0) (heap_alloc_new w _)]; simpa [Ent.cells] using hu⟩⟩

/-- What Below leaves. -/
def BelowPost (g mb : Nat) (v : Value) (s : List Ent) (fr : Int) (w : World) (x : Ending) (w' : World) : Prop := ∃ vo v' low s', x = .returned vo ∧ s = low ++ s' ∧ (∀ x ∈ low, x.fr ≤ fr) ∧ (∀ x ∈ s', ¬ x.fr ≤ fr) ∧ QS w' g mb v' s' ∧
      w'.ownsRow w.heap.size 33 8 vo low.length (low.flatMap Ent.cells) ∧ Tch (QTch g mb v) w w' ∧ v'.ownBlock = v.ownBlock
set_option maxRecDepth 100000 in
set_option maxHeartbeats 2000000 in
theorem QsBelow (g mb : Nat) (v : Value) (s : List Ent) (fr : Int) (w : World) (h : QS w g mb v s) :
    Calls Try.prog 16 #[.pointer (some ⟨g, 0, none⟩), .int .i64 fr] w (BelowPost g mb v s fr w) := by
  obtain ⟨i0, hi, hz0, hz1, hz2⟩ := info_parts infoEnt
  have hvlt := h.vlt
  have hglt := h.glt
  have hmlt := h.mlt
  have HS := Lib.hid h
  have HSL := Lib.hid h.len
  have HV := Lib.hid hvlt
  clear h hvlt
  go_enter Try.func16, Try.ntmps16
  go_wp2_with fail
  go_loopg [5] s.length (fun gh s5 wr => ∃ vo v' low s', vo = s5 ∧ s'.length = gh ∧ Hid (QS wr g mb v' s') ∧ Hid (s = low ++ s') ∧ Hid (∀ x ∈ low, x.fr ≤ fr) ∧ Hid (wr.ownsRow w.heap.size 33 8 vo low.length (low.flatMap Ent.cells)) ∧ Hid (Tch (QTch g mb v) w wr) ∧ Hid (v'.ownBlock = v.ownBlock))
  case atStart => exact ⟨_, v, [], s, rfl, rfl, HS.out, rfl, by simp [Hid], World.ownsRow_nil _ _ _ _, Tch.refl _ _, rfl⟩
  case round =>
    obtain ⟨vo, v', low, s', rfl, rfl, hq, hsp, hlo, hrow, hT, hv⟩ := hrel
    cases s' with
    | nil =>
      obtain ⟨l, hqa, hp⟩ := hq.out.ex
      have hl := List.perm_nil.1 hp
      subst hl
      have c0 := hqa.pile.box.cell 0
      have hr0 := hqa.pile.row
      obtain ⟨A, c, rfl, _, _⟩ := own_form hr0
      simp at c0
      clear hqa hr0 hp
      go_wp2_with fail
      go_ret
      exact ⟨_, _, low, [], rfl, hsp.out, hlo.out, by simp, hq.out, hrow.out, hT.out, hv.out⟩
    | cons e s' =>
      obtain ⟨b, n, c, rfl, hn, c0, x0, _⟩ := hq.out.head
      by_cases hle : e.fr ≤ fr
      · have HP := Lib.hid (QsPop_some g mb _ e s' wr hq.out)
        unfold Ent.val at HP
        have hle' : e.fr ≤ fr := hle
        clear hn
        have hlen : low.length + (s'.length + 1) ≤ 4096 := by
          have h1 := HSL.out
          rw [hsp.out] at h1
          simpa using h1
        have hne : ∀ k, vo.ownBlock = some k → ¬ QTch g mb (.slice (some ⟨b, 0, none⟩) (n + 1) c) k := by
          intro k hk hq'
          have h1 := (hrow.out.lt k hk).1
          rcases hq' with (hq' | hq') | hq'
          · omega
          · omega
          · have := HV.out k (hv.out ▸ hq')
            omega
        have h63 : low.length + 1 ≤ maxLen := by simp only [maxLen]; omega
        have h64 : (low.length + 1) * 64 ≤ 140737488355328 := by omega
        go_wp2_with (first
          | (go_at_call 11; (with_reducible refine HP.out.mono ?_); rintro x w1 ⟨v1, rfl, hq1, hT1, hv1⟩; have HQ1 := Lib.hid hq1; have HT1 := Lib.hid hT1; have HV1 := Lib.hid hv1; clear hq1 hT1 hv1 c0 x0; have hsz : w.heap.size ≤ w1.heap.size := Nat.le_trans hT.out.size HT1.out.size; have hx := ((HT1.out.row hrow.out hne).alloc (.cells #[.int .i64 e.fr, .int .i64 e.pe, .int .i64 e.sq, .int .i64 e.vb, .int .i64 e.a, .int .i64 e.b, .int .i64 e.c, .int .i64 e.ms] 33)).alloc (.cells #[.int .i64 e.fr, .int .i64 e.pe, .int .i64 e.sq, .int .i64 e.vb, .int .i64 e.a, .int .i64 e.b, .int .i64 e.c, .int .i64 e.ms] 33))
          | (at_builtin; refine wpList_append_any _ rfl (.tmp 33) (.tmp 35) 22 rfl w.heap.size 33 i0 _ 8 64 Try.underlying22 hi hz0 hz1 hz2 rfl (by omega) _ _ _ rfl hx (w1.heap.size + 2) (some ⟨w1.heap.size + 1, 0, none⟩) 1 1 e.cells rfl (by have := one_ent (w1.alloc (.cells #[.int .i64 e.fr, .int .i64 e.pe, .int .i64 e.sq, .int .i64 e.vb, .int .i64 e.a, .int .i64 e.b, .int .i64 e.c, .int .i64 e.ms] 33)) e; simpa using this) (by simp [Ent.cells, Value.oneCell']) h63 h64 (by simp; omega) ?_; intro v2 w2 hown2 hg2 hat2; have HO2 := Lib.hid hown2; have HG2 := Lib.hid hg2; clear hx hown2 hg2 hat2))
        have T12 : Tch (fun k => some k = vo.ownBlock) w1 w2 := (((Tch.refl (fun k => some k = vo.ownBlock) w1).alloc _).alloc _).grown HG2.out (fun k hk => .inl hk.symm)
        have hge : ∀ k, some k = vo.ownBlock → w.heap.size ≤ k := fun k hk => (hrow.out.lt k hk.symm).1
        have hv1 : v1.ownBlock = v.ownBlock := HV1.out.trans hv.out
        have hvo : (Value.slice (some ⟨b, 0, none⟩) (n + 1) c).ownBlock = v.ownBlock := hv.out
        have T01 : Tch (QTch g mb v) w w1 := hT.out.trans HT1.out (fun i _ h => by
          rcases h with h | h
          · exact .inl h
          · exact .inr (hvo ▸ h))
        go_roundg s'.length
        case measure => simp
        case rel =>
          refine ⟨v2, v1, low ++ [e], s', rfl, rfl, HQ1.out.tch T12 (fun h => ?_) (fun h => ?_) (fun k hk h => ?_), ?_, ?_, ?_, T01.trans T12 (fun i hi h => ?_), hv1⟩
          · have := hge g h; omega
          · have := hge mb h; omega
          · have := hge k h; have := HV.out k (hv1 ▸ hk); omega
          · show s = low ++ [e] ++ s'
            rw [hsp.out]; simp
          · intro x hx
            rcases List.mem_append.1 hx with hx | hx
            · exact hlo.out x hx
            · simp at hx; subst hx; exact hle
          · have := HO2.out
            simpa [Hid] using this
          · have := hge i h; omega
      · have hgt : ¬ e.fr ≤ fr := hle
        clear hn
        go_wp2_with fail
        go_ret
        refine ⟨_, _, low, e :: s', rfl, hsp.out, hlo.out, ?_, hq.out, hrow.out, hT.out, hv.out⟩
        intro x hx
        rcases List.mem_cons.1 hx with rfl | hx
        · omega
        · have := (List.pairwise_cons.1 hq.out.up).1 x hx
          unfold Ent.lt at this
          omega
end Go.Proofs.Ytfdgkikgafojpaa
